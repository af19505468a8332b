/- Texts laid together. Package diagram: numbered. Package diagram: Valid. Package diagram: Counts. Layer 10, plain: simplified trees. No program. -/
import Derived.Test.YtmjgdnpfgkpaoaaDoorGTopSimplified4
import Derived.Test.YtmjgdnpfgkpaoaaDoorGTopSimplified8
import Derived.Laws.EntriesVeiled
import Derived.Deep.DeepCutAuto
import Derived.Deep.CutRange
namespace Go.Proofs.YtmjgdnpfgkpaoaaDoor
open Go.RowKit Go.Shelf Go.Maps

def bA (l : List Bool) : Array Value := (l.map Value.bool).toArray
theorem bA_at {l : List Bool} {i : Nat} (h : i < l.length) : (bA l)[i]? = some (.bool (l[i]?.getD false)) := by
  unfold bA
  rw [List.getElem?_toArray, List.getElem?_map, List.getElem?_eq_getElem h]; rfl
theorem bA_set (l : List Bool) (i : Nat) (v : Bool) : (bA l).setIfInBounds i (.bool v) = bA (l.set i v) := by
  unfold bA
  rw [List.setIfInBounds_toArray, List.map_set]
theorem Tryd.infoBoD : (Tryd.prog.info? 4).map (fun i => (i.zero, i.size, i.bytes)) = some (some (.bool false), 1, 1) := by kernel_rfl
theorem make_boD (m : Nat) (hm : m ≤ 1000000) : ∀ w, (Instr.makeSlice 130 (.int .i64 m) (.int .i64 m)).run Tryd.prog w = .ok (.slice (some ⟨w.heap.size, 0, none⟩) m m) (w.alloc (.cells (madeCells #[.bool false] m) 4)) :=
  fun w => run_make_row' 130 4 (.bool false) 1 Tryd.underlying130 Tryd.infoBoD rfl .i64 .i64 m (by omega) (by omega) w
theorem bA_made (m : Nat) : madeCells #[.bool false] m = bA (List.replicate m false) := by
  apply Array.toList_inj.1
  rw [toList_madeCells_one]; unfold bA; simp
/-- a walk that numbers the forks -/
def visO (ds : List Frk) : Nat → Nat → Nat → List Bool → Option (Nat × List Bool)
  | 0, _, _, _ => none
  | f + 1, node, nx, L => if node < 2 ∨ L[node]?.getD false = true then some (nx, L) else
    match ds[node - 2]? with
    | none => none
    | some d => match visO ds f d.low.toNat nx L with
      | none => none
      | some (n1, L1) => match visO ds f d.high.toNat n1 L1 with
        | none => none
        | some (n2, L2) => if node = n2 then some (n2 + 1, L2.set node true) else none
/-- what numbered's closure has caught -/
structure VEnv (w0 w : World) (X1 X4 Xv Xn gL : Nat) (a : Option Addr) (n c nx : Nat) (L : List Bool) : Prop where
  left : w.cell? ⟨X4, 0, none⟩ = some (.slice (some ⟨gL, 0, none⟩) (n + 2) (n + 2))
  box1 : w.cell? ⟨X1, 1, none⟩ = some (.slice a n c)
  vis : w.cell? ⟨Xv, 0, none⟩ = some (.func (.func 80) #[] #[.pointer (some ⟨X4, 0, none⟩), .pointer (some ⟨X1, 0, none⟩), .pointer (some ⟨Xv, 0, none⟩), .pointer (some ⟨Xn, 0, none⟩)])
  nxt : w.heap[Xn]? = some (.cells #[.int .i64 nx] 3 (0, 0))
  lst : w.heap[gL]? = some (.cells (bA L) 4 (0, 0))
  len : L.length = n + 2
  d1 : X1 ≠ Xn ∧ X1 ≠ gL
  d4 : X4 ≠ Xn ∧ X4 ≠ gL
  dv : Xv ≠ Xn ∧ Xv ≠ gL
  dn : Xn ≠ gL
  lo : w0.heap.size ≤ Xn ∧ w0.heap.size ≤ gL
  bl : Below w0.heap.size w0 w
/-- what a visit leaves alone -/
structure KeepV (Xn gL : Nat) (w w' : World) : Prop where
  size : w.heap.size ≤ w'.heap.size
  blk : ∀ g, g < w.heap.size → g ≠ Xn → g ≠ gL → w'.heap[g]? = w.heap[g]?
theorem KeepV.refl (Xn gL : Nat) (w : World) : KeepV Xn gL w w := ⟨Nat.le_refl _, fun _ _ _ _ => rfl⟩
theorem KeepV.trans {Xn gL : Nat} {a b c : World} (h : KeepV Xn gL a b) (k : KeepV Xn gL b c) : KeepV Xn gL a c := ⟨Nat.le_trans h.size k.size, fun g h1 h2 h3 => (k.blk g (Nat.lt_of_lt_of_le h1 h.size) h2 h3).trans (h.blk g h1 h2 h3)⟩
theorem KeepV.of_below {Xn gL : Nat} {w w' : World} (h : Below w.heap.size w w') : KeepV Xn gL w w' := ⟨h.size, fun g hg _ _ => h.block g hg⟩
theorem VEnv.below {w0 w w' : World} {X1 X4 Xv Xn gL : Nat} {a : Option Addr} {n c nx : Nat} {L : List Bool} (h : VEnv w0 w X1 X4 Xv Xn gL a n c nx L) (hb : Below w.heap.size w w') : VEnv w0 w' X1 X4 Xv Xn gL a n c nx L :=
  ⟨cell_keep hb h.left, cell_keep hb h.box1, cell_keep hb h.vis, heap_below hb h.nxt, heap_below hb h.lst, h.len, h.d1, h.d4, h.dv, h.dn, h.lo, Below.next h.bl hb⟩
theorem eg_vis : ∀ args w, (callFunc 80 args).run Tryd.prog w = .ok (.enter 80 args) w := enters_of Tryd.func80 (by kernel_rfl) rfl
set_option maxRecDepth 100000 in
set_option maxHeartbeats 4000000 in
theorem visit_c (ds : List Frk) (n : Nat) (hn : ds.length = n) (hn9 : n ≤ 900) (hf : ∀ d ∈ ds, ∃ s l h : Nat, d = frkN s l h ∧ l < n + 2 ∧ h < n + 2) (a : Option Addr) (c : Nat) (w0 : World) (h0 : RdK 3 w0 a n c (ds.flatMap frkC)) (X1 X4 Xv Xn gL : Nat) :
    ∀ (f node nx nx' : Nat) (L L' : List Bool) (w : World), visO ds f node nx L = some (nx', L') → node < n + 2 → VEnv w0 w X1 X4 Xv Xn gL a n c nx L →
      Calls Tryd.prog 80 #[.int .i64 node, .pointer (some ⟨X4, 0, none⟩), .pointer (some ⟨X1, 0, none⟩), .pointer (some ⟨Xv, 0, none⟩), .pointer (some ⟨Xn, 0, none⟩)] w fun e w' => e = .returned (.bool true) ∧ VEnv w0 w' X1 X4 Xv Xn gL a n c nx' L' ∧ KeepV Xn gL w w'
  | 0, _, _, _, _, _, _, hv, _, _ => by cases hv
  | f + 1, node, nx, nx', L, L', w, hv, hnode, he => by
    unfold visO at hv
    by_cases h2 : node < 2
    · rw [if_pos (.inl h2)] at hv
      injection hv with hv
      injection hv with e1 e2
      subst e1 e2
      have hd : decide ((node : Int) < 2) = true := decide_eq_true (by omega)
      have HE := Lib.hid he
      clear he h0 hf
      go_enter Tryd.func80, Tryd.ntmps80
      go_wp2_with fail
      go_ret
      exact ⟨rfl, HE.out, KeepV.refl _ _ _⟩
    · have hd : decide ((node : Int) < 2) = false := decide_eq_false (by omega)
      have q0 := he.left
      have q1 := (cell_of_row _ _ node _ _ _ he.lst).trans (bA_at (by rw [he.len]; exact hnode))
      cases hb : L[node]?.getD false with
      | true =>
        rw [if_pos (.inr hb)] at hv
        rw [hb] at q1
        injection hv with hv
        injection hv with e1 e2
        subst e1 e2
        have HE := Lib.hid he
        clear he h0 hf hb
        go_enter Tryd.func80, Tryd.ntmps80
        go_wp2_with fail
        go_ret
        exact ⟨rfl, HE.out, KeepV.refl _ _ _⟩
      | false =>
        rw [if_neg (by intro h; rcases h with h | h; exact h2 h; rw [hb] at h; cases h)] at hv
        rw [hb] at q1
        obtain ⟨d, hdd⟩ : ∃ d, ds[node - 2]? = some d := ⟨_, List.getElem?_eq_getElem (by omega)⟩
        obtain ⟨s, lo, hi, rfl, hlo, hhi⟩ := hf d (List.mem_of_getElem? hdd)
        rw [hdd] at hv
        simp only [frkN, Int.toNat_natCast] at hv
        cases hv1 : visO ds f lo nx L with
        | none => rw [hv1] at hv; cases hv
        | some p1 =>
          obtain ⟨n1, L1⟩ := p1
          rw [hv1] at hv
          simp only at hv
          cases hv2 : visO ds f hi n1 L1 with
          | none => rw [hv2] at hv; cases hv
          | some p2 =>
            obtain ⟨n2, L2⟩ := p2
            rw [hv2] at hv
            simp only at hv
            by_cases hnn : node = n2
            · rw [if_pos hnn] at hv
              subst hnn
              injection hv with hv
              injection hv with e1 e2
              subst e1 e2
              have HC1 := Lib.hid (fun w' h => visit_c ds n hn hn9 hf a c w0 h0 X1 X4 Xv Xn gL f lo nx n1 L L1 w' hv1 hlo h)
              have HC2 := Lib.hid (fun w' h => visit_c ds n hn hn9 hf a c w0 h0 X1 X4 Xv Xn gL f hi n1 node L1 L2 w' hv2 hhi h)
              obtain ⟨j, rfl⟩ : ∃ j, node = j + 2 := ⟨node - 2, by omega⟩
              rw [Nat.add_sub_cancel] at hdd
              obtain ⟨b, o, rfl, hcell⟩ := RdK.cells (h0.below he.bl) frkC_len (by omega)
              have g0 : w.cell? ⟨b, o + j * 3, none⟩ = some (.int .i64 (s : Int)) := hcell j _ hdd 0 (by omega)
              have g1 : w.cell? ⟨b, o + j * 3 + 1, none⟩ = some (.int .i64 (lo : Int)) := hcell j _ hdd 1 (by omega)
              have g2 : w.cell? ⟨b, o + j * 3 + 2, none⟩ = some (.int .i64 (hi : Int)) := hcell j _ hdd 2 (by omega)
              have bx := he.box1
              have hsub : IntKind.i64.wrap ((j : Int) + 2 - 2) = (j : Int) := by unfold IntKind.wrap; simp [IntKind.bits, IntKind.signed]; omega
              have hjn : j < n := by omega
              have hle := h0.le
              have hmx := h0.max
              unfold maxLen at hmx
              have HE := Lib.hid he
              have H0 := Lib.hid h0
              have eg1 := eg_vis
              clear he h0 hf hb hv1 hv2 hdd hcell
              rw [show ((j + 2 : Nat) : Int) = (j : Int) + 2 from rfl] at hd ⊢
              go_enter Tryd.func80, Tryd.ntmps80
              go_upto_region 4 with fail
              generalize hW1 : w.alloc _ = W1
              obtain ⟨k1, hs1, hb1⟩ := boxes1 hW1
              have he1 := HE.out.below hb1
              have n1' := cell_of_row _ _ 1 _ _ _ k1
              have v1 := he1.vis
              have hlX : Xn < w.heap.size := (Array.getElem?_eq_some_iff.1 HE.out.nxt).1
              have hlL : gL < w.heap.size := (Array.getElem?_eq_some_iff.1 HE.out.lst).1
              have HK1 := Lib.hid k1
              have HE1 := Lib.hid he1
              have HKW := Lib.hid (KeepV.of_below (Xn := Xn) (gL := gL) hb1)
              have HS1 := Lib.hid hs1
              clear hW1 k1 he1 hb1 q0 q1 g0 g1 g2 bx hs1
              go_wp2_with fail
              with_reducible refine (HC1.out _ HE1.out).mono ?_
              rintro e w2 ⟨rfl, he2, hk2⟩
              have k2 := (hk2.blk w.heap.size (by have := HS1.out; omega) (by omega) (by omega)).trans HK1.out
              have n2' := cell_of_row _ _ 2 _ _ _ k2
              have v2 := he2.vis
              have HE2 := Lib.hid he2
              have HK2 := Lib.hid (HKW.out.trans hk2)
              clear n1' v1 he2 hk2 k2 HC1
              go_wp2_with fail
              with_reducible refine (HC2.out _ HE2.out).mono ?_
              rintro e w3 ⟨rfl, he3, hk3⟩
              have x3 := cell_of_row _ _ 0 _ _ _ he3.nxt
              have HE3 := Lib.hid he3
              have HK3 := Lib.hid (HK2.out.trans hk3)
              clear n2' v2 he3 hk3 HC2
              go_upto_region 6 with fail
              have q0 := HE3.out.left
              have q1 := (cell_of_row _ _ (j + 2) _ _ _ HE3.out.lst).trans (bA_at (by rw [HE3.out.len]; exact hnode))
              have z1 := frozen_row HE3.out.lst (j + 2)
              clear x3
              go_upto_region 7 with fail
              generalize hW4 : w3.setCell _ _ = W4
              have e4 : W4.heap[gL]? = some (.cells (bA (L2.set (j + 2) true)) 4 (0, 0)) := by
                rw [← hW4, heap_set_at HE3.out.lst (j + 2) _, bA_set]
              have k4 : ∀ g, g ≠ gL → W4.heap[g]? = w3.heap[g]? := fun g hg => by rw [← hW4]; exact Below.heap_setCell _ _ _ _ hg
              have s4 : W4.heap.size = w3.heap.size := by rw [← hW4]; simp
              have b4 : Below w0.heap.size w0 W4 := by rw [← hW4]; exact HE3.out.bl.setCell (p := ⟨gL, j + 2, none⟩) HE3.out.lo.2 _
              have x4 := (k4 Xn HE3.out.dn).trans HE3.out.nxt
              have y4 := cell_of_row _ _ 0 _ _ _ x4
              have z4 := frozen_row x4 0
              have E4 := Lib.hid e4
              have X4' := Lib.hid x4
              have B4 := Lib.hid b4
              have K4 := Lib.hid k4
              have S4 := Lib.hid s4
              clear hW4 e4 x4 b4 k4 s4 q0 q1 z1
              go_wp2_with fail
              generalize hW5 : W4.setCell _ _ = W5
              have e5 : W5.heap[Xn]? = some (.cells #[.int .i64 ((j : Int) + 2 + 1)] 3 (0, 0)) := by
                rw [← hW5]; exact heap_set_at X4'.out 0 _
              have k5 : ∀ g, g ≠ Xn → W5.heap[g]? = W4.heap[g]? := fun g hg => by rw [← hW5]; exact Below.heap_setCell _ _ _ _ hg
              have s5 : W5.heap.size = W4.heap.size := by rw [← hW5]; simp
              have b5 : Below w0.heap.size w0 W5 := by rw [← hW5]; exact B4.out.setCell (p := ⟨Xn, 0, none⟩) HE3.out.lo.1 _
              have ck : ∀ g i, g ≠ Xn → g ≠ gL → W5.cell? ⟨g, i, none⟩ = w3.cell? ⟨g, i, none⟩ := fun g i h1 h2 => World.cell?_of_block ((k5 g h1).trans (K4.out g h2))
              have h3 := HE3.out
              have hfin : VEnv w0 W5 X1 X4 Xv Xn gL (some ⟨b, o, none⟩) n c (j + 2 + 1) (L2.set (j + 2) true) :=
                ⟨(ck _ _ h3.d4.1 h3.d4.2).trans h3.left, (ck _ _ h3.d1.1 h3.d1.2).trans h3.box1, (ck _ _ h3.dv.1 h3.dv.2).trans h3.vis, e5, (k5 gL (fun e => h3.dn e.symm)).trans E4.out, by rw [List.length_set]; exact h3.len, h3.d1, h3.d4, h3.dv, h3.dn, h3.lo, b5⟩
              have hkf : KeepV Xn gL w W5 := HK3.out.trans ⟨by rw [s5, S4.out]; exact Nat.le_refl _, fun g _ h1 h2 => (k5 g h1).trans (K4.out g h2)⟩
              have HF := Lib.hid hfin
              have HKF := Lib.hid hkf
              clear hW5 e5 k5 s5 b5 ck h3 hfin hkf y4 z4
              go_wp2_with fail
              go_ret
              exact ⟨rfl, HF.out, HKF.out⟩
            · rw [if_neg hnn] at hv; cases hv
theorem boxes5 {w W : World} {o0 o1 o2 o3 o4 : Obj} (h : ((((w.alloc o0).alloc o1).alloc o2).alloc o3).alloc o4 = W) :
    W.heap[w.heap.size]? = some o0 ∧ W.heap[w.heap.size + 1]? = some o1 ∧ W.heap[w.heap.size + 1 + 1]? = some o2 ∧ W.heap[w.heap.size + 1 + 1 + 1]? = some o3 ∧ W.heap[w.heap.size + 1 + 1 + 1 + 1]? = some o4 ∧ Below w.heap.size w W := by
  subst h
  have h1 := heap_alloc_new (w.alloc o0) o1
  have h2 := heap_alloc_new ((w.alloc o0).alloc o1) o2
  have h3 := heap_alloc_new (((w.alloc o0).alloc o1).alloc o2) o3
  have h4 := heap_alloc_new ((((w.alloc o0).alloc o1).alloc o2).alloc o3) o4
  simp only [World.size_alloc] at h1 h2 h3 h4
  exact ⟨heap_alloc_at (heap_alloc_at (heap_alloc_at (heap_alloc_at (heap_alloc_new w _) _) _) _) _, heap_alloc_at (heap_alloc_at (heap_alloc_at h1 _) _) _, heap_alloc_at (heap_alloc_at h2 _) _, heap_alloc_at h3 _, h4,
    (((((Below.refl _ w).alloc (Nat.le_refl _) _).alloc (by simp) _).alloc (by simp; omega) _).alloc (by simp; omega) _).alloc (by simp; omega) _⟩
set_option maxRecDepth 100000 in
set_option maxHeartbeats 4000000 in
theorem numbered_c (N : Int) (ds : List Frk) (n : Nat) (hn : ds.length = n) (hn9 : n ≤ 900) (hf : ∀ d ∈ ds, ∃ s l h : Nat, d = frkN s l h ∧ l < n + 2 ∧ h < n + 2) (root : Nat) (hr : root < n + 2) (f : Nat) (L' : List Bool) (hv : visO ds f root 2 (List.replicate (n + 2) false) = some (n + 2, L')) (a : Option Addr) (c : Nat) (w : World) (h : RdK 3 w a n c (ds.flatMap frkC)) :
    Calls Tryd.prog 65 #[.agg #[.int .i64 N, .slice a n c, .int .i64 root]] w fun e w' => e = .returned (.bool true) ∧ Below w.heap.size w w' := by
  have HR := Lib.hid h
  have HC := Lib.hid (fun X1 X4 Xv Xn gL w' he => visit_c ds n hn hn9 hf a c w h X1 X4 Xv Xn gL f root 2 (n + 2) _ L' w' hv hr he)
  clear h hv hf
  have hmk := make_boD (n + 2) (by omega)
  rw [show ((n + 2 : Nat) : Int) = (n : Int) + 2 from rfl, bA_made] at hmk
  go_enter Tryd.func65, Tryd.ntmps65
  go_upto_region 4 with fail
  generalize hW1 : ((((w.alloc _).alloc _).alloc _).alloc _).alloc _ = W1
  obtain ⟨k0, k1, k2, k3, k4, hb1⟩ := boxes5 hW1
  have p4 := cell_of_row _ _ 0 _ _ _ k4
  have z4 := frozen_row k4 0
  have eg1 := eg_vis
  have K0 := Lib.hid k0
  have K1 := Lib.hid k1
  have K2 := Lib.hid k2
  have K3 := Lib.hid k3
  have K4 := Lib.hid k4
  have HB1 := Lib.hid hb1
  clear hW1 k0 k1 k2 k3 k4 hb1 hmk
  go_upto_region 5 with fail
  clear p4 z4
  generalize hW2 : W1.setCell _ _ = W2
  have hold : ∀ g, g ≠ w.heap.size + 1 + 1 + 1 + 1 → W2.heap[g]? = W1.heap[g]? := fun g hne => by rw [← hW2]; exact Below.heap_setCell _ _ _ _ hne
  have m0 := (hold _ (by omega)).trans K0.out
  have m1 := (hold _ (by omega)).trans K1.out
  have m2 := (hold _ (by omega)).trans K2.out
  have m3 := (hold _ (by omega)).trans K3.out
  have m4 := cell_of_row _ _ 0 _ _ _ (heap_set_at K4.out 0 (.func (.func 80) #[] #[.pointer (some ⟨w.heap.size + 1 + 1 + 1, 0, none⟩), .pointer (some ⟨w.heap.size, 0, none⟩), .pointer (some ⟨w.heap.size + 1 + 1 + 1 + 1, 0, none⟩), .pointer (some ⟨w.heap.size + 1, 0, none⟩)]))
  have hb2 : Below w.heap.size w W2 := by rw [← hW2]; exact HB1.out.setCell (p := ⟨w.heap.size + 1 + 1 + 1 + 1, 0, none⟩) (by show w.heap.size ≤ w.heap.size + 1 + 1 + 1 + 1; omega) _
  rw [hW2] at m4
  have hE : VEnv w W2 w.heap.size (w.heap.size + 1 + 1 + 1) (w.heap.size + 1 + 1 + 1 + 1) (w.heap.size + 1) (w.heap.size + 1 + 1) a n c 2 (List.replicate (n + 2) false) :=
    ⟨cell_of_row _ _ 0 _ _ _ m3, cell_of_row _ _ 1 _ _ _ m0, m4, m1, m2, List.length_replicate, ⟨by omega, by omega⟩, ⟨by omega, by omega⟩, ⟨by omega, by omega⟩, by omega, ⟨by omega, by omega⟩, hb2⟩
  have r0 := cell_of_row _ _ 2 _ _ _ m0
  have v0 := hE.vis
  have HE := Lib.hid hE
  have hl0 : w.heap.size < W2.heap.size := (Array.getElem?_eq_some_iff.1 m0).1
  have M0 := Lib.hid m0
  clear hW2 hold m0 m1 m2 m3 m4 hb2 hE K0 K1 K2 K3 K4
  go_wp2_with fail
  with_reducible refine (HC.out _ _ _ _ _ _ HE.out).mono ?_
  rintro e w3 ⟨rfl, he3, hk3⟩
  have x3 := cell_of_row _ _ 0 _ _ _ he3.nxt
  have b3 := he3.box1
  have HE3 := Lib.hid he3
  clear he3 hk3 r0 v0 HC
  go_wp2_with fail
  trace_state
  go_ret
  exact ⟨rfl, HE3.out.bl⟩
end Go.Proofs.YtmjgdnpfgkpaoaaDoor
namespace Go.Proofs.YtmjgdnpfgkpaoaaDoor
open Go.RowKit Go.Shelf Go.Maps

set_option maxRecDepth 100000 in
set_option maxHeartbeats 4000000 in
theorem dvalid_c (N : Nat) (hN : N ≤ 12) (ds : List Frk) (hO : OrdD N ds) (n : Nat) (hn : ds.length = n) (hn0 : 0 < n) (hn9 : n ≤ 700) (f : Nat) (L' : List Bool) (hv : visO ds f (n + 1) 2 (List.replicate (n + 2) false) = some (n + 2, L')) (a : Option Addr) (c : Nat) (w : World) (h : RdK 3 w a n c (ds.flatMap frkC)) :
    Calls Tryd.prog 35 #[.agg #[.int .i64 N, .slice a n c, .int .i64 ((n + 1 : Nat) : Int)]] w fun e w' => e = .returned (.int .i64 0) ∧ Below w.heap.size w w' := by
  have hf : ∀ d ∈ ds, ∃ s l h : Nat, d = frkN s l h ∧ l < n + 2 ∧ h < n + 2 := fun d hd => by
    obtain ⟨k, hk⟩ := List.getElem?_of_mem hd
    obtain ⟨s, l, h, e, _, h1, h2, _⟩ := hO k d hk
    have := (List.getElem?_eq_some_iff.1 hk).1
    exact ⟨s, l, h, e, by omega, by omega⟩
  have HC1 := Lib.hid (fun (w' : World) (hb : Below w.heap.size w w') => ordered_c N ((n + 1 : Nat) : Int) hN ds hO a n c hn (by omega) w' (h.below hb))
  have HC2 := Lib.hid (fun (w' : World) (hb : Below w.heap.size w w') => numbered_c (N : Int) ds n hn (by omega) hf (n + 1) (by omega) f L' hv a c w' (h.below hb))
  have e1 : ((n + 1 : Nat) : Int) = 1 + (n : Int) := by omega
  rw [e1] at HC1 HC2 ⊢
  have hle := h.le
  have hmx := h.max
  unfold maxLen at hmx
  clear h hO hv hf e1
  go_enter Tryd.func35, Tryd.ntmps35
  go_upto_region 1 with fail
  generalize hW1 : w.alloc _ = W1
  obtain ⟨k0, hs1, hb1⟩ := boxes1 hW1
  have p0 := cell_of_row _ _ 0 _ _ _ k0
  have p1 := cell_of_row _ _ 1 _ _ _ k0
  have p2 := cell_of_row _ _ 2 _ _ _ k0
  have K0 := Lib.hid k0
  have HB1 := Lib.hid hb1
  have d1 : decide ((N : Int) < 0) = false := decide_eq_false (by omega)
  have d2 : decide (12 < (N : Int)) = false := decide_eq_false (by omega)
  have d3 : decide (765 < (n : Int)) = false := decide_eq_false (by omega)
  have d4 : decide (1 + (n : Int) < 0) = false := decide_eq_false (by omega)
  have d5 : decide (0 < (n : Int)) = true := decide_eq_true (by omega)
  clear hW1 k0 hb1
  go_wp2_with fail
  with_reducible refine (HC1.out _ HB1.out).mono ?_
  rintro e w2 ⟨rfl, hb2⟩
  have k2 := heap_below hb2 K0.out
  have p0 := cell_of_row _ _ 0 _ _ _ k2
  have p1 := cell_of_row _ _ 1 _ _ _ k2
  have p2 := cell_of_row _ _ 2 _ _ _ k2
  have HB2 := Lib.hid (Below.next HB1.out hb2)
  clear hb2 k2 HC1
  go_wp2_with fail
  with_reducible refine (HC2.out _ HB2.out).mono ?_
  rintro e w3 ⟨rfl, hb3⟩
  have HB3 := Lib.hid (Below.next HB2.out hb3)
  clear hb3 HC2
  go_wp2_with fail
  go_ret
  exact ⟨rfl, HB3.out⟩
end Go.Proofs.YtmjgdnpfgkpaoaaDoor
namespace Go.Proofs.YtmjgdnpfgkpaoaaDoor
open Go.RowKit Go.Shelf Go.Maps

theorem Tryd.infoS64 : (Tryd.prog.info? 48).map (fun i => (i.zero, i.size, i.bytes)) = some (some (.slice none 0 0), 1, 24) := by kernel_rfl
/-- numbers added to a row, from a place on -/
def putA : List Int → Nat → List Int → List Int
  | [], _, acc => acc
  | x :: xs, j, acc => putA xs (j + 1) (addAt acc j x)
theorem putA_len : ∀ (l : List Int) (j : Nat) (acc : List Int), (putA l j acc).length = acc.length
  | [], _, _ => rfl
  | x :: xs, j, acc => by show (putA xs (j + 1) _).length = _; rw [putA_len xs, addAt_len]
theorem putA_snoc (x : Int) : ∀ (l : List Int) (j : Nat) (acc : List Int), putA (l ++ [x]) j acc = addAt (putA l j acc) (j + l.length) x
  | [], _, _ => rfl
  | y :: xs, j, acc => by
    show putA (xs ++ [x]) (j + 1) _ = _
    rw [putA_snoc x xs]
    show _ = addAt (putA xs (j + 1) _) _ x
    rw [List.length_cons, show j + 1 + xs.length = j + (xs.length + 1) by omega]
theorem putA_take {l : List Int} {k : Nat} {x : Int} (h : l[k]? = some x) (o : Nat) (acc : List Int) : putA (l.take (k + 1)) o acc = addAt (putA (l.take k) o acc) (o + k) x := by
  rw [List.take_add_one, h, Option.toList_some, putA_snoc, List.length_take, Nat.min_eq_left (Nat.le_of_lt (List.getElem?_eq_some_iff.1 h).1)]
/-- a fork's row -/
def mkRow (m : Nat) (l h : List Int) : List Int := putA h 1 (putA l 0 (List.replicate m 0))
/-- rows in memory -/
def hdV (g : Nat) (r : List Int) : Value := .slice (some ⟨g, 0, none⟩) r.length r.length
def RowsM (w : World) (H : List Value) (R : List (List Int)) : Prop := ∀ (i : Nat) (r : List Int), R[i]? = some r → ∃ g, H[i]? = some (hdV g r) ∧ w.heap[g]? = some (.cells (iA r) 2 (0, 0))
theorem RowsM.below {w w' : World} {H : List Value} {R : List (List Int)} (h : RowsM w H R) (hb : Below w.heap.size w w') : RowsM w' H R := fun i r hr => by
  obtain ⟨g, h1, h2⟩ := h i r hr
  exact ⟨g, h1, heap_below hb h2⟩
/-- rows of numbers stay where rows of rows grow -/
theorem typ_stay {w w' : World} {B n : Nat} {v : Value} {l : List Value} (h : w.ownsRow B 48 1 v n l) (hg : w.grownBy w' v.ownBlock) {g : Nat} {cs : Array Value} {t : TypeId} (ht : t ≠ 48) (hs : w.heap[g]? = some (.cells cs t (0, 0))) : w'.heap[g]? = some (.cells cs t (0, 0)) := by
  rw [← hs]
  refine hg.block g (Array.getElem?_eq_some_iff.1 hs).1 (fun e => ?_)
  rcases h.2 with ⟨rfl, _⟩ | ⟨g', cap, cur, rfl, _, hh, _⟩
  · cases e
  · cases e
    rw [hh] at hs
    injection hs with hs
    injection hs with _ hs
    exact ht hs.symm
theorem num_stay {w w' : World} {B n : Nat} {v : Value} {l : List Value} (h : w.ownsRow B 48 1 v n l) (hg : w.grownBy w' v.ownBlock) {g : Nat} {r : List Int} (hs : w.heap[g]? = some (.cells (iA r) 2 (0, 0))) : w'.heap[g]? = some (.cells (iA r) 2 (0, 0)) := typ_stay h hg (by decide) hs
theorem RowsM.grown {w w' : World} {B n : Nat} {v : Value} {l : List Value} (h : w.ownsRow B 48 1 v n l) (hg : w.grownBy w' v.ownBlock) {H : List Value} {R : List (List Int)} (hr : RowsM w H R) : RowsM w' H R := fun i r hi => by
  obtain ⟨g, h1, h2⟩ := hr i r hi
  exact ⟨g, h1, num_stay h hg h2⟩
/-- what a fork's row is made of -/
structure StepR (N : Nat) (ds : List Frk) (R : Nat → List (List Int)) (k : Nat) (d : Frk) (s lo hi gl gh : Nat) (rl rh : List Int) : Prop where
  fk : d = frkN s lo hi
  sN : s ≤ N
  l : (R k)[lo]? = some rl
  h : (R k)[hi]? = some rh
  sl : srvD N ds lo = (s : Int) + 1 + gl
  sh : srvD N ds hi = (s : Int) + 1 + gh
  gl' : gl ≤ 12
  gh' : gh ≤ 12
  ll : rl.length + gl ≤ N - s + 1
  hl : rh.length + gh + 1 ≤ N - s + 1
  nxt : R (k + 1) = R k ++ [mkRow (N - s + 1) (widenM rl gl) (widenM rh gh)]
  lo' : lo < k + 2
  hi' : hi < k + 2
  len : (R k).length = k + 2
theorem boxes3 {w W : World} {o0 o1 o2 : Obj} (h : ((w.alloc o0).alloc o1).alloc o2 = W) :
    W.heap[w.heap.size]? = some o0 ∧ W.heap[w.heap.size + 1]? = some o1 ∧ W.heap[w.heap.size + 1 + 1]? = some o2 ∧ W.heap.size = w.heap.size + 3 ∧ Below w.heap.size w W := by
  subst h
  have h1 := heap_alloc_new (w.alloc o0) o1
  have h2 := heap_alloc_new ((w.alloc o0).alloc o1) o2
  simp only [World.size_alloc] at h1 h2
  exact ⟨heap_alloc_at (heap_alloc_at (heap_alloc_new w _) _) _, heap_alloc_at h1 _, h2, by simp, (((Below.refl _ w).alloc (Nat.le_refl _) _).alloc (by simp) _).alloc (by simp; omega) _⟩
theorem wrapG (s g : Nat) (_h1 : s ≤ 12) (h2 : g ≤ 12) : IntKind.i64.wrap (IntKind.i64.wrap ((s : Int) + 1 + (g : Int) - (s : Int)) - 1) = (g : Int) := by
  unfold IntKind.wrap; simp [IntKind.bits, IntKind.signed]; omega
set_option maxRecDepth 100000 in
set_option maxHeartbeats 8000000 in
theorem counts_c (N : Nat) (hN : N ≤ 12) (ds : List Frk) (hO : OrdD N ds) (n : Nat) (hn : ds.length = n) (hn0 : 0 < n) (hn9 : n ≤ 700) (f : Nat) (L' : List Bool) (hv : visO ds f (n + 1) 2 (List.replicate (n + 2) false) = some (n + 2, L'))
    (R : Nat → List (List Int)) (hR0 : R 0 = [[0], [1]]) (hS : ∀ k d, ds[k]? = some d → ∃ s lo hi gl gh rl rh, StepR N ds R k d s lo hi gl gh rl rh) (rr : List Int) (gr : Nat) (hrr : (R n)[n + 1]? = some rr) (hgr : srvD N ds (n + 1) = gr) (hgr' : gr ≤ 12) (hrl : rr.length ≤ 5000) (a : Option Addr) (c : Nat) (w : World) (h : RdK 3 w a n c (ds.flatMap frkC)) :
    Calls Tryd.prog 14 #[.agg #[.int .i64 N, .slice a n c, .int .i64 ((n + 1 : Nat) : Int)]] w fun e w' => ∃ a' c', e = .returned (.tuple #[.slice a' (rr.length + gr) c', .int .i64 0]) ∧ Rd w' a' (rr.length + gr) c' ((widenM rr gr).map i6) ∧ Below w.heap.size w w' := by
  have HV := Lib.hid (fun (w' : World) (hb : Below w.heap.size w w') => dvalid_c N hN ds hO n hn hn0 hn9 f L' hv a c w' (h.below hb))
  have HSV := Lib.hid (fun (i : Nat) (hi : i < n + 2) (w' : World) (hb : Below w.heap.size w w') => dserver_c (N : Int) ((n + 1 : Nat) : Int) ds a n c hn (by omega) i hi w' (h.below hb))
  have HR := Lib.hid h
  have HS := Lib.hid hS
  have HR0 := Lib.hid hR0
  have HRR := Lib.hid hrr
  have HN := Lib.hid hn
  have hle := h.le
  have hmx := h.max
  unfold maxLen at hmx
  have e1 : ((n + 1 : Nat) : Int) = (n : Int) + 1 := rfl
  rw [e1] at HV HSV ⊢
  obtain ⟨b, o, rfl, _⟩ := h.at' hn0
  clear h hO hv hS hR0 hrr hn e1
  go_enter Tryd.func14, Tryd.ntmps14
  go_upto_region 1 with fail
  generalize hW1 : w.alloc _ = W1
  obtain ⟨k0, hs1, hb1⟩ := boxes1 hW1
  have p0 := cell_of_row _ _ 0 _ _ _ k0
  have p1 := cell_of_row _ _ 1 _ _ _ k0
  have p2 := cell_of_row _ _ 2 _ _ _ k0
  have K0 := Lib.hid k0
  have HB1 := Lib.hid hb1
  clear hW1 k0 hb1
  go_wp2_with fail
  with_reducible refine (HV.out _ HB1.out).mono ?_
  rintro e w2 ⟨rfl, hb2⟩
  have k2 := heap_below hb2 K0.out
  have HK2 := Lib.hid k2
  have HB2 := Lib.hid (Below.next HB1.out hb2)
  have hl2 : w.heap.size < w2.heap.size := (Array.getElem?_eq_some_iff.1 k2).1
  clear hb2 k2 p0 p1 p2 HV
  go_upto_region 5 with fail
  generalize hW3 : ((w2.alloc _).alloc _).alloc _ = W3
  obtain ⟨m0, m1, m2, hs3, hb3⟩ := boxes3 hW3
  have hown3 : W3.ownsRow w.heap.size 48 1 (.slice (some ⟨w2.heap.size + 1 + 1, 0, none⟩) 2 2) 2 [hdV w2.heap.size [0], hdV (w2.heap.size + 1) [1]] :=
    ⟨rfl, .inr ⟨_, 2, _, rfl, by omega, m2, Nat.le_refl _, by decide, rfl, rfl⟩⟩
  have hrm3 : RowsM W3 [hdV w2.heap.size [0], hdV (w2.heap.size + 1) [1]] (R 0) := by
    rw [HR0.out]
    intro i r hi
    match i with
    | 0 => cases hi; exact ⟨_, rfl, m0⟩
    | 1 => cases hi; exact ⟨_, rfl, m1⟩
    | i + 2 => simp at hi
  have hbx3 := heap_below hb3 HK2.out
  have p1 := cell_of_row _ _ 1 _ _ _ hbx3
  have OWN3 := Lib.hid hown3
  have RM3 := Lib.hid hrm3
  have BX3 := Lib.hid hbx3
  have HB3 := Lib.hid (Below.next HB2.out hb3)
  clear hW3 m0 m1 m2 hown3 hrm3 hbx3 hb3
  go_wp2_with fail
  clear p1
  go_loopw [5, 26] (fun v i wr => ∃ (k : Nat) (H : List Value), k ≤ n ∧ i = .int .i64 k ∧ wr.ownsRow w.heap.size 48 1 v (k + 2) H ∧ RowsM wr H (R k) ∧ wr.heap[w.heap.size]? = some (.cells #[.int .i64 N, .slice (some ⟨b, o, none⟩) n c, .int .i64 ((n : Int) + 1)] 45 (0, 0)) ∧ Below w.heap.size w wr) (fun _ i _ => n - (intOf i).toNat)
  case atStart => exact ⟨0, _, Nat.zero_le _, rfl, OWN3.out, RM3.out, BX3.out, HB3.out⟩
  case round =>
    obtain ⟨k, H, hk, rfl, hown, hrm, hbox, hb⟩ := hrel
    obtain ⟨av, cv, rfl, hrd⟩ := rd_of_row hown
    have hle' := hrd.le
    have hmx' := hrd.max
    unfold maxLen at hmx'
    have HOW := Lib.hid hown
    have HRM := Lib.hid hrm
    have HBX := Lib.hid hbox
    have HB := Lib.hid hb
    have HRD := Lib.hid hrd
    clear hown hrm hbox hb hrd
    by_cases hlt : k < n
    · obtain ⟨d, hd⟩ : ∃ d, ds[k]? = some d := ⟨_, List.getElem?_eq_getElem (by have := HN.out; omega)⟩
      obtain ⟨s, lo, hi, gl, gh, rl, rh, st⟩ := HS.out k d hd
      have ST := Lib.hid st
      obtain ⟨b', o', ha, hcell⟩ := RdK.cells (HR.out.below HB.out) frkC_len (by omega)
      cases ha
      rw [st.fk] at hd
      have g0 : wr.cell? ⟨b, o + k * 3, none⟩ = some (.int .i64 (s : Int)) := hcell k _ hd 0 (by omega)
      have g1 : wr.cell? ⟨b, o + k * 3 + 1, none⟩ = some (.int .i64 (lo : Int)) := hcell k _ hd 1 (by omega)
      have g2 : wr.cell? ⟨b, o + k * 3 + 2, none⟩ = some (.int .i64 (hi : Int)) := hcell k _ hd 2 (by omega)
      obtain ⟨B, O, hA, hrc⟩ := HRD.out.at' (by omega)
      subst hA
      obtain ⟨GL, hgl1, hgl2⟩ := HRM.out lo rl st.l
      obtain ⟨GH, hgh1, hgh2⟩ := HRM.out hi rh st.h
      have c1 := hrc lo _ hgl1
      have c2 := hrc hi _ hgh1
      have hlo := st.lo'
      have hhi := st.hi'
      have HGL := Lib.hid hgl2
      have HGH := Lib.hid hgh2
      clear hcell hd st hrc hgl1 hgl2 hgh1 hgh2
      go_upto_region 8 with fail
      generalize hW4 : wr.alloc _ = W4
      obtain ⟨k4, hs4, hb4⟩ := boxes1 hW4
      have K4 := Lib.hid k4
      have HBW4 := Lib.hid (Below.next HB.out hb4)
      have HB4 := Lib.hid hb4
      have HS4 := Lib.hid hs4
      have C1 := Lib.hid c1
      have C2 := Lib.hid c2
      unfold hdV at C1 C2
      have KS : Hid (∀ u : World, Below W4.heap.size W4 u → (u.cell? ⟨w.heap.size, 0, none⟩ = some (.int .i64 (N : Int)) ∧ u.cell? ⟨w.heap.size, 1, none⟩ = some (.slice (some ⟨b, o, none⟩) n c) ∧ u.cell? ⟨w.heap.size, 2, none⟩ = some (.int .i64 ((n : Int) + 1))) ∧ (u.cell? ⟨wr.heap.size, 0, none⟩ = some (.int .i64 (s : Int)) ∧ u.cell? ⟨wr.heap.size, 1, none⟩ = some (.int .i64 (lo : Int)) ∧ u.cell? ⟨wr.heap.size, 2, none⟩ = some (.int .i64 (hi : Int))) ∧ u.cell? ⟨B, O + lo, none⟩ = some (.slice (some ⟨GL, 0, none⟩) rl.length rl.length) ∧ u.cell? ⟨B, O + hi, none⟩ = some (.slice (some ⟨GH, 0, none⟩) rh.length rh.length)) := Lib.hid (fun u hu => by
        have bx := heap_below hu (heap_below HB4.out HBX.out)
        have fx := heap_below hu K4.out
        exact ⟨⟨cell_of_row _ _ 0 _ _ _ bx, cell_of_row _ _ 1 _ _ _ bx, cell_of_row _ _ 2 _ _ _ bx⟩, ⟨cell_of_row _ _ 0 _ _ _ fx, cell_of_row _ _ 1 _ _ _ fx, cell_of_row _ _ 2 _ _ _ fx⟩, cell_keep hu (cell_keep HB4.out C1.out), cell_keep hu (cell_keep HB4.out C2.out)⟩)
      have HCL := Lib.hid (fun (u : World) (hu : Below W4.heap.size W4 u) => HSV.out lo (by omega) u (Below.next HBW4.out hu))
      have HCH := Lib.hid (fun (u : World) (hu : Below W4.heap.size W4 u) => HSV.out hi (by omega) u (Below.next HBW4.out hu))
      rw [ST.out.sl] at HCL
      rw [ST.out.sh] at HCH
      have hll := ST.out.ll
      have hhl := ST.out.hl
      have HWL := Lib.hid (fun (u : World) (hu : Below W4.heap.size W4 u) => widen_c rl gl ST.out.gl' _ _ _ (by omega) u (iA_Rd (heap_below hu (heap_below HB4.out HGL.out)) (by unfold maxLen; omega)))
      have HWH := Lib.hid (fun (u : World) (hu : Below W4.heap.size W4 u) => widen_c rh gh ST.out.gh' _ _ _ (by omega) u (iA_Rd (heap_below hu (heap_below HB4.out HGH.out)) (by unfold maxLen; omega)))
      have HY := Lib.hid (below_drew (Below.refl W4.heap.size W4))
      clear hW4 k4 hs4 hb4 c1 c2 g0 g1 g2
      have hwl : IntKind.i64.wrap (IntKind.i64.wrap ((s : Int) + 1 + (gl : Int) - (s : Int)) - 1) = (gl : Int) := wrapG s gl (by have := ST.out.sN; omega) ST.out.gl'
      have hwh : IntKind.i64.wrap (IntKind.i64.wrap ((s : Int) + 1 + (gh : Int) - (s : Int)) - 1) = (gh : Int) := wrapG s gh (by have := ST.out.sN; omega) ST.out.gh'
      refine wp_region_noPanic ?_
      refine wp_region_takes (fun u => Below W4.heap.size W4 u) [0, 1, 2, 3, 4, 5, 6, 7, 9, 10] 5 (by kernel_rfl) (by kernel_rfl) (by kernel_rfl) (fun _ _ _ _ _ h => h) HY.out ?_
      repeat (refine wpTk_cons rfl (fun K hK => ?_); go_simp; apply Exists.intro; refine ⟨fun u hu => ?_, hK _ ?_⟩; (first | exact rfl | (obtain ⟨⟨q1, q2, q3⟩, ⟨q4, q5, q6⟩, q7, q8⟩ := KS.out u hu; go_simp; done) | (obtain ⟨⟨q1, q2, q3⟩, ⟨q4, q5, q6⟩, q7, q8⟩ := KS.out u hu; go_simp; exact rfl) | (obtain ⟨⟨q1, q2, q3⟩, ⟨q4, q5, q6⟩, q7, q8⟩ := KS.out u hu; go_simp; exact if_pos (by omega))); clear hK K)
      refine wpTk_nil ?_
      refine held_ready (rs := [8]) (by kernel_rfl) (by simp) ?_
      refine AllReadyH.cons rfl (fun K hK => ?_) AllReadyH.nil
      go_simp
      with_reducible refine (HCL.out _ HY.out).mono ?_
      rintro e v1 ⟨rfl, hv⟩
      have HY1 := Lib.hid (Below.next HY.out hv)
      clear hv HCL
      go_simp
      refine hK.out _ _ HY1.out (fun hh => ?_)
      clear hh hK K; try simp only [Act.put, List.setIfInBounds_toArray, List.set_cons_zero, List.set_cons_succ]
      refine held_takes (f := 2) (by kernel_rfl) (fun _ _ _ _ _ h => h) HY1.out [11, 12] _ _ (by kernel_rfl) ?_
      repeat (refine wpTk_cons rfl (fun K hK => ?_); go_simp; apply Exists.intro; refine ⟨fun u hu => ?_, hK _ ?_⟩; (first | exact rfl | (obtain ⟨⟨q1, q2, q3⟩, ⟨q4, q5, q6⟩, q7, q8⟩ := KS.out u hu; go_simp; done) | (obtain ⟨⟨q1, q2, q3⟩, ⟨q4, q5, q6⟩, q7, q8⟩ := KS.out u hu; go_simp; exact rfl) | (obtain ⟨⟨q1, q2, q3⟩, ⟨q4, q5, q6⟩, q7, q8⟩ := KS.out u hu; go_simp; exact if_pos (by omega))); clear hK K)
      refine wpTk_nil ?_
      try rw [hwl]
      refine held_ready (rs := [13]) (by kernel_rfl) (by simp) ?_
      refine AllReadyH.cons rfl (fun K hK => ?_) AllReadyH.nil
      go_simp
      with_reducible refine (HWL.out _ HY1.out).mono ?_
      rintro e v2 ⟨al, cl, rfl, hrl, hv⟩
      have HY2 := Lib.hid (Below.next HY1.out hv)
      have HRl := Lib.hid hrl
      clear hv HWL hrl
      go_simp
      refine hK.out _ _ HY2.out (fun hh => ?_)
      clear hh hK K; try simp only [Act.put, List.setIfInBounds_toArray, List.set_cons_zero, List.set_cons_succ]
      refine held_takes (f := 0) (by kernel_rfl) (fun _ _ _ _ _ h => h) HY2.out [14] _ _ (by kernel_rfl) ?_
      repeat (refine wpTk_cons rfl (fun K hK => ?_); go_simp; apply Exists.intro; refine ⟨fun u hu => ?_, hK _ ?_⟩; (first | exact rfl | (obtain ⟨⟨q1, q2, q3⟩, ⟨q4, q5, q6⟩, q7, q8⟩ := KS.out u hu; go_simp; done) | (obtain ⟨⟨q1, q2, q3⟩, ⟨q4, q5, q6⟩, q7, q8⟩ := KS.out u hu; go_simp; exact rfl) | (obtain ⟨⟨q1, q2, q3⟩, ⟨q4, q5, q6⟩, q7, q8⟩ := KS.out u hu; go_simp; exact if_pos (by omega))); clear hK K)
      refine wpTk_nil ?_
      refine wpAnyH_done (by kernel_rfl) (NoPanic.normal ?_) _
      go_upto_region 9 with fail
      have HY5 := Lib.hid (Below.next HY2.out (below_drew (Below.refl v2.heap.size v2)))
      have HZ5 := Lib.hid (below_drew (Below.refl v2.heap.size v2))
      refine wp_region_noPanic ?_
      refine wp_region_takes (fun u => Below W4.heap.size W4 u) [0, 1, 2, 3, 4, 5, 6, 7, 9, 10] 5 (by kernel_rfl) (by kernel_rfl) (by kernel_rfl) (fun _ _ _ _ _ h => h) HY5.out ?_
      repeat (refine wpTk_cons rfl (fun K hK => ?_); go_simp; apply Exists.intro; refine ⟨fun u hu => ?_, hK _ ?_⟩; (first | exact rfl | (obtain ⟨⟨q1, q2, q3⟩, ⟨q4, q5, q6⟩, q7, q8⟩ := KS.out u hu; go_simp; done) | (obtain ⟨⟨q1, q2, q3⟩, ⟨q4, q5, q6⟩, q7, q8⟩ := KS.out u hu; go_simp; exact rfl) | (obtain ⟨⟨q1, q2, q3⟩, ⟨q4, q5, q6⟩, q7, q8⟩ := KS.out u hu; go_simp; exact if_pos (by omega))); clear hK K)
      refine wpTk_nil ?_
      refine held_ready (rs := [8]) (by kernel_rfl) (by simp) ?_
      refine AllReadyH.cons rfl (fun K hK => ?_) AllReadyH.nil
      go_simp
      with_reducible refine (HCH.out _ HY5.out).mono ?_
      rintro e v6 ⟨rfl, hv⟩
      have HY6 := Lib.hid (Below.next HY5.out hv)
      have HZ6 := Lib.hid (Below.next HZ5.out hv)
      clear hv HCH
      go_simp
      refine hK.out _ _ HY6.out (fun hh => ?_)
      clear hh hK K; try simp only [Act.put, List.setIfInBounds_toArray, List.set_cons_zero, List.set_cons_succ]
      refine held_takes (f := 2) (by kernel_rfl) (fun _ _ _ _ _ h => h) HY6.out [11, 12] _ _ (by kernel_rfl) ?_
      repeat (refine wpTk_cons rfl (fun K hK => ?_); go_simp; apply Exists.intro; refine ⟨fun u hu => ?_, hK _ ?_⟩; (first | exact rfl | (obtain ⟨⟨q1, q2, q3⟩, ⟨q4, q5, q6⟩, q7, q8⟩ := KS.out u hu; go_simp; done) | (obtain ⟨⟨q1, q2, q3⟩, ⟨q4, q5, q6⟩, q7, q8⟩ := KS.out u hu; go_simp; exact rfl) | (obtain ⟨⟨q1, q2, q3⟩, ⟨q4, q5, q6⟩, q7, q8⟩ := KS.out u hu; go_simp; exact if_pos (by omega))); clear hK K)
      refine wpTk_nil ?_
      try rw [hwh]
      refine held_ready (rs := [13]) (by kernel_rfl) (by simp) ?_
      refine AllReadyH.cons rfl (fun K hK => ?_) AllReadyH.nil
      go_simp
      with_reducible refine (HWH.out _ HY6.out).mono ?_
      rintro e v7 ⟨ah, ch, rfl, hrh, hv⟩
      have HY7 := Lib.hid (Below.next HY6.out hv)
      have HZ7 := Lib.hid (Below.next HZ6.out hv)
      have HRh := Lib.hid hrh
      clear hv HWH hrh
      go_simp
      refine hK.out _ _ HY7.out (fun hh => ?_)
      clear hh hK K; try simp only [Act.put, List.setIfInBounds_toArray, List.set_cons_zero, List.set_cons_succ]
      refine held_takes (f := 0) (by kernel_rfl) (fun _ _ _ _ _ h => h) HY7.out [14] _ _ (by kernel_rfl) ?_
      repeat (refine wpTk_cons rfl (fun K hK => ?_); go_simp; apply Exists.intro; refine ⟨fun u hu => ?_, hK _ ?_⟩; (first | exact rfl | (obtain ⟨⟨q1, q2, q3⟩, ⟨q4, q5, q6⟩, q7, q8⟩ := KS.out u hu; go_simp; done) | (obtain ⟨⟨q1, q2, q3⟩, ⟨q4, q5, q6⟩, q7, q8⟩ := KS.out u hu; go_simp; exact rfl) | (obtain ⟨⟨q1, q2, q3⟩, ⟨q4, q5, q6⟩, q7, q8⟩ := KS.out u hu; go_simp; exact if_pos (by omega))); clear hK K)
      refine wpTk_nil ?_
      refine wpAnyH_done (by kernel_rfl) (NoPanic.normal ?_) _
      have HRl7 := Lib.hid (HRl.out.below HZ7.out)
      have HB7 := Lib.hid (Below.next HBW4.out HY7.out)
      clear HRl HZ5 HZ6 HZ7 HY HY1 HY2 HY5 HY6
      obtain ⟨⟨x0, x1, x2⟩, ⟨x3, x4, x5⟩, x6, x7⟩ := KS.out v7 HY7.out
      clear x1 x2 x4 x5 x6 x7
      obtain ⟨m, hm⟩ : ∃ m, N - s + 1 = m := ⟨_, rfl⟩
      have hmI : (N : Int) - (s : Int) + 1 = (m : Int) := by have := ST.out.sN; omega
      have hm14 : m ≤ 14 := by omega
      have hmk := make_i64 m (by omega)
      have HM := Lib.hid hm
      rw [hm] at hll hhl
      rw [iA_made] at hmk
      clear hm
      go_upto_region 11 with fail
      generalize hW8 : v7.alloc _ = W8
      obtain ⟨k8, hs8, hb8⟩ := boxes1 hW8
      have K8 := Lib.hid k8
      have HB8 := Lib.hid hb8
      clear hW8 k8 hb8 hmk
      obtain ⟨pl, hpl⟩ : ∃ pl, rl.length + gl = pl := ⟨_, rfl⟩
      obtain ⟨pr, hpr⟩ : ∃ pr, rh.length + gh = pr := ⟨_, rfl⟩
      have HPL : Hid ((widenM rl gl).length = pl) := Lib.hid (by rw [widenM_len, hpl])
      have HPR : Hid ((widenM rh gh).length = pr) := Lib.hid (by rw [widenM_len, hpr])
      have HNX := Lib.hid ST.out.nxt
      rw [HM.out] at HNX
      obtain ⟨Lw, hLw⟩ : ∃ Lw, widenM rl gl = Lw := ⟨_, rfl⟩
      obtain ⟨Rw, hRw⟩ : ∃ Rw, widenM rh gh = Rw := ⟨_, rfl⟩
      rw [hpl] at hll HRl7 ⊢
      rw [hpr] at hhl HRh ⊢
      rw [hLw] at HPL HRl7 HNX
      rw [hRw] at HPR HRh HNX
      clear hLw hRw HK2 HGL HGH K4 C1 C2 KS hwl hwh HB3 RM3 OWN3 BX3
      obtain ⟨W0, hW0⟩ : ∃ W0, W0 = wr := ⟨_, rfl⟩
      subst hW0
      go_wp2_with fail
      go_loopw [67] (fun i wq => ∃ j : Nat, j ≤ pl ∧ i = .int .i64 j ∧ wq.heap[v7.heap.size]? = some (.cells (iA (putA (Lw.take j) 0 (List.replicate m 0))) 2 (0, 0)) ∧ Below v7.heap.size v7 wq) (fun i _ => pl - (intOf i).toNat)
      case atStart => exact ⟨0, Nat.zero_le _, rfl, K8.out, HB8.out⟩
      case round =>
        obtain ⟨j, hj, rfl, hg, hbq⟩ := hrel
        by_cases hltj : j < pl
        · obtain ⟨x, hx⟩ : ∃ x, Lw[j]? = some x := ⟨_, List.getElem?_eq_getElem (by have := HPL.out; omega)⟩
          obtain ⟨bl, ol, ha, hcell⟩ := (HRl7.out.below hbq).at' (by omega)
          have hc : wr.cell? ⟨bl, ol + j, none⟩ = some (.int .i64 x) := hcell j (.int .i64 x) (by rw [List.getElem?_map, hx]; rfl)
          subst ha
          have HST := Lib.hid (putA_take hx 0 (List.replicate m 0))
          rw [Nat.zero_add] at HST
          have HTL := Lib.hid (putA_len (Lw.take j) 0 (List.replicate m 0))
          obtain ⟨T, hT⟩ : ∃ T, putA (Lw.take j) 0 (List.replicate m 0) = T := ⟨_, rfl⟩
          rw [hT] at hg HST HTL
          rw [List.length_replicate] at HTL
          have q0 := (cell_of_row _ _ j _ _ _ hg).trans (iA_at (by have := HTL.out; omega))
          have z0 := frozen_row hg j
          have hjm : j < m := by omega
          have HG := Lib.hid hg
          have HBQ := Lib.hid hbq
          clear hT hcell hg hbq hx
          go_wp2_with fail
          generalize hW2 : wr.setCell _ _ = W9
          have e2 : W9.heap[v7.heap.size]? = some (.cells (iA (addAt T j x)) 2 (0, 0)) := by
            rw [← hW2, heap_set_at HG.out j _, iA_set]; rfl
          have hb2 : Below v7.heap.size v7 W9 := by rw [← hW2]; exact HBQ.out.setCell (p := ⟨v7.heap.size, j, none⟩) (Nat.le_refl _) _
          have E2 := Lib.hid e2
          have HB9 := Lib.hid hb2
          clear hW2 e2 hb2 q0 z0 hc
          go_roundw
          case rel => exact ⟨j + 1, by omega, by go_num, by rw [HST.out]; exact E2.out, HB9.out⟩
          case measure => simp [intOf] <;> omega
        · obtain rfl : j = pl := by omega
          rw [List.take_of_length_le (Nat.le_of_eq HPL.out)] at hg
          have HG := Lib.hid hg
          have HBQ := Lib.hid hbq
          obtain ⟨Z, hZ⟩ : ∃ Z, putA Lw 0 (List.replicate m 0) = Z := ⟨_, rfl⟩
          have HZL : Hid (Z.length = m) := Lib.hid (by rw [← hZ, putA_len, List.length_replicate])
          have HMK : Hid (mkRow m Lw Rw = putA Rw 1 Z) := Lib.hid (by rw [← hZ]; rfl)
          rw [hZ] at HG
          clear hg hbq hZ
          obtain ⟨W10, hW10⟩ : ∃ W10, W10 = wr := ⟨_, rfl⟩
          subst hW10
          go_wp2_with fail
          go_loopw [82] (fun i wq => ∃ j : Nat, j ≤ pr ∧ i = .int .i64 j ∧ wq.heap[v7.heap.size]? = some (.cells (iA (putA (Rw.take j) 1 Z)) 2 (0, 0)) ∧ Below v7.heap.size v7 wq) (fun i _ => pr - (intOf i).toNat)
          case atStart => exact ⟨0, Nat.zero_le _, rfl, HG.out, HBQ.out⟩
          case round =>
            obtain ⟨j2, hj2, rfl, hg, hbq⟩ := hrel
            by_cases hltj2 : j2 < pr
            · obtain ⟨x, hx⟩ : ∃ x, Rw[j2]? = some x := ⟨_, List.getElem?_eq_getElem (by have := HPR.out; omega)⟩
              obtain ⟨bl, ol, ha, hcell⟩ := (HRh.out.below hbq).at' (by omega)
              have hc : wr.cell? ⟨bl, ol + j2, none⟩ = some (.int .i64 x) := hcell j2 (.int .i64 x) (by rw [List.getElem?_map, hx]; rfl)
              subst ha
              have HST := Lib.hid (putA_take hx 1 Z)
              rw [Nat.add_comm 1 j2] at HST
              have HTL := Lib.hid (putA_len (Rw.take j2) 1 Z)
              obtain ⟨T, hT⟩ : ∃ T, putA (Rw.take j2) 1 Z = T := ⟨_, rfl⟩
              rw [hT] at hg HST HTL
              rw [HZL.out] at HTL
              have q0 := (cell_of_row _ _ (j2 + 1) _ _ _ hg).trans (iA_at (by have := HTL.out; omega))
              have z0 := frozen_row hg (j2 + 1)
              have hjm : j2 + 1 < m := by omega
              have HG2 := Lib.hid hg
              have HBQ2 := Lib.hid hbq
              clear hT hcell hg hbq hx
              go_wp2_with fail
              generalize hW2 : wr.setCell _ _ = W9
              have e2 : W9.heap[v7.heap.size]? = some (.cells (iA (addAt T (j2 + 1) x)) 2 (0, 0)) := by
                rw [← hW2, heap_set_at HG2.out (j2 + 1) _, iA_set]; rfl
              have hb2 : Below v7.heap.size v7 W9 := by rw [← hW2]; exact HBQ2.out.setCell (p := ⟨v7.heap.size, j2 + 1, none⟩) (Nat.le_refl _) _
              have E2 := Lib.hid e2
              have HB9 := Lib.hid hb2
              clear hW2 e2 hb2 q0 z0 hc
              go_roundw
              case rel => exact ⟨j2 + 1, by omega, by go_num, by rw [HST.out]; exact E2.out, HB9.out⟩
              case measure => simp [intOf] <;> omega
            · obtain rfl : j2 = pr := by omega
              rw [List.take_of_length_le (Nat.le_of_eq HPR.out), ← HMK.out] at hg
              have hML : (mkRow m Lw Rw).length = m := by rw [HMK.out, putA_len, HZL.out]
              have hbb : Below W0.heap.size W0 wr := Below.next (Below.next HB4.out HY7.out) hbq
              have hown := rowK_below HOW.out hbb
              have hrm := HRM.out.below hbb
              have hbx := heap_below hbb HBX.out
              have hb := Below.next HB.out hbb
              have HG3 := Lib.hid hg
              have HRM3 := Lib.hid hrm
              have HBX4 := Lib.hid hbx
              have HML := Lib.hid hML
              clear hg hbq hbb hrm hbx hML HG HBQ
              go_wp2_with (at_builtin; go_must (refine wpList_app _ _ 86 24 (.slice none 0 0) (.slice (some ⟨v7.heap.size, 0, none⟩) m m) _ Tryd.underlying86 Tryd.infoS64 rfl hown hb (by omega) rfl rfl rfl rfl rfl (by unfold maxLen; omega) (by omega) ?_))
              intro v' w5 hown5 hb5 hgr5 _
              have hHL : H.length = k + 2 := by have := hown.1; omega
              have hrm5 : RowsM w5 (H ++ [.slice (some ⟨v7.heap.size, 0, none⟩) m m]) (R (k + 1)) := by
                rw [HNX.out]
                intro i r hi
                by_cases hik : i < k + 2
                · rw [List.getElem?_append_left (by rw [ST.out.len]; exact hik)] at hi
                  obtain ⟨g, h1, h2⟩ := HRM3.out.grown hown hgr5 i r hi
                  exact ⟨g, by rw [List.getElem?_append_left (by omega)]; exact h1, h2⟩
                · have hlen := (List.getElem?_eq_some_iff.1 hi).1
                  rw [List.length_append, ST.out.len, List.length_singleton] at hlen
                  obtain rfl : i = k + 2 := by omega
                  rw [List.getElem?_append_right (by rw [ST.out.len]; exact Nat.le_refl _), ST.out.len, Nat.sub_self] at hi
                  cases hi
                  refine ⟨v7.heap.size, ?_, num_stay hown hgr5 HG3.out⟩
                  rw [List.getElem?_append_right (by omega), hHL, Nat.sub_self]
                  unfold hdV
                  rw [HML.out]; rfl
              have hbx5 : w5.heap[w.heap.size]? = some (.cells #[.int .i64 N, .slice (some ⟨b, o, none⟩) n c, .int .i64 ((n : Int) + 1)] 45 (0, 0)) := typ_stay hown hgr5 (by decide) HBX4.out
              have OW5 := Lib.hid hown5
              have RM5 := Lib.hid hrm5
              have BX5 := Lib.hid hbx5
              have HB5 := Lib.hid hb5
              clear hown hown5 hrm5 hbx5 hb5 hgr5 hb
              go_wp2_with fail
              go_roundw
              case rel => exact ⟨k + 1, _, by omega, by go_num, OW5.out, RM5.out, BX5.out, HB5.out⟩
              case measure => simp [intOf] <;> omega
    · obtain rfl : k = n := by omega
      obtain ⟨B, O, hA, hrc⟩ := HRD.out.at' (by omega)
      subst hA
      obtain ⟨GL, hgl1, hgl2⟩ := HRM.out (k + 1) rr HRR.out
      have C1 := Lib.hid (hrc (k + 1) _ hgl1)
      unfold hdV at C1
      have KS : Hid (∀ u : World, Below wr.heap.size wr u → u.cell? ⟨w.heap.size, 0, none⟩ = some (.int .i64 (N : Int)) ∧ u.cell? ⟨w.heap.size, 1, none⟩ = some (.slice (some ⟨b, o, none⟩) k c) ∧ u.cell? ⟨w.heap.size, 2, none⟩ = some (.int .i64 ((k : Int) + 1)) ∧ u.cell? ⟨B, O + (k + 1), none⟩ = some (.slice (some ⟨GL, 0, none⟩) rr.length rr.length)) := Lib.hid (fun u hu => by
        have bx := heap_below hu HBX.out
        exact ⟨cell_of_row _ _ 0 _ _ _ bx, cell_of_row _ _ 1 _ _ _ bx, cell_of_row _ _ 2 _ _ _ bx, cell_keep hu C1.out⟩)
      have HCL := Lib.hid (fun (u : World) (hu : Below wr.heap.size wr u) => HSV.out (k + 1) (by omega) u (Below.next HB.out hu))
      rw [hgr, show ((k + 1 : Nat) : Int) = (k : Int) + 1 from rfl] at HCL
      have HWL := Lib.hid (fun (u : World) (hu : Below wr.heap.size wr u) => widen_c rr gr hgr' _ _ _ hrl u (iA_Rd (heap_below hu hgl2) (by unfold maxLen; omega)))
      have HY := Lib.hid (below_drew (Below.refl wr.heap.size wr))
      clear hgl1 hgl2 hrc
      go_upto_region 23 with fail
      refine wp_region_noPanic ?_
      refine wp_region_takes (fun u => Below wr.heap.size wr u) [0, 1, 2, 3, 4, 5, 6, 7] 4 (by kernel_rfl) (by kernel_rfl) (by kernel_rfl) (fun _ _ _ _ _ h => h) HY.out ?_
      repeat (refine wpTk_cons rfl (fun K hK => ?_); go_simp; apply Exists.intro; refine ⟨fun u hu => ?_, hK _ ?_⟩; (first | exact rfl | (obtain ⟨q1, q2, q3, q4⟩ := KS.out u hu; go_simp; done) | (obtain ⟨q1, q2, q3, q4⟩ := KS.out u hu; go_simp; exact rfl) | (obtain ⟨q1, q2, q3, q4⟩ := KS.out u hu; go_simp; exact if_pos (by omega))); clear hK K)
      refine wpTk_nil ?_
      refine held_ready (rs := [8]) (by kernel_rfl) (by simp) ?_
      refine AllReadyH.cons rfl (fun K hK => ?_) AllReadyH.nil
      go_simp
      with_reducible refine (HCL.out _ HY.out).mono ?_
      rintro e v1 ⟨rfl, hv⟩
      have HY1 := Lib.hid (Below.next HY.out hv)
      clear hv HCL
      go_simp
      refine hK.out _ _ HY1.out (fun hh => ?_)
      clear hh hK K; try simp only [Act.put, List.setIfInBounds_toArray, List.set_cons_zero, List.set_cons_succ]
      refine held_ready (rs := [9]) (by kernel_rfl) (by simp) ?_
      refine AllReadyH.cons rfl (fun K hK => ?_) AllReadyH.nil
      go_simp
      with_reducible refine (HWL.out _ HY1.out).mono ?_
      rintro e v2 ⟨al, cl, rfl, hrl2, hv⟩
      have HY2 := Lib.hid (Below.next HY1.out hv)
      have HRl := Lib.hid hrl2
      clear hv HWL hrl2
      go_simp
      refine hK.out _ _ HY2.out (fun hh => ?_)
      clear hh hK K; try simp only [Act.put, List.setIfInBounds_toArray, List.set_cons_zero, List.set_cons_succ]
      refine held_takes (f := 0) (by kernel_rfl) (fun _ _ _ _ _ h => h) HY2.out [10, 11] _ _ (by kernel_rfl) ?_
      repeat (refine wpTk_cons rfl (fun K hK => ?_); go_simp; apply Exists.intro; refine ⟨fun u hu => ?_, hK _ ?_⟩; (first | exact rfl | (obtain ⟨q1, q2, q3, q4⟩ := KS.out u hu; go_simp; done) | (obtain ⟨q1, q2, q3, q4⟩ := KS.out u hu; go_simp; exact rfl) | (obtain ⟨q1, q2, q3, q4⟩ := KS.out u hu; go_simp; exact if_pos (by omega))); clear hK K)
      refine wpTk_nil ?_
      refine wpAnyH_done (by kernel_rfl) (NoPanic.normal ?_) _
      go_wp2_with fail
      go_ret2
      exact ⟨_, _, rfl, HRl.out, Below.next HB.out HY2.out⟩
end Go.Proofs.YtmjgdnpfgkpaoaaDoor
namespace Go.Proofs.YtmjgdnpfgkpaoaaDoor

def ET.constB : ET → Bool
  | .srv _ => false
  | .thr _ _ ks => ks.isEmpty
def ET.needOf : ET → Int
  | .srv _ => 0
  | .thr n _ _ => n
def ET.kidsOf : ET → List ET
  | .srv _ => []
  | .thr _ _ ks => ks
def ET.anyB : ET → Bool
  | .srv _ => false
  | .thr n ws ks => (!ks.isEmpty && ws.isEmpty) && decide (n = 1)
def ET.allB : ET → Bool
  | .srv _ => false
  | .thr n ws ks => (!ks.isEmpty && ws.isEmpty) && decide (n = (ks.length : Int))
def mergT (form : ET → Bool) (ks : List ET) : List ET := ks.flatMap fun k => if form k = true then k.kidsOf else [k]
def leastL : List Int → Int
  | [] => 0
  | a :: l => l.foldl min a
def greatL : List Int → Int
  | [] => 0
  | a :: l => l.foldl max a
def sumL (l : List Int) : Int := l.foldr (· + ·) 0
def lightT (need sum : Int) (ws : List Int) (ks : List ET) : ET :=
  if need ≤ leastL ws then .thr 1 [] ks else if sum - leastL ws < need then .thr ks.length [] ks
  else if leastL ws = greatL ws then .thr ((need + leastL ws - 1) / leastL ws) [] ks else .thr need ws ks
structure SS where
  need : Int
  ks : List ET
  ws : List Int
  sum : Int
def stepS (st : SS) (k : ET) (w : Int) : SS :=
  if k.constB = false then ⟨st.need, st.ks ++ [k], st.ws ++ [w], st.sum + w⟩
  else if k.needOf = 0 then ⟨max 0 (st.need - w), st.ks, st.ws, st.sum⟩ else st
def mergA (out : ET) : ET :=
  if out.anyB = true then .thr out.needOf [] (mergT ET.anyB out.kidsOf)
  else if out.allB = true then .thr (mergT ET.allB out.kidsOf).length [] (mergT ET.allB out.kidsOf) else out
/-- the one kid, or the tree -/
def oneOf : List ET → ET → ET
  | [k], _ => k
  | _, X => X
theorem oneOf_two {ks : List ET} (h : 2 ≤ ks.length) (X : ET) : oneOf ks X = X := by
  match ks, h with
  | _ :: _ :: _, _ => rfl
theorem oneOf_cases (ks : List ET) (X : ET) (h : ks ≠ []) : (∃ k, ks = [k] ∧ oneOf ks X = k) ∨ (2 ≤ ks.length ∧ oneOf ks X = X) := by
  match ks, h with
  | [k], _ => exact .inl ⟨k, rfl, rfl⟩
  | a :: b :: l, _ => exact .inr ⟨by simp, rfl⟩
def finS (st : SS) : ET :=
  if st.need = 0 then .thr 0 [] [] else if st.sum < st.need then .thr 1 [] []
  else oneOf st.ks (mergA (lightT st.need st.sum st.ws st.ks))
mutual
def ET.simp : ET → ET
  | .srv s => .srv s
  | .thr n ws ks => finS (ETs.simpF ks ws 0 ⟨n, [], [], 0⟩)
def ETs.simpF : List ET → List Int → Nat → SS → SS
  | [], _, _, st => st
  | t :: ts, ws, k, st => ETs.simpF ts ws (k + 1) (stepS st t.simp (wgtW ws k))
end

/-! least and greatest -/
theorem foldl_min (l : List Int) : ∀ a, l.foldl min a ≤ a ∧ (∀ w ∈ l, l.foldl min a ≤ w) ∧ (l.foldl min a = a ∨ l.foldl min a ∈ l) := by
  induction l with
  | nil => intro a; exact ⟨Int.le_refl _, (fun w h => by cases h), Or.inl rfl⟩
  | cons b l ih =>
    intro a
    obtain ⟨h1, h2, h3⟩ := ih (min a b)
    rw [List.foldl_cons]
    refine ⟨by omega, fun w hw => ?_, ?_⟩
    · rcases List.mem_cons.1 hw with rfl | hw
      · omega
      · exact h2 w hw
    · rcases h3 with h3 | h3
      · by_cases hab : a ≤ b
        · left; rw [h3]; omega
        · right; rw [h3, show min a b = b by omega]; simp
      · right; exact List.mem_cons_of_mem _ h3
theorem foldl_max (l : List Int) : ∀ a, a ≤ l.foldl max a ∧ (∀ w ∈ l, w ≤ l.foldl max a) ∧ (l.foldl max a = a ∨ l.foldl max a ∈ l) := by
  induction l with
  | nil => intro a; exact ⟨Int.le_refl _, (fun w h => by cases h), Or.inl rfl⟩
  | cons b l ih =>
    intro a
    obtain ⟨h1, h2, h3⟩ := ih (max a b)
    rw [List.foldl_cons]
    refine ⟨by omega, fun w hw => ?_, ?_⟩
    · rcases List.mem_cons.1 hw with rfl | hw
      · omega
      · exact h2 w hw
    · rcases h3 with h3 | h3
      · by_cases hab : b ≤ a
        · left; rw [h3]; omega
        · right; rw [h3, show max a b = b by omega]; simp
      · right; exact List.mem_cons_of_mem _ h3
theorem least_le {l : List Int} : ∀ w ∈ l, leastL l ≤ w := by
  cases l with
  | nil => intro w h; cases h
  | cons a l =>
    intro w hw
    obtain ⟨h1, h2, _⟩ := foldl_min l a
    rcases List.mem_cons.1 hw with rfl | hw
    · exact h1
    · exact h2 w hw
theorem great_ge {l : List Int} : ∀ w ∈ l, w ≤ greatL l := by
  cases l with
  | nil => intro w h; cases h
  | cons a l =>
    intro w hw
    obtain ⟨h1, h2, _⟩ := foldl_max l a
    rcases List.mem_cons.1 hw with rfl | hw
    · exact h1
    · exact h2 w hw
theorem least_mem {l : List Int} (h : l ≠ []) : leastL l ∈ l := by
  cases l with
  | nil => exact absurd rfl h
  | cons a l =>
    rcases (foldl_min l a).2.2 with e | e
    · show l.foldl min a ∈ _; rw [e]; simp
    · exact List.mem_cons_of_mem _ e
theorem great_mem {l : List Int} (h : l ≠ []) : greatL l ∈ l := by
  cases l with
  | nil => exact absurd rfl h
  | cons a l =>
    rcases (foldl_max l a).2.2 with e | e
    · show l.foldl max a ∈ _; rw [e]; simp
    · exact List.mem_cons_of_mem _ e
theorem all_eq {l : List Int} (h : leastL l = greatL l) : ∀ w ∈ l, w = leastL l := fun w hw => by
  have := least_le w hw; have := great_ge w hw; omega

/-! the weights of satisfied trees -/
def gotZ : List ET → List Int → BitVec 16 → Int
  | t :: ts, w :: ws, S => (if t.hold S = true then w else 0) + gotZ ts ws S
  | _, _, _ => 0
def ETs.wts : List ET → List Int → Nat → List Int
  | [], _, _ => []
  | _ :: ts, ws, k => wgtW ws k :: ETs.wts ts ws (k + 1)
theorem got_wts (S : BitVec 16) (ws : List Int) : ∀ (ts : List ET) (k : Nat), ETs.got ts S ws k = gotZ ts (ETs.wts ts ws k) S
  | [], _ => by simp [ETs.got, gotZ]
  | t :: ts, k => by rw [ETs.got, ETs.wts, gotZ, got_wts S ws ts]
theorem wts_len (ws : List Int) : ∀ (ts : List ET) (k : Nat), (ETs.wts ts ws k).length = ts.length
  | [], _ => rfl
  | t :: ts, k => by rw [ETs.wts, List.length_cons, List.length_cons, wts_len ws ts]
theorem wts_self {ws : List Int} (h : ws ≠ []) : ∀ (ts : List ET) (k : Nat), ws.length = k + ts.length → ETs.wts ts ws k = ws.drop k
  | [], k, hl => by rw [ETs.wts, List.drop_eq_nil_of_le (by simp at hl; omega)]
  | t :: ts, k, hl => by
    rw [List.length_cons] at hl
    rw [ETs.wts, wts_self h ts (k + 1) (by omega), List.drop_eq_getElem_cons (show k < ws.length by omega)]
    unfold wgtW
    rw [if_neg h, List.getD_eq_getElem?_getD, List.getElem?_eq_getElem (show k < ws.length by omega)]
    rfl
theorem wts_nil : ∀ (ts : List ET) (k : Nat), ETs.wts ts [] k = List.replicate ts.length 1
  | [], _ => rfl
  | t :: ts, k => by rw [ETs.wts, wts_nil ts (k + 1)]; rfl
/-- how many are satisfied -/
def cntT (ks : List ET) (S : BitVec 16) : Nat := (ks.filter fun t => t.hold S).length
theorem gotZ_same (S : BitVec 16) (m : Int) : ∀ (ts : List ET) (ws : List Int), ws.length = ts.length → (∀ w ∈ ws, w = m) → gotZ ts ws S = m * (cntT ts S : Int)
  | [], ws, _, _ => by unfold cntT; cases ws <;> simp [gotZ]
  | t :: ts, [], h, _ => by simp at h
  | t :: ts, w :: ws, h, hw => by
    have e : w = m := hw w (by simp)
    subst e
    have ih := gotZ_same S w ts ws (by simpa using h) (fun v hv => hw v (List.mem_cons_of_mem _ hv))
    rw [gotZ, ih]
    unfold cntT
    cases ht : t.hold S
    · rw [List.filter_cons_of_neg (by simp [ht])]; simp
    · rw [List.filter_cons_of_pos (by simpa using ht), List.length_cons]
      simp only [if_true]
      rw [Int.natCast_add, Int.mul_add]; omega
theorem gotZ_ones (S : BitVec 16) (ts : List ET) : gotZ ts (List.replicate ts.length 1) S = (cntT ts S : Int) := by
  rw [gotZ_same S 1 ts _ (by simp) (fun w hw => (List.mem_replicate.1 hw).2), Int.one_mul]
theorem got_cnt (S : BitVec 16) (ts : List ET) (k : Nat) : ETs.got ts S [] k = (cntT ts S : Int) := by
  rw [got_wts, wts_nil, gotZ_ones]
theorem gotZ_rng (S : BitVec 16) : ∀ (ts : List ET) (ws : List Int), (∀ w ∈ ws, 1 ≤ w) → 0 ≤ gotZ ts ws S ∧ gotZ ts ws S ≤ sumL ws
  | [], ws, h => by
    have : 0 ≤ sumL ws := by
      clear S
      induction ws with
      | nil => exact Int.le_refl _
      | cons w ws ih => have := ih (fun v hv => h v (List.mem_cons_of_mem _ hv)); have := h w (by simp); unfold sumL at *; rw [List.foldr_cons]; omega
    cases ws <;> simp only [gotZ] <;> omega
  | t :: ts, [], _ => by simp [gotZ, sumL]
  | t :: ts, w :: ws, h => by
    have ih := gotZ_rng S ts ws (fun v hv => h v (List.mem_cons_of_mem _ hv))
    have := h w (by simp)
    rw [gotZ]
    unfold sumL at *
    rw [List.foldr_cons]
    split <;> omega
theorem sumL_app (l : List Int) (w : Int) : sumL (l ++ [w]) = sumL l + w := by
  induction l with
  | nil => simp [sumL]
  | cons a l ih => unfold sumL at *; rw [List.cons_append, List.foldr_cons, List.foldr_cons, ih]; omega
theorem gotZ_app (S : BitVec 16) (k : ET) (w : Int) : ∀ (ts : List ET) (ws : List Int), ws.length = ts.length → gotZ (ts ++ [k]) (ws ++ [w]) S = gotZ ts ws S + (if k.hold S = true then w else 0)
  | [], ws, h => by
    obtain rfl : ws = [] := List.eq_nil_of_length_eq_zero (by simpa using h)
    simp [gotZ]
  | t :: ts, [], h => by simp at h
  | t :: ts, v :: ws, h => by
    rw [List.cons_append, List.cons_append, gotZ, gotZ, gotZ_app S k w ts ws (by simpa using h)]; omega
/-- a satisfied one weighs -/
theorem gotZ_some (S : BitVec 16) : ∀ (ts : List ET) (ws : List Int), ws.length = ts.length → (∀ w ∈ ws, 1 ≤ w) → (∃ t ∈ ts, t.hold S = true) → leastL ws ≤ gotZ ts ws S := by
  intro ts ws hl hw ⟨t, ht, hh⟩
  have key : ∀ (m : Int) (ts : List ET) (ws : List Int), ws.length = ts.length → (∀ w ∈ ws, 1 ≤ w ∧ m ≤ w) → t ∈ ts → m ≤ gotZ ts ws S := by
    intro m ts
    induction ts with
    | nil => intro ws _ _ h; cases h
    | cons u ts ih =>
      intro ws hl hw h
      cases ws with
      | nil => simp at hl
      | cons w ws =>
        have hr := gotZ_rng S ts ws (fun v hv => (hw v (List.mem_cons_of_mem _ hv)).1)
        have hw0 := hw w (by simp)
        rw [gotZ]
        rcases List.mem_cons.1 h with rfl | h
        · rw [if_pos hh]; omega
        · have := ih ws (by simpa using hl) (fun v hv => hw v (List.mem_cons_of_mem _ hv)) h
          split <;> omega
  exact key _ ts ws hl (fun w h => ⟨hw w h, least_le w h⟩) ht
/-- one that is not satisfied is missing -/
theorem gotZ_miss (S : BitVec 16) : ∀ (ts : List ET) (ws : List Int), ws.length = ts.length → (∀ w ∈ ws, 1 ≤ w) → (∃ t ∈ ts, t.hold S = false) → gotZ ts ws S ≤ sumL ws - leastL ws := by
  intro ts ws hl hw ⟨t, ht, hh⟩
  have key : ∀ (m : Int) (ts : List ET) (ws : List Int), ws.length = ts.length → (∀ w ∈ ws, 1 ≤ w ∧ m ≤ w) → t ∈ ts → gotZ ts ws S ≤ sumL ws - m := by
    intro m ts
    induction ts with
    | nil => intro ws _ _ h; cases h
    | cons u ts ih =>
      intro ws hl hw h
      cases ws with
      | nil => simp at hl
      | cons w ws =>
        have hr := gotZ_rng S ts ws (fun v hv => (hw v (List.mem_cons_of_mem _ hv)).1)
        have hw0 := hw w (by simp)
        have hs : sumL (w :: ws) = w + sumL ws := rfl
        rw [gotZ, hs]
        rcases List.mem_cons.1 h with rfl | h
        · rw [if_neg (by rw [hh]; decide)]; omega
        · have := ih ws (by simpa using hl) (fun v hv => hw v (List.mem_cons_of_mem _ hv)) h
          split <;> omega
  exact key _ ts ws hl (fun w h => ⟨hw w h, least_le w h⟩) ht
theorem cntT_le (ts : List ET) (S : BitVec 16) : cntT ts S ≤ ts.length := List.length_filter_le _ _
theorem cntT_some {ts : List ET} {S : BitVec 16} : 1 ≤ cntT ts S ↔ ∃ t ∈ ts, t.hold S = true := by
  unfold cntT
  constructor
  · intro h
    obtain ⟨t, ht⟩ := List.exists_mem_of_ne_nil _ (show (ts.filter fun t => t.hold S) ≠ [] from fun e => by rw [e] at h; simp at h)
    obtain ⟨h1, h2⟩ := List.mem_filter.1 ht
    exact ⟨t, h1, h2⟩
  · rintro ⟨t, h1, h2⟩
    exact List.length_pos_of_mem (List.mem_filter.2 ⟨h1, h2⟩)
theorem cntT_all {ts : List ET} {S : BitVec 16} : ts.length ≤ cntT ts S ↔ ∀ t ∈ ts, t.hold S = true := by
  unfold cntT
  constructor
  · intro h t ht
    have hle := List.length_filter_le (fun t : ET => t.hold S) ts
    have := List.length_filter_eq_length_iff.1 (show (ts.filter fun t => t.hold S).length = ts.length by omega) t ht
    exact this
  · intro h
    exact Nat.le_of_eq (List.length_filter_eq_length_iff.2 (fun t ht => h t ht)).symm
theorem thr_hold (n : Int) (ks : List ET) (S : BitVec 16) : (ET.thr n [] ks).hold S = decide (n ≤ (cntT ks S : Int)) := by rw [ET.hold, got_cnt]
theorem thr_holdw (n : Int) {ws : List Int} (h : ws ≠ []) {ks : List ET} (hl : ws.length = ks.length) (S : BitVec 16) : (ET.thr n ws ks).hold S = decide (n ≤ gotZ ks ws S) := by
  rw [ET.hold, got_wts, wts_self h ks 0 (by omega)]; rfl
theorem thr_one (ks : List ET) (S : BitVec 16) : (ET.thr 1 [] ks).hold S = ks.any fun t => t.hold S := by
  rw [thr_hold, Bool.eq_iff_iff, decide_eq_true_iff, List.any_eq_true]
  rw [← cntT_some]; omega
theorem thr_all (ks : List ET) (S : BitVec 16) : (ET.thr ks.length [] ks).hold S = ks.all fun t => t.hold S := by
  rw [thr_hold, Bool.eq_iff_iff, decide_eq_true_iff, List.all_eq_true]
  rw [← cntT_all]; omega
theorem any_any {t : ET} (h : t.anyB = true) (S : BitVec 16) : t.hold S = t.kidsOf.any fun t => t.hold S := by
  cases t with
  | srv s => cases h
  | thr n ws ks =>
    simp only [ET.anyB, Bool.and_eq_true, decide_eq_true_iff] at h
    obtain ⟨⟨_, h2⟩, rfl⟩ := h
    obtain rfl : ws = [] := by simpa using h2
    exact thr_one ks S
theorem all_all {t : ET} (h : t.allB = true) (S : BitVec 16) : t.hold S = t.kidsOf.all fun t => t.hold S := by
  cases t with
  | srv s => cases h
  | thr n ws ks =>
    simp only [ET.allB, Bool.and_eq_true, decide_eq_true_iff] at h
    obtain ⟨⟨_, h2⟩, rfl⟩ := h
    obtain rfl : ws = [] := by simpa using h2
    exact thr_all ks S
theorem merg_any (ks : List ET) (S : BitVec 16) : ((mergT ET.anyB ks).any fun t => t.hold S) = ks.any fun t => t.hold S := by
  unfold mergT
  induction ks with
  | nil => rfl
  | cons k ks ih =>
    rw [List.flatMap_cons, List.any_append, ih, List.any_cons]
    congr 1
    by_cases h : k.anyB = true
    · rw [if_pos h, any_any h]
    · rw [if_neg h]; simp
theorem merg_all (ks : List ET) (S : BitVec 16) : ((mergT ET.allB ks).all fun t => t.hold S) = ks.all fun t => t.hold S := by
  unfold mergT
  induction ks with
  | nil => rfl
  | cons k ks ih =>
    rw [List.flatMap_cons, List.all_append, ih, List.all_cons]
    congr 1
    by_cases h : k.allB = true
    · rw [if_pos h, all_all h]
    · rw [if_neg h]; simp
theorem mergA_hold (out : ET) (S : BitVec 16) : (mergA out).hold S = out.hold S := by
  unfold mergA
  by_cases h : out.anyB = true
  · rw [if_pos h]
    have h1 : out.needOf = 1 := by
      cases out with
      | srv s => cases h
      | thr n ws ks => simp only [ET.anyB, Bool.and_eq_true, decide_eq_true_iff] at h; exact h.2
    rw [h1, thr_one, merg_any, any_any h]
  · rw [if_neg h]
    by_cases h2 : out.allB = true
    · rw [if_pos h2, thr_all, merg_all, all_all h2]
    · rw [if_neg h2]
theorem light_hold {need sum : Int} {ws : List Int} {ks : List ET} (hn : 1 ≤ need) (hs : sum = sumL ws) (hle : need ≤ sum) (hw : ∀ w ∈ ws, 1 ≤ w) (hl : ws.length = ks.length) (hne : ws ≠ []) (S : BitVec 16) :
    (lightT need sum ws ks).hold S = decide (need ≤ gotZ ks ws S) := by
  have hpos : 1 ≤ leastL ws := hw _ (least_mem hne)
  have hr := gotZ_rng S ks ws hw
  unfold lightT
  by_cases h1 : need ≤ leastL ws
  · rw [if_pos h1, thr_one, Bool.eq_iff_iff, List.any_eq_true, decide_eq_true_iff]
    constructor
    · intro h; have := gotZ_some S ks ws hl hw h; omega
    · intro h
      apply Classical.byContradiction
      intro hc
      have : gotZ ks ws S = 0 := by
        have key : ∀ (ts : List ET) (ws : List Int), (∀ t ∈ ts, t.hold S = false) → gotZ ts ws S = 0 := by
          intro ts
          induction ts with
          | nil => intro ws _; cases ws <;> rfl
          | cons t ts ih =>
            intro ws h
            cases ws with
            | nil => rfl
            | cons w ws => rw [gotZ, if_neg (by rw [h t (by simp)]; decide), ih ws (fun u hu => h u (List.mem_cons_of_mem _ hu))]; rfl
        exact key ks ws (fun t ht => by
          cases hh : t.hold S
          · rfl
          · exact absurd ⟨t, ht, hh⟩ hc)
      omega
  · rw [if_neg h1]
    by_cases h2 : sum - leastL ws < need
    · rw [if_pos h2, thr_all, Bool.eq_iff_iff, List.all_eq_true, decide_eq_true_iff]
      constructor
      · intro h
        have : gotZ ks ws S = sumL ws := by
          have key : ∀ (ts : List ET) (ws : List Int), ws.length = ts.length → (∀ t ∈ ts, t.hold S = true) → gotZ ts ws S = sumL ws := by
            intro ts
            induction ts with
            | nil => intro ws h _; obtain rfl : ws = [] := List.eq_nil_of_length_eq_zero (by simpa using h); rfl
            | cons t ts ih =>
              intro ws hl h
              cases ws with
              | nil => simp at hl
              | cons w ws => rw [gotZ, if_pos (h t (by simp)), ih ws (by simpa using hl) (fun u hu => h u (List.mem_cons_of_mem _ hu))]; rfl
          exact key ks ws hl h
        omega
      · intro h t ht
        cases hh : t.hold S
        · have := gotZ_miss S ks ws hl hw ⟨t, ht, hh⟩; omega
        · rfl
    · rw [if_neg h2]
      by_cases h3 : leastL ws = greatL ws
      · rw [if_pos h3, thr_hold, gotZ_same S (leastL ws) ks ws hl (all_eq h3)]
        rw [Bool.eq_iff_iff, decide_eq_true_iff, decide_eq_true_iff]
        generalize leastL ws = m at hpos ⊢
        generalize (cntT ks S : Int) = c
        constructor
        · intro h
          have h4 : need + m - 1 < m * (c + 1) := by
            have := Int.lt_mul_of_ediv_lt (c := m) (by omega) (show (need + m - 1) / m < c + 1 by omega)
            rw [Int.mul_comm] at this; exact this
          rw [Int.mul_add] at h4; omega
        · intro h
          have h4 : need + m - 1 < (c + 1) * m := by rw [Int.add_mul, Int.mul_comm c m]; omega
          have := Int.ediv_lt_of_lt_mul (by omega) h4
          omega
      · rw [if_neg h3, thr_holdw need hne hl]

/-- what a state of the fold keeps -/
structure SOk (st : SS) : Prop where
  need : 0 ≤ st.need
  len : st.ws.length = st.ks.length
  wts : ∀ w ∈ st.ws, 1 ≤ w ∧ w ≤ 1000
  sum : st.sum = sumL st.ws
theorem fin_hold {st : SS} (h : SOk st) (S : BitVec 16) : (finS st).hold S = decide (st.need ≤ gotZ st.ks st.ws S) := by
  have hw : ∀ w ∈ st.ws, 1 ≤ w := fun w hw => (h.wts w hw).1
  have hr := gotZ_rng S st.ks st.ws hw
  have hn := h.need
  have hs := h.sum
  unfold finS
  by_cases h0 : st.need = 0
  · rw [if_pos h0, thr_hold, decide_eq_true (show st.need ≤ gotZ st.ks st.ws S by omega)]; rfl
  · rw [if_neg h0]
    by_cases h1 : st.sum < st.need
    · rw [if_pos h1, thr_hold, decide_eq_false (show ¬ st.need ≤ gotZ st.ks st.ws S by omega)]; rfl
    · rw [if_neg h1]
      have hne : st.ws ≠ [] := fun e => by rw [e] at hs; simp [sumL] at hs; omega
      have hl := h.len
      have hkne : st.ks ≠ [] := fun e => hne (List.eq_nil_of_length_eq_zero (by rw [hl, e]; rfl))
      rcases oneOf_cases st.ks (mergA (lightT st.need st.sum st.ws st.ks)) hkne with ⟨k, hk, ho⟩ | ⟨_, ho⟩
      · rw [ho]
        rw [hk] at hl ⊢
        obtain ⟨w, hwe⟩ : ∃ w, st.ws = [w] := by
          match hq : st.ws, hl with
          | [w], _ => exact ⟨w, rfl⟩
        have hw1 := hw w (by rw [hwe]; simp)
        rw [hwe] at hs ⊢
        have : sumL [w] = w := by simp [sumL]
        rw [gotZ, gotZ]
        · cases k.hold S
          · rw [decide_eq_false (by simp; omega)]
          · rw [decide_eq_true (by simp; omega)]
        · intro _ _ _ _ h; cases h
      · rw [ho, mergA_hold, light_hold (by omega) hs (by omega) hw hl hne]
theorem const_hold {t : ET} (h : t.constB = true) (S : BitVec 16) : t.hold S = decide (t.needOf ≤ 0) := by
  cases t with
  | srv s => cases h
  | thr n ws ks =>
    have : ks = [] := by simpa [ET.constB] using h
    subst this
    rw [ET.hold, ETs.got]; rfl
theorem step_ok {st : SS} (h : SOk st) {k : ET} {w : Int} (hw : 1 ≤ w ∧ w ≤ 1000) : SOk (stepS st k w) := by
  unfold stepS
  split
  · exact ⟨h.need, by simp [h.len], fun v hv => by
      rcases List.mem_append.1 hv with hv | hv
      · exact h.wts v hv
      · simp at hv; subst hv; exact hw, by show st.sum + w = _; rw [sumL_app, h.sum]⟩
  · split
    · exact ⟨by show 0 ≤ max 0 (st.need - w); omega, h.len, h.wts, h.sum⟩
    · exact h
theorem step_hold {st : SS} (h : SOk st) {k : ET} {w G : Int} (_hw : 1 ≤ w) (hk : k.constB = true → 0 ≤ k.needOf) (hG : 0 ≤ G) (S : BitVec 16) :
    decide ((stepS st k w).need ≤ gotZ (stepS st k w).ks (stepS st k w).ws S + G) = decide (st.need ≤ gotZ st.ks st.ws S + ((if k.hold S = true then w else 0) + G)) := by
  have hr := gotZ_rng S st.ks st.ws (fun w hw => (h.wts w hw).1)
  unfold stepS
  by_cases hc : k.constB = false
  · rw [if_pos hc]
    show decide (st.need ≤ gotZ (st.ks ++ [k]) (st.ws ++ [w]) S + G) = _
    rw [gotZ_app S k w st.ks st.ws h.len, Int.add_assoc]
  · have hc' : k.constB = true := by simpa using hc
    have hn := hk hc'
    rw [if_neg hc, const_hold hc']
    by_cases h0 : k.needOf = 0
    · rw [if_pos h0, h0]
      show decide (max 0 (st.need - w) ≤ gotZ st.ks st.ws S + G) = _
      simp only [Int.le_refl, decide_true, if_true]
      rw [Bool.eq_iff_iff, decide_eq_true_iff, decide_eq_true_iff]
      omega
    · rw [if_neg h0, decide_eq_false (show ¬ k.needOf ≤ 0 by omega)]
      simp
theorem wgtW_rng {ws : List Int} (h : ∀ w ∈ ws, 1 ≤ w ∧ w ≤ 1000) {k : Nat} (hk : ws = [] ∨ k < ws.length) : 1 ≤ wgtW ws k ∧ wgtW ws k ≤ 1000 := by
  unfold wgtW
  split
  · omega
  · rename_i hne
    have hl : k < ws.length := hk.resolve_left hne
    rw [List.getD_eq_getElem?_getD, List.getElem?_eq_getElem hl]
    exact h _ (List.getElem_mem hl)
end Go.Proofs.YtmjgdnpfgkpaoaaDoor
