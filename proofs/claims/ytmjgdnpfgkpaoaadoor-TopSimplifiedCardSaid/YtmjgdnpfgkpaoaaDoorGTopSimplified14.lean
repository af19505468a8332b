/- Texts laid together. transversal.Hits, transversal.Dual. Top: awake of layer 12. Of, plain: the expression of a family, step by step. No program. The sets of a family that is found are in order; what the same sets satisfy has the same family. Plain Lean, no program. Of, plain: what the expression of a family says, and that Family leads back. No program. Rows of expressions under way; the law of Substitute, its sets. Plain lemmas, no program. A region that draws its order, inside a fence (in a round of a loop over a function, too): quiet operations in any order, and behind them, in one forced order, a tail. Over any program. expr.Equivalent. TopSimplified, plain: what its parts come to. Layer 10, plain: the dual expression. No program. expr.Dual. expr.Of. Handed drafts, as a law's frame opens them. Handed trees, choices, expressions, descriptions, as a law's frame opens them. Top: TopSimplified, walked. -/
import Derived.Test.YtmjgdnpfgkpaoaaDoorGTopSimplified1
import Derived.Test.YtmjgdnpfgkpaoaaDoorGTopSimplified2
import Derived.Test.YtmjgdnpfgkpaoaaDoorGTopSimplified3
import Derived.Test.YtmjgdnpfgkpaoaaDoorGTopSimplified4
import Derived.Test.YtmjgdnpfgkpaoaaDoorGTopSimplified6
import Derived.Test.YtmjgdnpfgkpaoaaDoorGTopSimplified7
import Derived.Test.YtmjgdnpfgkpaoaaDoorGTopSimplified8
import Derived.Test.YtmjgdnpfgkpaoaaDoorGTopSimplified9
import Derived.Test.YtmjgdnpfgkpaoaaDoorGTopSimplified10
import Derived.Test.YtmjgdnpfgkpaoaaDoorGTopSimplified13
import Derived.Test.YtmjgdnpfgkpaoaaDoorProg
import Derived.StillTail
import Derived.Sort.QuietThIn
import Derived.OwnWalkIn
import Derived.Sort.QuietTacIn
import Derived.Sort.CutIn
import Derived.Deep.RegionLaw
import Derived.OpenShut
import Derived.Deep.Slices
import Derived.Deep.Fields
import Derived.ChangeSame
namespace Go.Proofs.YtmjgdnpfgkpaoaaDoor
open Go.RowKit Go.Shelf
attribute [local go_sem] Oper.semAt_some
attribute [local simp] wide_fnx

/-- a set meets all sets of a list -/
def hitU (f : List (BitVec 16)) (s : BitVec 16) : Bool := !f.any fun x => x &&& s == 0#16
def dualSt (f o : List (BitVec 16)) (s : BitVec 16) : List (BitVec 16) := if accS o s = true then o else if hitU f s = true then o ++ [s] else o
/-- what has been found behind some subsets -/
def dualP (f pre : List (BitVec 16)) : List (BitVec 16) := pre.foldl (dualSt f) []
def dualU (f : List (BitVec 16)) : List (BitVec 16) := dualP f (subsS (supS f))
def dualE (f : List (BitVec 16)) : List (BitVec 16) × Int := if valS f ≠ 0 then ([], valS f) else if 400 < (dualU f).length then ([], 3) else (dualU f, 0)
theorem dualP_snoc (f pre : List (BitVec 16)) (s : BitVec 16) : dualP f (pre ++ [s]) = dualSt f (dualP f pre) s := by unfold dualP; rw [List.foldl_append]; rfl
theorem dualP_grow (f : List (BitVec 16)) : ∀ (l o : List (BitVec 16)), o.length ≤ (l.foldl (dualSt f) o).length
  | [], o => Nat.le_refl _
  | s :: l, o => by
    rw [List.foldl_cons]
    refine Nat.le_trans ?_ (dualP_grow f l _)
    unfold dualSt
    split
    · exact Nat.le_refl _
    · split <;> simp
theorem dualP_prefix (f : List (BitVec 16)) {pre l : List (BitVec 16)} (h : pre <+: l) : (dualP f pre).length ≤ (dualP f l).length := by
  obtain ⟨r, rfl⟩ := h
  unfold dualP
  rw [List.foldl_append]
  exact dualP_grow f r _
theorem hits1_at (w : World) (B : Nat) (s : BitVec 16) (hc : w.cell? ⟨B, 0, none⟩ = some (.int .u16 (U s))) :
    PredAt Tryd.prog 58 #[.pointer (some ⟨B, 0, none⟩)] setV2 (fun x => x &&& s == 0#16) w := fun W x hb => by
  have hc' : W.cell? ⟨B, 0, none⟩ = some (.int .u16 (U s)) := (hb.cell (p := ⟨B, 0, none⟩) (cell_lt hc)).trans hc
  unfold FnGives setV2
  clear hb hc
  go_enter Tryd.func58, Tryd.ntmps58
  go_wp2_with fail
  go_ret
  refine ⟨?_, 0, rfl⟩
  have hbA : bits BinOp.and IntKind.u16 (U x) (U s) = U (x &&& s) := bv16_and x s
  first
  | rfl
  | (rw [hbA]; congr 2; rw [Bool.eq_iff_iff]; simp [U]; constructor <;> intro h <;> first | exact h | (apply BitVec.eq_of_toNat_eq; simpa using h) | (rw [h]; rfl))
set_option maxRecDepth 100000 in
set_option maxHeartbeats 1000000 in
theorem hits_c (l : List (BitVec 16)) (s : BitVec 16) (a : Option Addr) (n c : Nat) (w : World) (h : Rd w a n c (l.map setV2)) :
    Calls Tryd.prog 31 #[.slice a n c, .int .u16 (U s)] w fun e w' => e = .returned (.bool (hitU l s)) ∧ Below w.heap.size w w' := by
  have hb0 : Below w.heap.size w (w.alloc (.cells #[.int .u16 (U s)] 52)) := (Below.refl _ w).alloc (Nat.le_refl _) _
  have HC := Lib.hid (containsF_c 58 #[.pointer (some ⟨w.heap.size, 0, none⟩)] (enters_of Tryd.func58 (by kernel_rfl) rfl) (fun x => x &&& s == 0#16) l a n c _ (h.below hb0) (hits1_at _ w.heap.size s (cell_new _ _ _ 0 _ rfl)))
  have HB := Lib.hid hb0
  clear h hb0
  go_enter Tryd.func31, Tryd.ntmps31
  go_wp2_with fail
  refine HC.out.mono ?_
  rintro e w1 ⟨rfl, hb⟩
  go_wp2_with fail
  go_ret
  exact ⟨rfl, Below.next HB.out hb⟩

def DuR (f : List (BitVec 16)) (w : World) (e : Ending) (w' : World) : Prop :=
  ∃ a' c', e = .returned (.tuple #[.slice a' (dualE f).1.length c', .int .i64 (dualE f).2]) ∧ Rd w' a' (dualE f).1.length c' ((dualE f).1.map setV) ∧ Below w.heap.size w w'

set_option maxRecDepth 100000 in
set_option maxHeartbeats 8000000 in
theorem tdual_in (f : List (BitVec 16)) (hE0 : valS f = 0) (a : Option Addr) (n c : Nat) (w : World) (ht : HasTab w) (h : Rd w a n c (f.map setV2)) :
    CallsIn Fence.wide 5 Tryd.prog 12 #[.slice a n c] w fun e w' => DuR f w e w' := by
  obtain ⟨i0, hi0, hz0, hz1, hz2⟩ := info_parts Tryd.infoSet
  have HT := Lib.hid ht
  have H1 := Lib.hid (fun (u : World) (hb : Below w.heap.size w u) => valid_c f a n c u (h.below hb))
  rw [hE0] at H1
  have H2 : Hid (∀ u : World, Below w.heap.size w u → Calls Tryd.prog 27 #[.slice a n c] u fun e w' => e = .returned (.int .u16 (U (supS f))) ∧ Below u.heap.size u w') := Lib.hid (fun u hb => (support_c f a n c u (h.below hb)).mono (by rintro e w' ⟨h1, h2⟩; exact ⟨h1, by rw [h2]; exact Below.refl _ _⟩))
  have H4 := Lib.hid (fun (s : BitVec 16) (u : World) (hb : Below w.heap.size w u) => hits_c f s a n c u (h.below hb))
  have HE : Hid (dualE f = if 400 < (dualU f).length then ([], 3) else (dualU f, 0)) := Lib.hid (by unfold dualE; rw [if_neg (by rw [hE0]; simp)])
  have HN3 : Hid (True) := Lib.hid trivial
  clear ht h hE0
  refine callsIn_of_wp_marks Tryd.func12 rfl trivial ?_ rfl
  simp only [Tryd.ntmps12, List.size_toArray, List.length_cons, List.length_nil, Nat.reduceAdd, Nat.reduceSub, Array.replicate_succ, Array.replicate_zero, List.push_toArray, List.append_toArray, List.nil_append, List.cons_append]
  gi_wp2_with fail
  generalize hW3 : ((w.alloc _).alloc _).alloc _ = w3
  obtain ⟨gX, gR, gE, hb3, hs3⟩ := box3 hW3
  have GX := Lib.hid gX
  have GR := Lib.hid gR
  have GE := Lib.hid gE
  have HB3 := Lib.hid hb3
  clear hW3 gX gR gE hb3
  refine (callsIn_wide.2 (H1.out w3 HB3.out)).mono ?_
  rintro e w4 ⟨rfl, hb4⟩
  obtain ⟨wB, hwB⟩ : ∃ wB, wB = w4.alloc (.cells #[.slice none 0 0] 33) := ⟨_, rfl⟩
  have hbB : Below w4.heap.size w4 wB := by rw [hwB]; exact (Below.refl _ _).alloc (Nat.le_refl _) _
  have gB : wB.heap[w4.heap.size]? = some (.cells #[.slice none 0 0] 33 (0, 0)) := by rw [hwB]; exact heap_alloc_new _ _
  have hsB : wB.heap.size = w4.heap.size + 1 := by rw [hwB]; simp
  have GXB := Lib.hid (heap_below (Below.next hb4 hbB) GX.out)
  have GRB := Lib.hid (heap_below (Below.next hb4 hbB) GR.out)
  have GEB := Lib.hid (heap_below (Below.next hb4 hbB) GE.out)
  have HBB := Lib.hid (Below.next HB3.out (Below.next hb4 hbB))
  have GB := Lib.hid gB
  have hs4 := hb4.size
  have HH2 := Lib.hid (H2.out wB HBB.out)
  have x0 := cell_of_row _ _ 0 _ _ _ GXB.out
  rw [hwB] at x0
  clear hb4 hbB gB GX GR GE
  gi_wp2_with fail
  rw [← hwB]
  clear x0 hwB
  refine (callsIn_wide.2 HH2.out).mono ?_
  rintro e w5 ⟨rfl, hb5⟩
  have HB5 := Lib.hid hb5
  have hs5 := hb5.size
  clear hb5
  gi_wp2_with fail
  refine (callsIn_wide.2 (subsets_c (supS f) _ _ rfl)).mono ?_
  rintro e w6 ⟨rfl, hw6⟩
  have hb6 : Below w5.heap.size w5 w6 := by rw [hw6]; exact (Below.refl _ _).alloc (Nat.le_refl _) _
  have gS6 : w6.cell? ⟨w5.heap.size, 0, none⟩ = some (.int .u16 (U (supS f))) := by rw [hw6]; exact cell_new _ _ _ 0 _ rfl
  have hs6 : w6.heap.size = w5.heap.size + 1 := by rw [hw6]; simp
  have HB6 := Lib.hid (Below.next HBB.out (Below.next HB5.out hb6))
  have G6 := Lib.hid (heap_below (Below.next HB5.out hb6) GB.out)
  have GX6 := Lib.hid (heap_below (Below.next HB5.out hb6) GXB.out)
  have GR6 := Lib.hid (heap_below (Below.next HB5.out hb6) GRB.out)
  have GE6 := Lib.hid (heap_below (Below.next HB5.out hb6) GEB.out)
  obtain ⟨Bo, hBo⟩ : ∃ Bo, w4.heap.size = Bo := ⟨_, rfl⟩
  rw [hBo] at G6 hs4 hsB ⊢
  have hBw : w.heap.size + 3 ≤ Bo := by omega
  have hB6 : Bo + 1 ≤ w6.heap.size := by omega
  have hBs : w5.heap.size < w6.heap.size := by omega
  have hBne : w5.heap.size ≠ Bo := by omega
  have HSQ := Lib.hid (fun m => subsets1_stops m w5.heap.size (CBox w6.heap.size Bo) (fun k => .inr ⟨by decide, by decide⟩) (fun t => .inl ⟨Nat.lt_of_lt_of_le (cell_lt (HT.out 0 (by decide))) HB6.out.size, by have := cell_lt (HT.out 0 (by decide)); omega⟩) (fun t => .inl ⟨hBs, hBne⟩) (supS f) w6 (HT.out.below HB6.out) gS6)
  clear hb6 gS6 hw6 HB5 HBB GB GXB GRB GEB hs5 hs6 hsB hs4 hs3 hBo
  gi_wp2_with fail
  refine rangeFunc_x rfl (by decide) rfl trivial (enters_of Tryd.func48 (by kernel_rfl) rfl) (HSQ.out _) KeepC.trans kT_b (Below.refl _ _) (fun _ => rfl)
      (fun pre Wr => FillsX w6.heap.size Bo Wr (dualP f pre) ∧ (dualP f pre).length ≤ 400 ∧ BelX Bo w6 w6.heap.size Wr)
      (fun c ys Wr => c = .ret ∧ 400 < (dualP f ys).length ∧ BelX w.heap.size w6 w6.heap.size Wr ∧ Wr.heap[w.heap.size + 1]? = some (.cells #[.slice none 0 0] 33 (0, 0)) ∧ Wr.heap[w.heap.size + 1 + 1]? = some (.cells #[.int .i64 3] 30 (0, 0)))
      ?hI ?hIx ?h0 ?done ?stop ?A
  case hI => exact OwnFrom.and (fun pre W W' row h hg hr => fillsx_own _ _ _ (dualP f pre) W W' row h hg hr) (OwnFrom.and (purex_own (p := fun pre => (dualP f pre).length ≤ 400) _) (belx_own (by omega) (by omega)))
  case hIx =>
    intro c
    exact OwnFrom.and (purex_own (p := fun _ => c = .ret) _) (OwnFrom.and (purex_own (p := fun ys => 400 < (dualP f ys).length) _) (OwnFrom.and (belx_own (by omega) (by omega)) (OwnFrom.and (blkx_own (by omega)) (blkx_own (by omega)))))
  case h0 => exact ⟨⟨_, G6.out, World.ownsRow_nil _ _ _ _, trivial⟩, Nat.zero_le _, Below.refl _ _, Nat.le_refl _⟩
  case done =>
    rintro D ys W hD rfl ⟨⟨v, hv, hrow, _⟩, hlen, hB⟩ hK
    rw [show dualP f (subsS (supS f)) = dualU f from rfl] at hrow hlen
    have HR : Hid (dualE f = (dualU f, 0)) := Lib.hid (by rw [HE.out, if_neg (by omega)])
    obtain ⟨nn, hnn⟩ : ∃ nn, (dualU f).length = nn := ⟨_, rfl⟩
    rw [hnn] at hrow
    obtain ⟨av, cv, rfl, hrd⟩ := rd_of_row hrow
    have hc := hv.cell
    have gR := (hB.1.block (w.heap.size + 1) (by omega)).trans GR6.out
    have gE := (hB.1.block (w.heap.size + 1 + 1) (by omega)).trans GE6.out
    have r0 := cell_of_row _ _ 0 _ _ _ gR
    have r1 := cell_of_row _ _ 0 _ _ _ gE
    have z0 := frozen_row gR 0
    have z1 := frozen_row gE 0
    have HGR := Lib.hid gR
    have HGE := Lib.hid gE
    have HB := Lib.hid hB
    have HV := Lib.hid hv
    have HROW := Lib.hid hrow
    clear hv hrow hB gR gE hrd
    gi_wp2_with fail
    clear r0 r1 z0 z1 hc
    generalize hWA : W.setCell _ _ = WA
    have gRA : WA.heap[w.heap.size + 1]? = some (.cells #[.slice av nn cv] 33 (0, 0)) := by rw [← hWA, heap_set_at HGR.out]; rfl
    have gEA : WA.heap[w.heap.size + 1 + 1]? = some (.cells #[.int .i64 0] 30 (0, 0)) := by rw [← hWA]; exact heap_set_other (by omega) _ _ HGE.out
    have hoA : ∀ g, g ≠ w.heap.size + 1 → WA.heap[g]? = W.heap[g]? := fun g hg => by rw [← hWA]; exact Below.heap_setCell _ ⟨w.heap.size + 1, 0, none⟩ _ g hg
    have hsA : WA.heap.size = W.heap.size := by rw [← hWA]; simp
    have hbA : Below w.heap.size W WA := by rw [← hWA]; exact (Below.refl _ _).setCell (p := ⟨w.heap.size + 1, 0, none⟩) (by show w.heap.size ≤ w.heap.size + 1; omega) _
    generalize hWZ : WA.setCell _ _ = WZ
    have gRZ : WZ.heap[w.heap.size + 1]? = some (.cells #[.slice av nn cv] 33 (0, 0)) := by rw [← hWZ]; exact heap_set_other (by omega) _ _ gRA
    have gEZ : WZ.heap[w.heap.size + 1 + 1]? = some (.cells #[.int .i64 0] 30 (0, 0)) := by rw [← hWZ, heap_set_at gEA]; rfl
    have hoZ : ∀ g, g ≠ w.heap.size + 1 → g ≠ w.heap.size + 1 + 1 → WZ.heap[g]? = W.heap[g]? := fun g h1 h2 => by rw [← hWZ]; exact (Below.heap_setCell _ ⟨w.heap.size + 1 + 1, 0, none⟩ _ g h2).trans (hoA g h1)
    have hsZ : WZ.heap.size = W.heap.size := by rw [← hWZ]; simpa using hsA
    have hbZ : Below w.heap.size W WZ := by rw [← hWZ]; exact hbA.setCell (p := ⟨w.heap.size + 1 + 1, 0, none⟩) (by show w.heap.size ≤ w.heap.size + 1 + 1; omega) _
    have hKZ : WZ.heap[D]? = some (.deferred (some [])) := (hoZ D (by omega) (by omega)).trans hK
    have hlt := HROW.out.lt
    have hBs := HB.out.2
    refine ⟨by simp, .inl ⟨_, _, rfl, run_takeDeferred hKZ, ?_⟩⟩
    have gR2 : (WZ.putObj D (.deferred none)).heap[w.heap.size + 1]? = some (.cells #[.slice av nn cv] 33 (0, 0)) := (World.putObj_heap_other (by omega)).trans gRZ
    have gE2 : (WZ.putObj D (.deferred none)).heap[w.heap.size + 1 + 1]? = some (.cells #[.int .i64 0] 30 (0, 0)) := (World.putObj_heap_other (by omega)).trans gEZ
    have f0 := cell_of_row _ _ 0 _ _ _ gR2
    have f1 := cell_of_row _ _ 0 _ _ _ gE2
    have hrow2 : WZ.ownsRow w6.heap.size 52 1 (.slice av nn cv) nn ((dualU f).map setV) := rowK_at HROW.out fun g hg => hoZ g (by have := hlt g hg; omega) (by have := hlt g hg; omega)
    have hrow3 := ownsRow_putObj hrow2 (.deferred none) hKZ rfl
    have hbF : Below w.heap.size w (WZ.putObj D (.deferred none)) := (HB6.out.trans ((HB.out.1.mono (by omega)).trans hbZ)).grown (grownBy_putObj' WZ D _) (by omega) (fun k hk => by injection hk with hk; omega)
    obtain ⟨_, _, e9, hrd⟩ := rd_of_row hrow3
    cases e9
    have HRD := Lib.hid hrd
    have HBF := Lib.hid hbF
    clear gR2 gE2 hrow2 hrow3 hbF hrd
    refine ⟨.tuple #[.slice av nn cv, .int .i64 0], ?_, ⟨av, cv, ?_, ?_, HBF.out⟩⟩
    · rw [results_cell_cell rfl]
      go_simp
    · rw [HR.out]; show _ = Ending.returned (.tuple #[.slice av (dualU f).length cv, .int .i64 0]); rw [hnn]
    · rw [HR.out]; show Rd _ av (dualU f).length cv ((dualU f).map setV); rw [hnn]; exact HRD.out
  case stop =>
    rintro D c ys W hD hp ⟨rfl, hl, hB, hr2, hr3⟩ hK
    have hgt : 400 < (dualU f).length := Nat.lt_of_lt_of_le hl (dualP_prefix f hp)
    have HR : Hid (dualE f = ([], 3)) := Lib.hid (by rw [HE.out, if_pos hgt])
    have r0 := cell_of_row _ _ 0 _ _ _ hr2
    have r1 := cell_of_row _ _ 0 _ _ _ hr3
    have hDr := hB.2
    gi_wp2_with fail
    refine ⟨by simp, .inl ⟨_, _, rfl, run_takeDeferred hK, ?_⟩⟩
    have gR2 : (W.putObj D (.deferred none)).heap[w.heap.size + 1]? = some (.cells #[.slice none 0 0] 33 (0, 0)) := (World.putObj_heap_other (by omega)).trans hr2
    have gE2 : (W.putObj D (.deferred none)).heap[w.heap.size + 1 + 1]? = some (.cells #[.int .i64 3] 30 (0, 0)) := (World.putObj_heap_other (by omega)).trans hr3
    have f0 := cell_of_row _ _ 0 _ _ _ gR2
    have f1 := cell_of_row _ _ 0 _ _ _ gE2
    have hbF : Below w.heap.size w (W.putObj D (.deferred none)) := (HB6.out.trans hB.1).grown (grownBy_putObj' W D _) (by have := HB6.out.size; omega) (fun k hk => by injection hk with hk; omega)
    have HBF := Lib.hid hbF
    clear gR2 gE2 hbF r0 r1
    refine ⟨.tuple #[.slice none 0 0, .int .i64 3], ?_, ⟨none, 0, ?_, ?_, HBF.out⟩⟩
    · rw [results_cell_cell rfl]
      go_simp
    · rw [HR.out]; rfl
    · rw [HR.out]; exact Rd.none_ _
  case A =>
    refine ⟨fun y => { tmps := #[.slice a n c, .pointer (some ⟨w.heap.size, 0, none⟩), .pointer (some ⟨w.heap.size + 1, 0, none⟩), .pointer (some ⟨w.heap.size + 1 + 1, 0, none⟩), .int .i64 0, .pointer (some ⟨Bo, 0, none⟩), .int .u16 (U y), .slice a n c, .int .i64 0, .int .i64 0, .bool false, undef, .slice a n c, .int .u16 (U (supS f)), .func (.func 48) #[] #[.pointer (some ⟨w5.heap.size, 0, none⟩)], .int .u16 (U y), undef, undef, undef, undef, undef, undef, undef, undef, undef, undef, undef, undef, undef, undef, undef, undef, undef], defers := [] }, ?_, ?_⟩
    · intro l y Wr K hK
      gi_wp2_with fail
      exact hK
    · rintro l pre y Wr ⟨⟨v, hv, hrow, _⟩, hlen, hB⟩ hlt
      have hbw : Below w.heap.size w Wr := HB6.out.trans (hB.1.mono (by omega))
      have gX := (hB.1.block w.heap.size (by omega)).trans GX6.out
      have x0 := cell_of_row _ _ 0 _ _ _ gX
      have HB := Lib.hid hB
      have HBW := Lib.hid hbw
      have HFS := Lib.hid (dualP_snoc f pre y)
      obtain ⟨O, hO⟩ : ∃ O, dualP f pre = O := ⟨_, rfl⟩
      rw [hO] at hrow hlen HFS
      obtain ⟨nn, hnn⟩ : ∃ nn, O.length = nn := ⟨_, rfl⟩
      rw [hnn] at hrow hlen
      have HV := Lib.hid hv
      have HROW := Lib.hid hrow
      have HNN := Lib.hid hnn
      obtain ⟨av, cv, rfl, hrd⟩ := rd_of_row hrow
      have HA := Lib.hid (accepts_c O y av nn cv Wr hrd)
      have hc := hv.cell
      clear hv hrow hB hbw gX hO hlt hnn hrd x0
      gi_wp2_with fail
      refine (CallsIn.inRound l (callsIn_wide.2 HA.out)).mono ?_
      rintro e W1 ⟨rfl, hb1⟩
      have hv1 : Boxed W1 Bo 33 (.slice av nn cv) := heap_below hb1 HV.out
      have hrow1 := row_below HROW.out hb1
      have HB1 : Hid (BelX Bo w6 w6.heap.size W1) := Lib.hid ⟨HB.out.1.trans (hb1.mono (by have := HB.out.2; omega)), Nat.le_trans HB.out.2 hb1.size⟩
      have HKF := Lib.hid (keepsFrom_below (B := w6.heap.size) hb1)
      have HKC := Lib.hid (KeepC.of_below (CBox w6.heap.size Bo) hb1)
      have HBW1 := Lib.hid (Below.next HBW.out hb1)
      clear hb1 HA hc
      cases hacc : accS O y
      · have gX1 := (HB1.out.1.block w.heap.size (by omega)).trans GX6.out
        have x0 := cell_of_row _ _ 0 _ _ _ gX1
        have HH := Lib.hid (H4.out y W1 HBW1.out)
        have HV1 := Lib.hid hv1
        have HR1 := Lib.hid hrow1
        clear hv1 hrow1 gX1
        gi_wp2_with fail
        refine (CallsIn.inRound l (callsIn_wide.2 HH.out)).mono ?_
        rintro e W2 ⟨rfl, hb2⟩
        have hv2 : Boxed W2 Bo 33 (.slice av nn cv) := heap_below hb2 HV1.out
        have hrow2 := row_below HR1.out hb2
        have HB2 : Hid (BelX Bo w6 w6.heap.size W2) := Lib.hid ⟨HB1.out.1.trans (hb2.mono (by have := HB1.out.2; omega)), Nat.le_trans HB1.out.2 hb2.size⟩
        have HKF2 := Lib.hid (HKF.out.trans (keepsFrom_below (B := w6.heap.size) hb2))
        have HKC2 := Lib.hid (HKC.out.trans (KeepC.of_below (CBox w6.heap.size Bo) hb2))
        have HBW2 := Lib.hid (Below.next HBW1.out hb2)
        clear hb2 HKF HKC HV1 HR1 HH x0
        cases hh : hitU f y
        · have HF2 : Hid (dualP f (pre ++ [y]) = O) := Lib.hid (by rw [HFS.out]; unfold dualSt; rw [hacc, hh]; simp)
          clear hh hacc
          have HV2 := Lib.hid hv2
          have HR2 := Lib.hid hrow2
          clear hv2 hrow2
          gi_wp2_with fail
          exact ⟨HKF2.out, HKC2.out, by rw [HF2.out]; exact ⟨_, HV2.out, by rw [HNN.out]; exact HR2.out, trivial⟩, by rw [HF2.out, HNN.out]; exact hlen, HB2.out⟩
        · have HF2 : Hid (dualP f (pre ++ [y]) = O ++ [y]) := Lib.hid (by rw [HFS.out]; unfold dualSt; rw [hacc, hh]; simp)
          clear hacc hh
          have hc := hv2.cell
          have hHB2 := HB2.out.2
          have gR := (HB2.out.1.block (w.heap.size + 1) (by omega)).trans GR6.out
          have gE := (HB2.out.1.block (w.heap.size + 1 + 1) (by omega)).trans GE6.out
          have HGR := Lib.hid gR
          have HGE := Lib.hid gE
          have hrlt := hrow2.lt
          clear gR gE
          by_cases h400 : 400 ≤ nn
          · have d4 : decide ((400 : Int) < (nn : Int) + 1) = true := decide_eq_true (by omega)
            gi_wp2_with (gi_at_builtin; refine wpListIn_append_own _ rfl _ _ 33 rfl w6.heap.size 52 i0 (.int .u16 0) 1 2 Tryd.underlying33 hi0 hz0 hz1 hz2 rfl (by decide) _ _ _ rfl (hrow2.alloc _) ⟨W2.heap.size, 0, none⟩ 1 1 [.int .u16 (U y)] rfl rfl (cell_one_new _ _ _) (by simp [Value.oneCell']) (by unfold maxLen; omega) (by omega) (by simp; omega) ?_; intro v' w1 hown' hgrow _; obtain ⟨g', cap', rfl⟩ := ownsRow_succ hown'; obtain ⟨hv1, hv2', hr2, hk2, hb2⟩ := hv2.appended (by decide) (rowK_mono hrow2 (show Bo ≤ w6.heap.size by omega)) (by omega) (Nat.le_refl Bo) (rowK_mono hown' (show Bo ≤ w6.heap.size by omega)) hgrow; have hc1 := hv1.cell; have hf1 := hv1.frozen; have gR1 := (hgrow.block (w.heap.size + 1) (by simp; omega) (fun e => by have := hrlt _ e.symm; omega)).trans ((Below.heap_alloc W2 _ _ (by omega)).trans HGR.out); have gE1 := (hgrow.block (w.heap.size + 1 + 1) (by simp; omega) (fun e => by have := hrlt _ e.symm; omega)).trans ((Below.heap_alloc W2 _ _ (by omega)).trans HGE.out); have r0 := cell_of_row _ _ 0 _ _ _ gR1; have r1 := cell_of_row _ _ 0 _ _ _ gE1; have z0 := frozen_row gR1 0; have z1 := frozen_row gE1 0; have HGR1 := Lib.hid gR1; have HGE1 := Lib.hid gE1; have HG := Lib.hid hgrow; clear gR1 gE1)
            have hB2 := HB2.out
            have hsg := HG.out.size
            generalize hWB : w1.setCell _ _ = WB at *
            generalize hWA : WB.setCell _ _ = WA
            have hkB := grownBy_setCell' w1 Bo (.slice (some ⟨g', 0, none⟩) (nn + 1) cap')
            rw [hWB] at hkB
            have hkA := grownBy_setCell' WB (w.heap.size + 1) (.slice none 0 0)
            rw [hWA] at hkA
            have hkZ := grownBy_setCell' WA (w.heap.size + 1 + 1) (.int .i64 3)
            have gRB : WB.heap[w.heap.size + 1]? = some (.cells #[.slice none 0 0] 33 (0, 0)) := by rw [← hWB]; exact heap_set_other (by omega) _ _ HGR1.out
            have gEB : WB.heap[w.heap.size + 1 + 1]? = some (.cells #[.int .i64 0] 30 (0, 0)) := by rw [← hWB]; exact heap_set_other (by omega) _ _ HGE1.out
            have gRA : WA.heap[w.heap.size + 1]? = some (.cells #[.slice none 0 0] 33 (0, 0)) := by rw [← hWA, heap_set_at gRB]; rfl
            have gEA : WA.heap[w.heap.size + 1 + 1]? = some (.cells #[.int .i64 0] 30 (0, 0)) := by rw [← hWA]; exact heap_set_other (by omega) _ _ gEB
            refine ⟨HKF2.out.trans ((hk2.from _).trans ((KeepsFrom.of_grownBy hkA (fun j hj => by injection hj with hj; omega)).trans (KeepsFrom.of_grownBy hkZ (fun j hj => by injection hj with hj; omega)))), rfl, by rw [HF2.out, List.length_append, HNN.out, List.length_singleton]; omega, ⟨?_, ?_⟩, ?_, ?_⟩
            · have hbA : Below w.heap.size WB WA := by rw [← hWA]; exact (Below.refl _ _).setCell (p := ⟨w.heap.size + 1, 0, none⟩) (by show w.heap.size ≤ w.heap.size + 1; omega) _
              exact ((hB2.1.trans hb2).mono (by omega)).trans (hbA.setCell (p := ⟨w.heap.size + 1 + 1, 0, none⟩) (by show w.heap.size ≤ w.heap.size + 1 + 1; omega) _)
            · have h9 := hb2.size
              have h8 := hkA.size
              have h7 := hkZ.size
              omega
            · exact heap_set_other (by omega) _ _ gRA
            · rw [heap_set_at gEA]; rfl
          · have d4 : decide ((400 : Int) < (nn : Int) + 1) = false := decide_eq_false (by omega)
            gi_wp2_with (gi_at_builtin; refine wpListIn_append_own _ rfl _ _ 33 rfl w6.heap.size 52 i0 (.int .u16 0) 1 2 Tryd.underlying33 hi0 hz0 hz1 hz2 rfl (by decide) _ _ _ rfl (hrow2.alloc _) ⟨W2.heap.size, 0, none⟩ 1 1 [.int .u16 (U y)] rfl rfl (cell_one_new _ _ _) (by simp [Value.oneCell']) (by unfold maxLen; omega) (by omega) (by simp; omega) ?_; intro v' w1 hown' hgrow _; obtain ⟨g', cap', rfl⟩ := ownsRow_succ hown'; obtain ⟨hv1, hv2', hr2, hk2, hb2⟩ := hv2.appended (by decide) (rowK_mono hrow2 (show Bo ≤ w6.heap.size by omega)) (by omega) (Nat.le_refl Bo) (rowK_mono hown' (show Bo ≤ w6.heap.size by omega)) hgrow; have hkk := keepC_box (v' := .slice (some ⟨g', 0, none⟩) (nn + 1) cap') hv2 hrow2 hgrow; have hr3 := hown'.kept (grownBy_setCell' w1 Bo (.slice (some ⟨g', 0, none⟩) (nn + 1) cap')) (.inr (hv1.not_row (by decide) hown').symm); have hc1 := hv1.cell; have hf1 := hv1.frozen)
            refine ⟨HKF2.out.trans (hk2.from _), HKC2.out.trans hkk, ?_, ?_, HB2.out.1.trans hb2, Nat.le_trans HB2.out.2 hb2.size⟩
            · rw [HF2.out]
              refine ⟨_, hv2', ?_, trivial⟩
              rw [List.length_append, HNN.out, List.map_append]
              exact hr3
            · rw [HF2.out, List.length_append, HNN.out, List.length_singleton]; omega
      · have HF2 : Hid (dualP f (pre ++ [y]) = O) := Lib.hid (by rw [HFS.out]; unfold dualSt; rw [hacc, if_pos rfl])
        clear hacc
        have HV1 := Lib.hid hv1
        have HR1 := Lib.hid hrow1
        clear hv1 hrow1
        gi_wp2_with fail
        exact ⟨HKF.out, HKC.out, by rw [HF2.out]; exact ⟨_, HV1.out, by rw [HNN.out]; exact HR1.out, trivial⟩, by rw [HF2.out, HNN.out]; exact hlen, HB1.out⟩
theorem tdual_c (f : List (BitVec 16)) (hE0 : valS f = 0) (a : Option Addr) (n c : Nat) (w : World) (ht : HasTab w) (h : Rd w a n c (f.map setV2)) :
    Calls Tryd.prog 12 #[.slice a n c] w fun e w' => DuR f w e w' := callsIn_wide.1 (tdual_in f hE0 a n c w ht h)
end Go.Proofs.YtmjgdnpfgkpaoaaDoor
namespace Go.Proofs.YtmjgdnpfgkpaoaaDoor
open Go.RowKit Go.Shelf

theorem mj_e : xprE majX = 0 := by decide +kernel
theorem mj_few : XprFew majX := fun k nd hk => by
  have h : ∀ nd ∈ majX.nodes, nd.kids.length ≤ 1000 := by decide +kernel
  exact h nd (List.mem_of_getElem? hk)
theorem mj_fam : famE majX = ([3#16, 5#16, 6#16], 0) := by decide +kernel
theorem mj_dual : dualE [3#16, 5#16, 6#16] = ([3#16, 5#16, 6#16], 0) := by decide +kernel
theorem mj_val : valS [3#16, 5#16, 6#16] = 0 := by decide +kernel
theorem mj_nmx : nmx majX.nodes = ((3 : Nat) : Int) := by decide +kernel
def mjD : List Frk := [frkN 2 0 1, frkN 1 0 2, frkN 1 2 1, frkN 0 3 4]
theorem mj_gro : gro (fun z => (evalS majX z).1) 3 3 0#16 [] = (5, mjD) := by kernel_rfl
def mjR (k : Nat) : List (List Int) := ([[0], [1], [0, 1], [0, 0, 1], [0, 2, 1], [0, 0, 3, 1]] : List (List Int)).take (k + 2)
theorem mj_ord : OrdD 3 mjD := fun k d h => by
  match k with
  | 0 => cases h; exact ⟨2, 0, 1, rfl, by decide, by decide, by decide, by decide, by decide, by decide, by kernel_rfl⟩
  | 1 => cases h; exact ⟨1, 0, 2, rfl, by decide, by decide, by decide, by decide, by decide, by decide, by kernel_rfl⟩
  | 2 => cases h; exact ⟨1, 2, 1, rfl, by decide, by decide, by decide, by decide, by decide, by decide, by kernel_rfl⟩
  | 3 => cases h; exact ⟨0, 3, 4, rfl, by decide, by decide, by decide, by decide, by decide, by decide, by kernel_rfl⟩
  | k + 4 => cases h
theorem mj_vis : ∃ L', visO mjD 9 5 2 (List.replicate 6 false) = some (6, L') := ⟨[false, false, true, true, true, true], by decide +kernel⟩
theorem mj_step : ∀ k d, mjD[k]? = some d → ∃ s lo hi gl gh rl rh, StepR 3 mjD mjR k d s lo hi gl gh rl rh := fun k d h => by
  match k with
  | 0 => cases h; exact ⟨2, 0, 1, 0, 0, [0], [1], rfl, by decide, rfl, rfl, by decide, by decide, by decide, by decide, by decide, by decide, by decide +kernel, by decide, by decide, rfl⟩
  | 1 => cases h; exact ⟨1, 0, 2, 1, 0, [0], [0, 1], rfl, by decide, rfl, rfl, by decide, by decide, by decide, by decide, by decide, by decide, by decide +kernel, by decide, by decide, rfl⟩
  | 2 => cases h; exact ⟨1, 2, 1, 0, 1, [0, 1], [1], rfl, by decide, rfl, rfl, by decide, by decide, by decide, by decide, by decide, by decide, by decide +kernel, by decide, by decide, rfl⟩
  | 3 => cases h; exact ⟨0, 3, 4, 0, 0, [0, 0, 1], [0, 2, 1], rfl, by decide, rfl, rfl, by decide, by decide, by decide, by decide, by decide, by decide, by decide +kernel, by decide, by decide, rfl⟩
  | k + 4 => cases h
theorem mj_ret {w : World} {e : Ending} {w' : World} (h : RetX majX 0 w e w') : ∃ a c, e = .returned (.tuple #[.agg #[.slice a 4 c, .int .i64 3], .int .i64 0]) ∧ XM w' a 4 c majX.nodes ∧ Below w.heap.size w w' := by
  obtain ⟨a, c, h1, h2, h3⟩ := h
  exact ⟨a, c, h1, h2.xm, h3⟩
theorem mj_counts (a : Option Addr) (c : Nat) (w : World) (h : RdK 3 w a 4 c (mjD.flatMap frkC)) : Calls Tryd.prog 14 #[.agg #[.int .i64 3, .slice a 4 c, .int .i64 5]] w fun e w' => ∃ a' c', e = .returned (.tuple #[.slice a' 4 c', .int .i64 0]) ∧ Rd w' a' 4 c' (([0, 0, 3, 1] : List Int).map i6) ∧ Below w.heap.size w w' := by
  obtain ⟨L', hv⟩ := mj_vis
  exact counts_c 3 (by decide) mjD mj_ord 4 rfl (by decide) (by decide) 9 L' hv mjR rfl mj_step [0, 0, 3, 1] 0 rfl (by decide) (by decide) (by decide) a c w h
theorem mj_of (a : Option Addr) (c : Nat) (w : World) (h : XM w a 4 c majX.nodes) : Calls Tryd.prog 13 #[.agg #[.slice a 4 c, .int .i64 3]] w fun e w' => ∃ av cv, e = .returned (.tuple #[.agg #[.int .i64 3, .slice av 4 cv, .int .i64 5], .int .i64 0]) ∧ RdK 3 w' av 4 cv (mjD.flatMap frkC) ∧ Below w.heap.size w w' := by
  have h1 := dof_c majX mj_e mj_few 3 mj_nmx (by decide) a 4 c w h
  rw [mj_gro] at h1
  refine h1.mono ?_
  rintro e w' ⟨vF, rfl, hr, hb⟩
  obtain ⟨av, cv, rfl, hk⟩ := rdK_of_row hr
  exact ⟨av, cv, rfl, hk, hb⟩
theorem mj_family (a : Option Addr) (c : Nat) (w : World) (ht : HasTab w) (h : XM w a 4 c majX.nodes) : Calls Tryd.prog 7 #[.agg #[.slice a 4 c, .int .i64 3]] w fun e w' => ∃ a' c', e = .returned (.tuple #[.slice a' 3 c', .int .i64 0]) ∧ Rd w' a' 3 c' (([3#16, 5#16, 6#16] : List (BitVec 16)).map setV) ∧ Below w.heap.size w w' := by
  have h1 := family_x majX mj_e mj_few a 4 c w ht h
  unfold FamR at h1
  rw [mj_fam] at h1
  exact h1
theorem mj_tdual (a : Option Addr) (c : Nat) (w : World) (ht : HasTab w) (h : Rd w a 3 c (([3#16, 5#16, 6#16] : List (BitVec 16)).map setV)) : Calls Tryd.prog 12 #[.slice a 3 c] w fun e w' => ∃ a' c', e = .returned (.tuple #[.slice a' 3 c', .int .i64 0]) ∧ Rd w' a' 3 c' (([3#16, 5#16, 6#16] : List (BitVec 16)).map setV) ∧ Below w.heap.size w w' := by
  have h1 := tdual_c [3#16, 5#16, 6#16] mj_val a 3 c w ht h
  unfold DuR at h1
  rw [mj_dual] at h1
  exact h1
theorem mj_same (a b : Option Addr) (c c' : Nat) (w : World) (h : Rd w a 3 c (([3#16, 5#16, 6#16] : List (BitVec 16)).map setV)) (h' : Rd w b 3 c' (([3#16, 5#16, 6#16] : List (BitVec 16)).map setV)) : Calls Tryd.prog 10 #[.slice a 3 c, .slice b 3 c'] w fun e w' => e = .returned (.bool true) ∧ Below w.heap.size w w' := by
  have h1 := rsame_c _ _ a b 3 c 3 c' w h h'
  rw [decide_eq_true rfl] at h1
  exact h1
set_option maxRecDepth 100000 in
set_option maxHeartbeats 4000000 in
theorem awake12_c (w : World) (ht : HasTab w) : Calls Tryd.prog 4 #[] w fun e w' => e = .returned (.bool true) ∧ Below w.heap.size w w' := by
  have HT := Lib.hid (fun u (hb : Below w.heap.size w u) => ht.below hb)
  clear ht
  go_enter Tryd.func4, Tryd.ntmps4
  go_wp2_with fail
  with_reducible refine (majority_c w).mono ?_
  intro e w1 hr
  obtain ⟨a1, c1, rfl, hx1, hb1⟩ := mj_ret hr
  go_upto_region 2 with fail
  generalize hW2 : w1.alloc _ = W2
  obtain ⟨k2, hs2, hb2⟩ := boxes1 hW2
  have HX2 := Lib.hid (hx1.below hb2)
  have HB2 := Lib.hid (Below.next hb1 hb2)
  have p0 := cell_of_row _ _ 0 _ _ _ k2
  have p1 := cell_of_row _ _ 1 _ _ _ k2
  have K2 := Lib.hid k2
  clear hr hx1 hb1 hb2 hW2 k2
  go_wp2_with fail
  with_reducible refine (mj_family a1 c1 W2 (HT.out W2 HB2.out) HX2.out).mono ?_
  rintro e w3 ⟨a3, c3, rfl, hr3, hb3⟩
  have HR3 := Lib.hid hr3
  have HZ3 := Lib.hid hb3
  have HB3 := Lib.hid (Below.next HB2.out hb3)
  clear hr3 hb3 p0 p1
  go_wp2_with fail
  with_reducible refine (mj_tdual a3 c3 w3 (HT.out w3 HB3.out) HR3.out).mono ?_
  rintro e w4 ⟨a4, c4, rfl, hr4, hb4⟩
  have HR4 := Lib.hid hr4
  have HZ4 := Lib.hid (Below.next HZ3.out hb4)
  have HB4 := Lib.hid (Below.next HB3.out hb4)
  have k4 := heap_below HZ4.out K2.out
  have p0 := cell_of_row _ _ 0 _ _ _ k4
  have p1 := cell_of_row _ _ 1 _ _ _ k4
  clear hr4 hb4 k4 HR3
  go_wp2_with fail
  with_reducible refine (mj_of a1 c1 w4 (HX2.out.below HZ4.out)).mono ?_
  rintro e w5 ⟨a5, c5, rfl, hr5, hb5⟩
  go_upto_region 5 with fail
  generalize hW6 : w5.alloc _ = W6
  obtain ⟨k6, hs6, hb6⟩ := boxes1 hW6
  have HR6 := Lib.hid (RdK.below hr5 hb6)
  have HL6 := Lib.hid ((HR4.out.below hb5).below hb6)
  have HB6 := Lib.hid (Below.next (Below.next HB4.out hb5) hb6)
  have q0 := cell_of_row _ _ 0 _ _ _ k6
  have q1 := cell_of_row _ _ 1 _ _ _ k6
  have q2 := cell_of_row _ _ 2 _ _ _ k6
  clear hr5 hb5 hb6 hW6 k6 p0 p1 HR4
  go_wp2_with fail
  with_reducible refine (mj_counts a5 c5 W6 HR6.out).mono ?_
  rintro e w7 ⟨a7, c7, rfl, hr7, hb7⟩
  obtain ⟨b7, o7, rfl, hc7⟩ := hr7.at' (by decide)
  have h72 : w7.cell? ⟨b7, o7 + 2, none⟩ = some (.int .i64 3) := hc7 2 _ rfl
  have hle7 := hr7.le
  have hmx7 := hr7.max
  unfold maxLen at hmx7
  have H72 := Lib.hid h72
  have HL7 := Lib.hid (HL6.out.below hb7)
  have HB7 := Lib.hid (Below.next HB6.out hb7)
  clear hr7 hb7 q0 q1 q2 HL6 h72 hc7
  go_wp2_with fail
  generalize hW8 : w7.alloc _ = W8
  obtain ⟨k8, hs8, hb8⟩ := boxes1 hW8
  have hr8 : Rd W8 (some ⟨w7.heap.size, 0, none⟩) 3 3 (([3#16, 5#16, 6#16] : List (BitVec 16)).map setV) := ⟨rfl, Nat.le_refl _, by decide, fun h => (by cases h), fun _ => ⟨_, 0, rfl, fun i v hv => by
    rw [Nat.zero_add]
    refine (cell_of_row _ _ i _ _ _ k8).trans ?_
    match i with
    | 0 => cases hv; rfl
    | 1 => cases hv; rfl
    | 2 => cases hv; rfl
    | i + 3 => simp at hv⟩⟩
  have HC := Lib.hid (mj_same a4 _ c4 3 W8 (HL7.out.below hb8) hr8)
  have c78 := cell_keep hb8 H72.out
  have HB8 := Lib.hid (Below.next HB7.out hb8)
  clear hW8 k8 hb8 hr8
  with_reducible refine HC.out.mono ?_
  rintro e w9 ⟨rfl, hb9⟩
  have c79 := cell_keep hb9 c78
  have HB9 := Lib.hid (Below.next HB8.out hb9)
  clear hb9 HC c78
  go_wp2_with fail
  go_ret
  exact ⟨rfl, HB9.out⟩
end Go.Proofs.YtmjgdnpfgkpaoaaDoor
namespace Go.Proofs.YtmjgdnpfgkpaoaaDoor

/-- the servers' nodes -/
def srvN (mem : List Nat) : List Nod := mem.map fun (m : Nat) => ⟨1, (m : Int), 0, [], []⟩
/-- the indices of a set's members -/
def kidsO (mem : List Nat) (s : BitVec 16) : List Int := (memS s).map fun m => ((mem.idxOf m : Nat) : Int)
def stepO (mem : List Nat) (st : List Nod × List Int) (s : BitVec 16) : List Nod × List Int :=
  if (kidsO mem s).length = 1 then (st.1, st.2 ++ kidsO mem s) else (st.1 ++ [⟨2, 0, ((kidsO mem s).length : Int), [], kidsO mem s⟩], st.2 ++ [(st.1.length : Int)])
def memO (f : List (BitVec 16)) : List Nat := memS (supS f)
def ofT (f : List (BitVec 16)) (j : Nat) : List Nod × List Int := (f.take j).foldl (stepO (memO f)) (srvN (memO f), [])
def ofX (f : List (BitVec 16)) : Xpr :=
  if (ofT f f.length).2.length = 1 then ⟨(ofT f f.length).1, (ofT f f.length).2.getD 0 0⟩ else ⟨(ofT f f.length).1 ++ [⟨2, 0, 1, [], (ofT f f.length).2⟩], ((ofT f f.length).1.length : Int)⟩
/-- what Of answers -/
def ofE (f : List (BitVec 16)) : Xpr × Int := if valS f ≠ 0 then (⟨[], 0⟩, valS f) else if 60 < (ofX f).nodes.length then (⟨[], 0⟩, 3) else (ofX f, 0)
theorem ofT_zero (f : List (BitVec 16)) : ofT f 0 = (srvN (memO f), []) := rfl
theorem ofT_succ {f : List (BitVec 16)} {j : Nat} {s : BitVec 16} (h : f[j]? = some s) : ofT f (j + 1) = stepO (memO f) (ofT f j) s := by
  unfold ofT
  rw [List.take_add_one, h, List.foldl_append]; rfl
theorem srvN_succ {mem : List Nat} {k m : Nat} (h : mem[k]? = some m) : srvN (mem.take (k + 1)) = srvN (mem.take k) ++ [⟨1, (m : Int), 0, [], []⟩] := by
  unfold srvN
  rw [List.take_add_one, h, List.map_append]; rfl
theorem srvN_len (mem : List Nat) : (srvN mem).length = mem.length := List.length_map _
theorem kidsO_len (mem : List Nat) (s : BitVec 16) : (kidsO mem s).length = (memS s).length := List.length_map _
theorem step_len (mem : List Nat) (st : List Nod × List Int) (s : BitVec 16) : (stepO mem st s).1.length ≤ st.1.length + 1 ∧ (stepO mem st s).2.length = st.2.length + 1 := by
  unfold stepO
  split
  · rename_i h; exact ⟨Nat.le_succ _, by rw [List.length_append, h]⟩
  · simp
theorem ofT_len (f : List (BitVec 16)) : ∀ j, j ≤ f.length → (ofT f j).1.length ≤ (memO f).length + j ∧ (ofT f j).2.length = j := by
  intro j
  induction j with
  | zero => intro _; rw [ofT_zero]; exact ⟨by rw [srvN_len]; omega, rfl⟩
  | succ j ih =>
    intro hj
    have h1 := ih (by omega)
    rw [ofT_succ (List.getElem?_eq_getElem (show j < f.length by omega))]
    have h2 := step_len (memO f) (ofT f j) f[j]
    omega
/-! the places of servers -/
def plA (mem : List Nat) (k : Nat) : Array Value := ((List.range 12).map fun s => Value.int .i64 ((if s ∈ mem.take k then mem.idxOf s else 0 : Nat) : Int)).toArray
theorem plA_zero (mem : List Nat) : plA mem 0 = Array.replicate 12 (.int .i64 0) := by unfold plA; simp [List.range_succ, Array.replicate_succ]
theorem plA_size (mem : List Nat) (k : Nat) : (plA mem k).size = 12 := by simp [plA]
theorem plA_at (mem : List Nat) (k s : Nat) (h : s < 12) : (plA mem k)[s]? = some (.int .i64 ((if s ∈ mem.take k then mem.idxOf s else 0 : Nat) : Int)) := by
  unfold plA
  rw [List.getElem?_toArray, List.getElem?_map, List.getElem?_range h]; rfl
theorem plA_step {mem : List Nat} (hn : mem.Nodup) {k m : Nat} (h : mem[k]? = some m) (hm : m < 12) : (plA mem k).setIfInBounds m (.int .i64 (k : Int)) = plA mem (k + 1) := by
  have hk := (List.getElem?_eq_some_iff.1 h).1
  have hid : mem.idxOf m = k := by
    have e : mem[k] = m := (List.getElem?_eq_some_iff.1 h).2
    rw [← e]
    exact List.Nodup.idxOf_getElem hn k hk
  apply Array.ext_getElem?
  intro i
  rw [Array.getElem?_setIfInBounds]
  by_cases hi : i < 12
  · rw [plA_at mem (k + 1) i hi, plA_at mem k i hi, plA_size]
    by_cases e : m = i
    · subst e
      rw [if_pos rfl, if_pos hm, if_pos, hid]
      rw [List.take_add_one, h]; simp
    · rw [if_neg e]
      congr 2
      rw [List.take_add_one, h]
      have : (i ∈ mem.take k ++ (some m).toList) ↔ i ∈ mem.take k := by
        simp
        intro e2; exact absurd e2.symm e
      by_cases h3 : i ∈ mem.take k
      · rw [if_pos h3, if_pos (this.2 h3)]
      · rw [if_neg h3, if_neg (fun h4 => h3 (this.1 h4))]
  · have e1 : (plA mem (k + 1))[i]? = none := Array.getElem?_eq_none (by rw [plA_size]; omega)
    have e2 : (plA mem k)[i]? = none := Array.getElem?_eq_none (by rw [plA_size]; omega)
    rw [if_neg (by omega), e1, e2]
theorem memO_nodup (f : List (BitVec 16)) : (memO f).Nodup := by
  exact (memS_sorted _).imp (fun h => Nat.ne_of_lt h)
/-- servers of a valid family -/
theorem supS_has (l : List (BitVec 16)) (p : Nat) : hasB (supS l) p = true ↔ ∃ s ∈ l, hasB s p = true := by
  unfold supS
  have h : ∀ (l : List (BitVec 16)) (o : BitVec 16), hasB (l.foldl (fun o x => o ||| x) o) p = true ↔ (hasB o p = true ∨ ∃ s ∈ l, hasB s p = true) := by
    intro l
    induction l with
    | nil => intro o; simp
    | cons a l ih =>
      intro o
      rw [List.foldl_cons, ih]
      have : hasB (o ||| a) p = (hasB o p || hasB a p) := by unfold hasB; simp
      rw [this]
      simp only [Bool.or_eq_true, List.mem_cons]
      constructor
      · rintro ((h | h) | ⟨s, h1, h2⟩)
        · exact .inl h
        · exact .inr ⟨a, .inl rfl, h⟩
        · exact .inr ⟨s, .inr h1, h2⟩
      · rintro (h | ⟨s, h1 | h1, h2⟩)
        · exact .inl (.inl h)
        · subst h1; exact .inl (.inr h2)
        · exact .inr ⟨s, h1, h2⟩
  have := h l 0#16
  rw [this]
  constructor
  · rintro (h | h)
    · exact absurd h (by unfold hasB; simp)
    · exact h
  · exact .inr
theorem valS_ok {l : List (BitVec 16)} (h : valS l = 0) : l.length ≤ 400 ∧ (∀ j, j < l.length → e1 l j = 0) ∧ overB l = false := by
  unfold valS at h
  by_cases h1 : 400 < l.length
  · rw [if_pos h1] at h; cases h
  · rw [if_neg h1] at h
    by_cases h2 : firstE (e1 l) l.length ≠ 0
    · rw [if_pos h2] at h; exact absurd h h2
    · rw [if_neg h2] at h
      refine ⟨by omega, firstE_zero _ _ (by simpa using h2), ?_⟩
      cases ho : overB l
      · rfl
      · rw [ho] at h; cases h
theorem valS_lt {l : List (BitVec 16)} (h : valS l = 0) : ∀ s ∈ l, s.toNat < 4096 := by
  obtain ⟨_, h2, _⟩ := valS_ok h
  intro s hs
  obtain ⟨j, hj⟩ := List.getElem?_of_mem hs
  have hl := (List.getElem?_eq_some_iff.1 hj).1
  have h3 := (e1_zero (h2 j hl)).1
  rw [List.getD_eq_getElem?_getD, hj] at h3
  simp only [Option.getD_some] at h3
  unfold U at h3; omega
theorem has_lt12 {s : BitVec 16} (h : s.toNat < 4096) {p : Nat} (hp : hasB s p = true) : p < 12 := by
  refine Classical.byContradiction fun hc => ?_
  unfold hasB at hp
  rw [BitVec.getLsbD, Nat.testBit_lt_two_pow (Nat.lt_of_lt_of_le h (Nat.pow_le_pow_right (n := 2) (by omega) (show 12 ≤ p by omega)))] at hp
  cases hp
theorem mem12 {l : List (BitVec 16)} (h : valS l = 0) : ∀ m ∈ memO l, m < 12 := by
  intro m hm
  unfold memO at hm
  obtain ⟨s, hs, hp⟩ := (supS_has l m).1 (mem_memS.1 hm)
  exact has_lt12 (valS_lt h s hs) hp
theorem memO_mem {l : List (BitVec 16)} (_h : valS l = 0) {s : BitVec 16} (hs : s ∈ l) {m : Nat} (hm : m ∈ memS s) : m ∈ memO l := by
  have h1 := (mem_memS.1 hm)
  exact mem_memS.2 ((supS_has l m).2 ⟨s, hs, h1⟩)
theorem sub12 {L : List Nat} (hs : L.Pairwise (· < ·)) (h : ∀ m ∈ L, m < 12) : L.length ≤ 12 := by
  have : ∀ (L : List Nat) (b : Nat), L.Pairwise (· < ·) → (∀ m ∈ L, b ≤ m ∧ m < 12) → L.length ≤ 12 - b := by
    intro L
    induction L with
    | nil => intro b _ _; simp
    | cons a L ih =>
      intro b hp hm
      obtain ⟨h1, h2⟩ := List.pairwise_cons.1 hp
      have ha := hm a (by simp)
      have := ih (a + 1) h2 (fun m hm' => ⟨h1 m hm', (hm m (List.mem_cons_of_mem _ hm')).2⟩)
      rw [List.length_cons]; omega
  exact this L 0 hs (fun m hm => ⟨Nat.zero_le _, h m hm⟩)
theorem memO_len {l : List (BitVec 16)} (h : valS l = 0) : (memO l).length ≤ 12 := sub12 (memS_sorted _) (mem12 h)
theorem kids12 {l : List (BitVec 16)} (h : valS l = 0) {s : BitVec 16} (hs : s ∈ l) : (memS s).length ≤ 12 := sub12 (memS_sorted _) fun _m hm => has_lt12 (valS_lt h s hs) (mem_memS.1 hm)
end Go.Proofs.YtmjgdnpfgkpaoaaDoor
namespace Go.Proofs.YtmjgdnpfgkpaoaaDoor

def Rk (a b : BitVec 16) : Prop := keyS a < keyS b
def Rs (a b : BitVec 16) : Prop := keyS a < keyS b ∧ subB b a = false

theorem subs_asc (x : BitVec 16) : (subsS x).Pairwise Rk := by
  rw [subsM_dep, List.pairwise_flatMap]
  have hc : ∀ (k : Int) (n : Nat), n ∈ numsTo k (2 ^ cnt x) → n < 2 ^ cnt x ∧ ((cnt (dep (memS x) n) : Nat) : Int) = k := by
    intro k n hn
    have h1 := List.mem_filter.1 hn
    have h2 := List.mem_range.1 h1.1
    refine ⟨h2, ?_⟩
    rw [cnt_dep (memS x) (memS_16 x) (memS_sorted x) n]
    have h3 := eq_of_beq h1.2
    rw [popR_32 x n h2] at h3
    exact h3
  refine ⟨fun k _ => ?_, ?_⟩
  · rw [List.pairwise_map]
    refine List.Pairwise.imp_of_mem (fun {a b} ha hb hab => ?_) (numsTo_sorted (k : Int) (2 ^ cnt x))
    have hA := hc _ _ ha
    have hB := hc _ _ hb
    have := dep_mono (memS x) (memS_16 x) (memS_sorted x) a b hab hB.1
    unfold Rk keyS; omega
  · refine List.Pairwise.imp (fun {a b} hab s hs t ht => ?_) List.pairwise_lt_range
    obtain ⟨n, hn, rfl⟩ := List.mem_map.1 hs
    obtain ⟨m, hm, rfl⟩ := List.mem_map.1 ht
    have hA := hc _ _ hn
    have hB := hc _ _ hm
    unfold Rk keyS
    have := (dep (memS x) n).isLt
    omega
theorem famFold_good (x : Xpr) : ∀ (l o : List (BitVec 16)), l.Pairwise Rk → o.Pairwise Rs → (∀ a ∈ o, ∀ b ∈ l, keyS a < keyS b) → (l.foldl (famStep x) o).Pairwise Rs := by
  intro l
  induction l with
  | nil => intro o _ h2 _; exact h2
  | cons y l ih =>
    intro o h1 h2 h3
    rw [List.pairwise_cons] at h1
    rw [List.foldl_cons]
    have hsame : (l.foldl (famStep x) o).Pairwise Rs := ih o h1.2 h2 fun a ha b hb => h3 a ha b (List.mem_cons_of_mem _ hb)
    cases ha : accS o y
    · cases hh : holdX x y
      · have e : famStep x o y = o := by unfold famStep; rw [ha, hh]; simp
        rw [e]; exact hsame
      · have e : famStep x o y = o ++ [y] := by unfold famStep; rw [ha, hh]; simp
        rw [e]
        refine ih _ h1.2 ?_ ?_
        · rw [List.pairwise_append]
          refine ⟨h2, List.pairwise_singleton _ _, fun a ham b hb => ?_⟩
          rw [List.mem_singleton] at hb; subst hb
          refine ⟨h3 a ham b (List.mem_cons_self ..), ?_⟩
          cases hs : subB b a
          · rfl
          · have : accS o b = true := List.any_eq_true.2 ⟨a, ham, hs⟩
            rw [ha] at this; cases this
        · intro a ham b hb
          rcases List.mem_append.1 ham with h | h
          · exact h3 a h b (List.mem_cons_of_mem _ hb)
          · rw [List.mem_singleton] at h; subst h; exact h1.1 b hb
    · have e : famStep x o y = o := by unfold famStep; rw [ha]; simp
      rw [e]; exact hsame
theorem famS_good (x : Xpr) : (famS x).Pairwise Rs := famFold_good x _ [] (subs_asc _) List.Pairwise.nil (by simp)
theorem key_sub {a b : BitVec 16} (h : subB a b = true) : keyS b ≤ keyS a := by
  rcases Nat.lt_or_ge (cnt b) (cnt a) with hc | hc
  · unfold keyS; have := b.isLt; omega
  · rw [sub_eq h hc]; exact Nat.le_refl _
theorem good_eq {l : List (BitVec 16)} (hl : l.Pairwise Rs) {a b : BitVec 16} (ha : a ∈ l) (hb : b ∈ l) (h : subB a b = true) : a = b := by
  obtain ⟨i, hi, rfl⟩ := List.mem_iff_getElem.1 ha
  obtain ⟨j, hj, rfl⟩ := List.mem_iff_getElem.1 hb
  rcases Nat.lt_trichotomy i j with hij | rfl | hij
  · have h1 := (List.pairwise_iff_getElem.1 hl i j hi hj hij).1
    have := key_sub h
    omega
  · rfl
  · have h1 := (List.pairwise_iff_getElem.1 hl j i hj hi hij).2
    rw [h] at h1; cases h1
theorem good_sub {l m : List (BitVec 16)} (hl : l.Pairwise Rs) (h : ∀ s, accS l s = accS m s) : ∀ f ∈ l, f ∈ m := by
  intro f hf
  have h1 : accS l f = true := List.any_eq_true.2 ⟨f, hf, (subB_iff f f).2 fun _ h => h⟩
  rw [h] at h1
  obtain ⟨g, hg, hgf⟩ := List.any_eq_true.1 h1
  have h2 : accS m g = true := List.any_eq_true.2 ⟨g, hg, (subB_iff g g).2 fun _ h => h⟩
  rw [← h] at h2
  obtain ⟨f', hf', hfg⟩ := List.any_eq_true.1 h2
  have e : f = f' := good_eq hl hf hf' ((subB_iff _ _).2 fun i hi => (subB_iff _ _).1 hgf i ((subB_iff _ _).1 hfg i hi))
  subst e
  have : f = g := sub_eq hgf (by have := sub_cnt hfg; exact this)
  rw [this]; exact hg
/-- two lists in order, of which no set contains another: the same sets are accepted only if they are equal -/
theorem good_ext {l m : List (BitVec 16)} (hl : l.Pairwise Rs) (hm : m.Pairwise Rs) (h : ∀ s, accS l s = accS m s) : l = m :=
  ext_sorted keyS l m (hl.imp fun h => h.1) (hm.imp fun h => h.1) fun y => ⟨good_sub hl h y, good_sub hm (fun s => (h s).symm) y⟩
theorem valS_good {l : List (BitVec 16)} (h : valS l = 0) : l.Pairwise Rs := by
  obtain ⟨_, h1, h2⟩ := valS_ok h
  rw [List.pairwise_iff_getElem]
  intro i j hi hj hij
  have hm := sorted_mono h1 i j hij hj
  rw [getD_at hi, getD_at hj] at hm
  refine ⟨hm, ?_⟩
  cases hs : subB l[j] l[i]
  · rfl
  · have := (overB_iff l).2 ⟨j, i, hj, hij, by rw [getD_at hi, getD_at hj]; exact hs⟩
    rw [h2] at this; cases this

/-- do the same sets satisfy both -/
def eqvB (x y : Xpr) : Bool := (subsS (srvX x ||| srvX y)).all fun s => holdX x s == holdX y s
def eqvE (x y : Xpr) : Bool × Int := if xprE x ≠ 0 then (false, xprE x) else if xprE y ≠ 0 then (false, xprE y) else (eqvB x y, 0)
theorem eqv_iff {x y : Xpr} (hx : XprOk x) (hy : XprOk y) : eqvB x y = true ↔ ∀ s, holdX x s = holdX y s := by
  unfold eqvB
  rw [List.all_eq_true]
  constructor
  · intro h s
    have h1 := h (s &&& (srvX x ||| srvX y)) (mem_subs fun p hp => by rw [hasB_and, Bool.and_eq_true] at hp; exact hp.2)
    have e1 : holdX x (s &&& (srvX x ||| srvX y)) = holdX x s := holdX_only hx fun p hp => by rw [hasB_and, hasB_or, hp, Bool.true_or, Bool.and_true]
    have e2 : holdX y (s &&& (srvX x ||| srvX y)) = holdX y s := holdX_only hy fun p hp => by rw [hasB_and, hasB_or, hp, Bool.or_true, Bool.and_true]
    rw [e1, e2] at h1
    exact eq_of_beq h1
  · intro h s _
    rw [h s]; simp
theorem eqv_fam {x y : Xpr} (hx : XprOk x) (hy : XprOk y) : eqvB x y = decide (famS x = famS y) := by
  rw [Bool.eq_iff_iff, eqv_iff hx hy, decide_eq_true_iff]
  constructor
  · intro h
    exact good_ext (famS_good x) (famS_good y) fun s => by rw [famS_holds hx, famS_holds hy, h s]
  · intro h s
    rw [← famS_holds hx, ← famS_holds hy, h]
end Go.Proofs.YtmjgdnpfgkpaoaaDoor
namespace Go.Proofs.YtmjgdnpfgkpaoaaDoor

theorem holdTo_pre (l m : List Nod) (s : BitVec 16) : ∀ k, k ≤ l.length → holdTo (l ++ m) s k = holdTo l s k := by
  intro k
  induction k with
  | zero => intro _; rfl
  | succ k ih =>
    intro hk
    rw [holdTo, holdTo, ih (by omega)]
    congr 2
    have : (l ++ m).getD k nod0 = l.getD k nod0 := by
      rw [List.getD_eq_getElem?_getD, List.getElem?_append_left (by omega), ← List.getD_eq_getElem?_getD]
    rw [this]
theorem got_cntO {nd : Nod} (hw : nd.weights = []) (is : List Bool) : ∀ k, k ≤ nd.kids.length → gotTo nd is k = ((nd.kids.take k).countP (fun z => is.getD z.toNat false) : Int) := by
  intro k
  induction k with
  | zero => intro _; rfl
  | succ k ih =>
    intro hk
    rw [gotTo, ih (by omega), List.take_add_one, List.getElem?_eq_getElem (by omega), List.countP_append]
    have e : nd.kids.getD k 0 = nd.kids[k] := by rw [List.getD_eq_getElem?_getD, List.getElem?_eq_getElem (by omega)]; rfl
    have e2 : wgtN nd k = 1 := by unfold wgtN; rw [if_pos hw]
    rw [e, e2]
    show _ = ((_ + List.countP _ [nd.kids[k]] : Nat) : Int)
    rw [List.countP_singleton]
    split <;> simp
theorem val_all {need : Int} {ks : List Int} (hn : need = ks.length) (is : List Bool) (s : BitVec 16) : valN ⟨2, 0, need, [], ks⟩ is s = ks.all fun z => is.getD z.toNat false := by
  unfold valN
  rw [if_neg (show ¬ ((2 : Int) = 1) by decide), got_cntO rfl _ _ (Nat.le_refl _)]
  simp only [List.take_length]
  rw [Bool.eq_iff_iff, decide_eq_true_iff, List.all_eq_true, ← List.countP_eq_length, hn]
  have := List.countP_le_length (p := fun z => is.getD (z : Int).toNat false) (l := ks)
  omega
theorem val_any {ks : List Int} (is : List Bool) (s : BitVec 16) : valN ⟨2, 0, 1, [], ks⟩ is s = ks.any fun z => is.getD z.toNat false := by
  unfold valN
  rw [if_neg (show ¬ ((2 : Int) = 1) by decide), got_cntO rfl _ _ (Nat.le_refl _)]
  simp only [List.take_length]
  rw [Bool.eq_iff_iff, decide_eq_true_iff, List.any_eq_true]
  have := List.countP_pos_iff (p := fun z => is.getD (z : Int).toNat false) (l := ks)
  rw [← this]
  omega

/-- what is known of the nodes and of the list of indices when some sets have been taken -/
structure OfI (mem : List Nat) (fs : List (BitVec 16)) (st : List Nod × List Int) : Prop where
  srv : ∀ (k m : Nat), mem[k]? = some m → st.1[k]? = some (⟨1, (m : Int), 0, [], []⟩ : Nod)
  len : mem.length ≤ st.1.length
  ok : ∀ (k : Nat) (nd : Nod), st.1[k]? = some nd → nodE nd k = 0
  few : ∀ (k : Nat) (nd : Nod), st.1[k]? = some nd → nd.kids.length ≤ 12
  rng : ∀ z ∈ st.2, ∃ i : Nat, z = (i : Int) ∧ i < st.1.length
  val : ∀ s, st.2.map (fun z => (holdTo st.1 s st.1.length).getD z.toNat false) = fs.map (fun t => subB s t)

theorem ofI_srv {mem : List Nat} (h12 : ∀ m ∈ mem, m < 12) : OfI mem [] (srvN mem, []) where
  srv := fun k m h => by unfold srvN; rw [List.getElem?_map, h]; rfl
  len := by rw [srvN_len]; exact Nat.le_refl _
  ok := fun k nd h => by
    unfold srvN at h
    rw [List.getElem?_map] at h
    obtain ⟨m, hm, rfl⟩ := Option.map_eq_some_iff.1 h
    exact nodE_srv ⟨by omega, by have := h12 m (List.mem_of_getElem? hm); omega⟩
  few := fun k nd h => by
    unfold srvN at h
    rw [List.getElem?_map] at h
    obtain ⟨m, hm, rfl⟩ := Option.map_eq_some_iff.1 h
    simp
  rng := fun z hz => by cases hz
  val := fun s => rfl
theorem hold_app (l : List Nod) (nd : Nod) (s : BitVec 16) (i : Nat) (hi : i < l.length) : (holdTo (l ++ [nd]) s (l ++ [nd]).length).getD i false = (holdTo l s l.length).getD i false := by
  rw [holdTo_get _ (by rw [List.length_append]; simp; omega), holdTo_get _ hi, holdTo_pre _ _ _ _ (by omega)]
  congr 1
  rw [List.getD_eq_getElem?_getD, List.getElem?_append_left hi, ← List.getD_eq_getElem?_getD]
theorem hold_last (l : List Nod) (nd : Nod) (s : BitVec 16) : (holdTo (l ++ [nd]) s (l ++ [nd]).length).getD l.length false = valN nd (holdTo l s l.length) s := by
  rw [holdTo_get _ (by rw [List.length_append]; simp), holdTo_pre _ _ _ _ (Nat.le_refl _)]
  congr 1
  rw [List.getD_eq_getElem?_getD, List.getElem?_append_right (Nat.le_refl _)]; simp
/-- the value of a server's node -/
theorem ofI_at {mem : List Nat} {fs : List (BitVec 16)} {st : List Nod × List Int} (h : OfI mem fs st) (s : BitVec 16) {m : Nat} (hm : m ∈ mem) : (holdTo st.1 s st.1.length).getD (mem.idxOf m) false = hasB s m := by
  have hl : mem.idxOf m < mem.length := List.idxOf_lt_length_of_mem hm
  have hg : mem[mem.idxOf m]? = some m := by rw [List.getElem?_eq_getElem hl, List.getElem_idxOf]
  have hn := h.srv _ _ hg
  rw [holdTo_get _ (by have := h.len; omega)]
  rw [List.getD_eq_getElem?_getD, hn]
  unfold valN
  simp
theorem kids_all {mem : List Nat} {fs : List (BitVec 16)} {st : List Nod × List Int} (h : OfI mem fs st) (s t : BitVec 16) (ht : ∀ m ∈ memS t, m ∈ mem) : ((kidsO mem t).all fun z => (holdTo st.1 s st.1.length).getD z.toNat false) = subB s t := by
  rw [Bool.eq_iff_iff, List.all_eq_true, subB_iff]
  unfold kidsO
  constructor
  · intro h1 i hi
    have hm := mem_memS.2 hi
    have := h1 _ (List.mem_map_of_mem hm)
    rwa [Int.toNat_natCast, ofI_at h s (ht i hm)] at this
  · intro h1 z hz
    obtain ⟨m, hm, rfl⟩ := List.mem_map.1 hz
    rw [Int.toNat_natCast, ofI_at h s (ht m hm)]
    exact h1 m (mem_memS.1 hm)
theorem ofI_step {mem : List Nat} {fs : List (BitVec 16)} {st : List Nod × List Int} (h : OfI mem fs st) {t : BitVec 16} (ht : ∀ m ∈ memS t, m ∈ mem) (h12 : (memS t).length ≤ 12) : OfI mem (fs ++ [t]) (stepO mem st t) := by
  have hka := fun s => kids_all h s t ht
  have hkr : ∀ z ∈ kidsO mem t, ∃ i : Nat, z = (i : Int) ∧ i < st.1.length := fun z hz => by
    unfold kidsO at hz
    obtain ⟨m, hm, rfl⟩ := List.mem_map.1 hz
    exact ⟨_, rfl, Nat.lt_of_lt_of_le (List.idxOf_lt_length_of_mem (ht m hm)) h.len⟩
  have hkl := kidsO_len mem t
  unfold stepO
  split
  · rename_i h1
    obtain ⟨z, hz⟩ := List.length_eq_one_iff.1 h1
    rw [hz] at hka hkr ⊢
    refine ⟨h.srv, h.len, h.ok, h.few, fun y hy => ?_, fun s => ?_⟩
    · rcases List.mem_append.1 hy with hy | hy
      · exact h.rng y hy
      · exact hkr y hy
    · have := hka s
      rw [List.map_append, List.map_append, h.val s]
      simp at this ⊢
      exact this
  · have hok : nodE ⟨2, 0, ((kidsO mem t).length : Int), [], kidsO mem t⟩ st.1.length = 0 := nodE_thr (by omega) (fun w hw => by cases hw) (.inl rfl) fun k hk => by
      obtain ⟨i, rfl, hi⟩ := hkr k hk
      omega
    have hget : ∀ k nd, (st.1 ++ [(⟨2, 0, ((kidsO mem t).length : Int), [], kidsO mem t⟩ : Nod)])[k]? = some nd → (k = st.1.length ∧ nd = ⟨2, 0, ((kidsO mem t).length : Int), [], kidsO mem t⟩) ∨ st.1[k]? = some nd := fun k nd hn => by
      by_cases hk : k < st.1.length
      · rw [List.getElem?_append_left hk] at hn; exact .inr hn
      · have hl := (List.getElem?_eq_some_iff.1 hn).1
        rw [List.length_append, List.length_singleton] at hl
        have e : k = st.1.length := by omega
        subst e
        rw [List.getElem?_append_right (Nat.le_refl _)] at hn
        simp at hn
        exact .inl ⟨rfl, hn.symm⟩
    refine ⟨fun k m hm => ?_, ?_, fun k nd hn => ?_, fun k nd hn => ?_, fun z hz => ?_, fun s => ?_⟩
    · have := h.srv k m hm
      rw [List.getElem?_append_left (List.getElem?_eq_some_iff.1 this).1]; exact this
    · rw [List.length_append]; have := h.len; omega
    · rcases hget k nd hn with ⟨rfl, rfl⟩ | hn
      · exact hok
      · exact h.ok k nd hn
    · rcases hget k nd hn with ⟨rfl, rfl⟩ | hn
      · show (kidsO mem t).length ≤ 12; omega
      · exact h.few k nd hn
    · rw [List.length_append, List.length_singleton]
      rcases List.mem_append.1 hz with hz | hz
      · obtain ⟨i, e, hi⟩ := h.rng z hz
        exact ⟨i, e, by omega⟩
      · rw [List.mem_singleton] at hz
        exact ⟨_, hz, by omega⟩
    · rw [List.map_append, List.map_append, ← h.val s]
      congr 1
      · refine List.map_congr_left fun z hz => ?_
        obtain ⟨i, rfl, hi⟩ := h.rng z hz
        rw [Int.toNat_natCast]
        exact hold_app _ _ _ _ hi
      · simp only [List.map_cons, List.map_nil, Int.toNat_natCast]
        rw [hold_last, val_all rfl, hka s]
theorem ofI_top {f : List (BitVec 16)} (h : valS f = 0) : ∀ j, j ≤ f.length → OfI (memO f) (f.take j) (ofT f j) := by
  intro j
  induction j with
  | zero => intro _; rw [ofT_zero]; exact ofI_srv (mem12 h)
  | succ j ih =>
    intro hj
    have hg := List.getElem?_eq_getElem (show j < f.length by omega)
    rw [ofT_succ hg, List.take_add_one, hg]
    have hm : f[j] ∈ f := List.getElem_mem _
    exact ofI_step (ih (by omega)) (fun m hm' => memO_mem h hm hm') (kids12 h hm)
/-- the expression of a valid family, if it is not too large -/
theorem ofX_all {f : List (BitVec 16)} (h : valS f = 0) (h60 : ¬ 60 < (ofX f).nodes.length) : xprE (ofX f) = 0 ∧ XprFew (ofX f) ∧ ∀ s, holdX (ofX f) s = accS f s := by
  have H := ofI_top h f.length (Nat.le_refl _)
  have hl := ofT_len f f.length (Nat.le_refl _)
  rw [List.take_length] at H
  have hacc : ∀ s, ((ofT f f.length).2.any fun z => (holdTo (ofT f f.length).1 s (ofT f f.length).1.length).getD z.toNat false) = accS f s := fun s => by
    have h1 := congrArg (fun l => l.any id) (H.val s)
    simp only [List.any_map] at h1
    exact h1
  have h400 := (valS_ok h).1
  unfold ofX at h60 ⊢
  generalize ofT f f.length = st at *
  obtain ⟨ns, al⟩ := st
  simp only at *
  by_cases h1 : al.length = 1
  · rw [if_pos h1] at h60 ⊢
    obtain ⟨z, rfl⟩ := List.length_eq_one_iff.1 h1
    obtain ⟨i, rfl, hi⟩ := H.rng z (by simp)
    simp only [List.getD_cons_zero] at h60 ⊢
    have hi' : i < ns.length := hi
    refine ⟨?_, fun k nd hn => by have := H.few k nd hn; omega, fun s => ?_⟩
    · have hE : nodsE ns 0 = 0 := nodsE_zero _ _ fun k nd hk => by rw [Nat.zero_add]; exact H.ok k nd hk
      unfold xprE
      simp only
      rw [if_neg (by intro e; rw [e] at hi; simp at hi), if_neg h60, if_neg (by rw [hE]; simp), if_neg (by omega)]
    · have := hacc s
      simp only [List.any_cons, List.any_nil, Bool.or_false] at this
      exact this
  · rw [if_neg h1] at h60 ⊢
    simp only at h60 ⊢
    have hget : ∀ k nd, (ns ++ [(⟨2, 0, 1, [], al⟩ : Nod)])[k]? = some nd → (k = ns.length ∧ nd = ⟨2, 0, 1, [], al⟩) ∨ ns[k]? = some nd := fun k nd hn => by
      by_cases hk : k < ns.length
      · rw [List.getElem?_append_left hk] at hn; exact .inr hn
      · have hl := (List.getElem?_eq_some_iff.1 hn).1
        rw [List.length_append, List.length_singleton] at hl
        have e : k = ns.length := by omega
        subst e
        rw [List.getElem?_append_right (Nat.le_refl _)] at hn
        simp at hn
        exact .inl ⟨rfl, hn.symm⟩
    have hok : nodE ⟨2, 0, 1, [], al⟩ ns.length = 0 := nodE_thr (by omega) (fun w hw => by cases hw) (.inl rfl) fun k hk => by
      obtain ⟨i, rfl, hi⟩ := H.rng k hk
      have hi' : i < ns.length := hi
      omega
    refine ⟨?_, fun k nd hn => ?_, fun s => ?_⟩
    · have hE : nodsE (ns ++ [(⟨2, 0, 1, [], al⟩ : Nod)]) 0 = 0 := nodsE_zero _ _ fun k nd hk => by
        rw [Nat.zero_add]
        rcases hget k nd hk with ⟨rfl, rfl⟩ | hn
        · exact hok
        · exact H.ok k nd hn
      unfold xprE
      simp only
      rw [if_neg (by simp), if_neg h60, if_neg (by rw [hE]; simp), if_neg (by rw [List.length_append, List.length_singleton]; omega)]
    · rcases hget k nd hn with ⟨rfl, rfl⟩ | hn
      · show al.length ≤ 1000; omega
      · have := H.few k nd hn; omega
    · unfold holdX
      simp only [Int.toNat_natCast]
      rw [hold_last, val_any]
      exact hacc s
/-- Family leads back -/
theorem fam_of {f : List (BitVec 16)} (h : valS f = 0) (h60 : ¬ 60 < (ofX f).nodes.length) : famE (ofX f) = (f, 0) := by
  obtain ⟨hx, _, hh⟩ := ofX_all h h60
  have e : famS (ofX f) = f := good_ext (famS_good _) (valS_good h) fun s => by rw [famS_holds (xprE_ok hx), hh s]
  unfold famE
  rw [if_neg (by rw [hx]; simp), e, if_neg (by have := (valS_ok h).1; omega)]
end Go.Proofs.YtmjgdnpfgkpaoaaDoor
namespace Go.Proofs.YtmjgdnpfgkpaoaaDoor
open Go.RowKit

structure ExV where
  v : Value
  r : Int
def exVC (p : ExV) : List Value := [p.v, .int .i64 p.r]
theorem exVC_len (p : ExV) : (exVC p).length = 2 := rfl
def ExR (w : World) (p : ExV) (y : Xpr) : Prop := ∃ a c, p.v = .slice a y.nodes.length c ∧ XM w a y.nodes.length c y.nodes ∧ p.r = y.root
abbrev EB (S : Nat → Prop) (B : Nat) (w : World) (v : Value) (ys : List Xpr) : Prop := GB 2 exVC ExR S B w v 28 ys
theorem EB.lm {S : Nat → Prop} {B : Nat} {w : World} {v : Value} {ys : List Xpr} (h : EB S B w v ys) : ∃ a c, v = .slice a ys.length c ∧ LM w a ys.length c ys := by
  obtain ⟨V, h1, h2, h3⟩ := h.row
  obtain ⟨a, c, e, r⟩ := rdK_of_row h2
  refine ⟨a, c, e, rfl, r.le, r.max, r.nil, fun hn => ?_⟩
  obtain ⟨b, o, ha, hc⟩ := RdK.cells r exVC_len hn
  refine ⟨b, o, ha, fun i y hy => ?_⟩
  obtain ⟨p, hp⟩ : ∃ p, V[i]? = some p := ⟨_, List.getElem?_eq_getElem (by rw [h1]; exact (List.getElem?_eq_some_iff.1 hy).1)⟩
  obtain ⟨a', c', e1, x1, e2⟩ := (h3 i p y hp hy).r
  have q0 : w.cell? ⟨b, o + i * 2 + 0, none⟩ = some p.v := hc i p hp 0 (by omega)
  have q1 : w.cell? ⟨b, o + i * 2 + 1, none⟩ = some (.int .i64 p.r) := hc i p hp 1 (by omega)
  rw [e1] at q0
  rw [e2] at q1
  exact ⟨a', _, c', q0, x1, q1⟩
/-- one more -/
theorem EB.push {S : Nat → Prop} {B lo : Nat} {w y : World} {v u : Value} {ys : List Xpr} {z : Xpr} {a : Option Addr} {c : Nat} {V : List ExV} (h : EB S B w v ys) (hV : V.length = ys.length) (h3 : ∀ (i : Nat) p nd, V[i]? = some p → ys[i]? = some nd → RS ExR S w p nd)
    (hx : XMR lo w.heap.size w a z.nodes.length c z.nodes) (hlo : ∀ g, v.ownBlock = some g → g < lo) (hg : w.grownBy y v.ownBlock) (ho : y.ownsRow B 28 2 u (ys.length + 1) (V.flatMap exVC ++ exVC ⟨.slice a z.nodes.length c, z.root⟩)) (hv : ∀ g, u.ownBlock = some g → v.ownBlock = some g ∨ w.heap.size ≤ g) :
    ∃ S', EB S' B y u (ys ++ [z]) := by
  refine ⟨_, GB.pushes (M := [z]) (U := [⟨.slice a z.nodes.length c, z.root⟩]) (SW := Rng lo w.heap.size) h hV h3 (Below.refl _ _) hg rfl ?_ hv (fun i p nd hp hn => ?_) (fun g hg' => ⟨hg'.2, fun e => by have := hlo g e; have := hg'.1; omega⟩)⟩
  · rw [List.flatMap_cons, List.flatMap_nil, List.append_nil]; exact ho
  · have hi : i = 0 := by have := (List.getElem?_eq_some_iff.1 hp).1; simpa using this
    subst hi
    cases hp; cases hn
    exact fun w2 ha => ⟨a, c, rfl, hx w2 fun g g1 g2 => ha g ⟨g1, g2⟩, rfl⟩

/-- the servers whose expressions a set satisfies, and the others in it -/
def trT (ys : List Xpr) (S : BitVec 16) : Nat → BitVec 16
  | 0 => S
  | k + 1 => if holdX (ys.getD k ⟨[], 0⟩) S = true then (trT ys S k &&& ~~~bitS k) ||| bitS k else trT ys S k &&& ~~~bitS k
theorem trT_has (ys : List Xpr) (S : BitVec 16) : ∀ k, k ≤ ys.length → k ≤ 12 → ∀ sv, sv < 12 → hasB (trT ys S k) sv = if sv < k then holdX (ys.getD sv ⟨[], 0⟩) S else hasB S sv
  | 0, _, _, sv, _ => by rw [if_neg (by omega)]; rfl
  | k + 1, h1, h2, sv, hsv => by
    have ih := trT_has ys S k (by omega) (by omega) sv hsv
    have hb : hasB (bitS k) sv = decide (sv = k) := hasB_bit k sv (by omega)
    have hn : hasB (~~~bitS k) sv = !decide (sv = k) := by rw [hasB_not _ _ (by omega), hb]
    have key : trT ys S (k + 1) = if holdX (ys.getD k ⟨[], 0⟩) S = true then (trT ys S k &&& ~~~bitS k) ||| bitS k else trT ys S k &&& ~~~bitS k := rfl
    by_cases e : sv = k
    · subst e
      have hr : (if sv < sv + 1 then holdX (ys.getD sv ⟨[], 0⟩) S else hasB S sv) = holdX (ys.getD sv ⟨[], 0⟩) S := if_pos (by omega)
      rw [hr, key]
      cases hh : holdX (ys.getD sv ⟨[], 0⟩) S
      · rw [if_neg (by simp), hasB_and, hn]; simp
      · rw [if_pos rfl, hasB_or, hb]; simp
    · have hr : (if sv < k + 1 then holdX (ys.getD sv ⟨[], 0⟩) S else hasB S sv) = if sv < k then holdX (ys.getD sv ⟨[], 0⟩) S else hasB S sv := by
        by_cases h : sv < k
        · rw [if_pos h, if_pos (by omega)]
        · rw [if_neg h, if_neg (by omega)]
      rw [hr, ← ih, key]
      cases hh : holdX (ys.getD k ⟨[], 0⟩) S
      · rw [if_neg (by simp), hasB_and, hn]; simp [e]
      · rw [if_pos rfl, hasB_or, hasB_and, hn, hb]; simp [e]
theorem trT_law {x : Xpr} (hx : xprE x = 0) (ys : List Xpr) (hys : ∀ y ∈ ys, XprOk y) (hl : ys.length ≤ 12) (S : BitVec 16) (hs : (treY x (subL ys)).sz ≤ 60) : holdX (treY x (subL ys)).xpr S = holdX x (trT ys S ys.length) := by
  refine subst_law hx ys hys S _ (fun sv hsv => ?_) hs
  rw [trT_has ys S ys.length (Nat.le_refl _) hl sv hsv]
  by_cases h : sv < ys.length
  · rw [if_pos h, List.getElem?_eq_getElem h, List.getD_eq_getElem?_getD, List.getElem?_eq_getElem h]; rfl
  · rw [if_neg h, List.getElem?_eq_none (by omega)]
mutual
theorem post_few (t : ET) : ∀ (b j : Nat) nd, (t.post b)[j]? = some nd → nd.kids.length ≤ t.sz := by
  cases t with
  | srv s =>
    intro b j nd h
    rw [ET.post] at h
    have hj : j = 0 := by have := (List.getElem?_eq_some_iff.1 h).1; simpa using this
    subst hj; cases h
    simp
  | thr n ws ks =>
    intro b j nd h
    rw [ET.post] at h
    rw [ET.sz]
    by_cases hj : j < (ETs.post ks b).length
    · rw [List.getElem?_append_left hj] at h
      have := posts_few ks b j nd h
      omega
    · rw [List.getElem?_append_right (by omega)] at h
      have h2 : j - (ETs.post ks b).length = 0 := by have := (List.getElem?_eq_some_iff.1 h).1; simpa using this
      rw [h2] at h
      cases h
      show (ETs.idx ks b).length ≤ _
      rw [ETs.idx_len]
      have := ETs.sz_ge ks
      omega
theorem posts_few (ts : List ET) : ∀ (b j : Nat) nd, (ETs.post ts b)[j]? = some nd → nd.kids.length ≤ ETs.sz ts := by
  cases ts with
  | nil => intro b j nd h; simp [ETs.post] at h
  | cons t ts =>
    intro b j nd h
    rw [ETs.post] at h
    rw [ETs.sz]
    by_cases hj : j < (t.post b).length
    · rw [List.getElem?_append_left hj] at h
      have := post_few t b j nd h
      omega
    · rw [List.getElem?_append_right (by omega)] at h
      have := posts_few ts _ _ nd h
      omega
end
theorem xpr_few {t : ET} (h : t.sz ≤ 1000) : XprFew t.xpr := fun k nd hk => by have := post_few t 0 k nd hk; omega
end Go.Proofs.YtmjgdnpfgkpaoaaDoor
namespace Go.Proofs.YtmjgdnpfgkpaoaaDoor
open Go.RowKit
section
variable {F : Fence} {d : Nat} {P : Program} {ops : Array Oper} {md : Region.Mode} {C : World → Prop}

def noDefer (ops : Array Oper) : Bool := ops.all fun o => match o.op with | .defer _ => false | _ => true
theorem noDefer_at {ops : Array Oper} (h : noDefer ops = true) {i : Nat} {o : Oper} (hi : ops[i]? = some o) : ∀ c, o.op ≠ .defer c := fun c hc => by
  unfold noDefer at h
  obtain ⟨hlt, e⟩ := Array.getElem?_eq_some_iff.1 hi
  have := Array.all_eq_true.1 h i hlt
  rw [e, hc] at this
  cases this
theorem wpIn_of_quiet_r {o : Oper} {a : Act} {K : Act → Prop} {K' : Act → World → Prop} {Q' : Exit → Act → World → Prop} {w : World} (hnd : ∀ c, o.op ≠ .defer c) (hw : C w) (h : ∀ a w', C w' → K a → K' a w')
    (ha : o.askedIn F P a C) (hh : o.quietIn F d P a C K) : o.wpIn F d P a w K' Q' := by
  obtain ⟨v, h1, h2⟩ := hh
  have h3 := h1 w hw
  unfold Oper.quietAtIn at h3
  unfold Oper.wpIn
  refine ⟨ha w hw, ?_⟩
  rw [Oper.semAt_plain F _ _ hnd]
  generalize (execOp a.eval o).run P w = r at *
  cases r with
  | ok x w' =>
    cases x <;> simp only [Oper.quietUponIn] at h3 <;> simp only [Oper.uponIn]
    case value u =>
      obtain ⟨e1, e2⟩ := h3
      rw [e1, e2]
      exact h _ _ hw h2
    case skip =>
      obtain ⟨e1, e2⟩ := h3
      rw [e1, ← e2]
      exact h _ _ hw h2
    case enter f args =>
      obtain ⟨e1, hd, hc⟩ := h3
      rw [e1]
      exact ⟨hd, hc.mono fun e w'' ⟨he, hw''⟩ => by subst he; exact h _ _ hw'' h2⟩
  | halt x w' => simp only [Oper.quietUponIn] at h3
theorem wpOpIn_of_qOpIn_r {i : Nat} {a : Act} {K : Act → Prop} {K' : Act → World → Prop} {Q' : Exit → Act → World → Prop} {w : World} (hnd : noDefer ops = true) (hC : C w) (h : ∀ a w', C w' → K a → K' a w')
    (hh : qOpIn F d P ops C i K a) : wpOpIn F d P ops Q' i K' a w := by
  unfold qOpIn at hh
  unfold wpOpIn
  split
  · rename_i ho; simp only [ho] at hh; exact h _ _ hC hh
  · rename_i o ho
    simp only [ho] at hh
    obtain ⟨ha, hh⟩ := hh
    split
    · rename_i hw; simp only [hw, if_true] at hh; exact wpIn_of_quiet_r (noDefer_at hnd ho) hC h ha hh
    · rename_i hw; simp only [hw] at hh; exact ⟨ha w hC, h _ _ hC hh⟩
theorem wpAnyIn_of_quiet_r {Q : Act → Prop} {Q' : Exit → Act → World → Prop} (hnd : noDefer ops = true) (hQ : ∀ a w, C w → Q a → Q' .normal a w) : ∀ (fuel : Nat) (listed : Array Bool) (a : Act) (w : World), C w →
    wpAnyQIn F d P md ops C Q fuel listed a → wpAnyIn F d P md ops Q' fuel listed a w
  | 0, _, _, _, hw, h => ⟨h.1, hQ _ _ hw h.2⟩
  | fuel + 1, _, _, _, hw, h => ⟨fun h0 => hQ _ _ hw (h.1 h0), fun i hi => wpOpIn_of_qOpIn_r hnd hw (fun a' w' hw' => wpAnyIn_of_quiet_r hnd hQ fuel _ a' w' hw') (h.2 i hi)⟩
/-- one walk of the order of the text serves every order, in a round too -/
theorem wpIn_region_quiet_r {id : Nat} {Q : Exit → Act → World → Prop} {a : Act} {w : World} {l : List Oper} (C : World → Prop) (hm : P.follows .mixedOrders = true) (hB : (noDefer l.toArray && Region.lexB .any l.toArray) = true) (hC : C { w with drawn := w.drawn + 1 })
    (h : wpQuietIn F d P l.toArray C (fun a' => ∀ w', C w' → Q .normal a' w') l a) : (Code.region id l.toArray true).wpIn F d P Q a w := by
  simp only [Region.lexB, Bool.and_eq_true] at hB
  refine wpIn_region_any hm (wpAnyIn_of_quiet_r (Q := fun a' => ∀ w', C w' → Q .normal a' w') hB.1 (fun _ w' hw' h => h w' hw') _ _ _ _ hC ?_)
  have := wpAnyQIn_lex (F := F) (n := d) (C := C) (md := .any) hB.2.1 l 0 (Array.replicate l.length false) a (by simp) (by simpa using hB.2.2) h
  simpa using this

def headQIn (F : Fence) (d : Nat) (P : Program) (md : Region.Mode) (ops : Array Oper) (C : World → Prop) (n : Nat) (L : Array Bool → Act → Prop) : Nat → Array Bool → Act → Prop
  | 0, listed, a => L listed a
  | f + 1, listed, a => Region.ready md ops listed ≠ [] ∧ ∀ i ∈ Region.ready md ops listed, i < n ∧ qOpIn F d P ops C i (headQIn F d P md ops C n L f (listed.setIfInBounds i true)) a

theorem any_of_headQIn {n g : Nat} {L : Array Bool → Act → Prop} {Q' : Exit → Act → World → Prop} (hnd : noDefer ops = true) (hL : ∀ listed a w, C w → L listed a → wpAnyIn F d P md ops Q' g listed a w) :
    ∀ (f : Nat) (listed : Array Bool) (a : Act) (w : World), C w → headQIn F d P md ops C n L f listed a → wpAnyIn F d P md ops Q' (f + g) listed a w
  | 0, listed, a, w, hw, h => by rw [Nat.zero_add]; exact hL _ _ _ hw h
  | f + 1, listed, a, w, hw, h => by
    rw [show f + 1 + g = (f + g) + 1 by omega]
    exact ⟨fun h0 => absurd h0 h.1, fun i hi => wpOpIn_of_qOpIn_r hnd hw (fun a' w' hw' h' => any_of_headQIn hnd hL f _ a' w' hw' h') (h.2 i hi).2⟩

theorem headQIn_first {n i : Nat} {oi : Oper} {v : Value} {L : Array Bool → Act → Prop} (hi : ops[i]? = some oi) (hsel : ∀ (j : Nat) (o : Oper) cs b, ops[j]? = some o → o.op ≠ .select cs b)
    (hs : Region.sinkB md ops n = true) (hc : Region.chainB md ops n = true) (hn : n < ops.size) (hin : i < n)
    (hdone : ∀ listed a, L listed a → ∀ j ∈ Region.ready md ops listed, n ≤ j) :
    ∀ (f : Nat) (listed : Array Bool) (a : Act), HeadInv md ops n listed →
      (∀ j oj, ops[j]? = some oj → j ≠ i → listed.getD j true = false → (∀ e ∈ oj.after, Region.binds md e = true → e.on ≠ i) → oi.apart ops oj = true) →
      i ∈ Region.ready md ops listed → YieldsQuiet F d P ops C oi v a →
      headQIn F d P md ops C n L f (listed.setIfInBounds i true) (a.put oi.dst v) → headQIn F d P md ops C n L (f + 1) listed a := by
  intro f
  induction f with
  | zero =>
    intro listed a inv _ hr hy H
    have hun := (mem_ready.1 hr).1
    refine ⟨fun h => (by rw [h] at hr; cases hr), fun j hj => ?_⟩
    have hjn : j < n := by
      rcases Nat.lt_or_ge j n with h | h
      · exact h
      · exact absurd hj (tail_waits hs hc hn inv _ i rfl hin hun j h)
    refine ⟨hjn, ?_⟩
    by_cases hji : j = i
    · subst hji; exact hy.qOpIn hi H
    · have := hdone _ _ H j (ready_mono hj hji)
      omega
  | succ f ih =>
    intro listed a inv hfree hr hy H
    have hun := (mem_ready.1 hr).1
    refine ⟨fun h => (by rw [h] at hr; cases hr), fun j hj => ?_⟩
    have hjn : j < n := by
      rcases Nat.lt_or_ge j n with h | h
      · exact h
      · exact absurd hj (tail_waits hs hc hn inv _ i rfl hin hun j h)
    refine ⟨hjn, ?_⟩
    by_cases hji : j = i
    · subst hji; exact hy.qOpIn hi H
    · have h1 := (H.2 j (ready_mono hj hji)).2
      obtain ⟨hjun, oj, hoj, hall⟩ := mem_ready.1 hj
      have hnot : ∀ e ∈ oj.after, Region.binds md e = true → e.on ≠ i := fun e he hb heq => by
        have h1 := hall e he hb
        rw [heq, getD_both hun] at h1
        cases h1
      have h2 := qOpIn_put hoj (hfree j oj hoj hji hjun hnot) (fun cs b => hsel i oi cs b hi) (fun cs b => hsel j oj cs b hoj) hy h1
      have hfree' : ∀ k ok, ops[k]? = some ok → k ≠ i → (listed.setIfInBounds j true).getD k true = false →
          (∀ e ∈ ok.after, Region.binds md e = true → e.on ≠ i) → oi.apart ops ok = true := fun k ok hk hki hun hno => by
        refine hfree k ok hk hki ?_ hno
        by_cases hjk : j = k
        · subst hjk; exact hjun
        · rw [getD_set_ne true hjk] at hun; exact hun
      refine qOpIn_mono (fun a' h3 => ih (listed.setIfInBounds j true) a' (inv.set hj hjn) hfree' (ready_mono hr (Ne.symm hji)) h3.1 ?_) h2
      rw [Array.setIfInBounds_comm _ _ hji]
      exact h3.2

theorem headQIn_lex {n g : Nat} {Lq : Act → Prop} (hsel : Region.noSelect ops = true) (hs : Region.sinkB md ops n = true) (hc : Region.chainB md ops n = true) (hn : n < ops.size) :
    ∀ (l : List Oper) (k : Nat) (listed : Array Bool) (a : Act), (∀ j, j < l.length → l[j]? = ops[k + j]?) → k + l.length = n → HeadInv md ops n listed →
    Region.lexHead md ops g l.length k listed = true → wpQuietIn F d P ops C Lq l a →
    headQIn F d P md ops C n (fun listed' a' => Region.seqB md ops g n listed' = true ∧ Lq a') l.length listed a
  | [], k, listed, a, _, hk, _, hB, h => by
    have : k = n := by simpa using hk
    subst this
    exact ⟨by simpa [Region.lexHead] using hB, h⟩
  | o :: l, k, listed, a, hl, hk, inv, hB, h => by
    have h0 : ops[k]? = some o := by simpa using (hl 0 (by simp)).symm
    simp only [List.length_cons, Region.lexHead, Bool.and_eq_true] at hB
    obtain ⟨⟨hr, hf⟩, hB'⟩ := hB
    have hkn : k < n := by simp only [List.length_cons] at hk; omega
    have hr' : k ∈ Region.ready md ops listed := by simpa using hr
    have hst : qOpIn F d P ops C k (wpQuietIn F d P ops C Lq l) a := by unfold qOpIn; simp only [h0]; exact h
    obtain ⟨v, hy, hK⟩ := yieldsQuiet_of_qOpIn h0 hst
    exact headQIn_first h0 (Region.noSelect_spec hsel) hs hc hn hkn (fun listed' a' hL => seqB_ready hL.1) l.length listed a inv (Region.free_spec h0 hf) hr' hy
      (headQIn_lex hsel hs hc hn l (k + 1) _ _ (fun j hj => by have := hl (j + 1) (by simp; omega); simpa [Nat.add_assoc, Nat.add_comm 1 j] using this) (by simp only [List.length_cons] at hk; omega) (inv.set hr' hkn) hB' hK)

theorem wpAnyIn_of_seq {Q' : Exit → Act → World → Prop} : ∀ (l : List Oper) (k : Nat) (listed : Array Bool) (a : Act) (w : World), (∀ j, l[j]? = ops[k + j]?) →
    Region.seqB md ops l.length k listed = true → wpListIn F d P ops Q' l a w → wpAnyIn F d P md ops Q' l.length listed a w
  | [], _, _, _, _, _, hB, h => ⟨by simpa [Region.seqB] using hB, h⟩
  | o :: l, k, listed, a, w, hl, hB, h => by
    have h0 : ops[k]? = some o := by simpa using (hl 0).symm
    simp only [List.length_cons, Region.seqB, Bool.and_eq_true, decide_eq_true_eq] at hB
    refine ⟨fun h1 => (by rw [hB.1] at h1; cases h1), fun i hi => ?_⟩
    rw [hB.1] at hi
    have hik : i = k := by simpa using hi
    subst hik
    have hw : wpOpIn F d P ops Q' i (wpListIn F d P ops Q' l) a w := by unfold wpOpIn; simp only [h0]; exact h
    exact wpOpIn_mono (fun a' w' h' => wpAnyIn_of_seq l (i + 1) _ a' w' (fun j => by have := hl (j + 1); simpa [Nat.add_assoc, Nat.add_comm 1 j] using this) hB.2 h') hw
/-- one walk in the order of the text serves every order; the tail stands behind, in any world of the class -/
theorem wpIn_region_quiet_tail {id : Nat} {Q : Exit → Act → World → Prop} {a : Act} {w : World} {l : List Oper} (C : World → Prop) (n : Nat) (hm : P.follows .mixedOrders = true) (hB : (noDefer l.toArray && Region.lexTailB .any l.toArray n) = true) (hC : C { w with drawn := w.drawn + 1 })
    (h : wpQuietIn F d P l.toArray C (fun a' => ∀ w', C w' → wpListIn F d P l.toArray Q (l.drop n) a' w') (l.take n) a) : (Code.region id l.toArray true).wpIn F d P Q a w := by
  simp only [Region.lexTailB, Bool.and_eq_true, decide_eq_true_eq] at hB
  obtain ⟨hnd, ⟨⟨⟨hsel, hn⟩, hs⟩, hc⟩, hlex⟩ := hB
  have hn' : n < l.length := by simpa using hn
  have htl : (l.take n).length = n := by simp; omega
  have hdl : (l.drop n).length = l.toArray.size - n := by simp
  have inv0 : HeadInv .any l.toArray n (Array.replicate l.toArray.size false) :=
    ⟨by simp, fun j oj _ hl => (by rw [getD_replicate_false] at hl; cases hl), fun t _ ht => getD_in (by simpa using ht) (getD_replicate_false _ _)⟩
  have H := headQIn_lex (md := .any) (C := C) (g := l.toArray.size - n) hsel hs hc hn (l.take n) 0 _ a (fun j hj => by
    have hj' : j < n := by rw [htl] at hj; exact hj
    simp [hj']) (by simpa using htl) inv0 (by rw [htl]; exact hlex) h
  refine wpIn_region_any hm ?_
  have := any_of_headQIn (Q' := Q) (g := l.toArray.size - n) hnd (fun listed a' w' hw' hL => by
    have := wpAnyIn_of_seq (md := .any) (Q' := Q) (l.drop n) n listed a' w' (fun j => by simp [List.getElem?_drop]) (by rw [hdl]; exact hL.1) (hL.2 w' hw')
    rwa [hdl] at this) _ _ _ _ hC H
  rw [htl, show n + (l.toArray.size - n) = l.toArray.size by omega] at this
  exact this
end
end Go.Proofs.YtmjgdnpfgkpaoaaDoor
namespace Go.Proofs.YtmjgdnpfgkpaoaaDoor
open Go.RowKit Go.Shelf
attribute [local go_sem] Oper.semAt_some
attribute [local simp] wide_fnx

theorem box5 {w W5 : World} {c0 c1 c2 c3 c4 : Array Value} {t0 t1 t2 t3 t4 : TypeId} (h : ((((w.alloc (.cells c0 t0)).alloc (.cells c1 t1)).alloc (.cells c2 t2)).alloc (.cells c3 t3)).alloc (.cells c4 t4) = W5) :
    W5.heap[w.heap.size]? = some (.cells c0 t0 (0, 0)) ∧ W5.heap[w.heap.size + 1]? = some (.cells c1 t1 (0, 0)) ∧ W5.heap[w.heap.size + 1 + 1]? = some (.cells c2 t2 (0, 0)) ∧ W5.heap[w.heap.size + 1 + 1 + 1]? = some (.cells c3 t3 (0, 0)) ∧ W5.heap[w.heap.size + 1 + 1 + 1 + 1]? = some (.cells c4 t4 (0, 0)) ∧ Below w.heap.size w W5 ∧ W5.heap.size = w.heap.size + 5 := by
  obtain ⟨W3, hW3⟩ : ∃ W3, ((w.alloc (.cells c0 t0)).alloc (.cells c1 t1)).alloc (.cells c2 t2) = W3 := ⟨_, rfl⟩
  rw [hW3] at h
  obtain ⟨g0, g1, g2, hb, hs⟩ := box3 hW3
  obtain ⟨g3, g4, hb2, hs2⟩ := box2' h
  have e : w.heap.size + 1 + 1 + 1 = W3.heap.size := by omega
  rw [e]
  exact ⟨heap_below hb2 g0, heap_below hb2 g1, heap_below hb2 g2, g3, g4, hb.trans (hb2.mono (by omega)), by omega⟩
theorem fin2 {w w4 WF : World} {R E : Nat} {p u q z : Value} {t t' : TypeId} (hR : w4.heap[R]? = some (.cells #[p] t (0, 0))) (hE : w4.heap[E]? = some (.cells #[q] t' (0, 0))) (hne : R ≠ E) (hRb : w.heap.size ≤ R) (hEb : w.heap.size ≤ E) (hb : Below w.heap.size w w4) (hW : (w4.setCell ⟨R, 0, none⟩ u).setCell ⟨E, 0, none⟩ z = WF) :
    WF.heap[R]? = some (.cells #[u] t (0, 0)) ∧ WF.heap[E]? = some (.cells #[z] t' (0, 0)) ∧ Below w.heap.size w WF ∧ (∀ g, g ≠ R → g ≠ E → WF.heap[g]? = w4.heap[g]?) ∧ WF.heap.size = w4.heap.size := by
  subst hW
  have h1 : (w4.setCell ⟨R, 0, none⟩ u).heap[R]? = some (.cells #[u] t (0, 0)) := by rw [heap_set_at hR]; rfl
  have h2 : (w4.setCell ⟨R, 0, none⟩ u).heap[E]? = some (.cells #[q] t' (0, 0)) := heap_set_other (Ne.symm hne) _ _ hE
  refine ⟨heap_set_other hne _ _ h1, by rw [heap_set_at h2]; rfl, (hb.setCell (p := ⟨R, 0, none⟩) hRb _).setCell (p := ⟨E, 0, none⟩) hEb _, fun g h3 h4 => ?_, by simp⟩
  rw [Below.heap_setCell _ ⟨E, 0, none⟩ _ g h4, Below.heap_setCell _ ⟨R, 0, none⟩ _ g h3]
set_option maxRecDepth 100000 in
set_option maxHeartbeats 8000000 in
theorem equiv_in (x y : Xpr) (hfx : XprFew x) (hfy : XprFew y) (a : Option Addr) (n c : Nat) (a2 : Option Addr) (n2 c2 : Nat) (w : World) (ht : HasTab w) (h : XM w a n c x.nodes) (h2 : XM w a2 n2 c2 y.nodes) :
    CallsIn Fence.wide 5 Tryd.prog 8 #[.agg #[.slice a n c, .int .i64 x.root], .agg #[.slice a2 n2 c2, .int .i64 y.root]] w fun e w' => e = .returned (.tuple #[.bool (eqvE x y).1, .int .i64 (eqvE x y).2]) ∧ Below w.heap.size w w' := by
  have HT := Lib.hid ht
  have HX := Lib.hid (fun (u : World) (hb : Below w.heap.size w u) => xpr_c x a n c u (h.below hb))
  have HY := Lib.hid (fun (u : World) (hb : Below w.heap.size w u) => xpr_c y a2 n2 c2 u (h2.below hb))
  have HSX := Lib.hid (fun (hx : XprOk x) (u : World) (hb : Below w.heap.size w u) => servers_x x hx a n c u (h.below hb))
  have HSY := Lib.hid (fun (hx : XprOk y) (u : World) (hb : Below w.heap.size w u) => servers_x y hx a2 n2 c2 u (h2.below hb))
  have HHX := Lib.hid (fun (hx : XprOk x) (s : BitVec 16) (u : World) (hb : Below w.heap.size w u) => holds_c x hx hfx s a n c u (h.below hb))
  have HHY := Lib.hid (fun (hx : XprOk y) (s : BitVec 16) (u : World) (hb : Below w.heap.size w u) => holds_c y hx hfy s a2 n2 c2 u (h2.below hb))
  have HOX : Hid (xprE x = 0 → XprOk x) := Lib.hid xprE_ok
  have HOY : Hid (xprE y = 0 → XprOk y) := Lib.hid xprE_ok
  have HE : Hid (eqvE x y = if xprE x ≠ 0 then (false, xprE x) else if xprE y ≠ 0 then (false, xprE y) else (eqvB x y, 0)) := Lib.hid rfl
  obtain ⟨EX, hEX⟩ : ∃ EX, xprE x = EX := ⟨_, rfl⟩
  obtain ⟨EY, hEY⟩ : ∃ EY, xprE y = EY := ⟨_, rfl⟩
  rw [hEX] at HX HOX HE
  rw [hEY] at HY HOY HE
  obtain ⟨EV, hEV⟩ : ∃ EV, eqvE x y = EV := ⟨_, rfl⟩
  rw [hEV] at HE ⊢
  clear ht h h2 hfx hfy hEX hEY hEV
  refine callsIn_of_wp_marks Tryd.func8 rfl trivial ?_ rfl
  simp only [Tryd.ntmps8, List.size_toArray, List.length_cons, List.length_nil, Nat.reduceAdd, Nat.reduceSub, Array.replicate_succ, Array.replicate_zero, List.push_toArray, List.append_toArray, List.nil_append, List.cons_append]
  gi_wp2_with fail
  generalize hW5 : ((((w.alloc _).alloc _).alloc _).alloc _).alloc _ = w5
  obtain ⟨gX, gY, gR, gE, gL, hb5, hs5⟩ := box5 hW5
  have GX := Lib.hid gX
  have GY := Lib.hid gY
  have GR := Lib.hid gR
  have GE := Lib.hid gE
  have GL := Lib.hid gL
  have HB5 := Lib.hid hb5
  clear hW5 gX gY gR gE gL hb5
  gi_loopw [14] (fun i wr => ∃ k : Nat, k ≤ 2 ∧ i = .int .i64 ((k : Nat) : Int) ∧ Hid (0 < k → EX = 0) ∧ Hid (1 < k → EY = 0) ∧ Below w5.heap.size w5 wr) (fun i _ => 2 - (intOf i).toNat)
  case atStart => exact ⟨0, by omega, rfl, Lib.hid (fun h => by omega), Lib.hid (fun h => by omega), Below.refl _ _⟩
  case round =>
    obtain ⟨k, hk, rfl, h0, h1, hb⟩ := hrel
    have HB := Lib.hid hb
    have gl := heap_below hb GL.out
    have l0 := cell_of_row _ _ 0 _ _ _ gl
    have l1 := cell_of_row _ _ 1 _ _ _ gl
    have l2 := cell_of_row _ _ 2 _ _ _ gl
    have l3 := cell_of_row _ _ 3 _ _ _ gl
    have hsr := hb.size
    clear hb gl
    by_cases k0 : k = 0
    · subst k0
      clear l2 l3
      gi_wp2_with fail
      refine (callsIn_wide.2 (HX.out _ (Below.next HB5.out (HB.out.trans (((Below.refl _ wr).alloc (Nat.le_refl _) _).mono hsr))))).mono ?_
      rintro e w6 ⟨rfl, hb6⟩
      have hb6 := HB.out.trans ((Below.next ((Below.refl _ wr).alloc (Nat.le_refl _) _) hb6).mono hsr)
      by_cases hE : EX = 0
      · subst hE
        have HB6 := Lib.hid hb6
        clear hb6 l0 l1
        gi_wp2_with fail
        go_roundw
        case rel => exact ⟨1, by omega, by go_num, Lib.hid (fun _ => trivial), Lib.hid (fun h => by omega), HB6.out⟩
        case measure => simp [intOf]
      · have hne : (EX != 0) = true := by simpa using hE
        have hV : EV = (false, EX) := by rw [HE.out, if_pos hE]
        have gr := heap_below hb6 GR.out
        have ge := heap_below hb6 GE.out
        have t0 := cell_of_row _ _ 0 _ _ _ gr
        have t1 := cell_of_row _ _ 0 _ _ _ ge
        have z0 := frozen_row gr 0
        have z1 := frozen_row ge 0
        have HGR := Lib.hid gr
        have HGE := Lib.hid ge
        have HB6 := Lib.hid (HB5.out.trans (hb6.mono (by omega)))
        clear hb6 gr ge l0 l1 hE HE
        gi_wp2_with fail
        clear t0 t1 z0 z1
        generalize hWF : (w6.setCell _ _).setCell _ _ = WF
        obtain ⟨e1, e2, hbf, _, _⟩ := fin2 HGR.out HGE.out (by omega) (by omega) (by omega) HB6.out hWF
        have HBF := Lib.hid hbf
        have f0 := cell_of_row _ _ 0 _ _ _ e1
        have f1 := cell_of_row _ _ 0 _ _ _ e2
        clear hWF e1 e2 hbf
        refine ⟨.tuple #[.bool false, .int .i64 EX], ?_, ?_⟩
        · rw [results_cell_cell rfl]
          go_simp
        · rw [hV]; exact ⟨rfl, HBF.out⟩
    · by_cases k1 : k = 1
      · subst k1
        obtain rfl : EX = 0 := h0.out (by omega)
        clear l0 l1
        gi_wp2_with fail
        refine (callsIn_wide.2 (HY.out _ (Below.next HB5.out (HB.out.trans (((Below.refl _ wr).alloc (Nat.le_refl _) _).mono hsr))))).mono ?_
        rintro e w6 ⟨rfl, hb6⟩
        have hb6 := HB.out.trans ((Below.next ((Below.refl _ wr).alloc (Nat.le_refl _) _) hb6).mono hsr)
        by_cases hE : EY = 0
        · subst hE
          have HB6 := Lib.hid hb6
          clear hb6 l2 l3
          gi_wp2_with fail
          go_roundw
          case rel => exact ⟨2, by omega, by go_num, Lib.hid (fun _ => trivial), Lib.hid (fun _ => trivial), HB6.out⟩
          case measure => simp [intOf]
        · have hne : (EY != 0) = true := by simpa using hE
          have hV : EV = (false, EY) := by rw [HE.out, if_neg (by simp), if_pos hE]
          have gr := heap_below hb6 GR.out
          have ge := heap_below hb6 GE.out
          have t0 := cell_of_row _ _ 0 _ _ _ gr
          have t1 := cell_of_row _ _ 0 _ _ _ ge
          have z0 := frozen_row gr 0
          have z1 := frozen_row ge 0
          have HGR := Lib.hid gr
          have HGE := Lib.hid ge
          have HB6 := Lib.hid (HB5.out.trans (hb6.mono (by omega)))
          clear hb6 gr ge l2 l3 hE HE
          gi_wp2_with fail
          clear t0 t1 z0 z1
          generalize hWF : (w6.setCell _ _).setCell _ _ = WF
          obtain ⟨e1, e2, hbf, _, _⟩ := fin2 HGR.out HGE.out (by omega) (by omega) (by omega) HB6.out hWF
          have HBF := Lib.hid hbf
          have f0 := cell_of_row _ _ 0 _ _ _ e1
          have f1 := cell_of_row _ _ 0 _ _ _ e2
          clear hWF e1 e2 hbf
          refine ⟨.tuple #[.bool false, .int .i64 EY], ?_, ?_⟩
          · rw [results_cell_cell rfl]
            go_simp
          · rw [hV]; exact ⟨rfl, HBF.out⟩
      · obtain rfl : k = 2 := by omega
        obtain rfl : EX = 0 := h0.out (by omega)
        obtain rfl : EY = 0 := h1.out (by omega)
        have hok := HOX.out rfl
        have hoy := HOY.out rfl
        have HH1 := Lib.hid (HHX.out hok)
        have HH2 := Lib.hid (HHY.out hoy)
        have HS1 := Lib.hid (HSX.out hok)
        have HS2 := Lib.hid (HSY.out hoy)
        have hV : Hid (EV = (eqvB x y, 0)) := Lib.hid (by rw [HE.out, if_neg (by simp), if_neg (by simp)])
        have HBW := Lib.hid (Below.next HB5.out (HB.out.trans ((Below.refl _ wr).mono hsr)))
        have hbw : Below w.heap.size w wr := HB5.out.trans (HB.out.mono (by omega))
        have HBW := Lib.hid hbw
        have KS := Lib.hid (fun (u : World) (hu : Below wr.heap.size wr u) => And.intro (open2 (heap_below (HB.out.trans (hu.mono hsr)) GX.out)).1 (open2 (heap_below (HB.out.trans (hu.mono hsr)) GY.out)).1)
        clear hok hoy HHX HHY HSX HSY HOX HOY HE h0 h1 l0 l1 l2 l3 hbw HX HY k0 k1
        gi_upto_region 8 with fail
        refine wpIn_region_quiet_tail (fun u => Below wr.heap.size wr u) 5 (by kernel_rfl) (by kernel_rfl) (below_drew (Below.refl _ _)) ?_
        repeat (refine wpQuietIn_step (by quiet_asked_in) (fun K hK => ?_); go_simp; (first | (refine hK _ ?_; clear hK K) | (apply Exists.intro; refine ⟨fun u hu => ?_, hK _ ?_⟩; (first | with_reducible exact rfl | with_reducible exact ⟨rfl, hu⟩ | ((with_reducible refine (callsIn_wide.2 (HS1.out u (Below.next HBW.out hu))).mono ?_); (rintro e w3 ⟨rfl, h3⟩; exact ⟨rfl, Below.next hu h3⟩)) | ((with_reducible refine (callsIn_wide.2 (HS2.out u (Below.next HBW.out hu))).mono ?_); (rintro e w3 ⟨rfl, h3⟩; exact ⟨rfl, Below.next hu h3⟩)) | (obtain ⟨⟨q1, q2⟩, ⟨q3, q4⟩⟩ := KS.out u hu; go_simp; first | exact rfl | exact ⟨rfl, hu⟩ | exact hu)); clear hK K)))
        refine wpQuietIn_nil ?_
        intro wq hwq
        simp only [List.drop_succ_cons, List.drop_zero]
        have HBQ := Lib.hid (Below.next HBW.out hwq)
        have GRQ := Lib.hid (heap_below (HB.out.trans (hwq.mono hsr)) GR.out)
        have GEQ := Lib.hid (heap_below (HB.out.trans (hwq.mono hsr)) GE.out)
        have GXQ := Lib.hid (heap_below (HB.out.trans (hwq.mono hsr)) GX.out)
        have GYQ := Lib.hid (heap_below (HB.out.trans (hwq.mono hsr)) GY.out)
        have hsq : w.heap.size + 5 ≤ wq.heap.size := by have := hwq.size; omega
        clear hwq HB KS HS1 HS2 GL GR GE GX GY hs5 hsr
        gi_wp2_with fail
        refine (callsIn_wide.2 (subsets_c (srvX x ||| srvX y) _ _ rfl)).mono ?_
        rintro e w6 ⟨rfl, hw6⟩
        have hb6 : Below wq.heap.size wq w6 := by rw [hw6]; exact (Below.refl _ _).alloc (Nat.le_refl _) _
        have gS6 : w6.cell? ⟨wq.heap.size, 0, none⟩ = some (.int .u16 (U (srvX x ||| srvX y))) := by rw [hw6]; exact cell_new _ _ _ 0 _ rfl
        have hs6 : w6.heap.size = wq.heap.size + 1 := by rw [hw6]; simp
        have HB6 := Lib.hid (Below.next HBQ.out hb6)
        have GX6 := Lib.hid (heap_below hb6 GXQ.out)
        have GY6 := Lib.hid (heap_below hb6 GYQ.out)
        have GR6 := Lib.hid (heap_below hb6 GRQ.out)
        have GE6 := Lib.hid (heap_below hb6 GEQ.out)
        have hBs : wq.heap.size < w6.heap.size := by omega
        obtain ⟨SU, hSU⟩ : ∃ SU, srvX x ||| srvX y = SU := ⟨_, rfl⟩
        have HVE : Hid (eqvB x y = (subsS SU).all fun s => holdX x s == holdX y s) := Lib.hid (by rw [← hSU]; rfl)
        rw [hSU] at gS6 ⊢
        have HSQ := Lib.hid (fun m => subsets1_stops m wq.heap.size (CBox w6.heap.size w6.heap.size) (fun k => .inr ⟨by decide, by decide⟩) (fun t => .inl ⟨Nat.lt_of_lt_of_le (cell_lt (HT.out 0 (by decide))) HB6.out.size, by have := cell_lt (HT.out 0 (by decide)); have := HB6.out.size; omega⟩) (fun t => .inl ⟨hBs, by omega⟩) SU w6 (HT.out.below HB6.out) gS6)
        clear hb6 gS6 hw6 HBQ GRQ GEQ GXQ GYQ hs6 hSU
        gi_wp2_with fail
        refine rangeFunc_x rfl (by decide) rfl trivial (enters_of Tryd.func48 (by kernel_rfl) rfl) (HSQ.out _) KeepC.trans kT_b (Below.refl _ _) (fun _ => rfl)
          (fun pre Wr => (pre.all fun s => holdX x s == holdX y s) = true ∧ BelX w6.heap.size w6 w6.heap.size Wr)
          (fun c ys Wr => c = .ret ∧ (ys.all fun s => holdX x s == holdX y s) = false ∧ BelX w.heap.size w6 w6.heap.size Wr ∧ Wr.heap[w.heap.size + 1 + 1]? = some (.cells #[.bool false] 4 (0, 0)) ∧ Wr.heap[w.heap.size + 1 + 1 + 1]? = some (.cells #[.int .i64 0] 30 (0, 0)))
          ?hI ?hIx ?h0 ?done ?stop ?A
        case hI => exact OwnFrom.and (purex_own (p := fun pre => (pre.all fun s => holdX x s == holdX y s) = true) _) (belx_own (Nat.le_refl _) (Nat.le_refl _))
        case hIx =>
          intro c
          exact OwnFrom.and (purex_own (p := fun _ => c = .ret) _) (OwnFrom.and (purex_own (p := fun ys => (ys.all fun s => holdX x s == holdX y s) = false) _) (OwnFrom.and (belx_own (by omega) (by omega)) (OwnFrom.and (blkx_own (by omega)) (blkx_own (by omega)))))
        case h0 => exact ⟨rfl, Below.refl _ _, Nat.le_refl _⟩
        case done =>
          rintro D ys W hD rfl ⟨hall, hB⟩ hK
          have HR : Hid (EV = (true, 0)) := Lib.hid (by rw [hV.out, HVE.out, hall])
          have gR := (hB.1.block (w.heap.size + 1 + 1) (by omega)).trans GR6.out
          have gE := (hB.1.block (w.heap.size + 1 + 1 + 1) (by omega)).trans GE6.out
          have r0 := cell_of_row _ _ 0 _ _ _ gR
          have r1 := cell_of_row _ _ 0 _ _ _ gE
          have z0 := frozen_row gR 0
          have z1 := frozen_row gE 0
          have HGR := Lib.hid gR
          have HGE := Lib.hid gE
          have HB := Lib.hid hB
          have hBs2 := hB.2
          clear hB gR gE hall
          gi_wp2_with fail
          clear r0 r1 z0 z1
          generalize hWZ : (W.setCell _ _).setCell _ _ = WZ
          obtain ⟨gRZ, gEZ, hbZ, hoZ, hsZ⟩ := fin2 (w := w) HGR.out HGE.out (by omega) (by omega) (by omega) (HB6.out.trans (HB.out.1.mono (by omega))) hWZ
          have hKZ : WZ.heap[D]? = some (.deferred (some [])) := (hoZ D (by omega) (by omega)).trans hK
          refine ⟨by simp, .inl ⟨_, _, rfl, run_takeDeferred hKZ, ?_⟩⟩
          have gR2 : (WZ.putObj D (.deferred none)).heap[w.heap.size + 1 + 1]? = some (.cells #[.bool true] 4 (0, 0)) := (World.putObj_heap_other (by omega)).trans gRZ
          have gE2 : (WZ.putObj D (.deferred none)).heap[w.heap.size + 1 + 1 + 1]? = some (.cells #[.int .i64 0] 30 (0, 0)) := (World.putObj_heap_other (by omega)).trans gEZ
          have f0 := cell_of_row _ _ 0 _ _ _ gR2
          have f1 := cell_of_row _ _ 0 _ _ _ gE2
          have HBF := Lib.hid (hbZ.grown (grownBy_putObj' WZ D (.deferred none)) (by omega) (fun k hk => by injection hk with hk; omega))
          clear gR2 gE2 hWZ gRZ gEZ hbZ hoZ hsZ hKZ
          refine ⟨.tuple #[.bool true, .int .i64 0], ?_, ?_⟩
          · rw [results_cell_cell rfl]
            go_simp
          · rw [HR.out]; exact ⟨rfl, HBF.out⟩
        case stop =>
          rintro D c ys W hD hp ⟨rfl, hl, hB, hr2, hr3⟩ hK
          have hAll : ((subsS SU).all fun s => holdX x s == holdX y s) = false := by
            cases hc : (subsS SU).all fun s => holdX x s == holdX y s
            · rfl
            · rw [List.all_eq_true] at hc
              have : (ys.all fun s => holdX x s == holdX y s) = true := List.all_eq_true.2 fun s hs => hc s (hp.subset hs)
              rw [hl] at this; cases this
          have HR : Hid (EV = (false, 0)) := Lib.hid (by rw [hV.out, HVE.out, hAll])
          have r0 := cell_of_row _ _ 0 _ _ _ hr2
          have r1 := cell_of_row _ _ 0 _ _ _ hr3
          have hDr := hB.2
          clear hAll hl
          gi_wp2_with fail
          refine ⟨by simp, .inl ⟨_, _, rfl, run_takeDeferred hK, ?_⟩⟩
          have gR2 : (W.putObj D (.deferred none)).heap[w.heap.size + 1 + 1]? = some (.cells #[.bool false] 4 (0, 0)) := (World.putObj_heap_other (by omega)).trans hr2
          have gE2 : (W.putObj D (.deferred none)).heap[w.heap.size + 1 + 1 + 1]? = some (.cells #[.int .i64 0] 30 (0, 0)) := (World.putObj_heap_other (by omega)).trans hr3
          have f0 := cell_of_row _ _ 0 _ _ _ gR2
          have f1 := cell_of_row _ _ 0 _ _ _ gE2
          have hbF : Below w.heap.size w (W.putObj D (.deferred none)) := (HB6.out.trans hB.1).grown (grownBy_putObj' W D _) (by have := HB6.out.size; omega) (fun k hk => by injection hk with hk; omega)
          have HBF := Lib.hid hbF
          clear gR2 gE2 hbF r0 r1
          refine ⟨.tuple #[.bool false, .int .i64 0], ?_, ?_⟩
          · rw [results_cell_cell rfl]
            go_simp
          · rw [HR.out]; exact ⟨rfl, HBF.out⟩
        case A =>
          refine ⟨fun s => { tmps := #[.agg #[.slice a n c, .int .i64 x.root], .agg #[.slice a2 n2 c2, .int .i64 y.root], .pointer (some ⟨w.heap.size, 0, none⟩), .pointer (some ⟨w.heap.size + 1, 0, none⟩), .pointer (some ⟨w.heap.size + 1 + 1, 0, none⟩), .pointer (some ⟨w.heap.size + 1 + 1 + 1, 0, none⟩), undef, u7, u8, .int .u16 (U s), .agg #[.slice a n c, .int .i64 x.root], .agg #[.slice a2 n2 c2, .int .i64 y.root], .slice (some ⟨w.heap.size + 1 + 1 + 1 + 1, 0, none⟩) 2 2, .int .i64 2, .int .i64 2, .bool false, u16, u17, u18, u19, u20, u21, u22, u23, .agg #[.slice a n c, .int .i64 x.root], .int .u16 (U (srvX x)), .agg #[.slice a2 n2 c2, .int .i64 y.root], .int .u16 (U (srvX y)), .int .u16 (U SU), .func (.func 48) #[] #[.pointer (some ⟨wq.heap.size, 0, none⟩)], .int .u16 (U s), undef, undef, undef, undef, undef, undef, undef], defers := [] }, ?_, ?_⟩
          · intro l s Wr K hK
            gi_wp2_with fail
            exact hK
          · rintro l pre s Wr ⟨hall, hB⟩ hlt
            have hbw : Below w.heap.size w Wr := HB6.out.trans (hB.1.mono (by omega))
            have HB := Lib.hid hB
            have HBW := Lib.hid hbw
            have HH1s := Lib.hid (HH1.out s)
            have HH2s := Lib.hid (HH2.out s)
            have KS := Lib.hid (fun (u : World) (hu : Below Wr.heap.size Wr u) => And.intro (open2 (heap_below (hB.1.trans (hu.mono hB.2)) GX6.out)).1 (open2 (heap_below (hB.1.trans (hu.mono hB.2)) GY6.out)).1)
            have HAL : Hid ((pre ++ [s]).all (fun s => holdX x s == holdX y s) = (holdX x s == holdX y s)) := Lib.hid (by rw [List.all_append, hall]; simp)
            obtain ⟨BX, hBX⟩ : ∃ BX, holdX x s = BX := ⟨_, rfl⟩
            obtain ⟨BY, hBY⟩ : ∃ BY, holdX y s = BY := ⟨_, rfl⟩
            rw [hBX] at HH1s HAL
            rw [hBY] at HH2s HAL
            have HALL := Lib.hid hall
            clear hB hbw hlt hBX hBY hall
            gi_upto_region 10 with fail
            refine wpIn_region_quiet_r (fun u => Below Wr.heap.size Wr u) (by kernel_rfl) (by kernel_rfl) (below_drew (Below.refl _ _)) ?_
            repeat (refine wpQuietIn_step (by quiet_asked_in) (fun K hK => ?_); go_simp; (first | (refine hK _ ?_; clear hK K) | (apply Exists.intro; refine ⟨fun u hu => ?_, hK _ ?_⟩; (first | with_reducible exact rfl | with_reducible exact ⟨rfl, hu⟩ | ((with_reducible refine (CallsIn.inRound l (callsIn_wide.2 (HH1s.out u (Below.next HBW.out hu)))).mono ?_); (rintro e w3 ⟨rfl, h3⟩; exact ⟨rfl, Below.next hu h3⟩)) | ((with_reducible refine (CallsIn.inRound l (callsIn_wide.2 (HH2s.out u (Below.next HBW.out hu)))).mono ?_); (rintro e w3 ⟨rfl, h3⟩; exact ⟨rfl, Below.next hu h3⟩)) | (obtain ⟨⟨q1, q2⟩, ⟨q3, q4⟩⟩ := KS.out u hu; go_simp; first | exact rfl | exact ⟨rfl, hu⟩ | exact hu)); clear hK K)))
            refine wpQuietIn_nil ?_
            intro W2 hb2
            have hB2 : BelX w6.heap.size w6 w6.heap.size W2 := ⟨HB.out.1.trans (hb2.mono HB.out.2), Nat.le_trans HB.out.2 hb2.size⟩
            have HB2 := Lib.hid hB2
            have HKF := Lib.hid (keepsFrom_below (B := w6.heap.size) hb2)
            have HKC := Lib.hid (KeepC.of_below (CBox w6.heap.size w6.heap.size) hb2)
            have hs2 := hB2.2
            clear hb2 KS HH1s HH2s
            by_cases hq : BX = BY
            · have hne : (!BX == BY) = false := by rw [hq]; simp
              have hal : (BX == BY) = true := by rw [hq]; simp
              rw [hal] at HAL
              rw [hne]
              clear hq hne hal
              gi_wp2_with fail
              exact ⟨HKF.out, HKC.out, HAL.out, HB2.out⟩
            · have hal : (BX == BY) = false := by simpa using hq
              have hne : (!BX == BY) = true := by rw [hal]; rfl
              rw [hal] at HAL
              rw [hne]
              have gR := (hB2.1.block (w.heap.size + 1 + 1) (by omega)).trans GR6.out
              have gE := (hB2.1.block (w.heap.size + 1 + 1 + 1) (by omega)).trans GE6.out
              have r0 := cell_of_row _ _ 0 _ _ _ gR
              have r1 := cell_of_row _ _ 0 _ _ _ gE
              have z0 := frozen_row gR 0
              have z1 := frozen_row gE 0
              have HGR := Lib.hid gR
              have HGE := Lib.hid gE
              clear gR gE hq hne hal hB2
              gi_wp2_with fail
              have hkA := grownBy_setCell' W2 (w.heap.size + 1 + 1) (.bool false)
              have hkZ := grownBy_setCell' (W2.setCell ⟨w.heap.size + 1 + 1, 0, none⟩ (.bool false)) (w.heap.size + 1 + 1 + 1) (.int .i64 0)
              obtain ⟨gRZ, gEZ, _, hoZ, hsZ⟩ := fin2 (w := w) HGR.out HGE.out (by omega) (by omega) (by omega) (HB6.out.trans (HB2.out.1.mono (by omega))) rfl
              refine ⟨HKF.out.trans ((KeepsFrom.of_grownBy hkA (fun j hj => by injection hj with hj; omega)).trans (KeepsFrom.of_grownBy hkZ (fun j hj => by injection hj with hj; omega))), rfl, HAL.out, ⟨?_, ?_⟩, gRZ, gEZ⟩
              · exact ((HB2.out.1.mono (by omega)).setCell (p := ⟨w.heap.size + 1 + 1, 0, none⟩) (by show w.heap.size ≤ w.heap.size + 1 + 1; omega) _).setCell (p := ⟨w.heap.size + 1 + 1 + 1, 0, none⟩) (by show w.heap.size ≤ w.heap.size + 1 + 1 + 1; omega) _
              · rw [hsZ]; exact hs2
theorem equiv_c (x y : Xpr) (hfx : XprFew x) (hfy : XprFew y) (a : Option Addr) (n c : Nat) (a2 : Option Addr) (n2 c2 : Nat) (w : World) (ht : HasTab w) (h : XM w a n c x.nodes) (h2 : XM w a2 n2 c2 y.nodes) :
    Calls Tryd.prog 8 #[.agg #[.slice a n c, .int .i64 x.root], .agg #[.slice a2 n2 c2, .int .i64 y.root]] w fun e w' => e = .returned (.tuple #[.bool (eqvE x y).1, .int .i64 (eqvE x y).2]) ∧ Below w.heap.size w w' := callsIn_wide.1 (equiv_in x y hfx hfy a n c a2 n2 c2 w ht h h2)
end Go.Proofs.YtmjgdnpfgkpaoaaDoor
namespace Go.Proofs.YtmjgdnpfgkpaoaaDoor

theorem lt_of_bits {s : BitVec 16} {m : Nat} (h : ∀ i, hasB s i = true → i < m) : s.toNat < 2 ^ m := by
  refine Nat.lt_pow_two_of_testBit _ (fun i hi => ?_)
  cases hb : s.toNat.testBit i with
  | false => rfl
  | true =>
    have := h i hb
    omega
theorem good_val {l : List (BitVec 16)} (hg : l.Pairwise Rs) (h12 : ∀ s ∈ l, s.toNat < 64) (hl : ¬ 400 < l.length) : valS l = 0 := by
  have hat : ∀ i, i < l.length → l.getD i 0#16 ∈ l := fun i hi => by rw [getD_at hi]; exact List.getElem_mem hi
  have hrel : ∀ i k, i < k → k < l.length → Rs (l.getD i 0#16) (l.getD k 0#16) := fun i k hik hk => by
    rw [getD_at (by omega), getD_at hk]
    exact List.pairwise_iff_getElem.1 hg i k (by omega) hk hik
  have he : ∀ k, k < l.length → e1 l k = 0 := fun k hk => by
    unfold e1
    rw [if_neg (by have := h12 _ (hat k hk); unfold U; omega), if_neg]
    rintro ⟨h0, h1⟩
    have h2 := (hrel (k - 1) k (by omega) hk).1
    have := (cmpS_key (l.getD (k - 1) 0#16) (l.getD k 0#16)).1
    omega
  have hf : firstE (e1 l) l.length = 0 := firstE_none _ _ he
  have ho : overB l = false := by
    unfold overB
    rw [List.any_eq_false]
    intro i hi
    rw [List.mem_range] at hi
    intro hc
    obtain ⟨k, hk, hs⟩ := (acc_take (Nat.le_of_lt hi)).1 hc
    have := (hrel k i hk hi).2
    rw [this] at hs; cases hs
  unfold valS
  rw [if_neg hl, hf, ho]; rfl
/-- what TopSimplified meets -/
structure Ts (X Y Z : Xpr) (E J : Int) : Prop where
  fx : famE X = (famS X, 0)
  sm : smpS X = (Y, E)
  e : E = 0 ∨ E = 3
  eq : E = 0 → eqvE X Y = (true, 0) ∧ famE Y = (famS X, 0) ∧ XprFew Y ∧ xprE Y = 0
  of : ofE (famS X) = (Z, J)
  j : J = 0 ∨ J = 3
  eq2 : J = 0 → eqvE X Z = (true, 0) ∧ XprFew Z
theorem smp_eqv {x : Xpr} (h : (smpS x).2 = 0) : xprE (smpS x).1 = 0 ∧ eqvE x (smpS x).1 = (true, 0) ∧ XprFew (smpS x).1 := by
  have hE : (tidS x).2 = 0 := by
    unfold smpS at h
    by_cases h1 : (tidS x).2 ≠ 0
    · rw [if_pos h1] at h; exact h
    · exact Classical.not_not.1 h1
  obtain ⟨hx, hz, _⟩ := tidS_ok hE
  have hs : smpS x = ((treX x).simp.xpr, 0) := by unfold smpS; rw [if_neg (by rw [hE]; simp)]
  rw [hs]
  have hok := treX_ok (xprE_ok hx)
  have hso := simp_ok (treX x) hok (by omega)
  have hz2 : (treX x).simp.sz ≤ 60 := by omega
  have hxe := xpr_ok hso.1 hz2
  refine ⟨hxe, ?_, xpr_few (by omega)⟩
  unfold eqvE
  rw [if_neg (by rw [hx]; simp), if_neg (by rw [hxe]; simp)]
  have : eqvB x (treX x).simp.xpr = true := (eqv_iff (xprE_ok hx) (xprE_ok hxe)).2 fun s => by
    rw [xpr_hold hso.1 hz2, simp_hold _ hok (by omega), treX_hold (xprE_ok hx)]
  rw [this]
theorem ts_of {X : Xpr} (hx : xprE X = 0) (h6 : ∀ q, hasB (srvX X) q = true → q < 6) : Ts X (smpS X).1 (ofE (famS X)).1 (smpS X).2 (ofE (famS X)).2 := by
  have hfl : (famS X).length ≤ 64 := by
    have h1 := famS_le X
    have h2 : 2 ^ cnt (srvX X) ≤ 2 ^ 6 := Nat.pow_le_pow_right (by decide) (cnt_six h6)
    omega
  have hv : valS (famS X) = 0 := good_val (famS_good X) (fun s hs => lt_of_bits (m := 6) (fun i hi => h6 i (famS_in hs i hi))) (by omega)
  refine ⟨famE_six hx h6, rfl, ?_, fun hE => ?_, rfl, ?_, fun hJ => ?_⟩
  · unfold smpS tidS
    rw [if_neg (show ¬ xprE X ≠ 0 from by rw [hx]; simp)]
    by_cases h : 60 < (treX X).sz
    · rw [if_pos h]; right; rfl
    · rw [if_neg h]; left; rfl
  · obtain ⟨h1, h2, h3⟩ := smp_eqv hE
    refine ⟨h2, ?_, h3, h1⟩
    have hb : eqvB X (smpS X).1 = true := by
      unfold eqvE at h2
      rw [if_neg (by rw [hx]; simp), if_neg (by rw [h1]; simp)] at h2
      exact congrArg Prod.fst h2
    rw [eqv_fam (xprE_ok hx) (xprE_ok h1)] at hb
    have hfe := of_decide_eq_true hb
    unfold famE
    rw [if_neg (by rw [h1]; simp), ← hfe, if_neg (by omega)]
  · unfold ofE
    rw [if_neg (by rw [hv]; simp)]
    by_cases h : 60 < (ofX (famS X)).nodes.length
    · rw [if_pos h]; right; rfl
    · rw [if_neg h]; left; rfl
  · have h60 : ¬ 60 < (ofX (famS X)).nodes.length := fun h => by
      unfold ofE at hJ
      rw [if_neg (by rw [hv]; simp), if_pos h] at hJ
      cases hJ
    have hz : ofE (famS X) = (ofX (famS X), 0) := by unfold ofE; rw [if_neg (by rw [hv]; simp), if_neg h60]
    rw [hz]
    obtain ⟨g1, g2, g3⟩ := ofX_all hv h60
    refine ⟨?_, g2⟩
    unfold eqvE
    rw [if_neg (by rw [hx]; simp), if_neg (by rw [g1]; simp)]
    have : eqvB X (ofX (famS X)) = true := (eqv_iff (xprE_ok hx) (xprE_ok g1)).2 fun s => by
      rw [g3 s, famS_holds (xprE_ok hx)]
    rw [this]
end Go.Proofs.YtmjgdnpfgkpaoaaDoor
namespace Go.Proofs.YtmjgdnpfgkpaoaaDoor

def dualN (nd : Nod) : Nod := if nd.kind = 2 then ⟨nd.kind, nd.server, max 0 (sumN nd - nd.need + 1), nd.weights, nd.kids⟩ else nd
def dualX (x : Xpr) : Xpr := ⟨x.nodes.map dualN, x.root⟩
/-- what Dual answers -/
def dualS (x : Xpr) : Xpr × Int := if xprE x ≠ 0 then (⟨[], 0⟩, xprE x) else (dualX x, 0)

theorem sum_rng {nd : Nod} {i : Nat} (h : NodOk nd i) : ∀ k, 0 ≤ sumTo nd k ∧ sumTo nd k ≤ 1000 * k
  | 0 => ⟨Int.le_refl _, by simp [sumTo]⟩
  | k + 1 => by
    have h1 := sum_rng h k
    have h2 := wgt_pos h k
    rw [sumTo]
    omega
theorem getD_not {l : List Bool} {i : Nat} (h : i < l.length) : (l.map not).getD i false = !l.getD i false := by
  rw [List.getD_eq_getElem?_getD, List.getD_eq_getElem?_getD, List.getElem?_map, List.getElem?_eq_getElem h]; rfl
theorem got_not {nd : Nod} {i : Nat} (h : NodOk nd i) (is : List Bool) (hl : is.length = i) : ∀ k, k ≤ nd.kids.length → gotTo nd (is.map not) k + gotTo nd is k = sumTo nd k
  | 0, _ => rfl
  | k + 1, hk => by
    have ih := got_not h is hl k (by omega)
    obtain ⟨z, hz⟩ : ∃ z, nd.kids[k]? = some z := ⟨_, List.getElem?_eq_getElem (by omega)⟩
    have hkid := h.kids z (List.mem_of_getElem? hz)
    have e : nd.kids.getD k 0 = z := by rw [List.getD_eq_getElem?_getD, hz]; rfl
    rw [gotTo, gotTo, sumTo, e, getD_not (by omega)]
    cases is.getD z.toNat false <;> simp <;> omega
theorem got_dual (nd : Nod) (n : Int) (is : List Bool) : ∀ k, gotTo ⟨nd.kind, nd.server, n, nd.weights, nd.kids⟩ is k = gotTo nd is k
  | 0 => rfl
  | k + 1 => by rw [gotTo, gotTo, got_dual nd n is k]; rfl
theorem val_dual {nd : Nod} {i : Nat} (h : NodOk nd i) (is : List Bool) (hl : is.length = i) (s t : BitVec 16) (hst : ∀ k, k < 12 → hasB s k = !hasB t k) : valN (dualN nd) (is.map not) s = !valN nd is t := by
  rcases h.kind with hk | hk
  · have h1 := h.server
    unfold dualN
    rw [if_neg (by omega)]
    unfold valN
    rw [if_pos hk, if_pos hk]
    exact hst _ (by omega)
  · unfold dualN
    rw [if_pos hk]
    unfold valN
    rw [if_neg (by show ¬ nd.kind = 1; omega), if_neg (by omega), got_dual]
    have h1 := got_not h is hl nd.kids.length (Nat.le_refl _)
    have h2 := got_bd h (is.map not) nd.kids.length
    have h3 : sumN nd = sumTo nd nd.kids.length := rfl
    show decide (max 0 (sumN nd - nd.need + 1) ≤ gotTo nd (is.map not) nd.kids.length) = !decide (nd.need ≤ gotTo nd is nd.kids.length)
    rw [h3]
    by_cases hq : nd.need ≤ gotTo nd is nd.kids.length
    · rw [decide_eq_true hq, decide_eq_false (by omega)]; rfl
    · rw [decide_eq_false hq, decide_eq_true (by omega)]; rfl
theorem holdTo_dual {x : Xpr} (hx : XprOk x) (s t : BitVec 16) (hst : ∀ k, k < 12 → hasB s k = !hasB t k) : ∀ k, k ≤ x.nodes.length → holdTo (x.nodes.map dualN) s k = (holdTo x.nodes t k).map not
  | 0, _ => rfl
  | k + 1, hk => by
    obtain ⟨nd, hnd⟩ : ∃ nd, x.nodes[k]? = some nd := ⟨_, List.getElem?_eq_getElem (by omega)⟩
    have e : x.nodes.getD k nod0 = nd := by rw [List.getD_eq_getElem?_getD, hnd]; rfl
    have e2 : (x.nodes.map dualN).getD k nod0 = dualN nd := by rw [List.getD_eq_getElem?_getD, List.getElem?_map, hnd]; rfl
    rw [holdTo, holdTo, holdTo_dual hx s t hst k (by omega), e, e2, List.map_append, val_dual (hx.node k nd hnd) _ (holdTo_len _ _ _) s t hst]
    rfl
theorem dual_hold {x : Xpr} (hx : XprOk x) (s t : BitVec 16) (hst : ∀ k, k < 12 → hasB s k = !hasB t k) : holdX (dualX x) s = !holdX x t := by
  have hr := hx.root
  show (holdTo (x.nodes.map dualN) s (x.nodes.map dualN).length).getD x.root.toNat false = !(holdTo x.nodes t x.nodes.length).getD x.root.toNat false
  rw [List.length_map, holdTo_dual hx s t hst _ (Nat.le_refl _), getD_not (by rw [holdTo_len]; omega)]
theorem dual_ok {x : Xpr} (_hx : XprOk x) : (dualX x).nodes.length = x.nodes.length := List.length_map _
end Go.Proofs.YtmjgdnpfgkpaoaaDoor
namespace Go.Proofs.YtmjgdnpfgkpaoaaDoor
open Go.RowKit Go.Shelf

/-- a node behind a row of nodes -/
theorem XB.app {S SW : Nat → Prop} {B : Nat} {w x y : World} {v u : Value} {t : TypeId} {nodes : List Nod} {p : NodV} {nd : Nod} {V : List NodV} (h : XB S B w v t nodes) (hV : V.length = nodes.length) (h3 : ∀ (i : Nat) p nd, V[i]? = some p → nodes[i]? = some nd → NodS S w p nd)
    (hb : Below w.heap.size w x) (hg : x.grownBy y v.ownBlock) (ho : y.ownsRow B t 5 u (nodes.length + 1) (V.flatMap nodVC ++ nodVC p)) (hv : ∀ g, u.ownBlock = some g → v.ownBlock = some g ∨ w.heap.size ≤ g) (hp : NodS SW w p nd) (hSW : ∀ g, SW g → g < w.heap.size ∧ v.ownBlock ≠ some g) :
    XB (fun g => S g ∨ SW g) B y u t (nodes ++ [nd]) := by
  have hx := hb.size
  have hgx : w.grownBy y v.ownBlock := ⟨hg.os.trans hb.os, hg.tape.trans hb.tape, hg.output.trans hb.output, Nat.le_trans hx hg.size, fun g g1 g2 => (hg.block g (by omega) g2).trans (hb.block g g1)⟩
  refine XB.push (p := p) hV (fun i p nd hp hn => (h3 i p nd hp hn).mono fun g hg' => .inl hg') (fun g hg' => ?_) (fun g e hT => ?_) ho (hp.mono fun g hg' => .inr hg') hgx hv hgx.size
  · rcases hg' with h6 | h6
    · exact h.lt g h6
    · exact (hSW g h6).1
  · rcases hT with h6 | h6
    · exact h.own g e h6
    · exact (hSW g h6).2 e

theorem row_base {w : World} {B B' k n : Nat} {e : TypeId} {v : Value} {l : List Value} (h : w.ownsRow B e k v n l) (hB : B' ≤ B) : w.ownsRow B' e k v n l := by
  obtain ⟨h1, h2⟩ := h
  refine ⟨h1, ?_⟩
  rcases h2 with h2 | ⟨g, cap, cur, hv, hb', hg, r⟩
  · exact .inl h2
  · exact .inr ⟨g, cap, cur, hv, Nat.le_trans hB hb', hg, r⟩

end Go.Proofs.YtmjgdnpfgkpaoaaDoor
namespace Go.Proofs.YtmjgdnpfgkpaoaaDoor
open Go.RowKit Go.Shelf

/-- .. of a threshold over a row of indices -/
theorem nodS_thr {S : Nat → Prop} {w : World} {B n : Nat} {kv : Value} {ks : List Int} (need : Int) (hk : w.ownsRow B 3 1 kv n (ks.map (Value.int .i64))) (sk : ∀ g, kv.ownBlock = some g → S g) : NodS S w ⟨2, 0, need, .slice none 0 0, kv⟩ ⟨2, 0, need, [], ks⟩ :=
  nodS_of (B := B) (m := 0) (n := n) rfl rfl rfl (World.ownsRow_nil _ _ _ _) hk (fun g e => by cases e) sk

/-- an expression copied from its box to where it is handed back -/
theorem retx_fin {S : Nat → Prop} {B R : Nat} {w wY WF : World} {a : Option Addr} {n c : Nat} {t : TypeId} {nodes : List Nod} {root : Int} {p q : Value} (hxb : XB S B wY (.slice a n c) t nodes) (hn : nodes.length = n) (hR : w.heap.size ≤ R) (hS : ∀ g, S g → R < g) (hB : R < B) (hb : Below w.heap.size w wY)
    (gR : wY.heap[R]? = some (.cells #[p, q] 28 (0, 0))) (hW : (wY.setCell ⟨R, 0, none⟩ (.slice a n c)).setCell ⟨R, 1, none⟩ (.int .i64 root) = WF) :
    WF.heap[R]? = some (.cells #[.slice a n c, .int .i64 root] 28 (0, 0)) ∧ XMR w.heap.size WF.heap.size WF a n c nodes ∧ Below w.heap.size w WF := by
  obtain ⟨e1, e2, e3, e4⟩ := fin2w gR hW
  have hx := hxb.move (w' := WF) (fun g hg => e2 g (by have := hS g hg; omega)) (fun g hg => e2 g (by have := (hxb.lt_own g hg).1; omega)) (by omega)
  obtain ⟨a2, c2, e, hxm⟩ := hx.xmr (lo := w.heap.size) (fun g hg => by have := hS g hg; omega) (by omega)
  rw [hn] at hxm e
  cases e
  exact ⟨e1, hxm, hb.trans (e4 _ hR)⟩

set_option maxRecDepth 100000 in
set_option maxHeartbeats 16000000 in
theorem xof_c (f : List (BitVec 16)) (a : Option Addr) (n c : Nat) (w : World) (ht : HasTab w) (h : Rd w a n c (f.map setV2)) :
    Calls Tryd.prog 9 #[.slice a n c] w fun e w' => RetX (ofE f).1 (ofE f).2 w e w' := by
  have H1 := Lib.hid (fun (u : World) (hb : Below w.heap.size w u) => valid_c f a n c u (h.below hb))
  by_cases hE : valS f = 0
  · obtain ⟨hl4, _, _⟩ := valS_ok hE
    have hRR : ofE f = if 60 < (ofX f).nodes.length then (⟨[], 0⟩, 3) else (ofX f, 0) := by unfold ofE; rw [if_neg (by rw [hE]; simp)]
    have HRR := Lib.hid hRR
    have hfn : f.length = n := by have := h.len; simp at this; omega
    rw [hE] at H1
    have HH := Lib.hid h
    have HT := Lib.hid ht
    have HV := Lib.hid hE
    have H2 := Lib.hid (fun (u : World) (hb : Below w.heap.size w u) => support_c f a n c u (h.below hb))
    have HM := Lib.hid (fun (s : BitVec 16) (u : World) (hb : Below w.heap.size w u) => members_c s (U s) u rfl (ht.below hb))
    have hm12 := memO_len hE
    have HM12 := Lib.hid (mem12 hE)
    have HMM := Lib.hid (fun (s : BitVec 16) (hs : s ∈ f) (m : Nat) (hm : m ∈ memS s) => memO_mem hE hs hm)
    have HK12 := Lib.hid (fun (s : BitVec 16) (hs : s ∈ f) => kids12 hE hs)
    have HFN := Lib.hid hfn
    have hn4 : n ≤ 400 := by omega
    obtain ⟨mem, hmem⟩ : ∃ mem, memO f = mem := ⟨_, rfl⟩
    have hms : memS (supS f) = mem := hmem
    have hnd := memO_nodup f
    rw [hmem] at hm12 HM12 HMM hnd
    obtain ⟨nm, hnm⟩ : ∃ nm, mem.length = nm := ⟨_, rfl⟩
    rw [hnm] at hm12
    have HNM := Lib.hid hnm
    have HND := Lib.hid hnd
    have HMS := Lib.hid hms
    have HME := Lib.hid hmem
    clear hRR h ht hE hl4 hfn hnm hnd hms hmem
    go_enter Tryd.func9, Tryd.ntmps9
    go_wp2_with fail
    generalize hW1 : w.alloc _ = w1
    have hb1 : Below w.heap.size w w1 := by rw [← hW1]; exact (Below.refl _ _).alloc (Nat.le_refl _) _
    have gR1 : w1.heap[w.heap.size]? = some (.cells #[.slice none 0 0, .int .i64 0] 28 (0, 0)) := by rw [← hW1]; exact heap_alloc_new _ _
    have hs1 : w1.heap.size = w.heap.size + 1 := by rw [← hW1]; simp
    clear hW1
    with_reducible refine (H1.out w1 hb1).mono ?_
    rintro e w4 ⟨rfl, hb4⟩
    have hs4 := hb4.size
    obtain ⟨X, hX⟩ : ∃ X, w4.heap.size = X := ⟨_, rfl⟩
    obtain ⟨w5, hw5⟩ : ∃ w5, w5 = (w4.alloc (.cells #[.slice none 0 0, .int .i64 0] 28)).alloc (.cells (plA mem 0) 76) := ⟨_, rfl⟩
    obtain ⟨gX, gP, hb5, hs5⟩ := box2 hw5.symm
    rw [hX] at gX gP hs5 hs4
    have hb05 := Below.next hb1 (Below.next hb4 hb5)
    have hX1 : w.heap.size + 1 ≤ X := by omega
    have GR5 := Lib.hid (heap_below (Below.next hb4 hb5) gR1)
    have GX5 := Lib.hid gX
    have GP5 := Lib.hid gP
    have HB05 := Lib.hid hb05
    have HH2 := Lib.hid (H2.out w5 hb05)
    have hw5' : w5 = (w4.alloc (.cells #[.slice none 0 0, .int .i64 0] 28)).alloc (.cells #[.int .i64 0, .int .i64 0, .int .i64 0, .int .i64 0, .int .i64 0, .int .i64 0, .int .i64 0, .int .i64 0, .int .i64 0, .int .i64 0, .int .i64 0, .int .i64 0] 76) := by rw [hw5, plA_zero]; rfl
    clear hb1 gR1 hs1 hb4 hb5 gX gP hb05 hs4 H1 H2 hw5
    go_wp2_with fail
    rw [← hw5']
    clear hw5' hX
    with_reducible refine HH2.out.mono ?_
    rintro e w5' ⟨rfl, hweq⟩
    subst hweq
    have HHM := Lib.hid (HM.out (supS f) w5' HB05.out)
    rw [HMS.out] at HHM
    clear HH2
    go_wp2_with fail
    with_reducible refine HHM.out.mono ?_
    rintro e w6 ⟨mv, rfl, hown, hb6⟩
    have hown' : w6.ownsRow w5'.heap.size 3 1 mv nm (mem.map intV) := by
      have h9 := hown
      unfold Own at h9
      rw [List.length_map, HNM.out] at h9
      exact h9
    obtain ⟨am, cm, rfl, hrd⟩ := rd_of_row hown'
    have HOM := Lib.hid hown'
    have HB06 := Lib.hid (Below.next HB05.out hb6)
    have GR6 := Lib.hid (heap_below hb6 GR5.out)
    have GX6 := Lib.hid (heap_below hb6 GX5.out)
    have GP6 := Lib.hid (heap_below hb6 GP5.out)
    have hs6 := hb6.size
    have hX6 : X + 2 ≤ w6.heap.size := by omega
    have HS5 := Lib.hid hs5
    clear hown hown' hrd hb6 GR5 GX5 GP5 HHM HB05 hs6 hs5
    go_wp2_with fail
    go_loopw [25] (fun q wr => ∃ k v, k ≤ nm ∧ q = .int .i64 ((k : Nat) : Int) ∧ wr.heap[X]? = some (.cells #[v, .int .i64 0] 28 (0, 0)) ∧ wr.heap[X + 1]? = some (.cells (plA mem k) 76 (0, 0)) ∧ XB (fun _ => False) w6.heap.size wr v 58 (srvN (mem.take k)) ∧ (∀ g, g < w6.heap.size → g ≠ X → g ≠ X + 1 → wr.heap[g]? = w6.heap[g]?) ∧ Below w.heap.size w wr ∧ w6.heap.size ≤ wr.heap.size) (fun q _ => nm - (intOf q).toNat)
    case atStart => exact ⟨0, _, Nat.zero_le _, rfl, GX6.out, GP6.out, XB.nil _ _ _ _ (fun _ h => h.elim), fun _ _ _ _ => rfl, HB06.out, Nat.le_refl _⟩
    case round =>
      obtain ⟨k, v, hk, rfl, hXb, hPb, hxb, hbk, hbw, hsz⟩ := hrel
      by_cases hlt : k < nm
      · obtain ⟨m, hm⟩ : ∃ m, mem[k]? = some m := ⟨_, List.getElem?_eq_getElem (by have := HNM.out; omega)⟩
        have hm12' : m < 12 := HM12.out m (List.mem_of_getElem? hm)
        have HPS := Lib.hid (plA_step HND.out hm hm12')
        have HSS := Lib.hid (srvN_succ hm)
        obtain ⟨_, _, e9, hrd⟩ := rd_of_row (rowK_at HOM.out fun g hg => hbk g (HOM.out.lt g hg).2 (by have := HOM.out.lt g hg; have := HS5.out; omega) (by have := HOM.out.lt g hg; have := HS5.out; omega))
        cases e9
        obtain ⟨b, o, ha, hcell⟩ := hrd.at' (by omega)
        have hc : wr.cell? ⟨b, o + k, none⟩ = some (.int .i64 m) := hcell k (intV m) (by rw [List.getElem?_map, hm]; rfl)
        obtain ⟨V, hV1, hV2, hV3⟩ := hxb.row
        have hkl : (srvN (mem.take k)).length = k := by rw [srvN_len, List.length_take]; have := HNM.out; omega
        rw [hkl] at hV1 hV2
        obtain ⟨av, cv, rfl, _⟩ := rdK_of_row hV2
        have hpc := cell_of_row _ _ m _ _ _ hPb |>.trans (plA_at mem k m hm12')
        have hpf := frozen_row hPb m
        have hXc := cell_of_row _ _ 0 _ _ _ hXb
        have HXB := Lib.hid hxb
        have HXb := Lib.hid hXb
        have HPb := Lib.hid hPb
        have HBK := Lib.hid hbk
        have HBW := Lib.hid hbw
        have HV1 := Lib.hid hV1
        have HV2 := Lib.hid hV2
        have HV3 := Lib.hid hV3
        have HKL := Lib.hid hkl
        subst ha
        clear hrd hcell hxb hXb hPb hbk hbw hV1 hV2 hV3 hkl hm
        go_upto_region 10 with fail
        generalize hWp : wr.setCell _ _ = wp
        have hkp : ∀ g, g ≠ X + 1 → wp.heap[g]? = wr.heap[g]? := fun g hg => by rw [← hWp]; exact Below.heap_setCell _ ⟨X + 1, m, none⟩ _ g hg
        have gPp : wp.heap[X + 1]? = some (.cells (plA mem (k + 1)) 76 (0, 0)) := by rw [← hWp, heap_set_at HPb.out, HPS.out]
        have gXp : wp.heap[X]? = some (.cells #[.slice av k cv, .int .i64 0] 28 (0, 0)) := (hkp X (by omega)).trans HXb.out
        have hsp : wp.heap.size = wr.heap.size := by rw [← hWp]; simp
        have hbp : Below w.heap.size wr wp := by rw [← hWp]; exact (Below.refl _ _).setCell (p := ⟨X + 1, m, none⟩) (by show w.heap.size ≤ X + 1; omega) _
        have hrlt := HV2.out.lt
        have hrowp : wp.ownsRow w6.heap.size 58 5 (.slice av k cv) k (V.flatMap nodVC) := rowK_at HV2.out fun g hg => hkp g (by have := hrlt g hg; omega)
        have hxbp := HXB.out.move (w' := wp) (fun g hg => hg.elim) (fun g hg => hkp g (by have := hrlt g hg; omega)) (by omega)
        have HROWP := Lib.hid hrowp
        have HXBP := Lib.hid hxbp
        have GPP := Lib.hid gPp
        have GXP := Lib.hid gXp
        have HKP := Lib.hid hkp
        have HBP := Lib.hid hbp
        have hxc := cell_of_row _ _ 0 _ _ _ gXp
        have hsp1 : w6.heap.size ≤ wp.heap.size := by omega
        have HSP := Lib.hid hsp
        clear hWp hkp gPp gXp hbp hrowp hxbp hpc hpf hXc hc HV2 hsp
        go_wp2_with (at_builtin; go_must (refine wpList_appK2 5 _ _ 26 72 (.agg #[.int .i64 0, .int .i64 0, .int .i64 0, .slice none 0 0, .slice none 0 0]) (nodVC ⟨1, (m : Int), 0, .slice none 0 0, .slice none 0 0⟩) _ Tryd.underlying26 Tryd.infoNod rfl (by decide) HROWP.out (Below.refl w6.heap.size wp) (by omega) rfl rfl rfl rfl rfl (by intro u hu; unfold nodVC at hu; simp at hu; rcases hu with rfl | rfl | rfl | rfl | rfl <;> rfl) (by unfold maxLen; omega) (by omega) ?_))
        intro v7 w7 hown7 hb7 hg7 hs7 hv7
        have hV3 := fun (i : Nat) p nd hp hn => (HV3.out i p nd hp hn).move (w' := wp) (fun g hg => hg.elim)
        have hxb7 := HXBP.out.app (SW := fun _ => False) (p := ⟨1, (m : Int), 0, .slice none 0 0, .slice none 0 0⟩) (nd := ⟨1, (m : Int), 0, [], []⟩) (by rw [HV1.out, HKL.out]) hV3 (Below.refl _ _) hg7 (by rw [HKL.out]; exact hown7) hv7 (nodS_srv _ _ _ _) (fun g hg => hg.elim)
        rw [← HSS.out] at hxb7
        have hxb8 := hxb7.mono (S' := fun _ => False) (fun g hg => hg.elim id id) (fun g hg => hg.elim) (fun g e hg => hg.elim)
        obtain ⟨a7, c7, rfl, _⟩ := rdK_of_row hown7
        have hblk : ∀ g, g < w6.heap.size → w7.heap[g]? = wp.heap[g]? := fun g hg => hg7.block g (by omega) (fun e => by have := hrlt g e.symm; omega)
        have hsp := HSP.out
        have gX7 := (hblk X (by omega)).trans GXP.out
        have gP7 := (hblk (X + 1) (by omega)).trans GPP.out
        have hx7 := cell_of_row _ _ 0 _ _ _ gX7
        have fx7 := frozen_row gX7 0
        have HXB8 := Lib.hid hxb8
        have GX7 := Lib.hid gX7
        have GP7 := Lib.hid gP7
        have HBLK := Lib.hid hblk
        have HB7 := Lib.hid (HBW.out.trans (HBP.out.trans (hb7.mono (by have := HB06.out.size; omega))))
        clear hxb7 hxb8 hV3 hown7 hb7 hg7 hv7 gX7 gP7 hblk hxc
        go_wp2_with fail
        go_roundw
        case rel =>
          refine ⟨k + 1, .slice a7 (k + 1) c7, by omega, by go_num, by rw [heap_set_at GX7.out]; rfl, heap_set_other (by omega) _ _ GP7.out, HXB8.out.move (fun g hg => hg.elim) (fun g hg => ?_) (by simp), fun g h1 h2 h3 => ?_, ?_, by simp; omega⟩
          · exact Below.heap_setCell _ _ _ _ (by have := (HXB8.out.lt_own g hg).1; show g ≠ X; omega)
          · rw [Below.heap_setCell _ ⟨X, 0, none⟩ _ g h2, HBLK.out g h1, HKP.out g h3]
            exact HBK.out g h1 h2 h3
          · exact HB7.out.setCell (p := ⟨X, 0, none⟩) (by show w.heap.size ≤ X; omega) _
        case measure => simp [intOf] <;> omega
      · obtain rfl : k = nm := by omega
        rw [List.take_of_length_le (by have := HNM.out; omega)] at hxb
        have h0 : (ofT f 0).1 = srvN mem := by rw [ofT_zero, HME.out]
        rw [← h0] at hxb
        have HXB0 := Lib.hid hxb
        have HX0 := Lib.hid hXb
        have HP0 := Lib.hid hPb
        have HBK0 := Lib.hid hbk
        have HBW0 := Lib.hid hbw
        have HFT := Lib.hid (fun j hj => ofT_len f j hj)
        clear h0 hxb hXb hPb hbk hbw
        go_wp2_with fail
        go_loopw [9, 43] (fun a9 q wr => ∃ j v S, j ≤ n ∧ q = .int .i64 ((j : Nat) : Int) ∧ wr.heap[X]? = some (.cells #[v, .int .i64 0] 28 (0, 0)) ∧ wr.heap[X + 1]? = some (.cells (plA mem k) 76 (0, 0)) ∧ XB S w6.heap.size wr v 58 (ofT f j).1 ∧ wr.ownsRow w6.heap.size 3 1 a9 j ((ofT f j).2.map (Value.int .i64)) ∧ (∀ g, S g → w6.heap.size ≤ g) ∧ (∀ g, a9.ownBlock = some g → ¬ S g ∧ v.ownBlock ≠ some g) ∧ (∀ g, g < w6.heap.size → g ≠ X → g ≠ X + 1 → wr.heap[g]? = w6.heap[g]?) ∧ Below w.heap.size w wr ∧ w6.heap.size ≤ wr.heap.size) (fun _ q _ => n - (intOf q).toNat)
        case atStart => exact ⟨0, v, fun _ => False, Nat.zero_le _, rfl, HX0.out, HP0.out, HXB0.out, World.ownsRow_nil _ _ _ _, fun _ h => h.elim, (fun _ h => by cases h), HBK0.out, HBW0.out, hsz⟩
        case round =>
          clear HXB0 HX0 HP0 HBK0 HBW0 hsz
          obtain ⟨j, v, S, hj, rfl, hXb, hPb, hxb, hrow9, hS, hd9, hbk, hbw, hsz⟩ := hrel
          by_cases hlt : j < n
          · obtain ⟨s, hs⟩ : ∃ s, f[j]? = some s := ⟨_, List.getElem?_eq_getElem (by have := HFN.out; omega)⟩
            have hsm := List.mem_of_getElem? hs
            have HKS := Lib.hid (HK12.out s hsm)
            have HST := Lib.hid (ofT_succ hs)
            obtain ⟨b, o, ha, hcell⟩ := (HH.out.below hbw).at' (by omega)
            have hc : wr.cell? ⟨b, o + j, none⟩ = some (.int .u16 (U s)) := hcell j (setV2 s) (by rw [List.getElem?_map, hs]; rfl)
            have HMJ := Lib.hid (HM.out s wr hbw)
            have HMMS := Lib.hid (HMM.out s hsm)
            obtain ⟨nk, hnk⟩ : ∃ nk, (memS s).length = nk := ⟨_, rfl⟩
            have hnk12 : nk ≤ 12 := by rw [← hnk]; exact HKS.out
            have HNK := Lib.hid hnk
            have HXb := Lib.hid hXb
            have HPb := Lib.hid hPb
            have HXB := Lib.hid hxb
            have HR9 := Lib.hid hrow9
            have HSS := Lib.hid hS
            have HD9 := Lib.hid hd9
            have HBK := Lib.hid hbk
            have HBW := Lib.hid hbw
            subst ha
            clear hXb hPb hxb hrow9 hS hd9 hbk hbw hs hsm hcell hnk
            go_wp2_with fail
            with_reducible refine HMJ.out.mono ?_
            rintro e w7 ⟨kv, rfl, hown7, hb7⟩
            have hown7' : w7.ownsRow wr.heap.size 3 1 kv nk ((memS s).map intV) := by
              have h9 := hown7
              unfold Own at h9
              rw [List.length_map, HNK.out] at h9
              exact h9
            obtain ⟨a7, c7, rfl, hrd7⟩ := rd_of_row hown7'
            have HRD7 := Lib.hid hrd7
            have HB7 := Lib.hid hb7
            have GP7 := Lib.hid (heap_below hb7 HPb.out)
            have hs7 := hb7.size
            clear hown7 hown7' hrd7 hb7 HMJ hc
            go_wp2_with fail
            go_loopw [12, 50] (fun a12 q wq => ∃ i, i ≤ nk ∧ q = .int .i64 ((i : Nat) : Int) ∧ wq.ownsRow w7.heap.size 3 1 a12 i (((kidsO mem s).take i).map (Value.int .i64)) ∧ Below w7.heap.size w7 wq) (fun _ q _ => nk - (intOf q).toNat)
            case atStart => exact ⟨0, Nat.zero_le _, rfl, World.ownsRow_nil _ _ _ _, Below.refl _ _⟩
            case round =>
              obtain ⟨i, hi, rfl, hrow12, hbq⟩ := hrel
              by_cases hlti : i < nk
              · obtain ⟨m, hm⟩ : ∃ m, (memS s)[i]? = some m := ⟨_, List.getElem?_eq_getElem (by have := HNK.out; omega)⟩
                have hmm := HMMS.out m (List.mem_of_getElem? hm)
                have hm12' : m < 12 := HM12.out m hmm
                have HTK : Hid ((kidsO mem s).take (i + 1) = (kidsO mem s).take i ++ [((mem.idxOf m : Nat) : Int)]) := Lib.hid (by
                  rw [List.take_add_one]
                  unfold kidsO
                  rw [List.getElem?_map, hm]; rfl)
                obtain ⟨b3, o3, ha3, hcell3⟩ := (HRD7.out.below hbq).at' (by omega)
                have hc3 : wr.cell? ⟨b3, o3 + i, none⟩ = some (.int .i64 m) := hcell3 i (intV m) (by rw [List.getElem?_map, hm]; rfl)
                have gPq := heap_below hbq GP7.out
                have hpc : wr.cell? ⟨X + 1, m, none⟩ = some (.int .i64 ((mem.idxOf m : Nat) : Int)) := by
                  rw [cell_of_row _ _ m _ _ _ gPq, plA_at mem k m hm12', List.take_of_length_le (by have := HNM.out; omega), if_pos hmm]
                obtain ⟨a12, c12, rfl, _⟩ := rd_of_row hrow12
                have HR12 := Lib.hid hrow12
                have HBQ := Lib.hid hbq
                have hsq := hbq.size
                obtain ⟨IX, hIX⟩ : ∃ IX : Nat, mem.idxOf m = IX := ⟨_, rfl⟩
                rw [hIX] at hpc HTK
                subst ha3
                clear hm hmm hcell3 gPq hrow12 hbq hIX
                go_wp2_with (at_builtin; go_must (refine wpList_appK2 1 _ _ 56 8 (.int .i64 0) [.int .i64 (IX : Int)] _ Tryd.underlying56 Tryd.infoInt rfl (by decide) HR12.out (Below.refl w7.heap.size wr) (by omega) rfl rfl rfl rfl rfl (by intro u hu; simp at hu; subst hu; rfl) (by unfold maxLen; omega) (by omega) ?_))
                intro v8 w8 hown8 hb8 hg8 hs8 hv8
                have hown8' : w8.ownsRow w7.heap.size 3 1 v8 (i + 1) (((kidsO mem s).take (i + 1)).map (Value.int .i64)) := by
                  rw [HTK.out, List.map_append, List.map_take]; exact hown8
                have HO8 := Lib.hid hown8'
                have HB8 := Lib.hid (HBQ.out.trans hb8)
                clear hown8 hown8' hb8 hg8 hs8 hv8 hc3 hpc
                go_wp2_with fail
                go_roundw
                case rel => exact ⟨i + 1, by omega, by go_num, HO8.out, HB8.out⟩
                case measure => simp [intOf] <;> omega
              · obtain rfl : i = nk := by omega
                rw [List.take_of_length_le (by rw [kidsO_len, HNK.out]; omega)] at hrow12
                obtain ⟨a12, c12, rfl, hrd12⟩ := rd_of_row hrow12
                have hklen : (kidsO mem s).length = i := by rw [kidsO_len, HNK.out]
                have hr12lt := hrow12.lt
                have hsq := hbq.size
                have h9lt := HR9.out.lt
                have hr9q := rowK_below HR9.out (Below.next HB7.out hbq)
                obtain ⟨a9, c9, rfl, _⟩ := rd_of_row hr9q
                have hxbq := HXB.out.below (Below.next HB7.out hbq)
                have gXq := heap_below (Below.next HB7.out hbq) HXb.out
                have gPq := heap_below (Below.next HB7.out hbq) HPb.out
                have hbwq := Below.next HBW.out (Below.next HB7.out hbq)
                have hbkq : ∀ g, g < w6.heap.size → g ≠ X → g ≠ X + 1 → wr.heap[g]? = w6.heap[g]? := fun g h1 h2 h3 => ((Below.next HB7.out hbq).block g (by omega)).trans (HBK.out g h1 h2 h3)
                have hvlt := hxbq.lt_own
                have hvlt0 := HXB.out.lt_own
                have hSlt0 := HXB.out.lt
                obtain ⟨KS, hKS⟩ : ∃ KS, kidsO mem s = KS := ⟨_, rfl⟩
                have hST : ofT f (j + 1) = if KS.length = 1 then ((ofT f j).1, (ofT f j).2 ++ KS) else ((ofT f j).1 ++ [⟨2, 0, (KS.length : Int), [], KS⟩], (ofT f j).2 ++ [((ofT f j).1.length : Int)]) := by
                  rw [HST.out, HME.out]; unfold stepO; rw [hKS]
                rw [hKS] at hrow12 hrd12 hklen
                have hft := HFT.out j (by have := HFN.out; omega)
                rw [HME.out, HNM.out] at hft
                obtain ⟨NT, hNT⟩ : ∃ NT, ofT f j = NT := ⟨_, rfl⟩
                rw [hNT] at hST hft hxbq hr9q
                obtain ⟨NL, hNL⟩ : ∃ NL, NT.1.length = NL := ⟨_, rfl⟩
                rw [hNL] at hft
                have HR12 := Lib.hid hrow12
                have HRD12 := Lib.hid hrd12
                have HR9Q := Lib.hid hr9q
                have HXBQ := Lib.hid hxbq
                have HXQ := Lib.hid gXq
                have HPQ := Lib.hid gPq
                have HBWQ := Lib.hid hbwq
                have HBKQ := Lib.hid hbkq
                have HSTE := Lib.hid hST
                have HKLEN := Lib.hid hklen
                have HNLL := Lib.hid hNL
                have HD9' := HD9.out
                have hSS := HSS.out
                have hft1 := hft.1
                clear hrow12 hrd12 hr9q hxbq gXq gPq hbwq hbkq hST hklen hNL hft HXb HPb HXB HR9 HBK HBW HST hKS hNT HRD7 HB7 GP7 hbq
                by_cases h1 : i = 1
                · have HST1 : Hid (ofT f (j + 1) = (NT.1, NT.2 ++ KS)) := Lib.hid (by rw [HSTE.out, if_pos (by rw [HKLEN.out, h1])])
                  obtain ⟨z, hz⟩ : ∃ z, KS = [z] := by
                    have h2 := HKLEN.out
                    rw [h1] at h2
                    exact List.length_eq_one_iff.1 h2
                  obtain ⟨b3, o3, ha3, hcell3⟩ := HRD12.out.at' (by omega)
                  have hc3 : wr.cell? ⟨b3, o3, none⟩ = some (.int .i64 z) := by
                    have := hcell3 0 (.int .i64 z) (by rw [hz]; rfl)
                    rwa [Nat.add_zero] at this
                  have hi1 : ((i : Int) == 1) = true := by rw [h1]; rfl
                  have HZ := Lib.hid hz
                  have hib : (0 : Nat) < i := by omega
                  subst ha3
                  clear hz hcell3 h1
                  go_wp2_with (at_builtin; go_must (refine wpList_appK2 1 _ _ 56 8 (.int .i64 0) [.int .i64 z] _ Tryd.underlying56 Tryd.infoInt rfl (by decide) HR9Q.out (Below.refl w6.heap.size wr) (by omega) rfl rfl rfl rfl rfl (by intro u hu; simp at hu; subst hu; rfl) (by unfold maxLen; omega) (by omega) ?_))
                  intro v8 w8 hown8 hb8 hg8 hs8 hv8
                  have hblk : ∀ g, g < wr.heap.size → (Value.slice a9 j c9).ownBlock ≠ some g → w8.heap[g]? = wr.heap[g]? := fun g g1 g2 => hg8.block g g1 (fun e => g2 e.symm)
                  have hxb8 := HXBQ.out.move (w' := w8) (fun g hg => hblk g (HXBQ.out.lt g hg) (fun e => (HD9' g e).1 hg)) (fun g hg => hblk g (HXBQ.out.lt_own g hg).2 (fun e => (HD9' g e).2 hg)) hg8.size
                  have gX8 := (hblk X (by omega) (fun e => by have := h9lt X e; omega)).trans HXQ.out
                  have gP8 := (hblk (X + 1) (by omega) (fun e => by have := h9lt (X + 1) e; omega)).trans HPQ.out
                  have hown8' : w8.ownsRow w6.heap.size 3 1 v8 (j + 1) ((NT.2 ++ KS).map (Value.int .i64)) := by rw [HZ.out, List.map_append]; exact hown8
                  have hbk8 : ∀ g, g < w6.heap.size → g ≠ X → g ≠ X + 1 → w8.heap[g]? = w6.heap[g]? := fun g g1 g2 g3 => (hblk g (by omega) (fun e => by have := h9lt g e; omega)).trans (HBKQ.out g g1 g2 g3)
                  have HXB8 := Lib.hid hxb8
                  have HX8 := Lib.hid gX8
                  have HP8 := Lib.hid gP8
                  have HO8 := Lib.hid hown8'
                  have HBK8 := Lib.hid hbk8
                  have HV8 := Lib.hid hv8
                  have HBW8 := Lib.hid (HBWQ.out.trans (hb8.mono (by have := HB06.out.size; omega)))
                  clear hblk hxb8 gX8 gP8 hown8' hbk8 hv8 hown8 hb8 hg8 hc3
                  go_wp2_with fail
                  go_roundw
                  case rel =>
                    refine ⟨j + 1, v, S, by omega, by go_num, HX8.out, HP8.out, by rw [HST1.out]; exact HXB8.out, by rw [HST1.out]; exact HO8.out, hSS, fun g hg => ?_, HBK8.out, HBW8.out, by omega⟩
                    rcases HV8.out g hg with e | e
                    · exact HD9' g e
                    · exact ⟨fun hS => by have := hSlt0 g hS; omega, fun e2 => by have := hvlt0 g e2; omega⟩
                  case measure => simp [intOf] <;> omega
                · have HST1 : Hid (ofT f (j + 1) = (NT.1 ++ [⟨2, 0, (i : Int), [], KS⟩], NT.2 ++ [(NL : Int)])) := Lib.hid (by rw [HSTE.out, if_neg (by rw [HKLEN.out]; exact h1), HKLEN.out, HNLL.out])
                  have hi1 : ((i : Int) == 1) = false := by rw [beq_eq_false_iff_ne]; omega
                  obtain ⟨V, hV1, hV2, hV3⟩ := HXBQ.out.row
                  rw [HNLL.out] at hV1 hV2
                  obtain ⟨av, cv, rfl, _⟩ := rdK_of_row hV2
                  have HV1 := Lib.hid hV1
                  have HV2 := Lib.hid hV2
                  have HV3 := Lib.hid hV3
                  have hx0 := cell_of_row _ _ 0 _ _ _ HXQ.out
                  clear hV1 hV2 hV3 h1
                  go_wp2_with (at_builtin; go_must (refine wpList_appK2 1 _ _ 56 8 (.int .i64 0) [.int .i64 (NL : Int)] _ Tryd.underlying56 Tryd.infoInt rfl (by decide) HR9Q.out (Below.refl w6.heap.size wr) (by omega) rfl rfl rfl rfl rfl (by intro u hu; simp at hu; subst hu; rfl) (by unfold maxLen; omega) (by omega) ?_))
                  intro v8 w8 hown8 hb8 hg8 hs8 hv8
                  have hblk : ∀ g, g < wr.heap.size → (Value.slice a9 j c9).ownBlock ≠ some g → w8.heap[g]? = wr.heap[g]? := fun g g1 g2 => hg8.block g g1 (fun e => g2 e.symm)
                  have hxb8 := HXBQ.out.move (w' := w8) (fun g hg => hblk g (HXBQ.out.lt g hg) (fun e => (HD9' g e).1 hg)) (fun g hg => hblk g (HXBQ.out.lt_own g hg).2 (fun e => (HD9' g e).2 hg)) hg8.size
                  have gX8 := (hblk X (by omega) (fun e => by have := h9lt X e; omega)).trans HXQ.out
                  have gP8 := (hblk (X + 1) (by omega) (fun e => by have := h9lt (X + 1) e; omega)).trans HPQ.out
                  have hown8' : w8.ownsRow w6.heap.size 3 1 v8 (j + 1) ((NT.2 ++ [(NL : Int)]).map (Value.int .i64)) := by rw [List.map_append]; exact hown8
                  have hbk8 : ∀ g, g < w6.heap.size → g ≠ X → g ≠ X + 1 → w8.heap[g]? = w6.heap[g]? := fun g g1 g2 g3 => (hblk g (by omega) (fun e => by have := h9lt g e; omega)).trans (HBKQ.out g g1 g2 g3)
                  have hrow8 : w8.ownsRow w6.heap.size 58 5 (.slice av NL cv) NL (V.flatMap nodVC) := rowK_at HV2.out fun g hg => hblk g (HV2.out.lt g hg).2 (fun e => (HD9' g e).2 hg)
                  have hk12 : w8.ownsRow w7.heap.size 3 1 (.slice a12 i c12) i (KS.map (Value.int .i64)) := rowK_at HR12.out fun g hg => hblk g (hr12lt g hg).2 (fun e => by have := h9lt g e; have := hr12lt g hg; omega)
                  have hV38 := fun (i : Nat) p nd hp hn => (HV3.out i p nd hp hn).move (w' := w8) (fun g hg => hblk g (HXBQ.out.lt g hg) (fun e => (HD9' g e).1 hg))
                  obtain ⟨a8, c8, rfl, _⟩ := rd_of_row hown8'
                  have h8lt : ∀ g, (Value.slice a8 (j + 1) c8).ownBlock = some g → (Value.slice a9 j c9).ownBlock = some g ∨ wr.heap.size ≤ g := hv8
                  have HXB8 := Lib.hid hxb8
                  have HX8 := Lib.hid gX8
                  have HP8 := Lib.hid gP8
                  have HO8 := Lib.hid hown8'
                  have HBK8 := Lib.hid hbk8
                  have HR8 := Lib.hid hrow8
                  have HK8 := Lib.hid hk12
                  have HV38 := Lib.hid hV38
                  have HBW8 := Lib.hid (HBWQ.out.trans (hb8.mono (by have := HB06.out.size; omega)))
                  have hx8 := cell_of_row _ _ 0 _ _ _ gX8
                  have HVLT := Lib.hid HV2.out.lt
                  clear hblk hxb8 gX8 gP8 hown8' hbk8 hrow8 hk12 hV38 hv8 hown8 hb8 hg8 hx0 HV2 HV3
                  go_wp2_with (at_builtin; go_must (refine wpList_appK2 5 _ _ 26 72 (.agg #[.int .i64 0, .int .i64 0, .int .i64 0, .slice none 0 0, .slice none 0 0]) (nodVC ⟨2, 0, (i : Int), .slice none 0 0, .slice a12 i c12⟩) _ Tryd.underlying26 Tryd.infoNod rfl (by decide) HR8.out (Below.refl w6.heap.size w8) (by omega) rfl rfl rfl rfl rfl (by intro u hu; unfold nodVC at hu; simp at hu; rcases hu with rfl | rfl | rfl | rfl | rfl <;> rfl) (by unfold maxLen; omega) (by omega) ?_))
                  intro v10 w10 hown10 hb10 hg10 hs10 hv10
                  have hxb10 := HXB8.out.app (SW := fun g => (Value.slice a12 i c12).ownBlock = some g) (p := ⟨2, 0, (i : Int), .slice none 0 0, .slice a12 i c12⟩) (nd := ⟨2, 0, (i : Int), [], KS⟩) (by rw [HV1.out, HNLL.out]) HV38.out (Below.refl _ _) hg10 (by rw [HNLL.out]; exact hown10) hv10 (nodS_thr _ HK8.out (fun g hg => hg)) (fun g hg => ⟨(HK8.out.lt g hg).2, fun e => by have := hvlt0 g e; have := hr12lt g hg; omega⟩)
                  have hblk : ∀ g, g < w8.heap.size → (Value.slice av NL cv).ownBlock ≠ some g → w10.heap[g]? = w8.heap[g]? := fun g g1 g2 => hg10.block g g1 (fun e => g2 e.symm)
                  have hvl := hvlt0
                  have gX10 := (hblk X (by omega) (fun e => by have := hvl X e; omega)).trans HX8.out
                  have gP10 := (hblk (X + 1) (by omega) (fun e => by have := hvl (X + 1) e; omega)).trans HP8.out
                  have hr10 : w10.ownsRow w6.heap.size 3 1 (.slice a8 (j + 1) c8) (j + 1) ((NT.2 ++ [(NL : Int)]).map (Value.int .i64)) := rowK_at HO8.out fun g hg => hblk g (HO8.out.lt g hg).2 (fun e => by
                    rcases h8lt g hg with e2 | e2
                    · exact (HD9' g e2).2 e
                    · have := hvl g e; omega)
                  obtain ⟨a10, c10, rfl, _⟩ := rdK_of_row hown10
                  have hx10 := cell_of_row _ _ 0 _ _ _ gX10
                  have fx10 := frozen_row gX10 0
                  have HXB10 := Lib.hid hxb10
                  have HX10 := Lib.hid gX10
                  have HP10 := Lib.hid gP10
                  have HR10 := Lib.hid hr10
                  have HV10 := Lib.hid hv10
                  have HBLK := Lib.hid hblk
                  have HBW10 := Lib.hid (HBW8.out.trans (hb10.mono (by have := HB06.out.size; omega)))
                  have h10lt := hr10.lt
                  clear hxb10 gX10 gP10 hr10 hblk hown10 hb10 hg10 hx8 hv10
                  go_wp2_with fail
                  go_roundw
                  case rel =>
                    refine ⟨j + 1, _, (fun g => S g ∨ (Value.slice a12 i c12).ownBlock = some g), by omega, by go_num, by rw [heap_set_at HX10.out]; rfl, heap_set_other (by omega) _ _ HP10.out, ?_, ?_, fun g hg => ?_, fun g hg => ?_, fun g g1 g2 g3 => ?_, ?_, by simp; omega⟩
                    · rw [HST1.out]
                      exact HXB10.out.move (fun g hg => Below.heap_setCell _ _ _ _ (by
                        show g ≠ X
                        rcases hg with hg | hg
                        · have := hSS g hg; omega
                        · have := hr12lt g hg; omega)) (fun g hg => Below.heap_setCell _ _ _ _ (by have := (HXB10.out.lt_own g hg).1; show g ≠ X; omega)) (by simp)
                    · rw [HST1.out]
                      exact rowK_at HR10.out fun g hg => Below.heap_setCell _ _ _ _ (by have := h10lt g hg; show g ≠ X; omega)
                    · rcases hg with hg | hg
                      · exact hSS g hg
                      · have := hr12lt g hg; omega
                    · refine ⟨?_, fun e => ?_⟩
                      · rintro (h2 | h2)
                        · rcases h8lt g hg with e2 | e2
                          · exact (HD9' g e2).1 h2
                          · have := hSlt0 g h2; omega
                        · rcases h8lt g hg with e2 | e2
                          · have := h9lt g e2; have := hr12lt g h2; omega
                          · have := hr12lt g h2; omega
                      · rcases HV10.out g e with e3 | e3
                        · rcases h8lt g hg with e2 | e2
                          · exact (HD9' g e2).2 e3
                          · have := hvl g e3; omega
                        · have := (HO8.out.lt g hg).2; omega
                    · rw [Below.heap_setCell _ ⟨X, 0, none⟩ _ g g2, HBLK.out g (by omega) (fun e => by have := hvl g e; omega)]
                      exact HBK8.out g g1 g2 g3
                    · exact HBW10.out.setCell (p := ⟨X, 0, none⟩) (by show w.heap.size ≤ X; omega) _
                  case measure => simp [intOf] <;> omega
          · obtain rfl : j = n := by omega
            have hft := HFT.out j (by have := HFN.out; omega)
            rw [HME.out, HNM.out] at hft
            have hOX : ofX f = if (ofT f j).2.length = 1 then ⟨(ofT f j).1, (ofT f j).2.getD 0 0⟩ else ⟨(ofT f j).1 ++ [⟨2, 0, 1, [], (ofT f j).2⟩], ((ofT f j).1.length : Int)⟩ := by unfold ofX; rw [HFN.out]
            obtain ⟨NT, hNT⟩ : ∃ NT, ofT f j = NT := ⟨_, rfl⟩
            rw [hNT] at hft hxb hrow9 hOX
            obtain ⟨NL, hNL⟩ : ∃ NL, NT.1.length = NL := ⟨_, rfl⟩
            rw [hNL] at hft hOX
            obtain ⟨hft1, hft2⟩ := hft
            rw [hft2] at hOX
            obtain ⟨V, hV1, hV2, hV3⟩ := hxb.row
            rw [hNL] at hV1 hV2
            obtain ⟨av, cv, rfl, _⟩ := rdK_of_row hV2
            obtain ⟨a9, c9, rfl, hrd9⟩ := rd_of_row hrow9
            have gR := (hbk w.heap.size (by omega) (by omega) (by omega)).trans GR6.out
            have HXB := Lib.hid hxb
            have HR9 := Lib.hid hrow9
            have HRD9 := Lib.hid hrd9
            have HV1 := Lib.hid hV1
            have HV2 := Lib.hid hV2
            have HV3 := Lib.hid hV3
            have HXb := Lib.hid hXb
            have HGR := Lib.hid gR
            have HBW := Lib.hid hbw
            have HOX := Lib.hid hOX
            have HNLL := Lib.hid hNL
            have h9lt := hrow9.lt
            have hvlt := hxb.lt_own
            have x0 := cell_of_row _ _ 0 _ _ _ hXb
            have x1 := cell_of_row _ _ 1 _ _ _ hXb
            have y0 := frozen_row hXb 0
            have y1 := frozen_row hXb 1
            clear hxb hrow9 hrd9 hV1 hV2 hV3 hXb gR hbk hbw hOX hNL hNT hft2 hPb
            by_cases h1 : j = 1
            · have HOX1 : Hid (ofX f = ⟨NT.1, NT.2.getD 0 0⟩) := Lib.hid (by rw [HOX.out, if_pos h1])
              obtain ⟨b3, o3, ha3, hcell3⟩ := HRD9.out.at' (by omega)
              obtain ⟨z, hz⟩ : ∃ z, NT.2[0]? = some z := by
                have h2 := HRD9.out.len
                rw [List.length_map] at h2
                exact ⟨_, List.getElem?_eq_getElem (by omega)⟩
              have hc3 : wr.cell? ⟨b3, o3, none⟩ = some (.int .i64 z) := by
                have := hcell3 0 (.int .i64 z) (by rw [List.getElem?_map, hz]; rfl)
                rwa [Nat.add_zero] at this
              have hg0 : NT.2.getD 0 0 = z := by rw [List.getD_eq_getElem?_getD, hz]; rfl
              rw [hg0] at HOX1
              have hi1 : ((j : Int) == 1) = true := by rw [h1]; rfl
              have hib : (0 : Nat) < j := by omega
              subst ha3
              clear hz hcell3 h1 hg0
              go_upto_region 31 with fail
              generalize hWp : wr.setCell _ _ = wp
              have hkp : ∀ g, g ≠ X → wp.heap[g]? = wr.heap[g]? := fun g hg => by rw [← hWp]; exact Below.heap_setCell _ ⟨X, 1, none⟩ _ g hg
              have gXp : wp.heap[X]? = some (.cells #[.slice av NL cv, .int .i64 z] 28 (0, 0)) := by rw [← hWp, heap_set_at HXb.out]; rfl
              have hsp : wr.heap.size ≤ wp.heap.size := by rw [← hWp]; simp
              have HBp := Lib.hid (HBW.out.trans (show Below w.heap.size wr wp by rw [← hWp]; exact (Below.refl _ _).setCell (p := ⟨X, 1, none⟩) (by show w.heap.size ≤ X; omega) _))
              have gRp := (hkp w.heap.size (by omega)).trans HGR.out
              have HXBp := Lib.hid (HXB.out.move (w' := wp) (fun g hg => hkp g (by have := hS g hg; omega)) (fun g hg => hkp g (by have := hvlt g hg; omega)) hsp)
              have HGRp := Lib.hid gRp
              clear x0 x1 y0 y1 hc3
              have x0 := cell_of_row _ _ 0 _ _ _ gXp
              have x1 := cell_of_row _ _ 1 _ _ _ gXp
              have r0 := cell_of_row _ _ 0 _ _ _ gRp
              have r1 := cell_of_row _ _ 1 _ _ _ gRp
              have z0 := frozen_row gRp 0
              have z1 := frozen_row gRp 1
              clear hWp hkp gXp hsp gRp
              by_cases h60 : 60 < NL
              · have hR : ofE f = (⟨[], 0⟩, 3) := by rw [HRR.out, if_pos (by rw [HOX1.out]; show 60 < NT.1.length; rw [HNLL.out]; exact h60)]
                have HR := Lib.hid hR
                have hd : decide ((60 : Int) < ((NL : Nat) : Int)) = true := decide_eq_true (by omega)
                clear hR h60
                go_wp2_with fail
                clear r0 r1 z0 z1 x0 x1
                generalize hWF : (wp.setCell _ _).setCell _ _ = WF
                obtain ⟨e1, hbf⟩ := fin_box HGRp.out (by omega) HBp.out hWF
                have HBF := Lib.hid hbf
                have f0 := cell_of_row _ _ 0 _ _ _ e1
                have f1 := cell_of_row _ _ 1 _ _ _ e1
                clear hWF e1 hbf
                refine bodyPost_ret (v := .tuple #[.agg #[.slice none 0 0, .int .i64 0], .int .i64 3]) ?_ rfl (by rw [HR.out]; exact RetX.none_ rfl HBF.out)
                rw [results_cell_tmp rfl]
                go_simp
              · have hR : ofE f = (ofX f, 0) := by rw [HRR.out, if_neg (by rw [HOX1.out]; show ¬ 60 < NT.1.length; rw [HNLL.out]; exact h60)]
                have HR := Lib.hid hR
                have hd : decide ((60 : Int) < ((NL : Nat) : Int)) = false := decide_eq_false (by omega)
                clear hR h60
                go_wp2_with fail
                clear r0 r1 z0 z1 x0 x1
                generalize hWF : (wp.setCell _ _).setCell _ _ = WF
                obtain ⟨e1, hxm, hbf⟩ := retx_fin (w := w) (root := z) HXBp.out (by show NT.1.length = NL; exact HNLL.out) (Nat.le_refl _) (fun g hg => by have := hS g hg; omega) (by omega) HBp.out HGRp.out hWF
                have HXM := Lib.hid hxm
                have HBF := Lib.hid hbf
                have f0 := cell_of_row _ _ 0 _ _ _ e1
                have f1 := cell_of_row _ _ 1 _ _ _ e1
                clear hWF e1 hxm hbf
                refine bodyPost_ret (v := .tuple #[.agg #[.slice av (NL) cv, .int .i64 z], .int .i64 0]) ?_ rfl (by
                  rw [HR.out, HOX1.out]
                  refine ⟨av, cv, ?_, ?_, HBF.out⟩
                  · have e : (NT.1).length = NL := by show NT.1.length = NL; exact HNLL.out
                    show _ = Ending.returned (.tuple #[.agg #[.slice av (NT.1).length cv, .int .i64 z], .int .i64 0])
                    rw [e]
                  · have e : (NT.1).length = NL := by show NT.1.length = NL; exact HNLL.out
                    show XMR _ _ _ av (NT.1).length cv (NT.1)
                    rw [e]; exact HXM.out)
                rw [results_cell_tmp rfl]
                go_simp
            · have HOX1 : Hid (ofX f = ⟨NT.1 ++ [⟨2, 0, 1, [], NT.2⟩], (NL : Int)⟩) := Lib.hid (by rw [HOX.out, if_neg h1])
              have hi1 : ((j : Int) == 1) = false := by rw [beq_eq_false_iff_ne]; omega
              clear h1
              go_upto_region 30 with fail
              generalize hWp : wr.setCell _ _ = wp
              have hkp : ∀ g, g ≠ X → wp.heap[g]? = wr.heap[g]? := fun g hg => by rw [← hWp]; exact Below.heap_setCell _ ⟨X, 1, none⟩ _ g hg
              have gXp : wp.heap[X]? = some (.cells #[.slice av NL cv, .int .i64 (NL : Int)] 28 (0, 0)) := by rw [← hWp, heap_set_at HXb.out]; rfl
              have hsp : wr.heap.size ≤ wp.heap.size := by rw [← hWp]; simp
              have HBp := Lib.hid (HBW.out.trans (show Below w.heap.size wr wp by rw [← hWp]; exact (Below.refl _ _).setCell (p := ⟨X, 1, none⟩) (by show w.heap.size ≤ X; omega) _))
              have gRp := (hkp w.heap.size (by omega)).trans HGR.out
              have hvl0 := hvlt
              have HXBp := Lib.hid (HXB.out.move (w' := wp) (fun g hg => hkp g (by have := hS g hg; omega)) (fun g hg => hkp g (by have := hvlt g hg; omega)) hsp)
              have HROWp := Lib.hid (rowK_at HV2.out fun g hg => hkp g (by have := hvlt g hg; omega))
              have HR9p := Lib.hid (rowK_at HR9.out fun g hg => hkp g (by have := h9lt g hg; omega))
              have hV3p := Lib.hid (fun (i : Nat) p nd hp hn => (HV3.out i p nd hp hn).move (w' := wp) (fun g hg => hkp g (by have := hS g hg; omega)))
              have HGRp := Lib.hid gRp
              have HGXp := Lib.hid gXp
              clear x0 x1 y0 y1
              have x0 := cell_of_row _ _ 0 _ _ _ gXp
              have hwb : w6.heap.size ≤ wp.heap.size := by omega
              have HSPL := Lib.hid hsp
              clear hWp hkp gXp hsp gRp HV2 HV3
              go_wp2_with (at_builtin; go_must (refine wpList_appK2 5 _ _ 26 72 (.agg #[.int .i64 0, .int .i64 0, .int .i64 0, .slice none 0 0, .slice none 0 0]) (nodVC ⟨2, 0, 1, .slice none 0 0, .slice a9 j c9⟩) _ Tryd.underlying26 Tryd.infoNod rfl (by decide) HROWp.out (Below.refl w6.heap.size wp) hwb rfl rfl rfl rfl rfl (by intro u hu; unfold nodVC at hu; simp at hu; rcases hu with rfl | rfl | rfl | rfl | rfl <;> rfl) (by unfold maxLen; omega) (by omega) ?_))
              intro v10 w10 hown10 hb10 hg10 hs10 hv10
              have hxb10 := HXBp.out.app (SW := fun g => (Value.slice a9 j c9).ownBlock = some g) (p := ⟨2, 0, 1, .slice none 0 0, .slice a9 j c9⟩) (nd := ⟨2, 0, 1, [], NT.2⟩) (by rw [HV1.out, HNLL.out]) hV3p.out (Below.refl _ _) hg10 (by rw [HNLL.out]; exact hown10) hv10 (nodS_thr _ HR9p.out (fun g hg => hg)) (fun g hg => ⟨(HR9p.out.lt g hg).2, (hd9 g hg).2⟩)
              have hblk : ∀ g, g < wp.heap.size → (Value.slice av NL cv).ownBlock ≠ some g → w10.heap[g]? = wp.heap[g]? := fun g g1 g2 => hg10.block g g1 (fun e => g2 e.symm)
              have gX10 := (hblk X (by omega) (fun e => by have := hvlt X e; omega)).trans HGXp.out
              have gR10 := (hblk w.heap.size (by omega) (fun e => by have := hvlt w.heap.size e; omega)).trans HGRp.out
              obtain ⟨a10, c10, rfl, _⟩ := rdK_of_row hown10
              have HX10 := Lib.hid gX10
              have HGR10 := Lib.hid gR10
              have HXB10 := Lib.hid hxb10
              have HBW10 := Lib.hid (HBp.out.trans (hb10.mono (by have := HB06.out.size; omega)))
              clear x0 hxb10 hblk hown10 hb10 hg10 hv10
              have x0 := cell_of_row _ _ 0 _ _ _ gX10
              have y0 := frozen_row gX10 0
              clear gX10 gR10
              go_upto_region 31 with fail
              generalize hWq : w10.setCell _ _ = wq
              have hkq : ∀ g, g ≠ X → wq.heap[g]? = w10.heap[g]? := fun g hg => by rw [← hWq]; exact Below.heap_setCell _ ⟨X, 0, none⟩ _ g hg
              have gXq : wq.heap[X]? = some (.cells #[.slice a10 (NL + 1) c10, .int .i64 (NL : Int)] 28 (0, 0)) := by rw [← hWq, heap_set_at HX10.out]; rfl
              have hsq : w10.heap.size ≤ wq.heap.size := by rw [← hWq]; simp
              have HBq := Lib.hid (HBW10.out.trans (show Below w.heap.size w10 wq by rw [← hWq]; exact (Below.refl _ _).setCell (p := ⟨X, 0, none⟩) (by show w.heap.size ≤ X; omega) _))
              have gRq := (hkq w.heap.size (by omega)).trans HGR10.out
              have hS9 : ∀ g, (S g ∨ (Value.slice a9 j c9).ownBlock = some g) → w6.heap.size ≤ g := fun g hg => by
                rcases hg with hg | hg
                · exact hS g hg
                · exact (h9lt g hg).1
              have HXBq := Lib.hid (HXB10.out.move (w' := wq) (fun g hg => hkq g (by have := hS9 g hg; omega)) (fun g hg => hkq g (by have := (HXB10.out.lt_own g hg).1; omega)) hsq)
              have HGRq := Lib.hid gRq
              have HNL1 : Hid ((NT.1 ++ [(⟨2, 0, 1, [], NT.2⟩ : Nod)]).length = NL + 1) := Lib.hid (by rw [List.length_append, HNLL.out]; rfl)
              clear x0 y0
              have x0 := cell_of_row _ _ 0 _ _ _ gXq
              have x1 := cell_of_row _ _ 1 _ _ _ gXq
              have r0 := cell_of_row _ _ 0 _ _ _ gRq
              have r1 := cell_of_row _ _ 1 _ _ _ gRq
              have z0 := frozen_row gRq 0
              have z1 := frozen_row gRq 1
              clear hWq hkq gXq hsq gRq
              by_cases h60 : 60 < NL + 1
              · have hR : ofE f = (⟨[], 0⟩, 3) := by rw [HRR.out, if_pos (by rw [HOX1.out]; show 60 < (NT.1 ++ [(⟨2, 0, 1, [], NT.2⟩ : Nod)]).length; rw [HNL1.out]; exact h60)]
                have HR := Lib.hid hR
                have hd : decide ((60 : Int) < (NL : Int) + 1) = true := decide_eq_true (by omega)
                clear hR h60
                go_wp2_with fail
                clear r0 r1 z0 z1 x0 x1
                generalize hWF : (wq.setCell _ _).setCell _ _ = WF
                obtain ⟨e1, hbf⟩ := fin_box HGRq.out (by omega) HBq.out hWF
                have HBF := Lib.hid hbf
                have f0 := cell_of_row _ _ 0 _ _ _ e1
                have f1 := cell_of_row _ _ 1 _ _ _ e1
                clear hWF e1 hbf
                refine bodyPost_ret (v := .tuple #[.agg #[.slice none 0 0, .int .i64 0], .int .i64 3]) ?_ rfl (by rw [HR.out]; exact RetX.none_ rfl HBF.out)
                rw [results_cell_tmp rfl]
                go_simp
              · have hR : ofE f = (ofX f, 0) := by rw [HRR.out, if_neg (by rw [HOX1.out]; show ¬ 60 < (NT.1 ++ [(⟨2, 0, 1, [], NT.2⟩ : Nod)]).length; rw [HNL1.out]; exact h60)]
                have HR := Lib.hid hR
                have hd : decide ((60 : Int) < (NL : Int) + 1) = false := decide_eq_false (by omega)
                clear hR h60
                go_wp2_with fail
                clear r0 r1 z0 z1 x0 x1
                generalize hWF : (wq.setCell _ _).setCell _ _ = WF
                obtain ⟨e1, hxm, hbf⟩ := retx_fin (w := w) (root := (NL : Int)) HXBq.out (by exact HNL1.out) (Nat.le_refl _) (fun g hg => by have := hS9 g hg; omega) (by omega) HBq.out HGRq.out hWF
                have HXM := Lib.hid hxm
                have HBF := Lib.hid hbf
                have f0 := cell_of_row _ _ 0 _ _ _ e1
                have f1 := cell_of_row _ _ 1 _ _ _ e1
                clear hWF e1 hxm hbf
                refine bodyPost_ret (v := .tuple #[.agg #[.slice a10 (NL + 1) c10, .int .i64 (NL : Int)], .int .i64 0]) ?_ rfl (by
                  rw [HR.out, HOX1.out]
                  refine ⟨a10, c10, ?_, ?_, HBF.out⟩
                  · have e : ((NT.1 ++ [(⟨2, 0, 1, [], NT.2⟩ : Nod)])).length = NL + 1 := by exact HNL1.out
                    show _ = Ending.returned (.tuple #[.agg #[.slice a10 ((NT.1 ++ [(⟨2, 0, 1, [], NT.2⟩ : Nod)])).length c10, .int .i64 (NL : Int)], .int .i64 0])
                    rw [e]
                  · have e : ((NT.1 ++ [(⟨2, 0, 1, [], NT.2⟩ : Nod)])).length = NL + 1 := by exact HNL1.out
                    show XMR _ _ _ a10 ((NT.1 ++ [(⟨2, 0, 1, [], NT.2⟩ : Nod)])).length c10 ((NT.1 ++ [(⟨2, 0, 1, [], NT.2⟩ : Nod)]))
                    rw [e]; exact HXM.out)
                rw [results_cell_tmp rfl]
                go_simp
  · have hRR : ofE f = (⟨[], 0⟩, valS f) := by unfold ofE; rw [if_pos hE]
    rw [hRR]
    obtain ⟨E, hEE⟩ : ∃ E, valS f = E := ⟨_, rfl⟩
    rw [hEE] at H1 hE ⊢
    have hne : (E != 0) = true := by simpa using hE
    clear hRR hEE hE h ht
    go_enter Tryd.func9, Tryd.ntmps9
    go_wp2_with fail
    generalize hW1 : w.alloc _ = w1
    have hb1 : Below w.heap.size w w1 := by rw [← hW1]; exact (Below.refl _ _).alloc (Nat.le_refl _) _
    have gR1 : w1.heap[w.heap.size]? = some (.cells #[.slice none 0 0, .int .i64 0] 28 (0, 0)) := by rw [← hW1]; exact heap_alloc_new _ _
    clear hW1
    with_reducible refine (H1.out w1 hb1).mono ?_
    rintro e w4 ⟨rfl, hb4⟩
    have gR4 := heap_below hb4 gR1
    have HB4 := Lib.hid (Below.next hb1 hb4)
    have HG4 := Lib.hid gR4
    have r0 := cell_of_row _ _ 0 _ _ _ gR4
    have r1 := cell_of_row _ _ 1 _ _ _ gR4
    have z0 := frozen_row gR4 0
    have z1 := frozen_row gR4 1
    clear hb1 gR1 hb4 gR4
    go_wp2_with fail
    clear r0 r1 z0 z1
    generalize hWF : (w4.setCell _ _).setCell _ _ = WF
    obtain ⟨e1, hbf⟩ := fin_box HG4.out (Nat.le_refl _) HB4.out hWF
    have HBF := Lib.hid hbf
    have f0 := cell_of_row _ _ 0 _ _ _ e1
    have f1 := cell_of_row _ _ 1 _ _ _ e1
    clear hWF e1 hbf
    refine bodyPost_ret (v := .tuple #[.agg #[.slice none 0 0, .int .i64 0], .int .i64 E]) ?_ rfl (RetX.none_ rfl HBF.out)
    rw [results_cell_tmp rfl]
    go_simp
end Go.Proofs.YtmjgdnpfgkpaoaaDoor
namespace Go.Proofs.YtmjgdnpfgkpaoaaDoor
open Go.RowKit Go.ChangeShapes Go.WideShapes Go.Deep

section
variable {H : Type} {enc : TypeId × Value → H} {P : Program} {w : World} {base : Nat} {spare : Nat → Bool} {held : Bool}
theorem open_slice_fields {t e : TypeId} {fs : Array Field} {fuel : Nat} {cs : List Value} {x : DataW H × List MemPlace} (ht : P.underlying t = some (.slice e)) (he : P.underlying e = some (.struct fs))
    (hone : oneCellFields P fs = true) (hC : P.cellsOf e = fs.size) (h : DataW.trod enc P w base spare held fuel t cs = some x) :
    (cs = [.slice none 0 0] ∧ x = (.nil, [])) ∨
    ∃ (a : Addr) (len cap m : Nat) (D : Nat → DataW H) (Pl : Nat → List MemPlace), cs = [.slice (some a) len cap] ∧ base ≤ a.block ∧ len ≤ cap ∧ cap ≤ maxLen ∧ m = (if spare a.block then cap else len) ∧
      x = (.slice ((List.range len).map D) ((List.range (m - len)).map fun j => D (len + j)), MemPlace.row a (m * fs.size) ++ (List.range m).flatMap Pl) ∧
      ∀ i, i < m → ∃ (ys : List (DataW H × List MemPlace)) (n : Nat), D i = .agg (ys.map (·.1)) ∧ Pl i = ys.flatMap (·.2) ∧ ys.length = fs.size ∧
        ∀ (j : Nat) (f : Field), fs[j]? = some f → ∃ (v : Value) (y : DataW H × List MemPlace), w.cell? (a.add (i * fs.size + j)) = some v ∧ ys[j]? = some y ∧ DataW.trod enc P w base spare held n f.type [v] = some y := by
  rcases open_slice ht h with h0 | ⟨a, len, cap, m, n, D, Pl, hcs, hb, hl, hm, hmm, hx, hi⟩
  · exact .inl h0
  · refine .inr ⟨a, len, cap, m, D, Pl, hcs, hb, hl, hm, hmm, by rw [hC] at hx; exact hx, fun i him => ?_⟩
    obtain ⟨cs', hc, ht'⟩ := hi i him
    rw [hC] at hc
    obtain ⟨ys, n', hn', hy, hlen, hyl, hf⟩ := DataW.trod_struct he ht'
    obtain ⟨_, hcl, hat⟩ := World.cells?_some hc
    simp only [Prod.mk.injEq] at hy
    refine ⟨ys, n', hy.1, hy.2, hyl, fun j f hj => ?_⟩
    obtain ⟨ho, hk⟩ := hone_of hone j f hj
    have hjl : j < fs.size := (Array.getElem?_eq_some_iff.1 hj).1
    have hcell := hat j hjl
    have hv : cs'[j]? = some (cs'[j]'(by omega)) := List.getElem?_eq_getElem (by omega)
    have h1 := hf j f hj
    rw [ho, hk] at h1
    have hone' : (cs'.drop j).take 1 = [cs'[j]'(by omega)] := by
      rw [List.drop_eq_getElem_cons (by omega)]
      rfl
    rw [hone'] at h1
    have hys : ys[j]? = some (ys[j]'(by omega)) := List.getElem?_eq_getElem (by omega)
    refine ⟨_, _, ?_, hys, h1.trans hys⟩
    rw [← Go.Deep.add_add, hcell, hv]
end

theorem list_of {α : Type} {Q : Nat → α → Prop} : ∀ n, (∀ i, i < n → ∃ r, Q i r) → ∃ L : List α, L.length = n ∧ ∀ i r, L[i]? = some r → Q i r := by
  intro n
  induction n with
  | zero => intro _; exact ⟨[], rfl, fun i r h => by simp at h⟩
  | succ n ih =>
    intro h
    obtain ⟨L, hl, hL⟩ := ih (fun i hi => h i (by omega))
    obtain ⟨r, hr⟩ := h n (by omega)
    refine ⟨L ++ [r], by simp [hl], fun i q hq => ?_⟩
    by_cases hi : i < n
    · rw [List.getElem?_append_left (by omega)] at hq; exact hL i q hq
    · have := (List.getElem?_eq_some_iff.1 hq).1
      simp at this
      obtain rfl : i = n := by omega
      rw [List.getElem?_append_right (by omega), hl, Nat.sub_self] at hq
      cases hq; exact hr

theorem addr_plain {W : World} {a : Addr} {v : Value} (h : W.cell? (a.add 0) = some v) : a = ⟨a.block, a.off, none⟩ := by
  have : a.add 0 = a := by simp [Addr.add]
  rw [this] at h
  unfold World.cell? at h
  cases hs : a.spot with
  | none => cases a; simp_all
  | some s => rw [hs] at h; split at h <;> simp at h

theorem u8_bd {z : Int} (h : (Lit.int .u8 z).wf = true) : 0 ≤ z ∧ z < 256 := by
  simp [Lit.wf, IntKind.min, IntKind.max, IntKind.bits, IntKind.signed] at h; omega
set_option maxRecDepth 100000 in
theorem ints_of {H : Type} {enc : TypeId × Value → H} {W : World} {base : Nat} {held : Bool} {fuel : Nat} {cs : List Value} {x : DataW H × List MemPlace} (h : DataW.trod enc Tryd.prog W base (fun _ => true) held fuel 53 cs = some x) :
    ∃ a n c z, cs = [.slice a n c] ∧ IsInts .u8 W a n c z := by
  rcases open_ints Tryd.underlying53 Tryd.underlying5 (by kernel_rfl) h with ⟨hcs, _⟩ | ⟨x, l, c, zs, hcs, _, hl, hm, hz, _, hcell, hwz⟩
  · exact ⟨_, _, _, _, hcs, .nil⟩
  · exact ⟨_, _, _, _, hcs, .row hl hm (by simpa using hz) hcell hwz⟩
theorem open_pieces {H : Type} {enc : TypeId × Value → H} {w : World} {base : Nat} {held : Bool} {fuel : Nat} {cs : List Value} {x : DataW H × List MemPlace} (h : DataW.trod enc Tryd.prog w base (fun _ => true) held fuel 22 cs = some x) :
    ∃ a n c ps, cs = [.slice a n c] ∧ PM w a n c ps ∧ ∀ p ∈ ps, p.ok := by
  rcases open_slice_fields Tryd.underlying22 Tryd.underlying55 (by kernel_rfl) (by kernel_rfl) h with ⟨hcs, _⟩ | ⟨a, len, cap, m, D, Pl, hcs, _, hl, hm, hmm, _, hi⟩
  · exact ⟨none, 0, 0, [], hcs, ⟨rfl, Nat.le_refl _, by unfold maxLen; omega, fun hn => absurd hn (by decide)⟩, fun r hr => by cases hr⟩
  · have hlm : len ≤ m := by rw [hmm]; split <;> omega
    obtain ⟨L, hL1, hL2⟩ := list_of (α := Pce) (Q := fun i r => (w.cell? (a.add (i * 5 + 0)) = some (.int .u8 r.kind) ∧ w.cell? (a.add (i * 5 + 1)) = some (.int .u8 r.server) ∧ w.cell? (a.add (i * 5 + 2)) = some (.int .u8 r.need) ∧ w.cell? (a.add (i * 5 + 3)) = some (.bool r.heavy) ∧ ∃ a4 n4 c4, w.cell? (a.add (i * 5 + 4)) = some (.slice a4 n4 c4) ∧ Rd w a4 n4 c4 (r.kids.map (Value.int .u8))) ∧ r.ok) len (fun i hil => by
      obtain ⟨ys, n, _, _, _, hf⟩ := hi i (by omega)
      obtain ⟨v0, y0, c0, _, t0⟩ := hf 0 _ rfl
      obtain ⟨v1, y1, c1, _, t1⟩ := hf 1 _ rfl
      obtain ⟨v2, y2, c2, _, t2⟩ := hf 2 _ rfl
      obtain ⟨v3, y3, c3, _, t3⟩ := hf 3 _ rfl
      obtain ⟨v4, y4, c4, _, t4⟩ := hf 4 _ rfl
      obtain ⟨z0, e0, _, b0⟩ := DataW.trod_int Tryd.underlying5 t0
      obtain ⟨z1, e1, _, b1⟩ := DataW.trod_int Tryd.underlying5 t1
      obtain ⟨z2, e2, _, b2⟩ := DataW.trod_int Tryd.underlying5 t2
      obtain ⟨z3, e3, _⟩ := DataW.trod_bool Tryd.underlying4 t3
      obtain ⟨a4, n4, k4, z4, e4, i4⟩ := ints_of t4
      cases e0; cases e1; cases e2; cases e3; cases e4
      exact ⟨⟨z0, z1, z2, z3, z4⟩, ⟨c0, c1, c2, c3, a4, n4, k4, c4, i4.rd⟩, ⟨u8_bd b0, u8_bd b1, u8_bd b2⟩, fun z hz => u8_bd (i4.wf z hz)⟩)
    refine ⟨some a, len, cap, L, hcs, ⟨hL1, hl, hm, fun hn0 => ?_⟩, fun r hr => ?_⟩
    · obtain ⟨x0, hx0⟩ : ∃ x, L[0]? = some x := ⟨_, List.getElem?_eq_getElem (by omega)⟩
      have h0 := (hL2 0 x0 hx0).1.1
      rw [Nat.zero_mul, Nat.zero_add] at h0
      have ha := addr_plain h0
      refine ⟨a.block, a.off, by rw [← ha], fun i p hp => ?_⟩
      obtain ⟨⟨d0, d1, d2, d3, a4, n4, c4, d4, r4⟩, _⟩ := hL2 i p hp
      rw [ha, Addr.add_lit] at d0 d1 d2 d3 d4
      exact ⟨d0, by rw [Nat.add_assoc]; exact d1, by rw [Nat.add_assoc]; exact d2, by rw [Nat.add_assoc]; exact d3, a4, n4, c4, by rw [Nat.add_assoc]; exact d4, r4⟩
    · obtain ⟨i, hi⟩ := List.mem_iff_getElem?.1 hr
      exact (hL2 i r hi).2
theorem list3 {α : Type} (l : List α) (h : (⟨l⟩ : Array α).size = 3) : ∃ a b c, l = [a, b, c] := by
  match l, h with
  | [a, b, c], _ => exact ⟨a, b, c, rfl⟩
set_option maxRecDepth 100000 in
theorem open_draft {H : Type} {enc : TypeId × Value → H} {w : World} {base : Nat} {held : Bool} {fuel : Nat} {c : Value} {x : DataW H × List MemPlace} (h : DataW.trod enc Tryd.prog w base (fun _ => true) held fuel 24 [c] = some x) :
    ∃ a n cc ps, c = .slice a n cc ∧ PM w a n cc ps ∧ ∀ p ∈ ps, p.ok := by
  obtain ⟨xs, n, _, _, _, _, hfl⟩ := DataW.trod_struct Tryd.underlying24 h
  have k8 : Tryd.prog.cellsOf 22 = 1 := by kernel_rfl
  have h0 : DataW.trod enc Tryd.prog w base (fun _ => true) held n 22 (List.take (Tryd.prog.cellsOf 22) [c]) = xs[0]? := hfl 0 _ rfl
  rw [k8] at h0
  have hxl : xs.length = 1 := by assumption
  rw [List.getElem?_eq_getElem (by omega)] at h0
  obtain ⟨a, n1, cc, ps, e0, i0, i1⟩ := open_pieces h0
  simp at e0
  exact ⟨a, n1, cc, ps, e0, i0, i1⟩
/-- a case among the arguments -/
structure IsCase (W : World) (v : Value) (xs ys : List Pce) (b : Int) : Prop where
  val : ∃ a n c a2 n2 c2, v = .agg #[.slice a n c, .slice a2 n2 c2, .int .u16 b] ∧ PM W a n c xs ∧ PM W a2 n2 c2 ys
  okx : ∀ p ∈ xs, p.ok
  oky : ∀ p ∈ ys, p.ok
  num : (Lit.int .u16 b).wf = true
end Go.Proofs.YtmjgdnpfgkpaoaaDoor
namespace Go.Proofs.YtmjgdnpfgkpaoaaDoor
open Go.RowKit Go.ChangeShapes Go.WideShapes Go.Deep

theorem rdK_of {α : Type} (k : Nat) (hk0 : 0 < k) (enc : α → List Value) (hk : ∀ x, (enc x).length = k) {W : World} {a : Addr} {len cap : Nat} (hl : len ≤ cap) (hm : cap ≤ maxLen) (L : List α) (hn : L.length = len)
    (h : ∀ i x, L[i]? = some x → ∀ j, j < k → W.cell? (a.add (i * k + j)) = (enc x)[j]?) : RdK k W (some a) len cap (L.flatMap enc) := by
  refine ⟨by rw [flat_len k enc hk, hn], hl, hm, fun h => (by cases h), fun hn0 => ?_⟩
  obtain ⟨x0, hx0⟩ : ∃ x, L[0]? = some x := ⟨_, List.getElem?_eq_getElem (by omega)⟩
  have h0 := h 0 x0 hx0 0 hk0
  rw [Nat.zero_mul, Nat.zero_add, List.getElem?_eq_getElem (by rw [hk]; exact hk0)] at h0
  have ha := addr_plain h0
  refine ⟨a.block, a.off, by rw [← ha], fun i v hv => ?_⟩
  have hi := (List.getElem?_eq_some_iff.1 hv).1
  rw [flat_len k enc hk, hn] at hi
  have hq : i / k < len := Nat.div_lt_of_lt_mul (by rw [Nat.mul_comm]; exact hi)
  obtain ⟨x, hx⟩ : ∃ x, L[i / k]? = some x := ⟨_, List.getElem?_eq_getElem (by omega)⟩
  have hmod := Nat.mod_lt i hk0
  have h1 := h (i / k) x hx (i % k) hmod
  have h2 := flat_at k enc hk L (i / k) (i % k) x hx hmod
  have e : i / k * k + i % k = i := by rw [Nat.mul_comm]; exact Nat.div_add_mod i k
  rw [e] at h1 h2
  rw [hv] at h2
  rw [ha, Addr.add_lit] at h1
  rw [h1, ← h2]

/-- a description among the arguments -/
structure IsDraft (W : World) (v : Value) (xs : List Pce) : Prop where
  val : ∃ a n c, v = .agg #[.slice a n c] ∧ PM W a n c xs
  okx : ∀ p ∈ xs, p.ok
theorem list1 {α : Type} (l : List α) (h : (⟨l⟩ : Array α).size = 1) : ∃ a, l = [a] := by
  match l, h with
  | [a], _ => exact ⟨a, rfl⟩
theorem list2 {α : Type} (l : List α) (h : (⟨l⟩ : Array α).size = 2) : ∃ a b, l = [a, b] := by
  match l, h with
  | [a, b], _ => exact ⟨a, b, rfl⟩
set_option maxRecDepth 100000 in
theorem open_draftv {H : Type} {enc : TypeId × Value → H} {W : World} {base b0 : Nat} {held : Bool} {v : Value} {d : DataW H} {p : List MemPlace} {r : Reach}
    (hv : Value.okWide Tryd.prog W r b0 24 v) (h : DataW.Trod enc Tryd.prog W base (fun _ => true) held 24 v d p) : ∃ xs, IsDraft W v xs := by
  obtain ⟨cs, rfl, hsz⟩ := okWide_struct Tryd.underlying24 hv
  rw [show Tryd.prog.cellsOf 24 = 1 by kernel_rfl] at hsz
  obtain ⟨l⟩ := cs
  obtain ⟨c0, rfl⟩ := list1 l hsz
  obtain ⟨fuel, hf⟩ := h
  obtain ⟨a, n, cc, ps, e0, h1, h2⟩ := open_draft hf
  subst e0
  exact ⟨ps, ⟨a, n, cc, rfl, h1⟩, h2⟩

/-- a tree among the arguments -/
structure IsTree (W : World) (v : Value) (t : Tre) : Prop where
  val : ∃ a n c, v = .agg #[.slice a n c, .int .i64 t.root] ∧ TM W a n c t.nodes
/-- a choice among the arguments -/
structure IsChoice (W : World) (v : Value) (q : Cho) : Prop where
  val : v = .agg #[.int .i64 q.server, .int .i64 q.first, .int .i64 q.second]
theorem ints64_of {H : Type} {enc : TypeId × Value → H} {W : World} {base : Nat} {held : Bool} {fuel : Nat} {cs : List Value} {x : DataW H × List MemPlace} (h : DataW.trod enc Tryd.prog W base (fun _ => true) held fuel 56 cs = some x) :
    ∃ a n c z, cs = [.slice a n c] ∧ IsInts .i64 W a n c z := by
  rcases open_ints Tryd.underlying56 Tryd.underlying3 (by kernel_rfl) h with ⟨hcs, _⟩ | ⟨x, l, c, zs, hcs, _, hl, hm, hz, _, hcell, hwz⟩
  · exact ⟨_, _, _, _, hcs, .nil⟩
  · exact ⟨_, _, _, _, hcs, .row hl hm (by simpa using hz) hcell hwz⟩
theorem open_nodes {H : Type} {enc : TypeId × Value → H} {w : World} {base : Nat} {held : Bool} {fuel : Nat} {cs : List Value} {x : DataW H × List MemPlace} (h : DataW.trod enc Tryd.prog w base (fun _ => true) held fuel 26 cs = some x) :
    ∃ a n c ns, cs = [.slice a n c] ∧ XM w a n c ns := by
  rcases open_slice_fields Tryd.underlying26 Tryd.underlying58 (by kernel_rfl) (by kernel_rfl) h with ⟨hcs, _⟩ | ⟨a, len, cap, m, D, Pl, hcs, _, hl, hm, hmm, _, hi⟩
  · exact ⟨none, 0, 0, [], hcs, XM.none_ _⟩
  · have hlm : len ≤ m := by rw [hmm]; split <;> omega
    obtain ⟨L, hL1, hL2⟩ := list_of (α := Nod) (Q := fun i r => w.cell? (a.add (i * 5 + 0)) = some (.int .i64 r.kind) ∧ w.cell? (a.add (i * 5 + 1)) = some (.int .i64 r.server) ∧ w.cell? (a.add (i * 5 + 2)) = some (.int .i64 r.need) ∧ (∃ a3 n3 c3, w.cell? (a.add (i * 5 + 3)) = some (.slice a3 n3 c3) ∧ Rd w a3 n3 c3 (r.weights.map (Value.int .i64))) ∧ ∃ a4 n4 c4, w.cell? (a.add (i * 5 + 4)) = some (.slice a4 n4 c4) ∧ Rd w a4 n4 c4 (r.kids.map (Value.int .i64))) len (fun i hil => by
      obtain ⟨ys, n, _, _, _, hf⟩ := hi i (by omega)
      obtain ⟨v0, y0, c0, _, t0⟩ := hf 0 _ rfl
      obtain ⟨v1, y1, c1, _, t1⟩ := hf 1 _ rfl
      obtain ⟨v2, y2, c2, _, t2⟩ := hf 2 _ rfl
      obtain ⟨v3, y3, c3, _, t3⟩ := hf 3 _ rfl
      obtain ⟨v4, y4, c4, _, t4⟩ := hf 4 _ rfl
      obtain ⟨z0, e0, _, _⟩ := DataW.trod_int Tryd.underlying3 t0
      obtain ⟨z1, e1, _, _⟩ := DataW.trod_int Tryd.underlying3 t1
      obtain ⟨z2, e2, _, _⟩ := DataW.trod_int Tryd.underlying3 t2
      obtain ⟨a3, n3, k3, z3, e3, i3⟩ := ints64_of t3
      obtain ⟨a4, n4, k4, z4, e4, i4⟩ := ints64_of t4
      cases e0; cases e1; cases e2; cases e3; cases e4
      exact ⟨⟨z0, z1, z2, z3, z4⟩, c0, c1, c2, ⟨a3, n3, k3, c3, i3.rd⟩, a4, n4, k4, c4, i4.rd⟩)
    refine ⟨some a, len, cap, L, hcs, ⟨hL1, hl, hm, fun h => (by cases h), fun hn0 => ?_⟩⟩
    obtain ⟨x0, hx0⟩ : ∃ x, L[0]? = some x := ⟨_, List.getElem?_eq_getElem (by omega)⟩
    have h0 := (hL2 0 x0 hx0).1
    rw [Nat.zero_mul, Nat.zero_add] at h0
    have ha := addr_plain h0
    refine ⟨a.block, a.off, by rw [← ha], fun i p hp => ?_⟩
    obtain ⟨d0, d1, d2, ⟨a3, n3, c3, d3, r3⟩, a4, n4, c4, d4, r4⟩ := hL2 i p hp
    rw [ha, Addr.add_lit] at d0 d1 d2 d3 d4
    exact ⟨d0, by rw [Nat.add_assoc]; exact d1, by rw [Nat.add_assoc]; exact d2, ⟨a3, n3, c3, by rw [Nat.add_assoc]; exact d3, r3⟩, a4, n4, c4, by rw [Nat.add_assoc]; exact d4, r4⟩
/-- an expression among the arguments -/
structure IsXpr (W : World) (v : Value) (x : Xpr) : Prop where
  val : ∃ a n c, v = .agg #[.slice a n c, .int .i64 x.root] ∧ XM W a n c x.nodes
set_option maxRecDepth 100000 in
theorem open_xpr {H : Type} {enc : TypeId × Value → H} {W : World} {base b0 : Nat} {held : Bool} {v : Value} {d : DataW H} {p : List MemPlace} {r : Reach}
    (hv : Value.okWide Tryd.prog W r b0 28 v) (h : DataW.Trod enc Tryd.prog W base (fun _ => true) held 28 v d p) : ∃ x, IsXpr W v x := by
  obtain ⟨cs, rfl, hsz⟩ := okWide_struct Tryd.underlying28 hv
  rw [show Tryd.prog.cellsOf 28 = 2 by kernel_rfl] at hsz
  obtain ⟨l⟩ := cs
  obtain ⟨c0, c1, rfl⟩ := list2 l hsz
  obtain ⟨fuel, hf⟩ := h
  obtain ⟨xs, n, _, _, _, _, hfl⟩ := DataW.trod_struct Tryd.underlying28 hf
  have k8 : Tryd.prog.cellsOf 26 = 1 := by kernel_rfl
  have ku : Tryd.prog.cellsOf 3 = 1 := by kernel_rfl
  have h0 : DataW.trod enc Tryd.prog W base (fun _ => true) held n 26 (List.take (Tryd.prog.cellsOf 26) [c0, c1]) = xs[0]? := hfl 0 _ rfl
  have h1 : DataW.trod enc Tryd.prog W base (fun _ => true) held n 3 (List.take (Tryd.prog.cellsOf 3) [c1]) = xs[1]? := hfl 1 _ rfl
  rw [k8] at h0
  rw [ku] at h1
  have hxl : xs.length = 2 := by assumption
  rw [List.getElem?_eq_getElem (by omega)] at h0 h1
  obtain ⟨a, n1, cc, ns, e0, i0⟩ := open_nodes h0
  obtain ⟨z, e1, _, _⟩ := DataW.trod_int Tryd.underlying3 h1
  simp at e0 e1
  subst e0 e1
  exact ⟨⟨ns, z⟩, ⟨a, n1, cc, rfl, i0⟩⟩
end Go.Proofs.YtmjgdnpfgkpaoaaDoor
namespace Go.Proofs.YtmjgdnpfgkpaoaaDoor
open Go.RowKit Go.Shelf

theorem madN_small (p : Pce) (i : Nat) : (madN p i).weights.length ≤ 5 ∧ (madN p i).kids.length ≤ 5 := by
  have h5 : mk5 p ≤ 5 := Nat.min_le_right _ _
  unfold madN
  split
  · simp
  · refine ⟨?_, ?_⟩
    · show (mwtTo _ _).length ≤ 5
      unfold mwtTo
      split
      · rw [List.length_map, List.length_take]; omega
      · simp
    · show (mkdTo _ _ _).length ≤ 5
      unfold mkdTo
      rw [List.length_map, List.length_take]; omega
theorem madX_node {ps : List Pce} {k : Nat} {nd : Nod} (h : (madX ps).nodes[k]? = some nd) : nd.weights.length ≤ 5 ∧ nd.kids.length ≤ 5 := by
  unfold madX at h
  by_cases h0 : ps = []
  · rw [if_pos h0] at h
    have := List.mem_of_getElem? h
    simp at this
    subst this
    decide
  · rw [if_neg h0] at h
    obtain ⟨_, rfl⟩ := madT_at h
    exact madN_small _ _
theorem madX_few (ps : List Pce) : XprFew (madX ps) := fun k nd h => by have := madX_node h; omega
theorem box1e {w W : World} {c0 : Array Value} {t0 : TypeId} (h : W = w.alloc (.cells c0 t0)) : W.heap[w.heap.size]? = some (.cells c0 t0 (0, 0)) ∧ Below w.heap.size w W := by
  obtain ⟨h1, _, h3⟩ := boxes1 h.symm
  exact ⟨h1, h3⟩

set_option maxRecDepth 100000 in
set_option maxHeartbeats 8000000 in
theorem topSimplified_w (v : Value) (xs : List Pce) (w : World) (ht : HasTab w) (w0 : IsDraft w v xs) :
    Calls Tryd.prog 3 #[v] w fun e w' => e = .returned (.bool true) ∧ Below w.heap.size w w' := by
  have HA := Lib.hid (fun u (hb : Below w.heap.size w u) => awake12_c u (ht.below hb))
  obtain ⟨ax, nx, cx, rfl, hpx⟩ := w0.val
  have HMX := Lib.hid (fun u (hb : Below w.heap.size w u) => made_c xs w0.okx ax nx cx u (hpx.below hb))
  obtain ⟨hxo, _, h6⟩ := madX_ok w0.okx
  have hxf := madX_few xs
  obtain ⟨X, hX⟩ : ∃ X, madX xs = X := ⟨_, rfl⟩
  rw [hX] at HMX hxo hxf h6
  have T := ts_of hxo h6
  have HP := Lib.hid (fun a n c u h => simplify_c X a n c u h)
  have HFX := Lib.hid (fun a n c u (hb : Below w.heap.size w u) h => family_x X hxo hxf a n c u (ht.below hb) h)
  have HFY := Lib.hid (fun (y : Xpr) (hy : XprFew y) (hye : xprE y = 0) a n c u (hb : Below w.heap.size w u) h => family_x y hye hy a n c u (ht.below hb) h)
  have HEQ := Lib.hid (fun (y : Xpr) (hy : XprFew y) a n c a2 n2 c2 u (hb : Below w.heap.size w u) h h2 => equiv_c X y hxf hy a n c a2 n2 c2 u (ht.below hb) h h2)
  have HOF := Lib.hid (fun a n c u (hb : Below w.heap.size w u) (h : Rd u a n c ((famS X).map setV)) => xof_c (famS X) a n c u (ht.below hb) h)
  have HSM := Lib.hid (fun a b c c' u h h2 => rsame_c (famS X) (famS X) a b (famS X).length c (famS X).length c' u h h2)
  unfold FamR at HFX HFY
  unfold RetX at HP HOF
  have hle : nx ≤ cx := hpx.le
  have hmx := hpx.max
  unfold maxLen at hmx
  rw [T.fx] at HFX
  rw [T.sm] at HP
  rw [T.of] at HOF
  obtain ⟨Y, E, hYE⟩ : ∃ Y E, smpS X = (Y, E) := ⟨_, _, rfl⟩
  obtain ⟨Z, J, hZJ⟩ : ∃ Z J, ofE (famS X) = (Z, J) := ⟨_, _, rfl⟩
  rw [hYE] at HP T
  rw [hZJ] at HOF T
  obtain ⟨F, hF⟩ : ∃ F, famS X = F := ⟨_, rfl⟩
  have hte := T.e
  have htj := T.j
  have hteq := T.eq
  have hteq2 := T.eq2
  rw [hF] at HFX HOF HSM hteq
  obtain ⟨FL, hFL⟩ : ∃ FL, F.length = FL := ⟨_, rfl⟩
  obtain ⟨NX, hNX⟩ : ∃ NX, X.nodes.length = NX := ⟨_, rfl⟩
  obtain ⟨RX, hRX⟩ : ∃ RX, X.root = RX := ⟨_, rfl⟩
  obtain ⟨NY, hNY⟩ : ∃ NY, Y.nodes.length = NY := ⟨_, rfl⟩
  obtain ⟨RY, hRY⟩ : ∃ RY, Y.root = RY := ⟨_, rfl⟩
  obtain ⟨NZ, hNZ⟩ : ∃ NZ, Z.nodes.length = NZ := ⟨_, rfl⟩
  obtain ⟨RZ, hRZ⟩ : ∃ RZ, Z.root = RZ := ⟨_, rfl⟩
  simp only [hNX, hRX, hNY, hRY, hNZ, hRZ, hFL, decide_true] at HMX HP HFX HOF HSM
  have HE1 : Hid (E = 0 → ∀ a n c a2 n2 c2 u, Below w.heap.size w u → XM u a n c X.nodes → XM u a2 n2 c2 Y.nodes → Calls Tryd.prog 8 #[.agg #[.slice a n c, .int .i64 RX], .agg #[.slice a2 n2 c2, .int .i64 RY]] u fun e w' => e = .returned (.tuple #[.bool true, .int .i64 0]) ∧ Below u.heap.size u w') := Lib.hid (fun h0 a n c a2 n2 c2 u hb h1 h2 => by
    have h9 := HEQ.out Y (hteq h0).2.2.1 a n c a2 n2 c2 u hb h1 h2
    rw [(hteq h0).1, hRX, hRY] at h9
    exact h9)
  have HE2 : Hid (J = 0 → ∀ a n c a2 n2 c2 u, Below w.heap.size w u → XM u a n c X.nodes → XM u a2 n2 c2 Z.nodes → Calls Tryd.prog 8 #[.agg #[.slice a n c, .int .i64 RX], .agg #[.slice a2 n2 c2, .int .i64 RZ]] u fun e w' => e = .returned (.tuple #[.bool true, .int .i64 0]) ∧ Below u.heap.size u w') := Lib.hid (fun h0 a n c a2 n2 c2 u hb h1 h2 => by
    have h9 := HEQ.out Z (hteq2 h0).2 a n c a2 n2 c2 u hb h1 h2
    rw [(hteq2 h0).1, hRX, hRZ] at h9
    exact h9)
  have HY2 : Hid (E = 0 → ∀ a n c u, Below w.heap.size w u → XM u a n c Y.nodes → Calls Tryd.prog 7 #[.agg #[.slice a n c, .int .i64 RY]] u fun e w' => ∃ a' c', e = .returned (.tuple #[.slice a' FL c', .int .i64 0]) ∧ Rd w' a' FL c' (F.map setV) ∧ Below u.heap.size u w') := Lib.hid (fun h0 a n c u hb h1 => by
    have h9 := HFY.out Y (hteq h0).2.2.1 (hteq h0).2.2.2 a n c u hb h1
    rw [(hteq h0).2.1, hRY] at h9
    simp only [hFL] at h9
    exact h9)
  clear hX hxo hxf h6 T hteq hteq2 HFY HEQ hYE hZJ hF hFL hNX hRX hNY hRY hNZ hRZ ht w0 hpx
  go_enter Tryd.func3, Tryd.ntmps3
  go_upto_region 1 with fail
  generalize hW0 : w.alloc _ = W0
  obtain ⟨g0, hs0, hb0⟩ := boxes1 hW0
  have G0 := Lib.hid g0
  have HB0 := Lib.hid hb0
  clear hW0 g0 hb0
  go_wp2_with fail
  with_reducible refine (HA.out W0 HB0.out).mono ?_
  rintro e w1 ⟨rfl, b1⟩
  have r0 := cell_of_row _ _ 0 _ _ _ (heap_below b1 G0.out)
  have HB1 := Lib.hid (Below.next HB0.out b1)
  clear b1
  by_cases hn20 : 20 < nx
  · go_wp2_with fail
    with_reducible refine (HA.out w1 HB1.out).mono ?_
    rintro e w2 ⟨rfl, b2⟩
    have HB2 := Lib.hid (Below.next HB1.out b2)
    clear b2
    go_wp2_with fail
    go_ret
    exact ⟨rfl, HB2.out⟩
  · go_wp2_with fail
    clear r0 HA
    with_reducible refine (HMX.out w1 HB1.out).mono ?_
    rintro e w2 ⟨a2, c2, rfl, hx2, b2⟩
    go_upto_region 4 with fail
    generalize hW3 : w2.alloc _ = W3
    obtain ⟨g3, hs3, hb3⟩ := boxes1 hW3
    have HX3 := Lib.hid (hx2.below hb3)
    have HB3 := Lib.hid (Below.next HB1.out (Below.next b2 hb3))
    have HK3 := Lib.hid (fun (u : World) (hu : Below W3.heap.size W3 u) => (open2 (heap_below hu g3)).1)
    obtain ⟨k0, k1⟩ := HK3.out W3 (Below.refl _ _)
    clear hW3 hb3 b2 hx2 HMX HB1 g3
    go_wp2_with fail
    clear k0 k1
    with_reducible refine (HP.out a2 NX c2 W3 HX3.out).mono ?_
    rintro e w4 ⟨a4, c4, rfl, x4, b4⟩
    go_upto_region 5 with fail
    generalize hW5 : w4.alloc _ = W5
    obtain ⟨g5, hs5, hb5⟩ := boxes1 hW5
    have HQ5 := Lib.hid (Below.next b4 hb5)
    have HB5 := Lib.hid (Below.next HB3.out HQ5.out)
    have HX5 := Lib.hid (x4.xm.below hb5)
    have HKY := Lib.hid (fun (u : World) (hu : Below W5.heap.size W5 u) => (open2 (heap_below hu g5)).1)
    clear hW5 b4 hb5 x4 g5 HP
    rcases hte with rfl | rfl
    · have HEa := Lib.hid (HE1.out rfl)
      have HYa := Lib.hid (HY2.out rfl)
      clear HE1 HY2
      go_upto_region 7 with fail
      obtain ⟨k0, k1⟩ := HK3.out W5 HQ5.out
      go_wp2_with fail
      clear k0 k1
      with_reducible refine (HFX.out a2 NX c2 W5 HB5.out (HX3.out.below HQ5.out)).mono ?_
      rintro e w6 ⟨a6, c6, rfl, r6, b6⟩
      have HR6 := Lib.hid r6
      have HQ6 := Lib.hid (Below.next HQ5.out b6)
      have HZ6 := Lib.hid b6
      have HB6 := Lib.hid (Below.next HB5.out b6)
      clear r6 b6 HFX
      obtain ⟨k0, k1⟩ := HK3.out w6 HQ6.out
      obtain ⟨l0, l1⟩ := HKY.out w6 HZ6.out
      go_wp2_with fail
      clear k0 k1 l0 l1
      with_reducible refine (HEa.out a2 NX c2 a4 NY c4 w6 HB6.out (HX3.out.below HQ6.out) (HX5.out.below HZ6.out)).mono ?_
      rintro e w7 ⟨rfl, b7⟩
      have HR7 := Lib.hid (HR6.out.below b7)
      have HQ7 := Lib.hid (Below.next HQ6.out b7)
      have HZ7 := Lib.hid (Below.next HZ6.out b7)
      have HB7 := Lib.hid (Below.next HB6.out b7)
      clear b7 HEa HR6
      obtain ⟨l0, l1⟩ := HKY.out w7 HZ7.out
      go_wp2_with fail
      clear l0 l1
      with_reducible refine (HYa.out a4 NY c4 w7 HB7.out (HX5.out.below HZ7.out)).mono ?_
      rintro e w8 ⟨a8, c8, rfl, r8, b8⟩
      have HR8 := Lib.hid r8
      have HS8 := Lib.hid (HR7.out.below b8)
      have HQ8 := Lib.hid (Below.next HQ7.out b8)
      have HB8 := Lib.hid (Below.next HB7.out b8)
      clear r8 b8 HYa HR7
      go_wp2_with fail
      with_reducible refine (HOF.out a6 FL c6 w8 HB8.out HS8.out).mono ?_
      rintro e w9 ⟨a9, c9, rfl, x9, b9⟩
      go_upto_region 13 with fail
      generalize hW10 : w9.alloc _ = W10
      obtain ⟨g10, hs10, hb10⟩ := boxes1 hW10
      have b910 := Below.next b9 hb10
      have HX10 := Lib.hid (x9.xm.below hb10)
      have HR10 := Lib.hid (HR8.out.below b910)
      have HS10 := Lib.hid (HS8.out.below b910)
      have HQ10 := Lib.hid (Below.next HQ8.out b910)
      have HB10 := Lib.hid (Below.next HB8.out b910)
      have HKZ := Lib.hid (fun (u : World) (hu : Below W10.heap.size W10 u) => (open2 (heap_below hu g10)).1)
      clear hW10 g10 b9 hb10 x9 b910 HOF HR8 HS8
      rcases htj with rfl | rfl
      · have HEb := Lib.hid (HE2.out rfl)
        clear HE2
        go_upto_region 15 with fail
        obtain ⟨k0, k1⟩ := HK3.out W10 HQ10.out
        obtain ⟨l0, l1⟩ := HKZ.out W10 (Below.refl _ _)
        go_wp2_with fail
        clear k0 k1 l0 l1
        with_reducible refine (HEb.out a2 NX c2 a9 NZ c9 W10 HB10.out (HX3.out.below HQ10.out) HX10.out).mono ?_
        rintro e w11 ⟨rfl, b11⟩
        have HB11 := Lib.hid (Below.next HB10.out b11)
        have HS11 := Lib.hid (HSM.out a8 a6 c8 c6 w11 (HR10.out.below b11) (HS10.out.below b11))
        clear b11
        go_wp2_with fail
        with_reducible refine HS11.out.mono ?_
        rintro e w12 ⟨rfl, b12⟩
        have HB12 := Lib.hid (Below.next HB11.out b12)
        clear b12
        go_wp2_with fail
        go_ret
        exact ⟨rfl, HB12.out⟩
      · have HS11 := Lib.hid (HSM.out a8 a6 c8 c6 W10 HR10.out HS10.out)
        go_wp2_with fail
        with_reducible refine HS11.out.mono ?_
        rintro e w12 ⟨rfl, b12⟩
        have HB12 := Lib.hid (Below.next HB10.out b12)
        clear b12
        go_wp2_with fail
        go_ret
        exact ⟨rfl, HB12.out⟩
    · go_wp2_with fail
      go_ret
      exact ⟨rfl, HB5.out⟩
end Go.Proofs.YtmjgdnpfgkpaoaaDoor
