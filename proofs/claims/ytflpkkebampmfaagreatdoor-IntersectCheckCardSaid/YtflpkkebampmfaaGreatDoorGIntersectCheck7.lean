/- Texts laid together. intersect.formed. intersect.Check. intersect.Families and the reference's. intersect.search, Pair, Least. Layer 20: the examples' expression; what the examples answer. -/
import Derived.Test.YtflpkkebampmfaaGreatDoorGIntersectCheck2
import Derived.Test.YtflpkkebampmfaaGreatDoorGIntersectCheck4
import Derived.Test.YtflpkkebampmfaaGreatDoorGIntersectCheck5
import Derived.Test.YtflpkkebampmfaaGreatDoorGIntersectCheck6
import Derived.Deep.OwnRows
import Derived.Laws.MakeOwn
import Derived.Laws.EntriesVeiled
namespace Go.Proofs.YtflpkkebampmfaaGreatDoor
open Go.RowKit Go.Shelf

/-! plain -/
theorem bump_le (ps : List Int) (a : Int) (j : Nat) : (bumpS ps a).getD j 0 ≤ ps.getD j 0 + 1 := by
  unfold bumpS
  by_cases h : a.toNat < ps.length
  · rw [getD_set h]
    split
    · rename_i e; subst e; exact Int.le_refl _
    · omega
  · rw [List.set_eq_of_length_le (by omega)]; omega
theorem parTo_le (nodes : List Cho) (k j : Nat) : (parTo nodes k).getD j 0 ≤ 2 * k := by
  induction k with
  | zero =>
    unfold parTo
    rw [List.take_zero, List.foldl_nil, List.getD_eq_getElem?_getD, List.getElem?_replicate]; split <;> decide
  | succ k ih =>
    cases hc : nodes[k]? with
    | none => unfold parTo at ih ⊢; rw [List.take_add_one, hc]; simp at ih ⊢; omega
    | some c =>
      rw [parTo_succ hc]; unfold parStep
      split
      · omega
      · have h1 := bump_le (bumpS (parTo nodes k) c.first) c.second j
        have h2 := bump_le (parTo nodes k) c.first j
        omega
/-- the kids' parents, counted one after another -/
def bmpTo (ps el : List Int) (j : Nat) : List Int := (el.take j).foldl bumpS ps
theorem bmpTo_succ {ps el : List Int} {j : Nat} {z : Int} (h : el[j]? = some z) : bmpTo ps el (j + 1) = bumpS (bmpTo ps el j) z := by
  unfold bmpTo; rw [List.take_add_one, h]; simp
theorem bmpTo_len (ps el : List Int) (j : Nat) : (bmpTo ps el j).length = ps.length := by
  have : ∀ (l : List Int) (o : List Int), (l.foldl bumpS o).length = o.length := by
    intro l
    induction l with
    | nil => intro o; rfl
    | cons c l ih => intro o; rw [List.foldl_cons, ih, bump_len]
  unfold bmpTo; rw [this]
theorem bmpTo_rng (ps el : List Int) (i : Nat) : ∀ j, ps.getD i 0 ≤ (bmpTo ps el j).getD i 0 ∧ (bmpTo ps el j).getD i 0 ≤ ps.getD i 0 + j := by
  intro j
  induction j with
  | zero => unfold bmpTo; simp
  | succ j ih =>
    cases hz : el[j]? with
    | none => unfold bmpTo at ih ⊢; rw [List.take_add_one, hz]; simp at ih ⊢; omega
    | some z =>
      rw [bmpTo_succ hz]
      have h1 := bump_le (bmpTo ps el j) z i
      have h2 := bump_ge (bmpTo ps el j) z i
      omega
theorem nodsC_bad {nodes : List Cho} {i : Nat} {c : Cho} (h : nodes[i]? = some c) (hb : nodC c i = false) : nodsC nodes = false := by
  rw [Bool.eq_false_iff]
  intro hc
  have := nodsC_at hc (List.getElem?_eq_some_iff.1 h).1
  rw [List.getD_eq_getElem?_getD, h] at this
  rw [show (some c).getD cho0 = c from rfl, hb] at this; cases this
theorem formC_bad {t : Tre} {i : Nat} {c : Cho} (h : t.nodes[i]? = some c) (hb : nodC c i = false) : formC t = false := by
  unfold formC; rw [nodsC_bad h hb]; simp
theorem formC_size {t : Tre} (h : sizeC t = false) : formC t = false := by unfold formC; rw [h]; rfl
theorem nodsC_all {nodes : List Cho} (h : ∀ (i : Nat) c, nodes[i]? = some c → nodC c i = true) : nodsC nodes = true := by
  refine List.all_eq_true.2 fun i hi => ?_
  have hl := List.mem_range.1 hi
  have e : nodes[i]? = some nodes[i] := List.getElem?_eq_getElem hl
  rw [List.getD_eq_getElem?_getD, e]
  exact h i _ e
theorem formC_par {t : Tre} {i : Nat} (hi : i < t.nodes.length) (hb : parB t.root (parTo t.nodes t.nodes.length) i = false) : formC t = false := by
  have : parsB t = false := by
    rw [Bool.eq_false_iff]
    intro hc
    have := List.all_eq_true.1 hc i (List.mem_range.2 hi)
    rw [hb] at this; cases this
  unfold formC; rw [this]; simp
theorem formC_ok {t : Tre} (h1 : sizeC t = true) (h2 : nodsC t.nodes = true) (h3 : ∀ i, i < t.nodes.length → parB t.root (parTo t.nodes t.nodes.length) i = true) : formC t = true := by
  have : parsB t = true := List.all_eq_true.2 fun i hi => h3 i (List.mem_range.1 hi)
  unfold formC; rw [h1, h2, this]; rfl
theorem parStep_two {ps : List Int} {c : Cho} (h : leafC c = false) : parStep ps c = bmpTo ps [c.first, c.second] 2 := by
  unfold parStep; rw [if_neg (by rw [h]; decide)]; rfl
theorem parStep_leaf {ps : List Int} {c : Cho} (h : leafC c = true) : parStep ps c = ps := by unfold parStep; rw [if_pos h]
theorem nodC_two {c : Cho} {i : Nat} (h : leafC c = false) (h0 : 0 ≤ c.server) (h1 : c.server < 12) (hk : ∀ (j : Nat) z, [c.first, c.second][j]? = some z → 0 ≤ z ∧ z < (i : Int)) : nodC c i = true := by
  have a1 := hk 0 c.first rfl
  have a2 := hk 1 c.second rfl
  unfold nodC
  rw [if_neg (by rw [h]; decide)]
  simp [h0, h1, a1.1, a1.2, a2.1, a2.2]
theorem nodC_srv {c : Cho} {i : Nat} (h : leafC c = false) (hs : c.server < 0 ∨ 12 ≤ c.server) : nodC c i = false := by
  unfold nodC
  rw [if_neg (by rw [h]; decide)]
  rcases hs with hs | hs
  · rw [decide_eq_false (show ¬ (0 ≤ c.server) by omega)]; simp
  · rw [decide_eq_false (show ¬ (c.server < 12) by omega)]; simp
theorem nodC_kid {c : Cho} {i : Nat} (h : leafC c = false) {j : Nat} {z : Int} (hz : [c.first, c.second][j]? = some z) (hb : z < 0 ∨ (i : Int) ≤ z) : nodC c i = false := by
  unfold nodC
  rw [if_neg (by rw [h]; decide)]
  have key : c.first = z ∨ c.second = z := by
    match j, hz with
    | 0, hz => cases hz; exact .inl rfl
    | 1, hz => cases hz; exact .inr rfl
  rcases key with rfl | rfl
  · have e : (decide (0 ≤ c.first) && decide (c.first < (i : Int))) = false := by rw [Bool.eq_false_iff]; simp; omega
    rw [e]; simp
  · have e : (decide (0 ≤ c.second) && decide (c.second < (i : Int))) = false := by rw [Bool.eq_false_iff]; simp; omega
    rw [e]; simp
theorem nodC_lf {c : Cho} {i : Nat} (h : leafC c = true) : nodC c i = (decide (c.first = 0) && decide (c.second = 0)) := by unfold nodC; rw [if_pos h]

/-! numbers in a block -/
theorem make_int (m : Nat) (hm : m ≤ 1000000) : ∀ w, (Instr.makeSlice 56 (.int .i64 m) (.int .i64 m)).run Tryz.prog w = .ok (.slice (some ⟨w.heap.size, 0, none⟩) m m) (w.alloc (.cells (madeCells #[.int .i64 0] m) 3)) :=
  fun w => run_make_row' 56 3 (.int .i64 0) 8 Tryz.underlying56 Tryz.infoInt rfl .i64 .i64 m (by omega) (by omega) w
def psA (ps : List Int) : Array Value := (ps.map (Value.int .i64)).toArray
theorem psA_made (n : Nat) : madeCells #[.int .i64 0] n = psA (List.replicate n 0) := by
  apply Array.toList_inj.1
  rw [toList_madeCells_one]; unfold psA; simp
theorem psA_at {ps : List Int} {i : Nat} (h : i < ps.length) : (psA ps)[i]? = some (.int .i64 (ps.getD i 0)) := by
  unfold psA
  rw [List.getElem?_toArray, List.getElem?_map, List.getD_eq_getElem?_getD, List.getElem?_eq_getElem h]; rfl
theorem psA_bump (ps : List Int) (p : Nat) : (psA ps).setIfInBounds p (.int .i64 (ps.getD p 0 + 1)) = psA (bumpS ps (p : Int)) := by
  unfold psA bumpS
  rw [List.setIfInBounds_toArray, Int.toNat_natCast, List.map_set]

/-- what a walk over a tree holds: the tree's own box, the numbers of parents -/
structure FrW (w wr : World) (a : Option Addr) (n c : Nat) (root : Int) (ps : List Int) : Prop where
  box : wr.heap[w.heap.size]? = some (.cells #[.slice a n c, .int .i64 root] 38 (0, 0))
  row : wr.heap[w.heap.size + 1]? = some (.cells (psA ps) 3 (0, 0))
  bel : Below w.heap.size w wr
theorem FrW.alloc {w wr : World} {a : Option Addr} {n c : Nat} {root : Int} {ps : List Int} (h : FrW w wr a n c root ps) (o : Obj) : FrW w (wr.alloc o) a n c root ps :=
  ⟨heap_alloc_at h.box _, heap_alloc_at h.row _, h.bel.alloc h.bel.size _⟩
theorem FrW.set {w wr : World} {a : Option Addr} {n c : Nat} {root : Int} {ps : List Int} (h : FrW w wr a n c root ps) (p : Nat) : FrW w (wr.setCell ⟨w.heap.size + 1, p, none⟩ (.int .i64 (ps.getD p 0 + 1))) a n c root (bumpS ps (p : Int)) :=
  ⟨heap_set_other (by omega) _ _ h.box, by rw [heap_set_at h.row, psA_bump], h.bel.setCell (p := ⟨w.heap.size + 1, p, none⟩) (by show w.heap.size ≤ w.heap.size + 1; omega) _⟩
theorem FrW.drewN {w wr : World} {a : Option Addr} {n c : Nat} {root : Int} {ps : List Int} (h : FrW w wr a n c root ps) (q : Nat) : FrW w (wr.drewN q) a n c root ps := ⟨h.box, h.row, below_drewN h.bel⟩

set_option maxRecDepth 100000 in
set_option maxHeartbeats 4000000 in
theorem formed_c (t : Tre) (a : Option Addr) (n c : Nat) (w : World) (h : TM w a n c t.nodes) :
    Calls Tryz.prog 28 #[.agg #[.slice a n c, .int .i64 t.root]] w fun e w' => e = .returned (.bool (formC t)) ∧ Below w.heap.size w w' := by
  obtain ⟨nodes, root⟩ := t
  have hnl := TM.len h
  simp only at h hnl ⊢
  have hm := RdK.max h
  have hle := RdK.le h
  unfold maxLen at hm
  obtain ⟨V, hV⟩ : ∃ V, formC ⟨nodes, root⟩ = V := ⟨_, rfl⟩
  rw [hV]
  have HV := Lib.hid hV
  have HN := Lib.hid hnl
  have HM := Lib.hid h
  obtain ⟨W2, hW2⟩ : ∃ W2, W2 = w.alloc (.cells #[.slice a n c, .int .i64 root] 38) := ⟨_, rfl⟩
  have hb2 : Below w.heap.size w W2 := by rw [hW2]; exact (Below.refl _ w).alloc (Nat.le_refl _) _
  have HB2 := Lib.hid hb2
  clear hV hnl h hb2
  by_cases c1 : n < 1
  · have d1 : decide ((n : Int) < 1) = true := decide_eq_true (by omega)
    have HF : Hid (V = false) := Lib.hid (HV.out.symm.trans (formC_size (by unfold sizeC; simp only; rw [HN.out, decide_eq_false (show ¬ 1 ≤ n by omega)]; rfl)))
    clear c1
    go_enter Tryz.func28, Tryz.ntmps28
    go_wp2_with fail
    go_ret
    exact ⟨ret_bool HF.out.symm, by rw [← hW2]; exact HB2.out⟩
  have d1 : decide ((n : Int) < 1) = false := decide_eq_false (by omega)
  by_cases c2 : 8191 < n
  · have d2 : decide ((8191 : Int) < (n : Int)) = true := decide_eq_true (by omega)
    have HF : Hid (V = false) := Lib.hid (HV.out.symm.trans (formC_size (by unfold sizeC; simp only; rw [HN.out, decide_eq_false (show ¬ n ≤ 8191 by omega)]; simp)))
    clear c1 c2
    go_enter Tryz.func28, Tryz.ntmps28
    go_wp2_with fail
    go_ret
    exact ⟨ret_bool HF.out.symm, by rw [← hW2]; exact HB2.out⟩
  have d2 : decide ((8191 : Int) < (n : Int)) = false := decide_eq_false (by omega)
  by_cases c3 : root < 0
  · have d3 : decide (root < 0) = true := decide_eq_true (by omega)
    have HF : Hid (V = false) := Lib.hid (HV.out.symm.trans (formC_size (by unfold sizeC; simp only; rw [HN.out, decide_eq_false (show ¬ 0 ≤ root by omega)]; simp)))
    clear c1 c2 c3
    go_enter Tryz.func28, Tryz.ntmps28
    go_wp2_with fail
    go_ret
    exact ⟨ret_bool HF.out.symm, by rw [← hW2]; exact HB2.out⟩
  have d3 : decide (root < 0) = false := decide_eq_false (by omega)
  by_cases c4 : (n : Int) ≤ root
  · have d4 : decide ((n : Int) ≤ root) = true := decide_eq_true (by omega)
    have HF : Hid (V = false) := Lib.hid (HV.out.symm.trans (formC_size (by unfold sizeC; simp only; rw [HN.out, decide_eq_false (show ¬ root < (n : Int) by omega)]; simp)))
    clear c1 c2 c3 c4
    go_enter Tryz.func28, Tryz.ntmps28
    go_wp2_with fail
    go_ret
    exact ⟨ret_bool HF.out.symm, by rw [← hW2]; exact HB2.out⟩
  have d4 : decide ((n : Int) ≤ root) = false := decide_eq_false (by omega)
  have HSZ : Hid (sizeC ⟨nodes, root⟩ = true) := Lib.hid (by
    unfold sizeC; simp only; rw [HN.out]; simp; omega)
  have hmk := make_int n (by omega)
  go_enter Tryz.func28, Tryz.ntmps28
  go_wp2_with fail
  rw [← hW2]
  obtain ⟨W3, hW3⟩ : ∃ W3, W3 = W2.alloc (.cells (madeCells #[.int .i64 0] n) 3) := ⟨_, rfl⟩
  have hs2 : W2.heap.size = w.heap.size + 1 := by rw [hW2]; simp
  have hF0 : FrW w W3 a n c root (parTo nodes 0) := by
    refine ⟨by rw [hW3, hW2]; exact heap_alloc_at (heap_alloc_new _ _) _, ?_, by rw [hW3]; exact HB2.out.alloc HB2.out.size _⟩
    rw [← hs2, hW3, psA_made]
    unfold parTo
    rw [List.take_zero, List.foldl_nil, HN.out]
    exact heap_alloc_new _ _
  have HF0 := Lib.hid hF0
  rw [← hW3]
  clear hW3 hW2 hs2 hF0 hmk
  go_loopw [36] (fun i wr => ∃ k : Nat, k ≤ n ∧ i = .int .i64 k ∧ Hid (∀ (i : Nat) c, i < k → nodes[i]? = some c → nodC c i = true) ∧ FrW w wr a n c root (parTo nodes k)) (fun i _ => n - (intOf i).toNat)
  case atStart => exact ⟨0, Nat.zero_le _, rfl, Lib.hid (fun i c hi => by omega), HF0.out⟩
  case round =>
    obtain ⟨k, hk, rfl, hall, hfr⟩ := hrel
    by_cases hlt : k < n
    · obtain ⟨x, hx⟩ : ∃ x, nodes[k]? = some x := ⟨_, List.getElem?_eq_getElem (by have := HN.out; omega)⟩
      obtain ⟨b, o, ha, hat⟩ := TM.at3 (RdK.below HM.out hfr.bel) (by omega)
      obtain ⟨m0, m1, m2⟩ := hat k x hx
      subst ha
      have hps := parTo_succ hx
      have hbad : ∀ (hb : nodC x k = false), V = false := fun hb => HV.out.symm.trans (formC_bad (t := ⟨nodes, root⟩) hx hb)
      have hgood : ∀ (hb : nodC x k = true), ∀ (i : Nat) c, i < k + 1 → nodes[i]? = some c → nodC c i = true := fun hb i c hi hc => by
        by_cases h1 : i < k
        · exact hall.out i c h1 hc
        · obtain rfl : i = k := by omega
          rw [hx] at hc; cases hc; exact hb
      have HBAD := Lib.hid hbad
      have HGOOD := Lib.hid hgood
      have HLE := Lib.hid (parTo_le nodes k)
      have HGE := Lib.hid (parTo_nonneg nodes k)
      have HPL : Hid ((parTo nodes k).length = n) := Lib.hid (by rw [parTo_len]; exact HN.out)
      obtain ⟨ps, hpp⟩ : ∃ ps, parTo nodes k = ps := ⟨_, rfl⟩
      rw [hpp] at hfr hps HLE HGE HPL
      have HPS := Lib.hid hps
      obtain ⟨sv, fi, se⟩ := x
      simp only at m0 m1 m2
      have hfa := hfr.alloc (.cells #[.int .i64 sv, .int .i64 fi, .int .i64 se] 72)
      have HFA := Lib.hid hfa
      clear hbad hgood hps hpp hx hat hall
      by_cases hl : leafC ⟨sv, fi, se⟩ = true
      · have hnc := nodC_lf (i := k) hl
        have hsv : sv = -1 ∨ sv = -2 := by
          unfold leafC at hl; simpa using hl
        have HPE : Hid (parTo nodes (k + 1) = ps) := Lib.hid (by rw [HPS.out, parStep_leaf hl])
        simp only at hnc
        by_cases e1 : fi = 0
        · by_cases e2 : se = 0
          · subst e1 e2
            have HG := Lib.hid (HGOOD.out (by rw [hnc]; rfl))
            clear hnc hl
            rcases hsv with rfl | rfl
            · go_wp2_with fail
              go_roundw
              case rel => exact ⟨k + 1, by omega, by go_num, HG, by rw [HPE.out]; exact HFA.out⟩
              case measure => simp [intOf]; omega
            · go_wp2_with fail
              go_roundw
              case rel => exact ⟨k + 1, by omega, by go_num, HG, by rw [HPE.out]; exact HFA.out⟩
              case measure => simp [intOf]; omega
          · subst e1
            have HF := Lib.hid (HBAD.out (by rw [hnc, decide_eq_false e2]; simp))
            have de : (se != 0) = true := by simpa using e2
            clear hnc hl e2
            rcases hsv with rfl | rfl
            · go_wp2_with fail
              go_ret
              exact ⟨ret_bool HF.out.symm, HFA.out.bel⟩
            · go_wp2_with fail
              go_ret
              exact ⟨ret_bool HF.out.symm, HFA.out.bel⟩
        · have HF := Lib.hid (HBAD.out (by rw [hnc, decide_eq_false e1]; simp))
          have de : (fi != 0) = true := by simpa using e1
          clear hnc hl e1
          rcases hsv with rfl | rfl
          · go_wp2_with fail
            go_ret
            exact ⟨ret_bool HF.out.symm, HFA.out.bel⟩
          · go_wp2_with fail
            go_ret
            exact ⟨ret_bool HF.out.symm, HFA.out.bel⟩
      · have hl' : leafC ⟨sv, fi, se⟩ = false := by simpa using hl
        have hs1 : (sv == -1) = false := by unfold leafC at hl'; simp at hl'; simpa using hl'.1
        have hs2 : (sv == -2) = false := by unfold leafC at hl'; simp at hl'; simpa using hl'.2
        have HL := Lib.hid hl'
        clear hl hl'
        by_cases g1 : sv < 0
        · have e1 : decide (sv < 0) = true := decide_eq_true g1
          have HF := Lib.hid (HBAD.out (nodC_srv HL.out (.inl g1)))
          clear g1
          go_wp2_with fail
          go_ret
          exact ⟨ret_bool HF.out.symm, HFA.out.bel⟩
        have e1 : decide (sv < 0) = false := decide_eq_false g1
        by_cases g2 : 12 ≤ sv
        · have e2 : decide ((12 : Int) ≤ sv) = true := decide_eq_true g2
          have HF := Lib.hid (HBAD.out (nodC_srv HL.out (.inr g2)))
          clear g1 g2
          go_wp2_with fail
          go_ret
          exact ⟨ret_bool HF.out.symm, HFA.out.bel⟩
        have e2 : decide ((12 : Int) ≤ sv) = false := decide_eq_false g2
        have HNT := Lib.hid (fun hk => nodC_two (i := k) HL.out (show (0 : Int) ≤ sv by omega) (show sv < 12 by omega) hk)
        have HPE : Hid (parTo nodes (k + 1) = bmpTo ps [fi, se] 2) := Lib.hid (by rw [HPS.out, parStep_two HL.out])
        have HKB := Lib.hid (fun (j : Nat) (z : Int) => nodC_kid (i := k) (j := j) (z := z) HL.out)
        simp only at HNT HKB
        clear g1 g2
        go_wp2_with fail
        generalize hWB : (wr.alloc _).alloc _ = WB
        have hFB : FrW w WB (some ⟨b, o, none⟩) n c root ps := by rw [← hWB]; exact HFA.out.alloc _
        have hLit : WB.heap[wr.heap.size + 1]? = some (.cells #[.int .i64 fi, .int .i64 se] 3 (0, 0)) := by
          rw [← hWB]
          have := heap_alloc_new (wr.alloc (Obj.cells #[.int .i64 sv, .int .i64 fi, .int .i64 se] 72)) (.cells #[.int .i64 fi, .int .i64 se] 3)
          rw [World.size_alloc] at this; exact this
        have HSZ0 := Lib.hid (Array.getElem?_eq_some_iff.1 hfr.row).1
        have HFB := Lib.hid hFB
        have HLIT := Lib.hid hLit
        clear hWB hFB hLit hfr hfa
        obtain ⟨W0, hW0⟩ : ∃ W0, W0 = wr := ⟨_, rfl⟩
        subst hW0
        go_loopw [73] (fun i wq => ∃ j : Nat, j ≤ 2 ∧ i = .int .i64 j ∧ Hid (∀ (i : Nat) z, i < j → [fi, se][i]? = some z → 0 ≤ z ∧ z < (k : Int)) ∧ FrW w wq (some ⟨b, o, none⟩) n c root (bmpTo ps [fi, se] j) ∧ wq.heap[W0.heap.size + 1]? = some (.cells #[.int .i64 fi, .int .i64 se] 3 (0, 0))) (fun i _ => 2 - (intOf i).toNat)
        case atStart => exact ⟨0, Nat.zero_le _, rfl, Lib.hid (fun i z hi => by omega), HFB.out, HLIT.out⟩
        case round =>
          obtain ⟨j, hj, rfl, hkid, hfj, hlit⟩ := hrel
          by_cases hltj : j < 2
          · obtain ⟨z, hz⟩ : ∃ z, [fi, se][j]? = some z := ⟨_, List.getElem?_eq_getElem (by simpa using hltj)⟩
            have hel : (#[.int .i64 fi, .int .i64 se] : Array Value)[j]? = some (.int .i64 z) := by
              match j, hltj, hz with
              | 0, _, hz => cases hz; rfl
              | 1, _, hz => cases hz; rfl
            have hcl := (cell_of_row _ _ j _ _ _ hlit).trans hel
            have HBJ := Lib.hid (fun hb => HBAD.out (HKB.out j z hz hb))
            have HBS := Lib.hid (bmpTo_succ (ps := ps) hz)
            have hkid' : 0 ≤ z → z < (k : Int) → ∀ (i : Nat) y, i < j + 1 → [fi, se][i]? = some y → 0 ≤ y ∧ y < (k : Int) := fun h0 h1 i y hi hy => by
              by_cases h2 : i < j
              · exact hkid.out i y h2 hy
              · obtain rfl : i = j := by omega
                rw [hz] at hy; cases hy; exact ⟨h0, h1⟩
            have HKID := Lib.hid hkid'
            have HRG := Lib.hid (fun i => bmpTo_rng ps [fi, se] i j)
            have HBL := Lib.hid (bmpTo_len ps [fi, se] j)
            obtain ⟨qs, hqq⟩ : ∃ qs, bmpTo ps [fi, se] j = qs := ⟨_, rfl⟩
            rw [hqq] at hfj HRG HBL HBS
            clear hel hz hkid hkid' hqq
            by_cases z0 : z < 0
            · have e3 : decide (z < 0) = true := decide_eq_true z0
              have HF := Lib.hid (HBJ.out (.inl z0))
              clear z0
              go_wp2_with fail
              go_ret
              exact ⟨ret_bool HF.out.symm, hfj.bel⟩
            have e3 : decide (z < 0) = false := decide_eq_false z0
            by_cases z1 : (k : Int) ≤ z
            · have e4 : decide ((k : Int) ≤ z) = true := decide_eq_true z1
              have HF := Lib.hid (HBJ.out (.inr z1))
              clear z0 z1
              go_wp2_with fail
              go_ret
              exact ⟨ret_bool HF.out.symm, hfj.bel⟩
            have e4 : decide ((k : Int) ≤ z) = false := decide_eq_false z1
            have HK2 := Lib.hid (HKID.out (by omega) (by omega))
            obtain ⟨p, rfl⟩ := Int.eq_ofNat_of_zero_le (show 0 ≤ z by omega)
            have hpk : p < k := by omega
            have hps := (cell_of_row _ _ p _ _ _ hfj.row).trans (psA_at (by have h1 := HBL.out; have h2 := HPL.out; omega))
            have hfz := frozen_row hfj.row p
            have hset := hfj.set p
            have hrg := HRG.out p
            have hle1 := HLE.out p
            have hge1 := HGE.out p
            obtain ⟨X, hX⟩ : ∃ X, qs.getD p 0 = X := ⟨_, rfl⟩
            rw [hX] at hps hset hrg
            have hwr : wrap64 (X + 1) = X + 1 := by unfold wrap64; omega
            have HSET := Lib.hid hset
            have HLI := Lib.hid hlit
            clear z0 z1 hset hlit hrg hle1 hge1 hX
            go_wp2_with fail
            go_roundw
            case rel => exact ⟨j + 1, by omega, by go_num, HK2, by rw [HBS.out]; exact HSET.out, heap_set_other (by have := HSZ0.out; omega) _ _ HLI.out⟩
            case measure => simp [intOf]; omega
          · obtain rfl : j = 2 := by omega
            have HG := Lib.hid (HGOOD.out (HNT.out (fun j z hz => hkid.out j z (by have := (List.getElem?_eq_some_iff.1 hz).1; simpa using this) hz)))
            clear hkid hlit
            go_wp2_with fail
            go_roundw
            case rel => exact ⟨k + 1, by omega, by go_num, HG, by rw [HPE.out]; exact hfj⟩
            case measure => simp [intOf]; omega
    · obtain rfl : k = n := by omega
      have HND : Hid (nodsC nodes = true) := Lib.hid (nodsC_all fun i c hc => hall.out i c (by have := (List.getElem?_eq_some_iff.1 hc).1; have := HN.out; omega) hc)
      have HFR := Lib.hid hfr
      clear hall hfr
      go_wp2_with fail
      have HFP : Hid (∀ i, i < k → parB root (parTo nodes k) i = false → V = false) := Lib.hid (fun i hi hb => HV.out.symm.trans (formC_par (t := ⟨nodes, root⟩) (i := i) (by have := HN.out; simp only; omega) (by simp only; rw [HN.out]; exact hb)))
      have HOK : Hid ((∀ i, i < k → parB root (parTo nodes k) i = true) → V = true) := Lib.hid (fun h => HV.out.symm.trans (formC_ok (t := ⟨nodes, root⟩) HSZ.out HND.out (fun i hi => by simp only at hi ⊢; rw [HN.out] at hi ⊢; exact h i hi)))
      have HPN := Lib.hid (parTo_nonneg nodes k)
      have HPL : Hid ((parTo nodes k).length = k) := Lib.hid (by rw [parTo_len]; exact HN.out)
      obtain ⟨ps, hpp⟩ : ∃ ps, parTo nodes k = ps := ⟨_, rfl⟩
      rw [hpp] at HFR HFP HOK HPN HPL
      clear hpp
      go_loopw [94] (fun i wr => ∃ j : Nat, j ≤ k ∧ i = .int .i64 j ∧ Hid (∀ i, i < j → parB root ps i = true) ∧ FrW w wr a k c root ps) (fun i _ => k - (intOf i).toNat)
      case atStart => exact ⟨0, Nat.zero_le _, rfl, Lib.hid (fun i hi => by omega), HFR.out⟩
      case round =>
        obtain ⟨j, hj, rfl, hpar, hfj⟩ := hrel
        by_cases hltj : j < k
        · have q1 := cell_of_row _ _ 1 _ _ _ hfj.box
          have hps := (cell_of_row _ _ j _ _ _ hfj.row).trans (psA_at (by have h2 := HPL.out; omega))
          have hX0 := HPN.out j
          have hB := HFP.out j hltj
          have hG : parB root ps j = true → ∀ i, i < j + 1 → parB root ps i = true := fun hb i hi => by
            by_cases h1 : i < j
            · exact hpar.out i h1
            · obtain rfl : i = j := by omega
              exact hb
          unfold parB at hB
          obtain ⟨X, hX⟩ : ∃ X, ps.getD j 0 = X := ⟨_, rfl⟩
          have hPB : parB root ps j = if (j : Int) = root then X == 0 else X == 1 := by unfold parB; rw [hX]
          rw [hX] at hps hX0 hB
          have HG := Lib.hid hG
          have HB := Lib.hid hB
          have HPB := Lib.hid hPB
          have HFJ := Lib.hid hfj
          clear hB hG hPB hX hpar hfj
          by_cases hr : (j : Int) = root
          · have t1 : ((j : Int) == root) = true := by simpa using hr
            by_cases x0 : X = 0
            · subst x0
              have HG2 := Lib.hid (HG.out (by rw [HPB.out, if_pos hr]; rfl))
              have t3 : (((j : Int) == root) == ((0 : Int) == 0)) = true := by rw [t1]; rfl
              clear hr
              go_wp2_with fail
              go_roundw
              case rel => exact ⟨j + 1, by omega, by go_num, HG2, HFJ.out⟩
              case measure => simp [intOf]; omega
            · have t2 : (X == 0) = false := by simpa using x0
              have t3 : (((j : Int) == root) == (X == 0)) = false := by rw [t1, t2]; rfl
              have HF := Lib.hid (HB.out (by rw [if_pos hr]; exact t2))
              clear hr x0
              go_wp2_with fail
              go_ret
              exact ⟨ret_bool HF.out.symm, HFJ.out.bel⟩
          · have t1 : ((j : Int) == root) = false := by simpa using hr
            by_cases x0 : X = 0
            · subst x0
              have HF := Lib.hid (HB.out (by rw [if_neg hr]; rfl))
              have t3 : (((j : Int) == root) == ((0 : Int) == 0)) = false := by rw [t1]; rfl
              clear hr
              go_wp2_with fail
              go_ret
              exact ⟨ret_bool HF.out.symm, HFJ.out.bel⟩
            · have t2 : (X == 0) = false := by simpa using x0
              have t3 : (((j : Int) == root) == (X == 0)) = true := by rw [t1, t2]; rfl
              by_cases x1 : 1 < X
              · have t4 : decide (1 < X) = true := decide_eq_true x1
                have HF := Lib.hid (HB.out (by rw [if_neg hr]; simp; omega))
                clear hr x0 x1
                go_wp2_with fail
                go_ret
                exact ⟨ret_bool HF.out.symm, HFJ.out.bel⟩
              · have t4 : decide (1 < X) = false := decide_eq_false x1
                have HG2 := Lib.hid (HG.out (by rw [HPB.out, if_neg hr]; simp; omega))
                clear hr x0 x1
                go_wp2_with fail
                go_roundw
                case rel => exact ⟨j + 1, by omega, by go_num, HG2, HFJ.out⟩
                case measure => simp [intOf]; omega
        · obtain rfl : j = k := by omega
          have HT := Lib.hid (HOK.out hpar.out)
          clear hpar
          go_wp2_with fail
          go_ret
          exact ⟨ret_bool HT.out.symm, hfj.bel⟩
end Go.Proofs.YtflpkkebampmfaaGreatDoor
namespace Go.Proofs.YtflpkkebampmfaaGreatDoor
open Go.RowKit Go.Shelf

theorem eg_chk : ∀ args w, (callFunc 29 args).run Tryz.prog w = .ok (.enter 29 args) w := enters_of Tryz.func29 (by kernel_rfl) rfl

/-- what a walk over a certificate leans on -/
structure CkW (x y : Xpr) (b : BitVec 16) (w0 : World) (a1 : Option Addr) (n1 c1 : Nat) (a2 : Option Addr) (n2 c2 : Nat) (a : Option Addr) (n c : Nat) (nodes : List Cho) (b4 b5 b6 b7 b9 : Nat) : Prop where
  c4 : w0.cell? ⟨b4, 0, none⟩ = some (.slice a1 n1 c1) ∧ w0.cell? ⟨b4, 1, none⟩ = some (.int .i64 x.root)
  c5 : w0.cell? ⟨b5, 0, none⟩ = some (.slice a2 n2 c2) ∧ w0.cell? ⟨b5, 1, none⟩ = some (.int .i64 y.root)
  c6 : w0.cell? ⟨b6, 0, none⟩ = some (.int .u16 (U b))
  c7 : w0.cell? ⟨b7, 0, none⟩ = some (.slice a n c)
  c9 : w0.cell? ⟨b9, 0, none⟩ = some (.func (.func 29) #[] #[.pointer (some ⟨b7, 0, none⟩), .pointer (some ⟨b4, 0, none⟩), .pointer (some ⟨b5, 0, none⟩), .pointer (some ⟨b6, 0, none⟩), .pointer (some ⟨b9, 0, none⟩)])
  tm : TM w0 a n c nodes
  sx : ∀ (z : BitVec 16) (u : World), Below w0.heap.size w0 u → Calls Tryz.prog 30 #[.agg #[.slice a1 n1 c1, .int .i64 x.root], .int .u16 (U (4095#16 &&& ~~~z))] u fun e w' => e = .returned (.bool (holdX x (4095#16 &&& ~~~z))) ∧ Below u.heap.size u w'
  sy : ∀ (z : BitVec 16) (u : World), Below w0.heap.size w0 u → Calls Tryz.prog 30 #[.agg #[.slice a2 n2 c2, .int .i64 y.root], .int .u16 (U (4095#16 &&& ~~~z))] u fun e w' => e = .returned (.bool (holdX y (4095#16 &&& ~~~z))) ∧ Below u.heap.size u w'

theorem rightF_x {x y : Xpr} {b : BitVec 16} {nodes : List Cho} {f i : Nat} {c : Cho} {p q : BitVec 16} (h : nodes[i]? = some c) (h1 : c.server = -1) : rightF x y b nodes (f + 1) (i : Int) p q = !holdX x (4095#16 &&& ~~~q) := by
  have e : nodes.getD (i : Int).toNat cho0 = c := by rw [Int.toNat_natCast, List.getD_eq_getElem?_getD, h]; rfl
  rw [rightF, e, if_pos h1]; rfl
theorem rightF_y {x y : Xpr} {b : BitVec 16} {nodes : List Cho} {f i : Nat} {c : Cho} {p q : BitVec 16} (h : nodes[i]? = some c) (h1 : c.server = -2) : rightF x y b nodes (f + 1) (i : Int) p q = !holdX y (4095#16 &&& ~~~p) := by
  have e : nodes.getD (i : Int).toNat cho0 = c := by rw [Int.toNat_natCast, List.getD_eq_getElem?_getD, h]; rfl
  rw [rightF, e, if_neg (by rw [h1]; decide), if_pos h1]; rfl
theorem rightF_n {x y : Xpr} {b : BitVec 16} {nodes : List Cho} {f i : Nat} {c : Cho} {p q : BitVec 16} {s : Nat} (h : nodes[i]? = some c) (hs : c.server = (s : Int)) :
    rightF x y b nodes (f + 1) (i : Int) p q = if ((bitS s &&& (b ||| p ||| q)) == 0#16) = true then rightF x y b nodes f c.first (p ||| bitS s) q && rightF x y b nodes f c.second p (q ||| bitS s) else false := by
  have e : nodes.getD (i : Int).toNat cho0 = c := by rw [Int.toNat_natCast, List.getD_eq_getElem?_getD, h]; rfl
  rw [rightF, e, if_neg (by rw [hs]; omega), if_neg (by rw [hs]; omega), hs, Int.toNat_natCast]

set_option maxRecDepth 100000 in
set_option maxHeartbeats 4000000 in
theorem check1_p {x y : Xpr} {b : BitVec 16} {w0 : World} {a1 : Option Addr} {n1 c1 : Nat} {a2 : Option Addr} {n2 c2 : Nat} {a : Option Addr} {n c : Nat} {nodes : List Cho} {b4 b5 b6 b7 b9 : Nat} (C : CkW x y b w0 a1 n1 c1 a2 n2 c2 a n c nodes b4 b5 b6 b7 b9) (hn : nodsC nodes = true) :
    ∀ (f i : Nat) (p q : BitVec 16) (u : World), i < n → i < f → Below w0.heap.size w0 u →
    Calls Tryz.prog 29 #[.int .i64 i, .int .u16 (U p), .int .u16 (U q), .pointer (some ⟨b7, 0, none⟩), .pointer (some ⟨b4, 0, none⟩), .pointer (some ⟨b5, 0, none⟩), .pointer (some ⟨b6, 0, none⟩), .pointer (some ⟨b9, 0, none⟩)] u fun e w' => e = .returned (.bool (rightF x y b nodes f i p q)) ∧ Below u.heap.size u w' := by
  have HC := Lib.hid C
  have HNO := Lib.hid hn
  have hle := RdK.le C.tm
  have hm := RdK.max C.tm
  unfold maxLen at hm
  have HNL := Lib.hid (TM.len C.tm)
  clear C hn
  intro f
  induction f with
  | zero => intro i p q u _ h; omega
  | succ f ih =>
    intro i p q u hin hif hb
    have HIH := Lib.hid ih
    clear ih
    obtain ⟨nd, hnd⟩ : ∃ nd, nodes[i]? = some nd := ⟨_, List.getElem?_eq_getElem (by have := HNL.out; omega)⟩
    obtain ⟨bb, oo, ha, hat⟩ := TM.at3 (RdK.below HC.out.tm hb) (by omega)
    obtain ⟨m0, m1, m2⟩ := hat i nd hnd
    have q70 := cell_keep hb HC.out.c7
    subst ha
    have hnc := nodsC_at HNO.out (i := i) (by have := HNL.out; omega)
    rw [List.getD_eq_getElem?_getD, hnd] at hnc
    have hnc : nodC nd i = true := hnc
    have HRX := Lib.hid (rightF_x (x := x) (y := y) (b := b) (f := f) (p := p) (q := q) hnd)
    have HRY := Lib.hid (rightF_y (x := x) (y := y) (b := b) (f := f) (p := p) (q := q) hnd)
    have HRN := Lib.hid (fun s => rightF_n (x := x) (y := y) (b := b) (f := f) (p := p) (q := q) (s := s) hnd)
    obtain ⟨sv, fi, se⟩ := nd
    simp only at m0 m1 m2 HRX HRY HRN
    obtain ⟨U1, hU1⟩ : ∃ U1, U1 = u.alloc (.cells #[.int .i64 sv, .int .i64 fi, .int .i64 se] 72) := ⟨_, rfl⟩
    have hb1 : Below u.heap.size u U1 := by rw [hU1]; exact (Below.refl _ u).alloc (Nat.le_refl _) _
    have hb2 : Below w0.heap.size w0 U1 := Below.next hb hb1
    obtain ⟨g40, g41⟩ := HC.out.c4
    obtain ⟨g50, g51⟩ := HC.out.c5
    have g40 := cell_keep hb2 g40
    have g41 := cell_keep hb2 g41
    have g50 := cell_keep hb2 g50
    have g51 := cell_keep hb2 g51
    have g6 := cell_keep hb2 HC.out.c6
    have g9 := cell_keep hb2 HC.out.c9
    have HB1 := Lib.hid hb1
    have HB2 := Lib.hid hb2
    clear hat hb1 hb2 hb
    by_cases s1 : sv = -1
    · have HR := Lib.hid (HRX.out s1)
      have HS := Lib.hid (HC.out.sx q U1 HB2.out)
      subst s1
      clear hnc
      obtain ⟨V, hV⟩ : ∃ V, holdX x (4095#16 &&& ~~~q) = V := ⟨_, rfl⟩
      rw [hV] at HS HR
      clear hV
      rw [hU1] at g40 g41 HS
      go_enter Tryz.func29, Tryz.ntmps29
      go_wp2_with fail
      with_reducible refine HS.out.mono ?_
      rintro e w1 ⟨rfl, hb1⟩
      rw [← hU1] at hb1
      go_wp2_with fail
      go_ret
      exact ⟨ret_bool (by rw [HR.out]), Below.next HB1.out hb1⟩
    by_cases s2 : sv = -2
    · have HR := Lib.hid (HRY.out s2)
      have HS := Lib.hid (HC.out.sy p U1 HB2.out)
      subst s2
      clear hnc s1
      obtain ⟨V, hV⟩ : ∃ V, holdX y (4095#16 &&& ~~~p) = V := ⟨_, rfl⟩
      rw [hV] at HS HR
      clear hV
      rw [hU1] at g50 g51 HS
      go_enter Tryz.func29, Tryz.ntmps29
      go_wp2_with fail
      with_reducible refine HS.out.mono ?_
      rintro e w1 ⟨rfl, hb1⟩
      rw [← hU1] at hb1
      go_wp2_with fail
      go_ret
      exact ⟨ret_bool (by rw [HR.out]), Below.next HB1.out hb1⟩
    have hlf : leafC ⟨sv, fi, se⟩ = false := by unfold leafC; rw [decide_eq_false s1, decide_eq_false s2]; rfl
    obtain ⟨⟨hs0, hs12⟩, ⟨hf0, hfk⟩, hse0, hsek⟩ := nodC_leaf hnc hlf
    simp only at hs0 hs12 hf0 hfk hse0 hsek
    have t1 : (sv == -1) = false := by simpa using s1
    have t2 : (sv == -2) = false := by simpa using s2
    obtain ⟨s, rfl⟩ := Int.eq_ofNat_of_zero_le hs0
    obtain ⟨fk, rfl⟩ := Int.eq_ofNat_of_zero_le hf0
    obtain ⟨sk, rfl⟩ := Int.eq_ofNat_of_zero_le hse0
    have HR := Lib.hid (HRN.out s rfl)
    clear hnc hlf s1 s2 hs0 hf0 hse0
    have hs16 : min s 16 = s := by omega
    cases hz : (bitS s &&& (b ||| p ||| q)) == 0#16
    · rw [hz] at HR
      rw [hU1] at g6
      have HZ := Lib.hid hz
      go_enter Tryz.func29, Tryz.ntmps29
      go_wp2_with fail
      go_ret
      exact ⟨ret_bool (by rw [HR.out]; rfl), by rw [← hU1]; exact HB1.out⟩
    · rw [hz, if_pos rfl] at HR
      have hfn : fk < n := by omega
      have hsn : sk < n := by omega
      have hff : fk < f := by omega
      have hsf : sk < f := by omega
      have HI1 := Lib.hid (HIH.out fk (p ||| bitS s) q U1 hfn hff HB2.out)
      have HI2 := Lib.hid (fun (v : World) (hv : Below U1.heap.size U1 v) => HIH.out sk p (q ||| bitS s) v hsn hsf (Below.next HB2.out hv))
      have HK : Hid (∀ v : World, Below U1.heap.size U1 v → v.cell? ⟨u.heap.size, 2, none⟩ = some (.int .i64 sk) ∧ v.cell? ⟨b9, 0, none⟩ = some (.func (.func 29) #[] #[.pointer (some ⟨b7, 0, none⟩), .pointer (some ⟨b4, 0, none⟩), .pointer (some ⟨b5, 0, none⟩), .pointer (some ⟨b6, 0, none⟩), .pointer (some ⟨b9, 0, none⟩)])) :=
        Lib.hid (fun v hv => ⟨cell_keep hv (by rw [hU1]; exact cell_of_row _ _ 2 _ _ _ (heap_alloc_new _ _)), cell_keep hv g9⟩)
      obtain ⟨r1, hr1⟩ : ∃ r, rightF x y b nodes f fk (p ||| bitS s) q = r := ⟨_, rfl⟩
      obtain ⟨r2, hr2⟩ : ∃ r, rightF x y b nodes f sk p (q ||| bitS s) = r := ⟨_, rfl⟩
      rw [hr1] at HI1 HR
      rw [hr2] at HI2 HR
      clear hr1 hr2
      rw [hU1] at g6 g9 HI1
      have heg := eg_chk
      cases r1
      · go_enter Tryz.func29, Tryz.ntmps29
        go_wp2_with fail
        with_reducible refine HI1.out.mono ?_
        rintro e w1 ⟨rfl, hb1⟩
        rw [← hU1] at hb1
        go_wp2_with fail
        go_ret
        exact ⟨ret_bool (by rw [HR.out]; rfl), Below.next HB1.out hb1⟩
      · go_enter Tryz.func29, Tryz.ntmps29
        go_wp2_with fail
        with_reducible refine HI1.out.mono ?_
        rintro e w1 ⟨rfl, hb1⟩
        rw [← hU1] at hb1
        obtain ⟨k2, k9⟩ := HK.out w1 hb1
        go_wp2_with fail
        with_reducible refine (HI2.out w1 hb1).mono ?_
        rintro e w2 ⟨rfl, hb2⟩
        go_wp2_with fail
        go_ret
        exact ⟨ret_bool (by rw [HR.out]; rfl), Below.next HB1.out (Below.next hb1 hb2)⟩

/-- four arguments laid: two expressions, a set, a tree -/
theorem args4 (w : World) (u0 u1 v0 v1 z t0 t1 : Value) (e f g : TypeId) {W : World} (hW : W = (((w.alloc (.cells #[u0, u1] e)).alloc (.cells #[v0, v1] e)).alloc (.cells #[z] f)).alloc (.cells #[t0, t1] g)) :
    Below w.heap.size w W ∧ W.heap.size = w.heap.size + 4 ∧ ∀ y, Below W.heap.size W y → (y.cell? ⟨w.heap.size, 0, none⟩ = some u0 ∧ y.cell? ⟨w.heap.size, 1, none⟩ = some u1) ∧ (y.cell? ⟨w.heap.size + 1, 0, none⟩ = some v0 ∧ y.cell? ⟨w.heap.size + 1, 1, none⟩ = some v1) ∧ y.cell? ⟨w.heap.size + 1 + 1, 0, none⟩ = some z ∧ y.cell? ⟨w.heap.size + 1 + 1 + 1, 0, none⟩ = some t0 ∧ y.cell? ⟨w.heap.size + 1 + 1 + 1, 1, none⟩ = some t1 := by
  refine ⟨by rw [hW]; exact ((((Below.refl _ w).alloc (Nat.le_refl _) _).alloc (by simp) _).alloc (by simp; omega) _).alloc (by simp; omega) _, by rw [hW]; simp, fun y hy => ?_⟩
  have g0 : W.heap[w.heap.size]? = some (.cells #[u0, u1] e (0, 0)) := by rw [hW]; exact heap_alloc_at (heap_alloc_at (heap_alloc_at (heap_alloc_new _ _) _) _) _
  have g1 : W.heap[w.heap.size + 1]? = some (.cells #[v0, v1] e (0, 0)) := by
    rw [hW]
    have := heap_alloc_new (w.alloc (.cells #[u0, u1] e)) (.cells #[v0, v1] e)
    rw [World.size_alloc] at this
    exact heap_alloc_at (heap_alloc_at this _) _
  have g2 : W.heap[w.heap.size + 1 + 1]? = some (.cells #[z] f (0, 0)) := by
    rw [hW]
    have := heap_alloc_new ((w.alloc (.cells #[u0, u1] e)).alloc (.cells #[v0, v1] e)) (.cells #[z] f)
    rw [World.size_alloc, World.size_alloc] at this
    exact heap_alloc_at this _
  have g3 : W.heap[w.heap.size + 1 + 1 + 1]? = some (.cells #[t0, t1] g (0, 0)) := by
    rw [hW]
    have := heap_alloc_new (((w.alloc (.cells #[u0, u1] e)).alloc (.cells #[v0, v1] e)).alloc (.cells #[z] f)) (.cells #[t0, t1] g)
    rw [World.size_alloc, World.size_alloc, World.size_alloc] at this
    exact this
  have e0 := heap_below hy g0
  have e1 := heap_below hy g1
  have e2 := heap_below hy g2
  have e3 := heap_below hy g3
  exact ⟨⟨cell_of_row _ _ 0 _ _ _ e0, cell_of_row _ _ 1 _ _ _ e0⟩, ⟨cell_of_row _ _ 0 _ _ _ e1, cell_of_row _ _ 1 _ _ _ e1⟩, cell_of_row _ _ 0 _ _ _ e2, cell_of_row _ _ 0 _ _ _ e3, cell_of_row _ _ 1 _ _ _ e3⟩

set_option maxRecDepth 100000 in
set_option maxHeartbeats 4000000 in
theorem check_err (x y : Xpr) (b : BitVec 16) (E : Int) (hE : (if xprE x ≠ 0 then xprE x else xprE y) = E) (h0 : E ≠ 0) (a1 : Option Addr) (n1 c1 : Nat) (a2 : Option Addr) (n2 c2 : Nat) (tv : Value) (rt : Int) (w : World) (h1 : XM w a1 n1 c1 x.nodes) (h2 : XM w a2 n2 c2 y.nodes) :
    Calls Tryz.prog 12 #[.agg #[.slice a1 n1 c1, .int .i64 x.root], .agg #[.slice a2 n2 c2, .int .i64 y.root], .int .u16 (U b), .agg #[tv, .int .i64 rt]] w fun e w' => e = .returned (.bool false) ∧ Below w.heap.size w w' := by
  have H1 := Lib.hid (fun (u : World) (hb : Below w.heap.size w u) => two_c x y a1 n1 c1 a2 n2 c2 u (h1.below hb) (h2.below hb))
  rw [hE] at H1
  have hne : (E != 0) = true := by simpa using h0
  clear h1 h2 hE h0
  obtain ⟨W4, hW4⟩ : ∃ W4, W4 = (((w.alloc (.cells #[.slice a1 n1 c1, .int .i64 x.root] 30)).alloc (.cells #[.slice a2 n2 c2, .int .i64 y.root] 30)).alloc (.cells #[.int .u16 (U b)] 26)).alloc (.cells #[tv, .int .i64 rt] 38) := ⟨_, rfl⟩
  obtain ⟨hb4, hs4, hc⟩ := args4 w _ _ _ _ _ _ _ _ _ _ hW4
  obtain ⟨⟨q0, q1⟩, ⟨q2, q3⟩, q4, q5, q6⟩ := hc W4 (Below.refl _ _)
  have HB4 := Lib.hid hb4
  clear hb4 hc
  go_enter Tryz.func12, Tryz.ntmps12
  go_wp2_with fail
  rw [← hW4]
  with_reducible refine (H1.out W4 HB4.out).mono ?_
  rintro e w1 ⟨rfl, hb1⟩
  go_wp2_with fail
  go_ret
  exact ⟨rfl, Below.next HB4.out hb1⟩

set_option maxRecDepth 100000 in
set_option maxHeartbeats 4000000 in
theorem check_c (x y : Xpr) (b : BitVec 16) (hx : xprE x = 0) (hy : xprE y = 0) (hfx : XprFew x) (hfy : XprFew y) (t : Tre) (a1 : Option Addr) (n1 c1 : Nat) (a2 : Option Addr) (n2 c2 : Nat) (a : Option Addr) (n c : Nat) (w : World) (h1 : XM w a1 n1 c1 x.nodes) (h2 : XM w a2 n2 c2 y.nodes) (h : TM w a n c t.nodes) :
    Calls Tryz.prog 12 #[.agg #[.slice a1 n1 c1, .int .i64 x.root], .agg #[.slice a2 n2 c2, .int .i64 y.root], .int .u16 (U b), .agg #[.slice a n c, .int .i64 t.root]] w fun e w' => e = .returned (.bool (certC x y b t)) ∧ Below w.heap.size w w' := by
  have H1 := Lib.hid (fun (u : World) (hb : Below w.heap.size w u) => two_c x y a1 n1 c1 a2 n2 c2 u (h1.below hb) (h2.below hb))
  rw [hx, hy] at H1
  have H2 := Lib.hid (fun (u : World) (hb : Below w.heap.size w u) => formed_c t a n c u (RdK.below h hb))
  have HSX := Lib.hid (fun (z : BitVec 16) (u : World) (hb : Below w.heap.size w u) => satisfied_c x hx hfx (4095#16 &&& ~~~z) (all_lt z) a1 n1 c1 u (h1.below hb))
  have HSY := Lib.hid (fun (z : BitVec 16) (u : World) (hb : Below w.heap.size w u) => satisfied_c y hy hfy (4095#16 &&& ~~~z) (all_lt z) a2 n2 c2 u (h2.below hb))
  have HTM := Lib.hid (fun (u : World) (hb : Below w.heap.size w u) => RdK.below h hb)
  have HNL := Lib.hid (TM.len h)
  clear h1 h2 h hx hy hfx hfy
  obtain ⟨W4, hW4⟩ : ∃ W4, W4 = (((w.alloc (.cells #[.slice a1 n1 c1, .int .i64 x.root] 30)).alloc (.cells #[.slice a2 n2 c2, .int .i64 y.root] 30)).alloc (.cells #[.int .u16 (U b)] 26)).alloc (.cells #[.slice a n c, .int .i64 t.root] 38) := ⟨_, rfl⟩
  obtain ⟨hb4, hs4, hc⟩ := args4 w _ _ _ _ _ _ _ _ _ _ hW4
  obtain ⟨⟨q0, q1⟩, ⟨q2, q3⟩, q4, q5, q6⟩ := hc W4 (Below.refl _ _)
  have HB4 := Lib.hid hb4
  have HC := Lib.hid hc
  have hif : (if (0 : Int) ≠ 0 then (0 : Int) else 0) = 0 := by decide
  rw [hif] at H1
  clear hb4 hc hif
  obtain ⟨F, hF⟩ : ∃ F, formC t = F := ⟨_, rfl⟩
  rw [hF] at H2
  cases F
  · have HV : Hid (certC x y b t = false) := by show _ = _; unfold certC; rw [hF]; rfl
    clear hF
    go_enter Tryz.func12, Tryz.ntmps12
    go_wp2_with fail
    rw [← hW4]
    with_reducible refine (H1.out W4 HB4.out).mono ?_
    rintro e w1 ⟨rfl, hb1⟩
    obtain ⟨_, _, _, q5, q6⟩ := HC.out w1 hb1
    go_wp2_with fail
    with_reducible refine (H2.out w1 (Below.next HB4.out hb1)).mono ?_
    rintro e w2 ⟨rfl, hb2⟩
    go_wp2_with fail
    go_ret
    exact ⟨ret_bool HV.out.symm, Below.next HB4.out (Below.next hb1 hb2)⟩
  · obtain ⟨⟨_, _, hr0, hrn⟩, hnods, _⟩ := formC_parts hF
    have HV : Hid (certC x y b t = rightF x y b t.nodes t.nodes.length t.root 0#16 0#16) := by show _ = _; unfold certC; rw [hF]; rfl
    have HND := Lib.hid hnods
    obtain ⟨r, hr⟩ := Int.eq_ofNat_of_zero_le hr0
    have hrn' : r < n := by have := HNL.out; omega
    rw [hr] at HV hW4 q6 HC H2
    rw [hr]
    rw [HNL.out] at HV
    clear hF hr0 hrn hnods hr
    have hmf : ∀ (fn : Fn) (first cap : Array Value) (w : World), (Instr.makeFunc fn first cap).run Tryz.prog w = .ok (.func fn first cap) w := fun _ _ _ _ => rfl
    have heg := eg_chk
    go_enter Tryz.func12, Tryz.ntmps12
    go_wp2_with fail
    rw [← hW4]
    with_reducible refine (H1.out W4 HB4.out).mono ?_
    rintro e w1 ⟨rfl, hb1⟩
    obtain ⟨_, _, _, q5, q6⟩ := HC.out w1 hb1
    go_wp2_with fail
    with_reducible refine (H2.out w1 (Below.next HB4.out hb1)).mono ?_
    rintro e w2 ⟨rfl, hb2⟩
    have HBW := Lib.hid (Below.next HB4.out (Below.next hb1 hb2))
    obtain ⟨⟨t0, t1⟩, ⟨t2, t3⟩, t4, t5, t6⟩ := HC.out w2 (Below.next hb1 hb2)
    obtain ⟨WF, hWF⟩ : ∃ WF, WF = w2.alloc (.cells #[(.func (.func 29) #[] #[.pointer (some ⟨w.heap.size + 1 + 1 + 1, 0, none⟩), .pointer (some ⟨w.heap.size, 0, none⟩), .pointer (some ⟨w.heap.size + 1, 0, none⟩), .pointer (some ⟨w.heap.size + 1 + 1, 0, none⟩), .pointer (some ⟨w2.heap.size, 0, none⟩)])] 75) := ⟨_, rfl⟩
    have hbF : Below w2.heap.size w2 WF := by rw [hWF]; exact (Below.refl _ _).alloc (Nat.le_refl _) _
    have z6 := cell_keep hbF t6
    rw [hWF] at z6
    clear hW4 q0 q1 q2 q3 q4 q5 q6 hb1 hb2
    go_wp2_with fail
    rw [← hWF]
    clear z6
    have hc9 : WF.cell? ⟨w2.heap.size, 0, none⟩ = some (.func (.func 29) #[] #[.pointer (some ⟨w.heap.size + 1 + 1 + 1, 0, none⟩), .pointer (some ⟨w.heap.size, 0, none⟩), .pointer (some ⟨w.heap.size + 1, 0, none⟩), .pointer (some ⟨w.heap.size + 1 + 1, 0, none⟩), .pointer (some ⟨w2.heap.size, 0, none⟩)]) := by
      rw [hWF]
      exact (cell_of_row _ _ 0 _ _ _ (heap_alloc_new _ _)).trans rfl
    have hbw := Below.next HBW.out hbF
    have C : CkW x y b WF a1 n1 c1 a2 n2 c2 a n c t.nodes w.heap.size (w.heap.size + 1) (w.heap.size + 1 + 1) (w.heap.size + 1 + 1 + 1) w2.heap.size :=
      { c4 := ⟨cell_keep hbF t0, cell_keep hbF t1⟩
        c5 := ⟨cell_keep hbF t2, cell_keep hbF t3⟩
        c6 := cell_keep hbF t4
        c7 := cell_keep hbF t5
        c9 := hc9
        tm := HTM.out WF hbw
        sx := fun z u hu => HSX.out z u (Below.next hbw hu)
        sy := fun z u hu => HSY.out z u (Below.next hbw hu) }
    have HP := Lib.hid (check1_p C HND.out n r 0#16 0#16 WF hrn' hrn' (Below.refl _ _))
    rw [← HV.out, U_zero] at HP
    have HBF := Lib.hid hbw
    clear C hc9 hbF hWF hbw
    with_reducible refine HP.out.mono ?_
    rintro e w5 ⟨rfl, hb5⟩
    go_wp2_with fail
    go_ret
    exact ⟨rfl, Below.next HBF.out hb5⟩
end Go.Proofs.YtflpkkebampmfaaGreatDoor
namespace Go.Proofs.YtflpkkebampmfaaGreatDoor
open Go.RowKit Go.Shelf

set_option maxHeartbeats 400000 in
theorem violated_c (x y b : BitVec 16) (w : World) :
    Calls Tryz.prog 45 #[.int .u16 (U x), .int .u16 (U y), .int .u16 (U b)] w fun e w' => e = .returned (.bool (viol x y b)) ∧ w' = w := by
  go_enter Tryz.func45, Tryz.ntmps45
  go_wp2_with fail
  go_ret
  exact ⟨rfl, rfl⟩

set_option maxRecDepth 100000 in
set_option maxHeartbeats 2000000 in
theorem rfamilies_c (f g : List (BitVec 16)) (b : BitVec 16) (a : Option Addr) (n c : Nat) (a2 : Option Addr) (n2 c2 : Nat) (w : World) (h : Rd w a n c (f.map setV2)) (h2 : Rd w a2 n2 c2 (g.map setV2)) :
    Calls Tryz.prog 9 #[.slice a n c, .slice a2 n2 c2, .int .u16 (U b)] w fun e w' => e = .returned (.bool (famsB f g b)) ∧ Below w.heap.size w w' := by
  have hnl : f.length = n := by have := h.len; simp at this; omega
  have hnl2 : g.length = n2 := by have := h2.len; simp at this; omega
  have hm := h.max
  have hle := h.le
  have hm2 := h2.max
  have hle2 := h2.le
  unfold maxLen at hm hm2
  have HR := Lib.hid h
  have HR2 := Lib.hid h2
  have HN := Lib.hid hnl
  have HN2 := Lib.hid hnl2
  clear h h2 hnl hnl2
  go_enter Tryz.func9, Tryz.ntmps9
  go_wp2_with fail
  go_loopw [7] (fun i wr => ∃ k : Nat, k ≤ n ∧ i = .int .i64 k ∧ Hid (∀ (i : Nat) x, i < k → f[i]? = some x → ∀ (j : Nat) y, g[j]? = some y → viol x y b = false) ∧ Below w.heap.size w wr) (fun i _ => n - (intOf i).toNat)
  case atStart => exact ⟨0, Nat.zero_le _, rfl, Lib.hid (fun i x hi => by omega), Below.refl _ _⟩
  case round =>
    obtain ⟨k, hk, rfl, hno, hb⟩ := hrel
    by_cases hlt : k < n
    · obtain ⟨x, hx⟩ : ∃ x, f[k]? = some x := ⟨_, List.getElem?_eq_getElem (by have := HN.out; omega)⟩
      obtain ⟨bb, oo, ha, hcell⟩ := (HR.out.below hb).at' (by omega)
      have hc := hcell k (.int .u16 (U x)) (by rw [List.getElem?_map, hx]; rfl)
      have HX := Lib.hid hx
      subst ha
      clear hcell hx
      go_wp2_with fail
      have HB := Lib.hid hb
      have HCX := Lib.hid hc
      clear hb hc
      obtain ⟨W0, hW0⟩ : ∃ W0, W0 = wr := ⟨_, rfl⟩
      subst hW0
      go_loopw [8] (fun i wq => ∃ j : Nat, j ≤ n2 ∧ i = .int .i64 j ∧ Hid (∀ (i : Nat) y, i < j → g[i]? = some y → viol x y b = false) ∧ Below W0.heap.size W0 wq) (fun i _ => n2 - (intOf i).toNat)
      case atStart => exact ⟨0, Nat.zero_le _, rfl, Lib.hid (fun i x hi => by omega), Below.refl _ _⟩
      case round =>
        obtain ⟨j, hj, rfl, hnj, hbq⟩ := hrel
        by_cases hlt2 : j < n2
        · obtain ⟨y, hy⟩ : ∃ y, g[j]? = some y := ⟨_, List.getElem?_eq_getElem (by have := HN2.out; omega)⟩
          obtain ⟨b2, o2, ha2, hcell2⟩ := (HR2.out.below (Below.next HB.out hbq)).at' (by omega)
          have hc2 := hcell2 j (.int .u16 (U y)) (by rw [List.getElem?_map, hy]; rfl)
          subst ha2
          clear hcell2
          have hc1 := ((hbq.cell (p := ⟨bb, oo + k, none⟩) (cell_lt HCX.out)).trans HCX.out)
          cases hv : viol x y b
          · have hv2 : (x &&& y &&& ~~~b == 0#16) = false := hv
            have hnj' : Hid (∀ (i : Nat) y, i < j + 1 → g[i]? = some y → viol x y b = false) := Lib.hid (fun i z hi hz => by
              by_cases h1 : i < j
              · exact hnj.out i z h1 hz
              · obtain rfl : i = j := by omega
                rw [hy] at hz; cases hz; exact hv)
            clear hv hy hnj
            go_wp2_with fail
            go_quiet (fail)
            go_wp2_with fail
            go_roundw
            case rel => exact ⟨j + 1, by omega, by go_num, hnj', below_drewN hbq⟩
            case measure => simp [intOf]; omega
          · have hv2 : (x &&& y &&& ~~~b == 0#16) = true := hv
            have hF : Hid (famsB f g b = false) := famsB_hit HX.out hy hv
            clear hv hy hnj
            go_wp2_with fail
            go_quiet (fail)
            go_wp2_with fail
            go_ret
            exact ⟨ret_bool hF.out.symm, below_drewN (Below.next HB.out hbq)⟩
        · obtain rfl : j = n2 := by omega
          have hno' : Hid (∀ (i : Nat) z, i < k + 1 → f[i]? = some z → ∀ (j : Nat) y, g[j]? = some y → viol z y b = false) := Lib.hid (fun i z hi hz m y hy => by
            by_cases h1 : i < k
            · exact hno.out i z h1 hz m y hy
            · obtain rfl : i = k := by omega
              have := HX.out
              rw [this] at hz; cases hz
              exact hnj.out m y (by have := (List.getElem?_eq_some_iff.1 hy).1; have := HN2.out; omega) hy)
          clear hno hnj
          go_wp2_with fail
          go_roundw
          case rel => exact ⟨k + 1, by omega, by go_num, hno', Below.next HB.out hbq⟩
          case measure => simp [intOf]; omega
    · obtain rfl : k = n := by omega
      have hT : Hid (famsB f g b = true) := famsB_all fun i x hx j y hy => hno.out i x (by have := (List.getElem?_eq_some_iff.1 hx).1; have := HN.out; omega) hx j y hy
      clear hno
      go_wp2_with fail
      go_ret
      exact ⟨ret_bool hT.out.symm, hb⟩
end Go.Proofs.YtflpkkebampmfaaGreatDoor
namespace Go.Proofs.YtflpkkebampmfaaGreatDoor
open Go.RowKit Go.Shelf

def oA : Option (BitVec 16 × BitVec 16) → BitVec 16
  | none => 0#16
  | some p => p.1
def oB : Option (BitVec 16 × BitVec 16) → BitVec 16
  | none => 0#16
  | some p => p.2
/-- a function value that answers a size -/
def SzAt (g : Nat) (lb : Array Value) (sz : BitVec 16 → Nat) : Prop := ∀ (z : BitVec 16) (W : World), Calls Tryz.prog g (#[.int .u16 (U z)] ++ lb) W fun e w' => e = .returned (.int .i64 (sz z)) ∧ ∃ q, w' = W.drewN q

set_option maxRecDepth 100000 in
set_option maxHeartbeats 4000000 in
theorem search_c (G : Nat) (lb : Array Value) (eg : ∀ args w, (callFunc G args).run Tryz.prog w = .ok (.enter G args) w) (sz : BitVec 16 → Nat) (hsz : SzAt G lb sz)
    (f g : List (BitVec 16)) (b : BitVec 16) (a : Option Addr) (n c : Nat) (a2 : Option Addr) (n2 c2 : Nat) (w : World) (h : Rd w a n c (f.map setV2)) (h2 : Rd w a2 n2 c2 (g.map setV2)) :
    Calls Tryz.prog 31 #[.slice a n c, .slice a2 n2 c2, .int .u16 (U b), .func (.func G) #[] lb] w fun e w' => e = .returned (.tuple #[.int .u16 (U (pairS b sz f g).1), .int .u16 (U (pairS b sz f g).2.1), .int .i64 (pairS b sz f g).2.2]) ∧ Below w.heap.size w w' := by
  have hnl : f.length = n := by have := h.len; simp at this; omega
  have hnl2 : g.length = n2 := by have := h2.len; simp at this; omega
  have hm := h.max
  have hle := h.le
  have hm2 := h2.max
  have hle2 := h2.le
  unfold maxLen at hm hm2
  have HR := Lib.hid h
  have HR2 := Lib.hid h2
  have HN := Lib.hid hnl
  have HN2 := Lib.hid hnl2
  have HSZ := Lib.hid hsz
  have HV1 := Lib.hid (valid_c f a n c w h)
  obtain ⟨R, hR⟩ : ∃ R, pairS b sz f g = R := ⟨_, rfl⟩
  rw [hR]
  have HPR := Lib.hid hR
  clear h h2 hnl hnl2 hsz hR
  obtain ⟨E1, hE1⟩ : ∃ E, valS f = E := ⟨_, rfl⟩
  obtain ⟨E2, hE2⟩ : ∃ E, valS g = E := ⟨_, rfl⟩
  rw [hE1] at HV1
  by_cases h1 : E1 = 0
  · subst h1
    by_cases h2 : E2 = 0
    · subst h2
      have HPS : Hid (R = match srcS b sz f g with | none => (0#16, 0#16, 13) | some p => (p.1, p.2, 0)) := by
        show R = _
        rw [← HPR.out]; unfold pairS; rw [if_neg (by rw [hE1]; simp), if_neg (by rw [hE2]; simp)]; rfl
      have HG0 := Lib.hid hE2
      clear hE1 hE2
      go_enter Tryz.func31, Tryz.ntmps31
      go_wp2_with fail
      with_reducible refine HV1.out.mono ?_
      rintro e w1 ⟨rfl, hb1⟩
      have HV2 := Lib.hid (valid_c g a2 n2 c2 w1 (HR2.out.below hb1))
      rw [HG0.out] at HV2
      have HB1 := Lib.hid hb1
      clear hb1
      go_wp2_with fail
      with_reducible refine HV2.out.mono ?_
      rintro e w2 ⟨rfl, hb2⟩
      have HB2 := Lib.hid (Below.next HB1.out hb2)
      clear hb2
      go_wp2_with fail
      go_loopw [13, 14, 15, 32] (fun u v z i wr => ∃ k : Nat, k ≤ n ∧ i = .int .i64 k ∧ (∃ o, u = .int .u16 (U (oA o)) ∧ v = .int .u16 (U (oB o)) ∧ z = .bool o.isSome ∧ Hid (srcFrom b sz (f.take k) g none = o)) ∧ Below w.heap.size w wr) (fun _ _ _ i _ => n - (intOf i).toNat)
      case atStart => exact ⟨0, Nat.zero_le _, rfl, ⟨none, rfl, rfl, rfl, rfl⟩, HB2.out⟩
      case round =>
        obtain ⟨k, hk, rfl, ⟨o, rfl, rfl, rfl, ho⟩, hb⟩ := hrel
        by_cases hlt : k < n
        · obtain ⟨x, hx⟩ : ∃ x, f[k]? = some x := ⟨_, List.getElem?_eq_getElem (by have := HN.out; omega)⟩
          obtain ⟨bb, oo, ha, hcell⟩ := (HR.out.below hb).at' (by omega)
          have hc := hcell k (.int .u16 (U x)) (by rw [List.getElem?_map, hx]; rfl)
          have HST := Lib.hid (srcFrom_succ (b := b) (sz := sz) (g := g) (o := none) hx)
          subst ha
          clear hcell hx
          go_wp2_with fail
          have HB := Lib.hid hb
          clear hb hc
          obtain ⟨W0, hW0⟩ : ∃ W0, W0 = wr := ⟨_, rfl⟩
          subst hW0
          go_loopw [13, 14, 15, 38] (fun u v z i wq => ∃ j : Nat, j ≤ n2 ∧ i = .int .i64 j ∧ (∃ o2, u = .int .u16 (U (oA o2)) ∧ v = .int .u16 (U (oB o2)) ∧ z = .bool o2.isSome ∧ Hid (srcRow b sz x (g.take j) o = o2)) ∧ Below W0.heap.size W0 wq) (fun _ _ _ i _ => n2 - (intOf i).toNat)
          case atStart => exact ⟨0, Nat.zero_le _, rfl, ⟨o, rfl, rfl, rfl, rfl⟩, Below.refl _ _⟩
          case round =>
            obtain ⟨j, hj, rfl, ⟨o2, rfl, rfl, rfl, ho2⟩, hbq⟩ := hrel
            by_cases hlt2 : j < n2
            · obtain ⟨y, hy⟩ : ∃ y, g[j]? = some y := ⟨_, List.getElem?_eq_getElem (by have := HN2.out; omega)⟩
              obtain ⟨b2, o3, ha2, hcell2⟩ := (HR2.out.below (Below.next HB.out hbq)).at' (by omega)
              have hc2 := hcell2 j (.int .u16 (U y)) (by rw [List.getElem?_map, hy]; rfl)
              have hstep : srcRow b sz x (g.take (j + 1)) o = srcStep b sz o2 x y := by rw [srcRow_succ hy, ho2.out]
              subst ha2
              have HV := Lib.hid (violated_c x y b wr)
              have HBQ := Lib.hid hbq
              clear hcell2 hy hbq
              cases hv : viol x y b
              · rw [hv] at HV
                rw [srcStep_miss hv] at hstep
                have HS := Lib.hid hstep
                clear hv hstep
                go_wp2_with fail
                with_reducible refine HV.out.mono ?_
                rintro e w5 ⟨rfl, rfl⟩
                go_wp2_with fail
                go_roundw
                case rel => exact ⟨j + 1, by omega, by go_num, ⟨o2, rfl, rfl, rfl, HS⟩, HBQ.out⟩
                case measure => simp [intOf]; omega
              · rw [hv] at HV
                cases o2 with
                | none =>
                  have hstep2 : srcRow b sz x (g.take (j + 1)) o = some (x, y) := by rw [hstep]; unfold srcStep; rw [if_pos hv]
                  have HS := Lib.hid hstep2
                  have hsome : (none : Option (BitVec 16 × BitVec 16)).isSome = false := rfl
                  rw [hsome]
                  clear hv hstep hstep2
                  go_wp2_with fail
                  with_reducible refine HV.out.mono ?_
                  rintro e w5 ⟨rfl, rfl⟩
                  go_wp2_with fail
                  go_roundw
                  case rel => exact ⟨j + 1, by omega, by go_num, ⟨some (x, y), rfl, rfl, rfl, HS⟩, HBQ.out⟩
                  case measure => simp [intOf]; omega
                | some p =>
                  obtain ⟨p1, p2⟩ := p
                  have hsome : (some (p1, p2) : Option (BitVec 16 × BitVec 16)).isSome = true := rfl
                  have hoA : oA (some (p1, p2)) = p1 := rfl
                  have hoB : oB (some (p1, p2)) = p2 := rfl
                  rw [hsome, hoA, hoB]
                  have HZ1 := Lib.hid (HSZ.out (x ||| y))
                  have HZ2 := Lib.hid (HSZ.out (p1 ||| p2))
                  by_cases hs : sz (x ||| y) < sz (p1 ||| p2)
                  · have hstep2 : srcRow b sz x (g.take (j + 1)) o = some (x, y) := by rw [hstep]; unfold srcStep; rw [if_pos hv]; show (if _ then _ else _) = _; rw [if_pos hs]
                    have HS := Lib.hid hstep2
                    obtain ⟨s1, hs1⟩ : ∃ s, sz (x ||| y) = s := ⟨_, rfl⟩
                    obtain ⟨s2, hs2⟩ : ∃ s, sz (p1 ||| p2) = s := ⟨_, rfl⟩
                    rw [hs1] at HZ1 hs
                    rw [hs2] at HZ2 hs
                    have hd : decide (s1 < s2) = true := decide_eq_true hs
                    clear hv hstep hstep2 hs1 hs2 hs
                    go_wp2_with fail
                    with_reducible refine HV.out.mono ?_
                    rintro e w5 ⟨rfl, rfl⟩
                    go_wp2_with fail
                    with_reducible refine (HZ1.out _).mono ?_
                    rintro e w6 ⟨rfl, q6, rfl⟩
                    go_wp2_with fail
                    with_reducible refine (HZ2.out _).mono ?_
                    rintro e w7 ⟨rfl, q7, rfl⟩
                    go_wp2_with fail
                    go_roundw
                    case rel => exact ⟨j + 1, by omega, by go_num, ⟨some (x, y), rfl, rfl, rfl, HS⟩, below_drewN HBQ.out⟩
                    case measure => simp [intOf]; omega
                  · have hstep2 : srcRow b sz x (g.take (j + 1)) o = some (p1, p2) := by rw [hstep]; unfold srcStep; rw [if_pos hv]; show (if _ then _ else _) = _; rw [if_neg hs]
                    have HS := Lib.hid hstep2
                    obtain ⟨s1, hs1⟩ : ∃ s, sz (x ||| y) = s := ⟨_, rfl⟩
                    obtain ⟨s2, hs2⟩ : ∃ s, sz (p1 ||| p2) = s := ⟨_, rfl⟩
                    rw [hs1] at HZ1 hs
                    rw [hs2] at HZ2 hs
                    have hd : decide (s1 < s2) = false := decide_eq_false hs
                    clear hv hstep hstep2 hs1 hs2 hs
                    go_wp2_with fail
                    with_reducible refine HV.out.mono ?_
                    rintro e w5 ⟨rfl, rfl⟩
                    go_wp2_with fail
                    with_reducible refine (HZ1.out _).mono ?_
                    rintro e w6 ⟨rfl, q6, rfl⟩
                    go_wp2_with fail
                    with_reducible refine (HZ2.out _).mono ?_
                    rintro e w7 ⟨rfl, q7, rfl⟩
                    go_wp2_with fail
                    go_roundw
                    case rel => exact ⟨j + 1, by omega, by go_num, ⟨some (p1, p2), rfl, rfl, rfl, HS⟩, below_drewN HBQ.out⟩
                    case measure => simp [intOf]; omega
            · obtain rfl : j = n2 := by omega
              have hall : srcFrom b sz (f.take (k + 1)) g none = o2 := by
                have h1 := ho2.out
                rw [List.take_of_length_le (by have := HN2.out; omega)] at h1
                rw [HST.out, ho.out]; exact h1
              have HALL := Lib.hid hall
              have HBQ := Lib.hid hbq
              clear hall hbq ho ho2
              go_wp2_with fail
              go_roundw
              case rel => exact ⟨k + 1, by omega, by go_num, ⟨o2, rfl, rfl, rfl, HALL⟩, Below.next HB.out HBQ.out⟩
              case measure => simp [intOf]; omega
        · obtain rfl : k = n := by omega
          have hall : srcS b sz f g = o := by
            have h1 := ho.out
            rw [List.take_of_length_le (by have := HN.out; omega)] at h1
            exact h1
          have hRR := HPS.out
          rw [hall] at hRR
          have HBQ := Lib.hid hb
          clear hall hb ho
          cases o with
          | none =>
            have hsome : (none : Option (BitVec 16 × BitVec 16)).isSome = false := rfl
            rw [hsome]
            have HRR : Hid (R = (0#16, 0#16, 13)) := hRR
            clear hRR
            go_wp2_with fail
            go_ret3
            rw [HRR.out]
            exact ⟨rfl, HBQ.out⟩
          | some p =>
            obtain ⟨p1, p2⟩ := p
            have hsome : (some (p1, p2) : Option (BitVec 16 × BitVec 16)).isSome = true := rfl
            have hoA : oA (some (p1, p2)) = p1 := rfl
            have hoB : oB (some (p1, p2)) = p2 := rfl
            rw [hsome, hoA, hoB]
            have HRR : Hid (R = (p1, p2, 0)) := hRR
            clear hRR
            go_wp2_with fail
            go_ret3
            rw [HRR.out]
            exact ⟨rfl, HBQ.out⟩
    · have HRR : Hid (R = (0#16, 0#16, E2)) := by
        show R = _
        rw [← HPR.out]; unfold pairS; rw [if_neg (by rw [hE1]; simp), if_pos (by rw [hE2]; exact h2), hE2]
      have HG0 := Lib.hid hE2
      have hne : (E2 != 0) = true := by simpa using h2
      clear hE1 hE2 h2
      go_enter Tryz.func31, Tryz.ntmps31
      go_wp2_with fail
      with_reducible refine HV1.out.mono ?_
      rintro e w1 ⟨rfl, hb1⟩
      have HV2 := Lib.hid (valid_c g a2 n2 c2 w1 (HR2.out.below hb1))
      rw [HG0.out] at HV2
      have HB1 := Lib.hid hb1
      clear hb1
      go_wp2_with fail
      with_reducible refine HV2.out.mono ?_
      rintro e w2 ⟨rfl, hb2⟩
      have HB2 := Lib.hid (Below.next HB1.out hb2)
      clear hb2
      go_wp2_with fail
      go_ret3
      rw [HRR.out]
      exact ⟨rfl, HB2.out⟩
  · have HRR : Hid (R = (0#16, 0#16, E1)) := by
      show R = _
      rw [← HPR.out]; unfold pairS; rw [if_pos (by rw [hE1]; exact h1), hE1]
    have hne : (E1 != 0) = true := by simpa using h1
    clear hE1 hE2 h1
    go_enter Tryz.func31, Tryz.ntmps31
    go_wp2_with fail
    with_reducible refine HV1.out.mono ?_
    rintro e w1 ⟨rfl, hb1⟩
    have HB1 := Lib.hid hb1
    clear hb1
    go_wp2_with fail
    go_ret3
    rw [HRR.out]
    exact ⟨rfl, HB1.out⟩

theorem pair1_at : SzAt 32 #[] (fun _ => 0) := fun z W => by
  show Calls Tryz.prog 32 #[.int .u16 (U z)] W _
  go_enter Tryz.func32, Tryz.ntmps32
  go_wp2_with fail
  go_ret
  exact ⟨rfl, 0, rfl⟩
set_option maxHeartbeats 1000000 in
theorem pair_c (f g : List (BitVec 16)) (b : BitVec 16) (a : Option Addr) (n c : Nat) (a2 : Option Addr) (n2 c2 : Nat) (w : World) (h : Rd w a n c (f.map setV2)) (h2 : Rd w a2 n2 c2 (g.map setV2)) :
    Calls Tryz.prog 14 #[.slice a n c, .slice a2 n2 c2, .int .u16 (U b)] w fun e w' => e = .returned (.tuple #[.int .u16 (U (pairS b (fun _ => 0) f g).1), .int .u16 (U (pairS b (fun _ => 0) f g).2.1), .int .i64 (pairS b (fun _ => 0) f g).2.2]) ∧ Below w.heap.size w w' := by
  have HS := Lib.hid (search_c 32 #[] (enters_of Tryz.func32 (by kernel_rfl) rfl) _ pair1_at f g b a n c a2 n2 c2 w h h2)
  obtain ⟨R, hR⟩ : ∃ R, pairS b (fun _ => 0) f g = R := ⟨_, rfl⟩
  rw [hR] at HS ⊢
  clear h h2 hR
  go_enter Tryz.func14, Tryz.ntmps14
  go_wp2_with fail
  with_reducible refine HS.out.mono ?_
  rintro e w1 ⟨rfl, hb⟩
  go_wp2_with fail
  go_ret3
  exact ⟨rfl, hb⟩
end Go.Proofs.YtflpkkebampmfaaGreatDoor
namespace Go.Proofs.YtflpkkebampmfaaGreatDoor
open Go.RowKit Go.Shelf

def twoX : Xpr := ⟨[⟨1, 0, 0, [], []⟩, ⟨1, 1, 0, [], []⟩, ⟨1, 2, 0, [], []⟩, ⟨2, 0, 2, [], [0, 1, 2]⟩], 3⟩
theorem twoX_ok : xprE twoX = 0 := by decide +kernel
theorem twoX_few : XprFew twoX := fun k nd h => by
  match k, h with
  | 0, h => cases h; decide
  | 1, h => cases h; decide
  | 2, h => cases h; decide
  | 3, h => cases h; decide
def awT : Byts := [48, 40, 49, 40, 121, 44, 32, 50, 40, 121, 44, 32, 120, 41, 41, 44, 32, 49, 40, 50, 40, 121, 44, 32, 120, 41, 44, 32, 120, 41, 41]
theorem aw_par : (parC awT).2 = 0 ∧ (parC awT).1.nodes.length = 11 ∧ certC twoX twoX 0#16 (parC awT).1 = true ∧ certC twoX twoX 1#16 (parC awT).1 = false := by decide +kernel
theorem aw_prv : (prvS twoX twoX (leftS twoX twoX 0#16)).2 = 0 ∧ certC twoX twoX 0#16 (prvS twoX twoX (leftS twoX twoX 0#16)).1 = true ∧ (prvS twoX twoX (leftS twoX twoX 1#16)).2 = 12 := by decide +kernel
theorem aw_pair : pairS 1#16 (fun _ => 0) [3#16, 5#16, 6#16] [3#16, 5#16, 6#16] = (3#16, 5#16, 0) ∧ (pairS 0#16 (fun _ => 0) [3#16, 5#16, 6#16] [3#16, 5#16, 6#16]).2.2 = 13 := by decide +kernel

def twoV (b : Nat) : List NodV := [⟨1, 0, 0, .slice none 0 0, .slice none 0 0⟩, ⟨1, 1, 0, .slice none 0 0, .slice none 0 0⟩, ⟨1, 2, 0, .slice none 0 0, .slice none 0 0⟩, ⟨2, 0, 2, .slice none 0 0, .slice (some ⟨b, 0, none⟩) 3 3⟩]

set_option maxRecDepth 100000 in
set_option maxHeartbeats 1000000 in
theorem two20_c (w : World) :
    Calls Tryz.prog 16 #[] w fun e w' => ∃ a c, e = .returned (.agg #[.slice a 4 c, .int .i64 3]) ∧ XM w' a 4 c twoX.nodes ∧ Below w.heap.size w w' := by
  go_enter Tryz.func16, Tryz.ntmps16
  go_wp2_with fail
  obtain ⟨B, hB⟩ : ∃ B, B = w.heap.size + 1 := ⟨_, rfl⟩
  rw [← hB]
  obtain ⟨W1, hW1⟩ : ∃ W1, W1 = w.alloc (.cells #[.slice (some ⟨B + 1, 0, none⟩) 4 4, .int .i64 3] 30) := ⟨_, rfl⟩
  obtain ⟨W2, hW2⟩ : ∃ W2, W2 = W1.alloc (.cells #[.int .i64 0, .int .i64 1, .int .i64 2] 3) := ⟨_, rfl⟩
  obtain ⟨W3, hW3⟩ : ∃ W3, W3 = W2.alloc (.cells ((twoV B).flatMap nodVC).toArray 58) := ⟨_, rfl⟩
  have e3 : ((twoV B).flatMap nodVC).toArray = #[.int .i64 1, .int .i64 0, .int .i64 0, .slice none 0 0, .slice none 0 0, .int .i64 1, .int .i64 1, .int .i64 0, .slice none 0 0, .slice none 0 0, .int .i64 1, .int .i64 2, .int .i64 0, .slice none 0 0, .slice none 0 0, .int .i64 2, .int .i64 0, .int .i64 2, .slice none 0 0, .slice (some ⟨B, 0, none⟩) 3 3] := rfl
  rw [← e3, ← hW1, ← hW2, ← hW3]
  have s1 : W1.heap.size = w.heap.size + 1 := by rw [hW1]; simp
  have s2 : W2.heap.size = w.heap.size + 1 + 1 := by rw [hW2]; simp [s1]
  have b1 : Below w.heap.size w W1 := by rw [hW1]; exact (Below.refl _ w).alloc (Nat.le_refl _) _
  have b2 : Below W1.heap.size W1 W2 := by rw [hW2]; exact (Below.refl _ _).alloc (Nat.le_refl _) _
  have b3 : Below W2.heap.size W2 W3 := by rw [hW3]; exact (Below.refl _ _).alloc (Nat.le_refl _) _
  have rI : Rd W3 (some ⟨B, 0, none⟩) 3 3 ([0, 1, 2].map (Value.int .i64)) := by
    refine Rd.below ?_ b3
    rw [hW2]; exact Rd.lit' W1 _ _ 3 _ rfl rfl (by decide) (by rw [hB, s1])
  have rX : XM W3 (some ⟨B + 1, 0, none⟩) 4 4 twoX.nodes := by
    refine XM.of_rdK (V := twoV B) (by rw [hW3]; exact RdK.lit' 5 W2 _ _ 4 _ (by simp) rfl (by decide) (by rw [hB, s2])) rfl ?_
    intro i p nd hp hn
    have nl : ∃ a n c, Value.slice none 0 0 = .slice a n c ∧ Rd W3 a n c (([] : List Int).map (Value.int .i64)) := ⟨none, 0, 0, rfl, Rd.none_ _⟩
    match i, hp, hn with
    | 0, hp, hn => cases hp; cases hn; exact ⟨rfl, rfl, rfl, nl, nl⟩
    | 1, hp, hn => cases hp; cases hn; exact ⟨rfl, rfl, rfl, nl, nl⟩
    | 2, hp, hn => cases hp; cases hn; exact ⟨rfl, rfl, rfl, nl, nl⟩
    | 3, hp, hn => cases hp; cases hn; exact ⟨rfl, rfl, rfl, nl, ⟨_, _, _, rfl, rI⟩⟩
  have e1 : W3.heap[w.heap.size]? = some (.cells #[.slice (some ⟨B + 1, 0, none⟩) 4 4, .int .i64 3] 30 (0, 0)) := by
    refine heap_below b3 (heap_below b2 ?_)
    rw [hW1]; exact heap_alloc_new _ _
  have hbw := Below.next b1 (Below.next b2 b3)
  refine bodyPost_ret (v := .agg #[.slice (some ⟨B + 1, 0, none⟩) 4 4, .int .i64 3]) ?_ rfl ⟨_, _, rfl, rX, hbw⟩
  exact results_cell_row rfl _ _ _ _ _ _ _ rfl e1 Tryz.underlying30 rfl (by kernel_rfl)
end Go.Proofs.YtflpkkebampmfaaGreatDoor
