/- Texts laid together. The reference's grow of layer 20. slices.Clone of sets. slices.Clone of choices: a row of its own. A node of a row stored. Plain lemmas over the model. Layer 20: the law Spoiled, walked (printed by p20g.py). -/
import Derived.Test.YtflpkkebampmfaaDoorGIntersectSpoiled2
import Derived.Test.YtflpkkebampmfaaDoorGIntersectSpoiled3
import Derived.Test.YtflpkkebampmfaaDoorGIntersectSpoiled4
import Derived.Test.YtflpkkebampmfaaDoorGIntersectSpoiled6
import Derived.Test.YtflpkkebampmfaaDoorGIntersectSpoiled7
import Derived.Test.YtflpkkebampmfaaDoorGIntersectSpoiled8
import Derived.Test.YtflpkkebampmfaaDoorGIntersectSpoiled9
import Derived.Lib.SliceRun
import Derived.Deep.OwnRows
import Derived.Deep.CutRange
import Derived.Deep.DeepCutAuto
namespace Go.Proofs.YtflpkkebampmfaaDoor
open Go.RowKit Go.Shelf

/-- the members that are left from a number on -/
def lstG (b : BitVec 16) (k : Nat) : List Nat := (left12 b).filter fun i => decide (k ≤ i)
theorem lstG_mem {b : BitVec 16} {k i : Nat} : i ∈ lstG b k ↔ (i < 12 ∧ hasB b i = false) ∧ k ≤ i := by
  unfold lstG; rw [List.mem_filter, left12_mem]; simp
theorem lstG_sorted (b : BitVec 16) (k : Nat) : (lstG b k).Pairwise (· < ·) := (memS_sorted _).filter _
theorem lstG_zero (b : BitVec 16) : lstG b 0 = left12 b := by unfold lstG; rw [List.filter_eq_self]; intro i _; simp
theorem lstG_skip {b : BitVec 16} {k : Nat} (h : hasB b k = true) : lstG b k = lstG b (k + 1) :=
  ext_sorted (fun y => y) _ _ (lstG_sorted b k) (lstG_sorted b (k + 1)) fun p => by
    rw [lstG_mem, lstG_mem]
    constructor
    · rintro ⟨⟨h1, h2⟩, h3⟩
      exact ⟨⟨h1, h2⟩, by have : p ≠ k := fun e => by rw [e, h] at h2; cases h2
                          omega⟩
    · rintro ⟨h1, h3⟩; exact ⟨h1, by omega⟩
theorem lstG_take {b : BitVec 16} {k : Nat} (hk : k < 12) (h : hasB b k = false) : lstG b k = k :: lstG b (k + 1) :=
  ext_sorted (fun y => y) _ _ (lstG_sorted b k) (List.pairwise_cons.2 ⟨fun i hi => by have := (lstG_mem.1 hi).2; omega, lstG_sorted b (k + 1)⟩) fun p => by
    rw [List.mem_cons, lstG_mem, lstG_mem]
    constructor
    · rintro ⟨⟨h1, h2⟩, h3⟩
      by_cases hp : p = k
      · exact .inl hp
      · exact .inr ⟨⟨h1, h2⟩, by omega⟩
    · rintro (rfl | ⟨h1, h3⟩)
      · exact ⟨⟨hk, h⟩, Nat.le_refl _⟩
      · exact ⟨h1, by omega⟩
theorem lstG_end {b : BitVec 16} {k : Nat} (hk : 12 ≤ k) : lstG b k = [] := by
  apply List.eq_nil_iff_forall_not_mem.2
  intro i hi
  have := lstG_mem.1 hi
  omega

/-- what a growing row leaves as it was -/
structure KG (B : Nat) (v v' : Value) (w w' : World) : Prop where
  bel : Below B w w'
  blk : ∀ k, k < w.heap.size → v.ownBlock ≠ some k → w'.heap[k]? = w.heap[k]?
  own : ∀ g, v'.ownBlock = some g → v.ownBlock = some g ∨ w.heap.size ≤ g
theorem KG.refl (B : Nat) (v : Value) (w : World) : KG B v v w w := ⟨Below.refl _ _, fun _ _ _ => rfl, fun _ h => .inl h⟩
theorem KG.trans {B : Nat} {v v' v'' : Value} {w w' w'' : World} (h : KG B v v' w w') (k : KG B v' v'' w' w'') : KG B v v'' w w'' := by
  refine ⟨h.bel.trans k.bel, fun j hj hv => ?_, fun g hg => ?_⟩
  · rw [k.blk j (Nat.lt_of_lt_of_le hj h.bel.size) (fun e => ?_), h.blk j hj hv]
    rcases h.own j e with h1 | h1
    · exact hv h1
    · omega
  · rcases k.own g hg with h1 | h1
    · exact h.own g h1
    · exact .inr (Nat.le_trans h.bel.size h1)
theorem KG.of_below {B : Nat} (v : Value) {w w' : World} (hB : B ≤ w.heap.size) (h : Below w.heap.size w w') : KG B v v w w' := ⟨h.mono hB, fun k hk _ => h.block k hk, fun _ e => .inl e⟩
theorem KG.grow {B : Nat} {v v' : Value} {w w' : World} {n : Nat} {t : TypeId} {xs : List Value} (hB : B ≤ w.heap.size) (hr : w.ownsRow B t 3 v n xs) (hg : w.grownBy w' v.ownBlock) (ho : ∀ g, v'.ownBlock = some g → v.ownBlock = some g ∨ w.heap.size ≤ g) : KG B v v' w w' :=
  ⟨(Below.refl B w).grown hg hB (fun k hk => (hr.lt k hk).1), fun k hk hv => hg.block k hk (fun e => hv e.symm), ho⟩
theorem KG.drop {B : Nat} {v v' : Value} {w w' : World} (h : KG B v v' w w') : KG B v (.slice none 0 0) w w' := ⟨h.bel, h.blk, fun g hg => by cases hg⟩
theorem KG.store {B N : Nat} {v : Value} {w : World} (h : B ≤ N) (hw : N < w.heap.size) (j : Nat) (u : Value) : Below B w (w.setCell ⟨N, j, none⟩ u) := (Below.refl B w).setCell (p := ⟨N, j, none⟩) h u

structure KS (s B : Nat) (v v' : Value) (w w' : World) : Prop where
  bel : Below B w w'
  blk : ∀ k, k < s → v.ownBlock ≠ some k → w'.heap[k]? = w.heap[k]?
  own : ∀ g, v'.ownBlock = some g → v.ownBlock = some g ∨ s ≤ g
theorem KG.ks {s B : Nat} {v v' : Value} {w w' : World} (h : KG B v v' w w') (hs : s ≤ w.heap.size) : KS s B v v' w w' :=
  ⟨h.bel, fun k hk hv => h.blk k (by omega) hv, fun g hg => (h.own g hg).imp id (fun h1 => by omega)⟩
theorem KS.kg {B : Nat} {v v' : Value} {w w' : World} (h : KS w.heap.size B v v' w w') : KG B v v' w w' := ⟨h.bel, h.blk, h.own⟩
theorem KS.trans {s B : Nat} {v v' v'' : Value} {w w' w'' : World} (h : KS s B v v' w w') (k : KS s B v' v'' w' w'') : KS s B v v'' w w'' := by
  refine ⟨h.bel.trans k.bel, fun j hj hv => ?_, fun g hg => ?_⟩
  · rw [k.blk j hj (fun e => ?_), h.blk j hj hv]
    rcases h.own j e with h1 | h1
    · exact hv h1
    · omega
  · rcases k.own g hg with h1 | h1
    · exact h.own g h1
    · exact .inr h1
theorem KS.store {s B N : Nat} (v : Value) (w : World) (hs : s ≤ N) (hB : B ≤ N) (j : Nat) (u : Value) : KS s B v v w (w.setCell ⟨N, j, none⟩ u) :=
  ⟨(Below.refl B w).setCell (p := ⟨N, j, none⟩) hB u, fun k hk _ => Below.heap_setCell _ _ _ _ (by show k ≠ N; omega), fun _ e => .inl e⟩

/-- what a search leaves -/
def Grw (x y : Xpr) (l : List Nat) (p q : BitVec 16) (ns : List Cho) (B : Nat) (v : Value) (W : World) (e : Ending) (w' : World) : Prop :=
  (∃ T v', proveL x y l p q = some T ∧ e = .returned (.tuple #[v', .bool true]) ∧ w'.ownsRow B 39 3 v' (ns ++ T.bod ns.length).length ((ns ++ T.bod ns.length).flatMap choC) ∧ KG B v v' W w') ∨
  (proveL x y l p q = none ∧ e = .returned (.tuple #[.slice none 0 0, .bool false]) ∧ KG B v (.slice none 0 0) W w')

structure GrW (x y : Xpr) (w0 : World) (a1 : Option Addr) (n1 c1 : Nat) (a2 : Option Addr) (n2 c2 : Nat) : Prop where
  sx : ∀ (z : BitVec 16) (u : World), Below w0.heap.size w0 u → Calls Tryd.prog 67 #[.agg #[.slice a1 n1 c1, .int .i64 x.root], .int .u16 (U (4095#16 &&& ~~~z))] u fun e w' => e = .returned (.bool (holdX x (4095#16 &&& ~~~z))) ∧ Below u.heap.size u w'
  sy : ∀ (z : BitVec 16) (u : World), Below w0.heap.size w0 u → Calls Tryd.prog 67 #[.agg #[.slice a2 n2 c2, .int .i64 y.root], .int .u16 (U (4095#16 &&& ~~~z))] u fun e w' => e = .returned (.bool (holdX y (4095#16 &&& ~~~z))) ∧ Below u.heap.size u w'

set_option maxRecDepth 100000 in
set_option maxHeartbeats 8000000 in
theorem grow_step {x y : Xpr} {w0 : World} {a1 : Option Addr} {n1 c1 : Nat} {a2 : Option Addr} {n2 c2 : Nat} (b : BitVec 16) (C : GrW x y w0 a1 n1 c1 a2 n2 c2) (k : Nat) (hk12 : k ≤ 12)
    (ih : ∀ (k' : Nat) (p q : BitVec 16) (ns : List Cho) (v : Value) (W : World), k < k' → k' ≤ 12 → ns.length + 2 ^ ((lstG b k').length + 1) ≤ 100000 → Below w0.heap.size w0 W → W.ownsRow w0.heap.size 39 3 v ns.length (ns.flatMap choC) →
      Calls Tryd.prog 43 #[.agg #[.slice a1 n1 c1, .int .i64 x.root], .agg #[.slice a2 n2 c2, .int .i64 y.root], .int .u16 (U b), v, .int .i64 k', .int .u16 (U p), .int .u16 (U q)] W fun e w' => Grw x y (lstG b k') p q ns w0.heap.size v W e w')
    (p q : BitVec 16) (ns : List Cho) (v : Value) (W : World) (hsz : ns.length + 2 ^ ((lstG b k).length + 1) ≤ 100000) (hb : Below w0.heap.size w0 W) (hrow : W.ownsRow w0.heap.size 39 3 v ns.length (ns.flatMap choC)) :
    Calls Tryd.prog 43 #[.agg #[.slice a1 n1 c1, .int .i64 x.root], .agg #[.slice a2 n2 c2, .int .i64 y.root], .int .u16 (U b), v, .int .i64 k, .int .u16 (U p), .int .u16 (U q)] W fun e w' => Grw x y (lstG b k) p q ns w0.heap.size v W e w' := by
  obtain ⟨B, hB⟩ : ∃ B, w0.heap.size = B := ⟨_, rfl⟩
  have hBW : B ≤ W.heap.size := by rw [← hB]; exact hb.size
  obtain ⟨W2, hW2⟩ : ∃ W2, W2 = (W.alloc (.cells #[.slice a1 n1 c1, .int .i64 x.root] 24)).alloc (.cells #[.slice a2 n2 c2, .int .i64 y.root] 24) := ⟨_, rfl⟩
  obtain ⟨hb2, hc⟩ := args22 W _ _ _ _ _ _ hW2
  obtain ⟨⟨q0, q1⟩, q2, q3⟩ := hc W2 (Below.refl _ _)
  rw [hB] at hrow
  obtain ⟨av, cv, rfl, _⟩ := rdK_of_row hrow
  have HROW2 := Lib.hid (rowK_below hrow hb2)
  have HB02 := Lib.hid (Below.next hb hb2)
  have HC2 := Lib.hid hc
  have HBW := Lib.hid hBW
  have HSZ := Lib.hid hsz
  have HKB := Lib.hid (KG.of_below (.slice av ns.length cv) hBW hb2)
  have HIH := Lib.hid ih
  have hnl : ns.length ≤ 100000 := Nat.le_trans (Nat.le_add_right _ _) hsz
  have HS := Lib.hid (C.sx q W2 (Below.next hb hb2))
  have HS2 := Lib.hid (C.sy p)
  have HG0 : Hid (W2.heap[W.heap.size]? = some (.cells #[.slice a1 n1 c1, .int .i64 x.root] 24 (0, 0))) := Lib.hid (by rw [hW2]; exact heap_alloc_at (heap_alloc_new _ _) _)
  have HG1 : Hid (W2.heap[W.heap.size + 1]? = some (.cells #[.slice a2 n2 c2, .int .i64 y.root] 24 (0, 0))) := Lib.hid (by
    rw [hW2]
    have := heap_alloc_new (W.alloc (.cells #[.slice a1 n1 c1, .int .i64 x.root] 24)) (.cells #[.slice a2 n2 c2, .int .i64 y.root] 24)
    rwa [World.size_alloc] at this)
  have HOWN : Hid (∀ g, (Value.slice av ns.length cv).ownBlock = some g → g < W.heap.size) := Lib.hid (fun g hg => (hrow.lt g hg).2)
  have HW2S : Hid (W2.heap.size = W.heap.size + 2) := Lib.hid (by rw [hW2]; simp)
  clear hb hrow hb2 hc hBW hsz ih C
  cases hh : holdX x (4095#16 &&& ~~~q)
  · have HR := Lib.hid (proveL_x (y := y) (l := lstG b k) (a := p) hh)
    rw [hh] at HS
    clear hh
    go_enter Tryd.func43, Tryd.ntmps43
    go_wp2_with fail
    rw [← hW2]
    with_reducible refine HS.out.mono ?_
    rintro e w1 ⟨rfl, hb1⟩
    have hown := rowK_below HROW2.out hb1
    have hBw : B ≤ w1.heap.size := by have h1 := hb1.size; have h2 := HBW.out; have h3 := HW2S.out; omega
    have HK1 := Lib.hid (HKB.out.trans (KG.of_below (.slice av ns.length cv) (by have h2 := HBW.out; have h3 := HW2S.out; omega) hb1))
    go_wp2_with (at_builtin; go_must (refine wpList_appK2 3 _ _ 31 24 (.agg #[.int .i64 0, .int .i64 0, .int .i64 0]) (choC ⟨-1, 0, 0⟩) _ Tryd.underlying31 Tryd.infoCho rfl (by decide) hown (Below.refl B w1) hBw rfl rfl rfl rfl rfl (by intro u hu; unfold choC at hu; simp at hu; rcases hu with rfl | rfl | rfl <;> rfl) (by unfold maxLen; omega) (by omega) ?_))
    intro v' w4 hown4 hb4 hg4 hs4 hv4
    have HK4 := Lib.hid (HK1.out.trans (KG.grow hBw hown hg4 hv4))
    have HO4 := Lib.hid hown4
    clear hown4 hb4 hg4 hs4 hv4 hown hb1
    go_wp2_with fail
    go_ret2
    refine .inl ⟨.fx, v', HR.out, rfl, ?_, by rw [hB]; exact HK4.out⟩
    have hrow := HO4.out
    rw [hB]
    rw [show (ns ++ CT.bod .fx ns.length).length = ns.length + 1 by rw [List.length_append, CT.bod_len]; rfl, show (ns ++ CT.bod .fx ns.length).flatMap choC = ns.flatMap choC ++ choC ⟨-1, 0, 0⟩ by rw [List.flatMap_append]; rfl]
    exact hrow
  cases hh2 : holdX y (4095#16 &&& ~~~p)
  · have HR := Lib.hid (proveL_y (l := lstG b k) hh hh2)
    rw [hh] at HS
    rw [hh2] at HS2
    clear hh hh2
    go_enter Tryd.func43, Tryd.ntmps43
    go_wp2_with fail
    rw [← hW2]
    with_reducible refine HS.out.mono ?_
    rintro e w1 ⟨rfl, hb1⟩
    have HB1 := Lib.hid hb1
    obtain ⟨⟨q0, q1⟩, q2, q3⟩ := HC2.out w1 hb1
    clear hb1
    go_wp2_with fail
    with_reducible refine (HS2.out w1 (Below.next HB02.out HB1.out)).mono ?_
    rintro e w2 ⟨rfl, hb1'⟩
    have hb1 := Below.next HB1.out hb1'
    have hown := rowK_below HROW2.out hb1
    have hBw : B ≤ w2.heap.size := by have h1 := hb1.size; have h2 := HBW.out; have h3 := HW2S.out; omega
    have HK1 := Lib.hid (HKB.out.trans (KG.of_below (.slice av ns.length cv) (by have h2 := HBW.out; have h3 := HW2S.out; omega) hb1))
    go_wp2_with (at_builtin; go_must (refine wpList_appK2 3 _ _ 31 24 (.agg #[.int .i64 0, .int .i64 0, .int .i64 0]) (choC ⟨-2, 0, 0⟩) _ Tryd.underlying31 Tryd.infoCho rfl (by decide) hown (Below.refl B w2) hBw rfl rfl rfl rfl rfl (by intro u hu; unfold choC at hu; simp at hu; rcases hu with rfl | rfl | rfl <;> rfl) (by unfold maxLen; omega) (by omega) ?_))
    intro v' w4 hown4 hb4 hg4 hs4 hv4
    have HK4 := Lib.hid (HK1.out.trans (KG.grow hBw hown hg4 hv4))
    have HO4 := Lib.hid hown4
    clear hown4 hb4 hg4 hs4 hv4 hown hb1
    go_wp2_with fail
    go_ret2
    refine .inl ⟨.fy, v', HR.out, rfl, ?_, by rw [hB]; exact HK4.out⟩
    have hrow := HO4.out
    rw [hB]
    rw [show (ns ++ CT.bod .fy ns.length).length = ns.length + 1 by rw [List.length_append, CT.bod_len]; rfl, show (ns ++ CT.bod .fy ns.length).flatMap choC = ns.flatMap choC ++ choC ⟨-2, 0, 0⟩ by rw [List.flatMap_append]; rfl]
    exact hrow
  rw [hh] at HS
  rw [hh2] at HS2
  have HHX := Lib.hid hh
  have HHY := Lib.hid hh2
  clear hh hh2
  go_enter Tryd.func43, Tryd.ntmps43
  go_wp2_with fail
  rw [← hW2]
  with_reducible refine HS.out.mono ?_
  rintro e w1 ⟨rfl, hb1⟩
  have HB1 := Lib.hid hb1
  obtain ⟨⟨q0, q1⟩, q2, q3⟩ := HC2.out w1 hb1
  clear hb1
  go_wp2_with fail
  with_reducible refine (HS2.out w1 (Below.next HB02.out HB1.out)).mono ?_
  rintro e w3 ⟨rfl, hb1'⟩
  have hb3 := Below.next HB1.out hb1'
  have HB3 := Lib.hid hb3
  have HROW3 := Lib.hid (rowK_below HROW2.out hb3)
  have HK3 := Lib.hid (HKB.out.trans (KG.of_below (.slice av ns.length cv) (by have h2 := HBW.out; have h3 := HW2S.out; omega) hb3))
  have HB03 := Lib.hid (Below.next HB02.out hb3)
  have HQ3 := Lib.hid (show ∀ (v' : Value) (u : World), KG B (.slice av ns.length cv) v' w3 u → u.heap[W.heap.size]? = some (.cells #[.slice a1 n1 c1, .int .i64 x.root] 24 (0, 0)) ∧ u.heap[W.heap.size + 1]? = some (.cells #[.slice a2 n2 c2, .int .i64 y.root] 24 (0, 0)) from fun v' u hu => by
    have h1 := heap_below hb3 HG0.out
    have h2 := heap_below hb3 HG1.out
    exact ⟨(hu.blk _ (heap_some_lt h1) (fun e => by have := HOWN.out _ e; omega)).trans h1, (hu.blk _ (heap_some_lt h2) (fun e => by have := HOWN.out _ e; omega)).trans h2⟩)
  have HS3 : Hid (W.heap.size + 2 ≤ w3.heap.size) := Lib.hid (by rw [← HW2S.out]; exact hb3.size)
  clear hb1' hb3 HC2 HS HS2 q0 q1 q2 q3 hW2 HROW2 HB1
  go_wp2_with fail
  obtain ⟨W0, hW0⟩ : ∃ W0, W0 = w3 := ⟨_, rfl⟩
  rw [← hW0] at HB3 HROW3 HK3 HB03 HQ3 HS3
  go_loopw [4] (fun i wr => ∃ j : Nat, k ≤ j ∧ j ≤ 12 ∧ i = .int .i64 j ∧ Hid (lstG b j = lstG b k) ∧ wr = w3) (fun i _ => 12 - (intOf i).toNat)
  case atStart => exact ⟨k, Nat.le_refl _, hk12, rfl, Lib.hid rfl, rfl⟩
  case round =>
    obtain ⟨j, hkj, hj12, rfl, hls, rfl⟩ := hrel
    subst hW0
    by_cases hlt : j < 12
    · have hm16 : min j 16 = j := by omega
      have hjd : decide ((j : Int) < 12) = true := decide_eq_true (by omega)
      cases hbj : hasB b j
      · have hlj : lstG b k = j :: lstG b (j + 1) := by rw [← hls.out]; exact lstG_take hlt hbj
        have hpw : 2 ^ ((lstG b k).length + 1) = 2 * 2 ^ ((lstG b (j + 1)).length + 1) := by rw [hlj, List.length_cons, Nat.pow_succ]; omega
        have HLJ := Lib.hid hlj
        have HPW : Hid (ns.length + 2 * 2 ^ ((lstG b (j + 1)).length + 1) ≤ 100000) := Lib.hid (by have := HSZ.out; omega)
        have HI1 := Lib.hid (HIH.out (j + 1) (p ||| bitS j) q ns _ _ (by omega) (by omega) (by have := HPW.out; omega) HB03.out (by rw [hB]; exact HROW3.out))
        have hj1 : ((j + 1 : Nat) : Int) = (j : Int) + 1 := by omega
        rw [hj1] at HI1
        obtain ⟨hq0, hq1⟩ := HQ3.out _ _ (KG.refl _ _ _)
        obtain ⟨⟨q0, q1⟩, _⟩ := open2 hq0
        obtain ⟨⟨q2, q3⟩, _⟩ := open2 hq1
        clear hq0 hq1 hlj hpw hls
        go_wp2_with fail
        with_reducible refine HI1.out.mono ?_
        rintro e w5 (⟨T, v1, hT, rfl, hrow5, hk5⟩ | ⟨hT, rfl, hk5⟩)
        · obtain ⟨m5, hm5⟩ : ∃ m, (ns ++ T.bod ns.length).length = m := ⟨_, rfl⟩
          have hm5' : m5 = ns.length + T.sz := by rw [← hm5, List.length_append, T.bod_len]
          have hsz := proveL_sz _ _ _ T hT
          have hpos := T.sz_pos
          rw [hm5, hB] at hrow5
          rw [hB] at hk5
          obtain ⟨a5, c5, rfl, _⟩ := rdK_of_row hrow5
          have hmb : m5 ≤ 100000 := by have := HPW.out; omega
          have hm1 : 1 ≤ m5 := by omega
          have HM5 := Lib.hid hm5'
          have HMS := Lib.hid hsz
          obtain ⟨W6, hW6⟩ : ∃ W6, W6 = w5.alloc (.cells #[.int .i64 j, .int .i64 ((m5 : Int) - 1), .int .i64 0] 39) := ⟨_, rfl⟩
          have hb6 : Below w5.heap.size w5 W6 := by rw [hW6]; exact (Below.refl _ _).alloc (Nat.le_refl _) _
          have hs6 : W6.heap.size = w5.heap.size + 1 := by rw [hW6]; simp
          have g6 : W6.heap[w5.heap.size]? = some (.cells #[.int .i64 j, .int .i64 ((m5 : Int) - 1), .int .i64 0] 39 (0, 0)) := by rw [hW6]; exact heap_alloc_new _ _
          have hwm : wrap64 ((m5 : Int) - 1) = (m5 : Int) - 1 := by unfold wrap64; omega
          have hB5 : B ≤ w5.heap.size := Nat.le_trans HBW.out (Nat.le_trans (by have := HS3.out; omega) hk5.bel.size)
          have hk6 := hk5.trans (KG.of_below _ hB5 hb6)
          obtain ⟨hq0, hq1⟩ := HQ3.out _ _ hk6
          obtain ⟨⟨q0, q1⟩, _⟩ := open2 hq0
          obtain ⟨⟨q2, q3⟩, _⟩ := open2 hq1
          have HROW6 := Lib.hid (rowK_below hrow5 hb6)
          have HOW5 := Lib.hid (fun g hg => (hrow5.lt g hg).2)
          have HI2 := Lib.hid (HIH.out (j + 1) p (q ||| bitS j) (ns ++ T.bod ns.length) _ W6 (by omega) (by omega) (by rw [hm5]; have := HPW.out; omega) (by rw [hB]; exact (by rw [hB] at HB03; exact HB03.out.trans hk6.bel)) (by rw [hB, hm5]; exact HROW6.out))
          rw [hj1] at HI2
          have HK6 := Lib.hid hk6
          have HG6 := Lib.hid g6
          have HS6 := Lib.hid hs6
          have HTT := Lib.hid hT
          have HB5 := Lib.hid hB5
          rw [hW6] at q0 q1 q2 q3
          clear hT hm5' hsz hpos hk5 hrow5 hb6 hs6 g6 hB5 hk6 hq0 hq1 HI1
          go_wp2_with fail
          rw [← hW6]
          with_reducible refine HI2.out.mono ?_
          rintro e w7 (⟨R, v2, hR, rfl, hrow7, hk7⟩ | ⟨hR, rfl, hk7⟩)
          · obtain ⟨m7, hm7⟩ : ∃ m, ((ns ++ T.bod ns.length) ++ R.bod (ns ++ T.bod ns.length).length).length = m := ⟨_, rfl⟩
            have hm7' : m7 = m5 + R.sz := by rw [← hm7, List.length_append, R.bod_len, hm5]
            have hsz7 := proveL_sz _ _ _ R hR
            have hpos7 := R.sz_pos
            have HN7 : Hid (((ns ++ T.bod ns.length) ++ R.bod (ns ++ T.bod ns.length).length) ++ [⟨(j : Int), (m5 : Int) - 1, (m7 : Int) - 1⟩] = ns ++ (CT.nd j T R).bod ns.length) := Lib.hid (by
              have hpos := T.sz_pos
              have e5 := HM5.out
              rw [CT.bod, hm5, e5, hm7', e5, List.append_assoc, List.append_assoc, List.append_assoc]
              congr 3
              · rw [show ((ns.length + T.sz : Nat) : Int) - 1 = ((ns.length + T.sz - 1 : Nat) : Int) by omega, show ((ns.length + T.sz + R.sz : Nat) : Int) - 1 = ((ns.length + T.sz + R.sz - 1 : Nat) : Int) by omega])
            rw [hm7, hB] at hrow7
            rw [hB, ] at hk7
            obtain ⟨a7, c7, rfl, _⟩ := rdK_of_row hrow7
            have hmb7 : m7 ≤ 100000 := by have h1 := HPW.out; have h2 := HM5.out; have h3 := HMS.out; omega
            have hm71 : 1 ≤ m7 := by omega
            have hwm7 : wrap64 ((m7 : Int) - 1) = (m7 : Int) - 1 := by unfold wrap64; omega
            have hN : w5.heap.size < W6.heap.size := by have := HS6.out; omega
            have hg7 : w7.heap[w5.heap.size]? = some (.cells #[.int .i64 j, .int .i64 ((m5 : Int) - 1), .int .i64 0] 39 (0, 0)) := (hk7.blk _ hN (fun e => by have := HOW5.out _ e; omega)).trans HG6.out
            obtain ⟨⟨x0, x1, x2⟩, y0, y1, y2⟩ := open3 hg7
            have hne7 : ∀ g, (Value.slice a7 m7 c7).ownBlock = some g → g ≠ w5.heap.size := fun g hg => by
              rcases hk7.own g hg with h1 | h1
              · have := HOW5.out _ h1; omega
              · omega
            have hset : (w7.setCell ⟨w5.heap.size, 2, none⟩ (.int .i64 ((m7 : Int) - 1))).heap[w5.heap.size]? = some (.cells #[.int .i64 j, .int .i64 ((m5 : Int) - 1), .int .i64 ((m7 : Int) - 1)] 39 (0, 0)) := by rw [heap_set_at hg7]; rfl
            obtain ⟨W8, hW8⟩ : ∃ W8, W8 = w7.setCell ⟨w5.heap.size, 2, none⟩ (.int .i64 ((m7 : Int) - 1)) := ⟨_, rfl⟩
            rw [← hW8] at hset
            have hrow8 : W8.ownsRow B 39 3 (.slice a7 m7 c7) m7 _ := rowK_at hrow7 (fun g hg => by rw [hW8]; exact Below.heap_setCell _ _ _ _ (hne7 g hg))
            obtain ⟨⟨t0, t1, t2⟩, _⟩ := open3 hset
            have hs8 : W8.heap.size = w7.heap.size := by rw [hW8]; simp [World.setCell]
            have hB8 : B ≤ W8.heap.size := by rw [hs8]; exact Nat.le_trans HB5.out (Nat.le_trans (Nat.le_of_lt hN) hk7.bel.size)
            have HKS : Hid (KS W.heap.size B (.slice av ns.length cv) (.slice a7 m7 c7) W W8) := Lib.hid (by
              rw [hW8]
              have h3 := HS3.out
              have h56 : W.heap.size ≤ w5.heap.size := by have := HK6.out.bel.size; have := HS6.out; omega
              exact (((HK3.out.trans HK6.out).trans hk7).ks (Nat.le_refl _)).trans (KS.store _ _ h56 HB5.out 2 _))
            have HRR := Lib.hid hR
            have HS8 := Lib.hid hs8
            rw [hW8] at t0 t1 t2
            clear hR hk7 q0 q1 q2 q3 hm7' hsz7 hpos7 hrow7 hN hg7 hset hne7 hs8
            go_wp2_with (at_builtin; rw [← hW8, ← HS8.out]; go_must (refine wpList_appK2 3 _ _ 31 24 (.agg #[.int .i64 0, .int .i64 0, .int .i64 0]) (choC ⟨(j : Int), (m5 : Int) - 1, (m7 : Int) - 1⟩) _ Tryd.underlying31 Tryd.infoCho rfl (by decide) hrow8 (Below.refl B W8) hB8 rfl rfl rfl rfl rfl (by intro u hu; unfold choC at hu; simp at hu; rcases hu with rfl | rfl | rfl <;> rfl) (by unfold maxLen; omega) (by omega) ?_))
            intro v' w9 hown9 hb9 hg9 hs9 hv9
            try rw [← hW8] at hg9
            try rw [← HS8.out] at hv9
            try rw [← hW8] at hv9
            have HK9 := Lib.hid (HKS.out.trans ((KG.grow hB8 hrow8 hg9 hv9).ks (by have := HKS.out.bel.size; omega)))
            have HO9 := Lib.hid hown9
            clear hown9 hb9 hg9 hs9 hv9 hrow8
            go_wp2_with fail
            go_ret2
            refine .inl ⟨.nd j T R, v', by rw [HLJ.out]; exact proveL_s HHX.out HHY.out HTT.out HRR.out, rfl, ?_, by rw [hB]; exact HK9.out.kg⟩
            have h9 := HO9.out
            rw [← HN7.out, hB, List.length_append, hm7]
            simp only [List.flatMap_append, List.flatMap_cons, List.flatMap_nil, List.append_nil, List.append_assoc, hm5] at h9 ⊢
            exact h9
          · have HK7 := Lib.hid ((HK3.out.trans HK6.out).trans (by rw [hB] at hk7; exact hk7))
            have HRR := Lib.hid hR
            clear hR hk7 q0 q1 q2 q3
            go_wp2_with fail
            go_ret2
            exact .inr ⟨by rw [HLJ.out]; exact proveL_n2 HHX.out HHY.out HTT.out HRR.out, rfl, by rw [hB]; exact HK7.out⟩
        · have HK5 := Lib.hid (HK3.out.trans (by rw [hB] at hk5; exact hk5))
          have HTT := Lib.hid hT
          clear hT hk5
          go_wp2_with fail
          go_ret2
          exact .inr ⟨by rw [HLJ.out]; exact proveL_n1 HHX.out HHY.out HTT.out, rfl, by rw [hB]; exact HK5.out⟩
      · go_wp2_with fail
        go_roundw
        case rel => exact ⟨j + 1, by omega, by omega, by go_num, Lib.hid (by rw [← lstG_skip hbj]; exact hls.out), trivial⟩
        case measure => simp [intOf]; omega
    · obtain rfl : j = 12 := by omega
      have HR := Lib.hid (proveL_end (x := x) (y := y) (a := p) (b := q) HHX.out HHY.out)
      have hle : lstG b k = [] := by rw [← hls.out]; exact lstG_end (Nat.le_refl _)
      have HLE := Lib.hid hle
      have hjd : decide (((12 : Nat) : Int) < 12) = false := by decide
      clear hle
      go_wp2_with fail
      go_ret2
      exact .inr ⟨by rw [HLE.out]; exact HR.out, rfl, by rw [hB]; exact HK3.out.drop⟩

theorem grow_p {x y : Xpr} {w0 : World} {a1 : Option Addr} {n1 c1 : Nat} {a2 : Option Addr} {n2 c2 : Nat} (b : BitVec 16) (C : GrW x y w0 a1 n1 c1 a2 n2 c2) :
    ∀ (f k : Nat) (p q : BitVec 16) (ns : List Cho) (v : Value) (W : World), 12 ≤ k + f → k ≤ 12 → ns.length + 2 ^ ((lstG b k).length + 1) ≤ 100000 → Below w0.heap.size w0 W → W.ownsRow w0.heap.size 39 3 v ns.length (ns.flatMap choC) →
    Calls Tryd.prog 43 #[.agg #[.slice a1 n1 c1, .int .i64 x.root], .agg #[.slice a2 n2 c2, .int .i64 y.root], .int .u16 (U b), v, .int .i64 k, .int .u16 (U p), .int .u16 (U q)] W fun e w' => Grw x y (lstG b k) p q ns w0.heap.size v W e w' := by
  intro f
  induction f with
  | zero => intro k p q ns v W hf hk; exact grow_step b C k hk (fun k' _ _ _ _ _ h1 h2 => by omega) p q ns v W
  | succ f ih => intro k p q ns v W hf hk; exact grow_step b C k hk (fun k' p q ns v W h1 h2 => ih k' p q ns v W (by omega) h2) p q ns v W

set_option maxRecDepth 100000 in
set_option maxHeartbeats 4000000 in
theorem rprove_c (x y : Xpr) (b : BitVec 16) (hx : xprE x = 0) (hy : xprE y = 0) (hfx : XprFew x) (hfy : XprFew y) (hsx : XprSum x) (hsy : XprSum y) (a1 : Option Addr) (n1 c1 : Nat) (a2 : Option Addr) (n2 c2 : Nat) (w : World) (h1 : XM w a1 n1 c1 x.nodes) (h2 : XM w a2 n2 c2 y.nodes) :
    Calls Tryd.prog 19 #[.agg #[.slice a1 n1 c1, .int .i64 x.root], .agg #[.slice a2 n2 c2, .int .i64 y.root], .int .u16 (U b)] w fun e w' => ∃ a c, e = .returned (.tuple #[treV a (prvS x y (left12 b)).1.nodes.length c (prvS x y (left12 b)).1.root, .int .i64 (prvS x y (left12 b)).2]) ∧ TM w' a (prvS x y (left12 b)).1.nodes.length c (prvS x y (left12 b)).1.nodes ∧ Below w.heap.size w w' := by
  have H1 := Lib.hid (fun (u : World) (hb : Below w.heap.size w u) => rvalid10_c x hsx a1 n1 c1 u (h1.below hb))
  have H2 := Lib.hid (fun (u : World) (hb : Below w.heap.size w u) => rvalid10_c y hsy a2 n2 c2 u (h2.below hb))
  rw [hx] at H1
  rw [hy] at H2
  have HP := Lib.hid (fun (u : World) (hb : Below w.heap.size w u) (hs : ([] : List Cho).length + 2 ^ ((lstG b 0).length + 1) ≤ 100000) => grow_p b (w0 := w)
    { sx := fun z v hv => rholds_c x (xprE_ok hx) hfx (4095#16 &&& ~~~z) a1 n1 c1 v (h1.below hv)
      sy := fun z v hv => rholds_c y (xprE_ok hy) hfy (4095#16 &&& ~~~z) a2 n2 c2 v (h2.below hv) } 12 0 0#16 0#16 [] (.slice none 0 0) u (by omega) (by omega) hs hb (World.ownsRow_nil _ _ _ _))
  have hs0 : ([] : List Cho).length + 2 ^ ((lstG b 0).length + 1) ≤ 100000 := by
    rw [lstG_zero]
    have h1 := left12_le b
    have h2 : 2 ^ ((left12 b).length + 1) ≤ 2 ^ 13 := Nat.pow_le_pow_right (by decide) (by omega)
    have h3 : ([] : List Cho).length = 0 := rfl
    omega
  rw [U_zero, show ((0 : Nat) : Int) = 0 from rfl] at HP
  obtain ⟨Rr, hR⟩ : ∃ R, prvS x y (left12 b) = R := ⟨_, rfl⟩
  rw [hR]
  have HR := Lib.hid hR
  have HS0 := Lib.hid hs0
  clear h1 h2 hx hy hfx hfy hsx hsy hR hs0
  obtain ⟨W2, hW2⟩ : ∃ W2, W2 = (w.alloc (.cells #[.slice a1 n1 c1, .int .i64 x.root] 24)).alloc (.cells #[.slice a2 n2 c2, .int .i64 y.root] 24) := ⟨_, rfl⟩
  obtain ⟨hb2, hc⟩ := args22 w _ _ _ _ _ _ hW2
  have hs2 : W2.heap.size = w.heap.size + 2 := by rw [hW2]; simp
  obtain ⟨W3, hW3⟩ : ∃ W3, W3 = W2.alloc (.cells #[.slice none 0 0, .int .i64 0] 33) := ⟨_, rfl⟩
  have hb3 : Below W2.heap.size W2 W3 := by rw [hW3]; exact (Below.refl _ _).alloc (Nat.le_refl _) _
  have g3 : W3.heap[w.heap.size + 2]? = some (.cells #[.slice none 0 0, .int .i64 0] 33 (0, 0)) := by rw [hW3, ← hs2]; exact heap_alloc_new _ _
  have HB3 := Lib.hid (Below.next hb2 hb3)
  have G3 := Lib.hid g3
  have HC := Lib.hid (fun (y : World) (hy : Below W3.heap.size W3 y) => hc y (Below.next hb3 hy))
  have HS3 : Hid (W3.heap.size = w.heap.size + 3) := Lib.hid (by rw [hW3, World.size_alloc, hs2])
  obtain ⟨⟨q0, q1⟩, q2, q3⟩ := hc W3 hb3
  clear hb2 hc hs2 hb3 g3
  go_enter Tryd.func19, Tryd.ntmps19
  go_wp2_with fail
  rw [← hW2, ← hW3]
  with_reducible refine (H1.out W3 HB3.out).mono ?_
  rintro e w1 ⟨rfl, hb1⟩
  obtain ⟨⟨t0, t1⟩, t2, t3⟩ := HC.out w1 hb1
  have HB1 := Lib.hid hb1
  clear hW2 hW3 q0 q1 q2 q3 hb1
  go_wp2_with fail
  with_reducible refine (H2.out w1 (Below.next HB3.out HB1.out)).mono ?_
  rintro e w4 ⟨rfl, hb4⟩
  have hb14 := Below.next HB1.out hb4
  obtain ⟨⟨k0, k1⟩, k2, k3⟩ := HC.out w4 hb14
  have HB4 := Lib.hid hb14
  have HG4 := Lib.hid (HP.out w4 (Below.next HB3.out hb14) HS0.out)
  clear hb14 hb4 t0 t1 t2 t3
  go_wp2_with fail
  with_reducible refine HG4.out.mono ?_
  rintro e w6 (⟨T, v6, hT, rfl, hrow6, hk6⟩ | ⟨hT, rfl, hk6⟩)
  · have hpr : prvS x y (left12 b) = (T.tre, 0) := by unfold prvS; rw [lstG_zero] at hT; rw [hT]
    rw [List.length_nil, List.nil_append] at hrow6
    have hln : (T.bod 0).length = T.sz := T.bod_len 0
    have hpos := T.sz_pos
    obtain ⟨a6, c6, rfl, hr6⟩ := rdK_of_row hrow6
    have hsz6 := proveL_sz _ _ _ T hT
    have hsmall : T.sz ≤ 100000 := by
      have h1 := HS0.out
      have h3 : ([] : List Cho).length = 0 := rfl
      omega
    rw [hln] at hr6 hrow6
    rw [hln]
    have HPV : Hid (Rr = (T.tre, 0)) := HR.out.symm.trans hpr
    have hg6 : w6.heap[w.heap.size + 2]? = some (.cells #[.slice none 0 0, .int .i64 0] 33 (0, 0)) := by
      have h4 := heap_below HB4.out G3.out
      exact (hk6.blk _ (heap_some_lt h4) (fun e => by cases e)).trans h4
    obtain ⟨⟨t0, t1⟩, z0, z1⟩ := open2 hg6
    have hwt : wrap64 ((T.sz : Int) - 1) = ((T.sz : Int) - 1) := by unfold wrap64; omega
    have HR6 := Lib.hid hr6
    have HK6 := Lib.hid hk6
    have HG6 := Lib.hid hg6
    have HO6 := Lib.hid hrow6
    have HPOS := Lib.hid hpos
    have HLN := Lib.hid hln
    clear hr6 hk6 hg6 hrow6 hT hpr hpos hsz6 k0 k1 k2 k3 hln
    go_wp2_with fail
    clear t0 t1 z0 z1
    generalize hWF : (w6.setCell _ _).setCell _ _ = WF
    have e1 : WF.heap[w.heap.size + 2]? = some (.cells #[.slice a6 T.sz c6, .int .i64 ((T.sz : Int) - 1)] 33 (0, 0)) := by
      rw [← hWF]; exact heap_set_at (heap_set_at HG6.out 0 _) 1 _
    have HBF : Hid (Below w.heap.size w WF) := Lib.hid (by
      rw [← hWF]
      exact (((Below.next HB3.out HB4.out).trans HK6.out.bel).setCell (p := ⟨w.heap.size + 2, 0, none⟩) (by show w.heap.size ≤ w.heap.size + 2; omega) _).setCell (p := ⟨w.heap.size + 2, 1, none⟩) (by show w.heap.size ≤ w.heap.size + 2; omega) _)
    have hrow : WF.ownsRow w.heap.size 39 3 (.slice a6 T.sz c6) T.sz ((T.bod 0).flatMap choC) := by
      rw [← hWF]
      refine rowK_at HO6.out fun g hg => ?_
      have hne : g ≠ w.heap.size + 2 := by
        rcases HK6.out.own g (by rw [HLN.out]; exact hg) with h1 | h1
        · cases h1
        · have := HB4.out.size; have := HS3.out; omega
      rw [Below.heap_setCell _ _ _ _ (by show g ≠ w.heap.size + 2; exact hne), Below.heap_setCell _ _ _ _ (by show g ≠ w.heap.size + 2; exact hne)]
    obtain ⟨a', c', hv, hr'⟩ := rdK_of_row hrow
    cases hv
    have f0 := cell_of_row _ _ 0 _ _ _ e1
    have f1 := cell_of_row _ _ 1 _ _ _ e1
    have hR2 := HPV.out
    have hzz : ((T.sz : Int) - 1) = ((T.sz - 1 : Nat) : Int) := by have := HPOS.out; omega
    have HZZ := Lib.hid hzz
    clear hWF e1 hrow hzz hwt
    subst hR2
    refine bodyPost_ret (v := .tuple #[.agg #[.slice a6 T.sz c6, .int .i64 ((T.sz : Int) - 1)], .int .i64 0]) ?_ rfl ⟨a6, c6, by rw [HZZ.out]; show _ = Ending.returned (.tuple #[.agg #[.slice a6 (T.bod 0).length c6, .int .i64 ((T.sz - 1 : Nat) : Int)], .int .i64 0]); rw [HLN.out], by show TM WF a6 (T.bod 0).length c6 (T.bod 0); rw [HLN.out]; exact hr', HBF.out⟩
    rw [results_cell_tmp rfl]
    go_simp
  · have hpr : prvS x y (left12 b) = (⟨[], 0⟩, 12) := by unfold prvS; rw [lstG_zero] at hT; rw [hT]
    have HPV : Hid (Rr = (⟨[], 0⟩, 12)) := HR.out.symm.trans hpr
    have hg6 : w6.heap[w.heap.size + 2]? = some (.cells #[.slice none 0 0, .int .i64 0] 33 (0, 0)) := by
      have h4 := heap_below HB4.out G3.out
      exact (hk6.blk _ (heap_some_lt h4) (fun e => by cases e)).trans h4
    obtain ⟨⟨t0, t1⟩, z0, z1⟩ := open2 hg6
    have HK6 := Lib.hid hk6
    have HG6 := Lib.hid hg6
    clear hk6 hg6 hT hpr k0 k1 k2 k3
    go_wp2_with fail
    clear t0 t1 z0 z1
    generalize hWF : (w6.setCell _ _).setCell _ _ = WF
    have e1 : WF.heap[w.heap.size + 2]? = some (.cells #[.slice none 0 0, .int .i64 0] 33 (0, 0)) := by
      rw [← hWF]; exact heap_set_at (heap_set_at HG6.out 0 _) 1 _
    have HBF : Hid (Below w.heap.size w WF) := Lib.hid (by
      rw [← hWF]
      exact (((Below.next HB3.out HB4.out).trans HK6.out.bel).setCell (p := ⟨w.heap.size + 2, 0, none⟩) (by show w.heap.size ≤ w.heap.size + 2; omega) _).setCell (p := ⟨w.heap.size + 2, 1, none⟩) (by show w.heap.size ≤ w.heap.size + 2; omega) _)
    have f0 := cell_of_row _ _ 0 _ _ _ e1
    have f1 := cell_of_row _ _ 1 _ _ _ e1
    have hR2 := HPV.out
    clear hWF e1
    subst hR2
    refine bodyPost_ret (v := .tuple #[.agg #[.slice none 0 0, .int .i64 0], .int .i64 12]) ?_ rfl ⟨none, 0, rfl, RdK.none_ 3 _, HBF.out⟩
    rw [results_cell_tmp rfl]
    go_simp
end Go.Proofs.YtflpkkebampmfaaDoor
namespace Go.Proofs.YtflpkkebampmfaaDoor
open Go.RowKit Go.Shelf

theorem Tryd.infoSet2 : (Tryd.prog.info? 26).map (fun i => (i.zero, i.size, i.bytes)) = some (some (.int .u16 0), 1, 2) := by kernel_rfl
set_option maxRecDepth 100000 in
set_option maxHeartbeats 1000000 in
theorem clones_c (l : List (BitVec 16)) (a : Option Addr) (n c : Nat) (w : World) (h : Rd w a n c (l.map setV2)) (hb : n ≤ 1000000) :
    Calls Tryd.prog 25 #[.slice a n c] w fun e w' => ∃ a' c', e = .returned (.slice a' n c') ∧ Rd w' a' n c' (l.map setV2) ∧ Below w.heap.size w w' := by
  have hlen : (l.map setV2).length = n := h.len.symm
  cases a with
  | none =>
    have hc := h.nil rfl
    have hn : n = 0 := by have := h.le; omega
    subst hc hn
    have hl : l = [] := by simpa using hlen
    subst hl
    clear h hlen hb
    have q : ∀ (w : World) (a : Option Addr) (n c n' c' : Nat), (binOp .eql 52 (.slice a n c) (.slice none n' c')).run Tryd.prog w = .ok (.bool a.isNone) w := fun w a n c n' c' => Lib.run_eql_slice_nil w _ _ a n c n' c' Tryd.underlying52
    go_enter Tryd.func25, Tryd.ntmps25
    go_wp2
    go_ret
    exact ⟨_, _, rfl, Rd.none_ _, Below.refl _ _⟩
  | some ad =>
    have hh := Lib.hid h
    have hl2 := Lib.hid hlen
    clear h hlen
    have q : ∀ (w : World) (a : Option Addr) (n c n' c' : Nat), (binOp .eql 52 (.slice a n c) (.slice none n' c')).run Tryd.prog w = .ok (.bool a.isNone) w := fun w a n c n' c' => Lib.run_eql_slice_nil w _ _ a n c n' c' Tryd.underlying52
    go_enter Tryd.func25, Tryd.ntmps25
    go_wp2_with (at_builtin; go_must (refine wpList_apps _ _ 52 2 (.int .u16 0) _ _ _ (l.map setV2) Tryd.underlying52 Tryd.infoSet2 rfl (World.ownsRow_made w #[] 0 (Nat.le_refl _) (Nat.zero_le _) rfl) ((Below.refl _ w).alloc (Nat.le_refl _) _) (Nat.le_refl _) (hh.out.below ((Below.refl _ w).alloc (Nat.le_refl _) _)) (by intro u hu; obtain ⟨_, _, rfl⟩ := List.mem_map.1 hu; rfl) rfl rfl rfl rfl (by unfold maxLen; simp; omega) (by simp; omega) ?_))
    intro v' w1 hown1 hb1 _
    have hown2 : w1.ownsRow w.heap.size 26 1 v' n (l.map setV2) := by simpa using hown1
    obtain ⟨a', c', rfl, hr⟩ := rd_of_row hown2
    have HRR := Lib.hid hr
    clear hb hown1 hown2 hr
    go_wp2
    go_ret
    exact ⟨_, _, rfl, HRR.out, hb1⟩
end Go.Proofs.YtflpkkebampmfaaDoor
namespace Go.Proofs.YtflpkkebampmfaaDoor
open Go.RowKit Go.Shelf

theorem cho_one (l : List Cho) : ∀ u ∈ l.flatMap choC, u.oneCell' = true := by
  intro u hu
  obtain ⟨r, _, hu⟩ := List.mem_flatMap.1 hu
  simp only [choC, List.mem_cons, List.not_mem_nil, or_false] at hu
  rcases hu with rfl | rfl | rfl <;> rfl

set_option maxRecDepth 100000 in
set_option maxHeartbeats 1000000 in
theorem clonec_c (l : List Cho) (a : Option Addr) (n c : Nat) (w : World) (h : RdK 3 w a n c (l.flatMap choC)) (hb : n ≤ 1000000) :
    Calls Tryd.prog 20 #[.slice a n c] w fun e w' => ∃ v, e = .returned v ∧ w'.ownsRow w.heap.size 39 3 v n (l.flatMap choC) ∧ Below w.heap.size w w' := by
  cases a with
  | none =>
    have hc := h.nil rfl
    have hn : n = 0 := by have := h.le; omega
    subst hc hn
    have hl : l.flatMap choC = [] := List.eq_nil_of_length_eq_zero (by rw [← h.len])
    rw [hl]
    clear h hb hl
    have q : ∀ (w : World) (a : Option Addr) (n c n' c' : Nat), (binOp .eql 31 (.slice a n c) (.slice none n' c')).run Tryd.prog w = .ok (.bool a.isNone) w := fun w a n c n' c' => Lib.run_eql_slice_nil w _ _ a n c n' c' Tryd.underlying31
    go_enter Tryd.func20, Tryd.ntmps20
    go_wp2
    go_ret
    exact ⟨_, rfl, World.ownsRow_nil _ _ _ _, Below.refl _ _⟩
  | some ad =>
    have hh := Lib.hid h
    clear h
    have q : ∀ (w : World) (a : Option Addr) (n c n' c' : Nat), (binOp .eql 31 (.slice a n c) (.slice none n' c')).run Tryd.prog w = .ok (.bool a.isNone) w := fun w a n c n' c' => Lib.run_eql_slice_nil w _ _ a n c n' c' Tryd.underlying31
    go_enter Tryd.func20, Tryd.ntmps20
    go_wp2_with (at_builtin; go_must (refine wpList_appsK 3 _ _ 31 24 (.agg #[.int .i64 0, .int .i64 0, .int .i64 0]) _ _ _ (l.flatMap choC) Tryd.underlying31 Tryd.infoCho rfl (by decide) (World.ownsRow_made w #[] 0 (Nat.le_refl _) (Nat.zero_le _) rfl) ((Below.refl _ w).alloc (Nat.le_refl _) _) (Nat.le_refl _) (hh.out.below ((Below.refl _ w).alloc (Nat.le_refl _) _)) (cho_one l) rfl rfl rfl rfl (by unfold maxLen; simp; omega) (by simp; omega) ?_))
    intro v' w1 hown1 hb1 _
    have hown2 : w1.ownsRow w.heap.size 39 3 v' n (l.flatMap choC) := by simpa using hown1
    have HOWN2 := Lib.hid hown2
    clear hb hown1 hown2
    go_wp2
    go_ret
    exact ⟨_, rfl, HOWN2.out, hb1⟩
end Go.Proofs.YtflpkkebampmfaaDoor
namespace Go.Proofs.YtflpkkebampmfaaDoor
open Go.RowKit

theorem row_store3 {w : World} {B n c k : Nat} {t : TypeId} {a : Option Addr} {nodes : List Cho} (h : w.ownsRow B t 3 (.slice a n c) n (nodes.flatMap choC)) (hk : k < n) (q : Cho) :
    ∃ g, a = some ⟨g, 0, none⟩ ∧ (Value.slice a n c).ownBlock = some g ∧ B ≤ g ∧ g < w.heap.size ∧ (∃ u0 u1 u2, w.cell? ⟨g, k * 3, none⟩ = some u0 ∧ w.cell? ⟨g, k * 3 + 1, none⟩ = some u1 ∧ w.cell? ⟨g, k * 3 + 2, none⟩ = some u2) ∧
      (w.frozen? ⟨g, k * 3, none⟩ = false ∧ w.frozen? ⟨g, k * 3 + 1, none⟩ = false ∧ w.frozen? ⟨g, k * 3 + 2, none⟩ = false) ∧
      ∀ w' : World, w' = ((w.setCell ⟨g, k * 3, none⟩ (.int .i64 q.server)).setCell ⟨g, k * 3 + 1, none⟩ (.int .i64 q.first)).setCell ⟨g, k * 3 + 2, none⟩ (.int .i64 q.second) → TM w' (some ⟨g, 0, none⟩) n c (nodes.set k q) := by
  obtain ⟨a', c', e, hr⟩ := rdK_of_row h
  cases e
  have hln : nodes.length = n := TM.len hr
  obtain ⟨b, o, ha, hcell⟩ := TM.at3 hr (by omega)
  rcases h.2 with ⟨e, _⟩ | ⟨g, cap, cur, hv, hbg, hg, hle, hm, hs, ht⟩
  · cases e; cases ha
  cases hv
  obtain ⟨hgb, hgo⟩ : b = g ∧ o = 0 := by cases ha; exact ⟨rfl, rfl⟩
  rw [hgb, hgo] at hcell
  obtain ⟨nd, hnd⟩ : ∃ nd, nodes[k]? = some nd := ⟨_, List.getElem?_eq_getElem (by omega)⟩
  obtain ⟨c0, c1, c2⟩ := hcell k nd hnd
  rw [Nat.zero_add] at c0 c1 c2
  refine ⟨g, rfl, rfl, hbg, heap_some_lt hg, ⟨_, _, _, c0, c1, c2⟩, ⟨frozen_row hg _, frozen_row hg _, frozen_row hg _⟩, fun w' hw' => ?_⟩
  have hk3 : k * 3 + 2 < cur.size := by rw [hs]; omega
  have g' : w'.heap[g]? = some (.cells (((cur.setIfInBounds (k * 3) (.int .i64 q.server)).setIfInBounds (k * 3 + 1) (.int .i64 q.first)).setIfInBounds (k * 3 + 2) (.int .i64 q.second)) t (0, 0)) := by
    rw [hw']; exact heap_set_at (heap_set_at (heap_set_at hg _ _) _ _) _ _
  refine ⟨by rw [flat_len 3 choC choC_len, List.length_set, hln], hr.le, hr.max, fun h => (by cases h), fun _ => ⟨g, 0, rfl, fun i v hv => ?_⟩⟩
  rw [Nat.zero_add]
  have hi := (List.getElem?_eq_some_iff.1 hv).1
  rw [flat_len 3 choC choC_len, List.length_set, hln] at hi
  have hq : i / 3 < n := by omega
  have hmod : i % 3 < 3 := by omega
  have e3 : i / 3 * 3 + i % 3 = i := by omega
  rw [cell_of_row _ _ i _ _ _ g']
  by_cases hm : i / 3 = k
  · have h1 : (nodes.set k q)[i / 3]? = some q := by rw [hm, List.getElem?_set_self (by omega)]
    have h2 := flat_at 3 choC choC_len (nodes.set k q) (i / 3) (i % 3) q h1 hmod
    rw [e3, hv] at h2
    have hcase : i % 3 = 0 ∨ i % 3 = 1 ∨ i % 3 = 2 := by omega
    rcases hcase with h0 | h0 | h0
    · rw [h0] at h2
      have : i = k * 3 := by omega
      subst this
      rw [Array.getElem?_setIfInBounds_ne (by omega), Array.getElem?_setIfInBounds_ne (by omega), Array.getElem?_setIfInBounds_self_of_lt (by omega)]
      exact h2.symm
    · rw [h0] at h2
      have : i = k * 3 + 1 := by omega
      subst this
      rw [Array.getElem?_setIfInBounds_ne (by omega), Array.getElem?_setIfInBounds_self_of_lt (by simp; omega)]
      exact h2.symm
    · rw [h0] at h2
      have : i = k * 3 + 2 := by omega
      subst this
      rw [Array.getElem?_setIfInBounds_self_of_lt (by simp; omega)]
      exact h2.symm
  · obtain ⟨nd', hnd'⟩ : ∃ nd, nodes[i / 3]? = some nd := ⟨_, List.getElem?_eq_getElem (by omega)⟩
    have h1 : (nodes.set k q)[i / 3]? = some nd' := by rw [List.getElem?_set_ne (by omega)]; exact hnd'
    have h2 := flat_at 3 choC choC_len (nodes.set k q) (i / 3) (i % 3) nd' h1 hmod
    have h3 := flat_at 3 choC choC_len nodes (i / 3) (i % 3) nd' hnd' hmod
    rw [e3] at h2 h3
    rw [hv] at h2
    rw [Array.getElem?_setIfInBounds_ne (by omega), Array.getElem?_setIfInBounds_ne (by omega), Array.getElem?_setIfInBounds_ne (by omega)]
    obtain ⟨b', o', ha', hc'⟩ := hr.at' (by omega)
    cases ha'
    have := hc' i v (h3.trans h2.symm)
    rw [Nat.zero_add, cell_of_row _ _ i _ _ _ hg] at this
    exact this

/-- a row made, in a box with a number -/
structure CloB (w0 W : World) (nodes : List Cho) (root : Int) (p : Value) : Prop where
  ex : ∃ b a c, p = .pointer (some ⟨b, 0, none⟩) ∧ W.heap[b]? = some (.cells #[.slice a nodes.length c, .int .i64 root] 33 (0, 0)) ∧ W.ownsRow w0.heap.size 39 3 (.slice a nodes.length c) nodes.length (nodes.flatMap choC) ∧ (∀ g, (Value.slice a nodes.length c).ownBlock = some g → g ≠ b) ∧ w0.heap.size ≤ b
  bel : Below w0.heap.size w0 W
end Go.Proofs.YtflpkkebampmfaaDoor
namespace Go.Proofs.YtflpkkebampmfaaDoor
open Go.RowKit Go.Shelf

theorem madN_small (p : Pce) (i : Nat) : (madN p i).weights.length ≤ 5 ∧ (madN p i).kids.length ≤ 5 := by
  have h5 : mk5 p ≤ 5 := Nat.min_le_right _ _
  unfold madN
  split
  · simp
  · refine ⟨?_, ?_⟩
    · show (mwtTo _ _).length ≤ 5
      unfold mwtTo
      split
      · rw [List.length_map, List.length_take]; omega
      · simp
    · show (mkdTo _ _ _).length ≤ 5
      unfold mkdTo
      rw [List.length_map, List.length_take]; omega
theorem madX_node {ps : List Pce} {k : Nat} {nd : Nod} (h : (madX ps).nodes[k]? = some nd) : nd.weights.length ≤ 5 ∧ nd.kids.length ≤ 5 := by
  unfold madX at h
  by_cases h0 : ps = []
  · rw [if_pos h0] at h
    have := List.mem_of_getElem? h
    simp at this
    subst this
    decide
  · rw [if_neg h0] at h
    obtain ⟨_, rfl⟩ := madT_at h
    exact madN_small _ _
theorem madX_few (ps : List Pce) : XprFew (madX ps) := fun k nd h => by have := madX_node h; omega
theorem madX_sum (ps : List Pce) : XprSum (madX ps) := fun k nd h => by have := madX_node h; omega
theorem U_of_wf' {a : Int} (h : (Lit.int .u16 a).wf = true) : ∃ x : BitVec 16, a = U x := by
  apply U_of
  simp [Lit.wf, IntKind.min, IntKind.max, IntKind.bits, IntKind.signed] at h
  omega

set_option maxRecDepth 100000 in
set_option maxHeartbeats 8000000 in
theorem spoiled_w (v : Value) (xs ys : List Pce) (b : Int) (at0 : Int) (v2 : Value) (q : Cho) (w : World) (ht : HasTab w) (hr : HasRng w) (hy : HasSyn w) (w0 : IsCase w v xs ys b) (w1 : (Lit.int .u16 at0).wf = true) (w2 : IsChoice w v2 q) :
    Calls Tryd.prog 6 #[v, .int .u16 at0, v2] w fun e w' => e = .returned (.bool true) ∧ Below w.heap.size w w' := by
  have HA := Lib.hid (fun u (hb : Below w.heap.size w u) => awake20_c u (ht.below hb) (hr.below hb) (hy.below hb))
  obtain ⟨bv, rfl⟩ := U_of_wf' w0.num
  have hat : 0 ≤ at0 ∧ at0 < 65536 := by simp [Lit.wf, IntKind.min, IntKind.max, IntKind.bits, IntKind.signed] at w1; omega
  obtain ⟨A, rfl⟩ := Int.eq_ofNat_of_zero_le hat.1
  obtain ⟨ax, nx, cx, ay, ny, cy, rfl, hpx, hpy⟩ := w0.val
  obtain ⟨qs, qf, qe⟩ := q
  obtain rfl := w2.val
  simp only
  have HMX := Lib.hid (fun u (hb : Below w.heap.size w u) => made_r xs w0.okx ax nx cx u (hpx.below hb))
  have HMY := Lib.hid (fun u (hb : Below w.heap.size w u) => made_r ys w0.oky ay ny cy u (hpy.below hb))
  have hxo := (madX_ok w0.okx).1
  have hyo := (madX_ok w0.oky).1
  have hxf := madX_few xs
  have hyf := madX_few ys
  have hxs := madX_sum xs
  have hys := madX_sum ys
  obtain ⟨X, hX⟩ : ∃ X, madX xs = X := ⟨_, rfl⟩
  obtain ⟨Y, hY⟩ : ∃ Y, madX ys = Y := ⟨_, rfl⟩
  rw [hX] at HMX hxo hxf hxs
  rw [hY] at HMY hyo hyf hys
  have HPV := Lib.hid (fun a1 n1 c1 a2 n2 c2 u h1 h2 => rprove_c X Y bv hxo hyo hxf hyf hxs hys a1 n1 c1 a2 n2 c2 u h1 h2)
  have HCK := Lib.hid (fun t a1 n1 c1 a2 n2 c2 a n c u h1 h2 h3 => check_c X Y bv hxo hyo hxf hyf t a1 n1 c1 a2 n2 c2 a n c u h1 h2 h3)
  have HRC := Lib.hid (fun t a1 n1 c1 a2 n2 c2 a n c u h1 h2 h3 => rcheck_c X Y bv hxo hyo hxf hyf hxs hys t a1 n1 c1 a2 n2 c2 a n c u h1 h2 h3)
  have HPL := Lib.hid (prv_law (xprE_ok hxo) (xprE_ok hyo) bv (.inr rfl))
  obtain ⟨W2, hW2⟩ : ∃ W2, W2 = (w.alloc (.cells #[.slice ax nx cx, .slice ay ny cy, .int .u16 (U bv)] 47)).alloc (.cells #[.int .i64 qs, .int .i64 qf, .int .i64 qe] 39) := ⟨_, rfl⟩
  have hb2 : Below w.heap.size w W2 := by rw [hW2]; exact ((Below.refl _ w).alloc (Nat.le_refl _) _).alloc (by simp) _
  have g2 : W2.heap[w.heap.size]? = some (.cells #[.slice ax nx cx, .slice ay ny cy, .int .u16 (U bv)] 47 (0, 0)) := by rw [hW2]; exact heap_alloc_at (heap_alloc_new _ _) _
  have g2' : W2.heap[w.heap.size + 1]? = some (.cells #[.int .i64 qs, .int .i64 qf, .int .i64 qe] 39 (0, 0)) := by
    rw [hW2]
    have := heap_alloc_new (w.alloc (.cells #[.slice ax nx cx, .slice ay ny cy, .int .u16 (U bv)] 47)) (.cells #[.int .i64 qs, .int .i64 qf, .int .i64 qe] 39)
    rwa [World.size_alloc] at this
  have HB2 := Lib.hid hb2
  have HG2 := Lib.hid (And.intro g2 g2')
  have HAT := Lib.hid hat.2
  clear ht hr hy hpx hpy hX hY hb2 g2 g2' hxo hyo hxf hyf hxs hys w0 w1 w2 hat
  go_enter Tryd.func6, Tryd.ntmps6
  go_wp2_with fail
  rw [← hW2]
  with_reducible refine (HA.out W2 HB2.out).mono ?_
  rintro e w3 ⟨rfl, b3⟩
  have HB3 := Lib.hid (Below.next HB2.out b3)
  have HG3 := Lib.hid (And.intro (heap_below b3 HG2.out.1) (heap_below b3 HG2.out.2))
  have q0 := cell_of_row _ _ 0 _ _ _ HG3.out.1
  have q1 := cell_of_row _ _ 1 _ _ _ HG3.out.1
  have q2 := cell_of_row _ _ 2 _ _ _ HG3.out.1
  clear b3 hW2
  go_upto_region 3 with fail
  go_cut [7, 8] from 14 to 19 (fun p5 p6 wx => TwoB X Y w3 wx p5 p6)
  case first =>
    have HCC := Lib.hid (fun (u : World) (hu : Below w3.heap.size w3 u) => And.intro (cell_of_row _ _ 0 _ _ _ (heap_below hu HG3.out.1)) (cell_of_row _ _ 1 _ _ _ (heap_below hu HG3.out.1)))
    rename_i k0 h0 j0 k1 h1 h2
    clear h0
    refine wp_region_noPanic ?_
    refine wp_region_takes (fun u => Below w3.heap.size w3 u) [0, 1, 3, 4] 6 (by kernel_rfl) (by kernel_rfl) (by kernel_rfl) (fun _ _ _ _ _ h => h) (below_drew (Below.refl _ _)) ?_
    repeat (refine wpTk_cons rfl (fun K hK => ?_); go_simp; apply Exists.intro; refine ⟨fun u hu => ?_, hK _ ?_⟩; (first | exact rfl | (obtain ⟨r0, r1⟩ := HCC.out u hu; go_simp; done) | (obtain ⟨r0, r1⟩ := HCC.out u hu; go_simp; exact rfl)); clear hK K)
    refine wpTk_nil ?_
    have HT0 := Lib.hid (TS.start X Y w3)
    generalize w3.drew = y0 at HT0 ⊢
    refine held_ready (rs := [2, 6, 7]) (by kernel_rfl) (by simp) ?_
    refine AllReadyH.cons rfl (fun K hK => ?_) (AllReadyH.cons rfl (fun K hK => ?_) (AllReadyH.cons rfl (fun K hK => ?_) AllReadyH.nil))
    go_simp
    with_reducible refine (HMX.out y0 (Below.next HB3.out HT0.out.bel)).mono ?_
    rintro e z1 ⟨ac11, cc11, rfl, hx1, hb1⟩
    have HZ1 := Lib.hid ((HT0.out).call1 hb1 hx1)
    clear hx1 hb1
    go_simp
    refine hK.out _ _ HZ1.out.bel (fun hh => ?_)
    clear hh hK K; try simp only [Act.put, List.setIfInBounds_toArray, List.set_cons_zero, List.set_cons_succ]
    refine held_ready (rs := [5, 6, 7]) (by kernel_rfl) (by simp) ?_
    refine AllReadyH.cons rfl (fun K hK => ?_) (AllReadyH.cons rfl (fun K hK => ?_) (AllReadyH.cons rfl (fun K hK => ?_) AllReadyH.nil))
    go_simp
    with_reducible refine (HMY.out z1 (Below.next HB3.out HZ1.out.bel)).mono ?_
    rintro e z2 ⟨ac22, cc22, rfl, hx2, hb2⟩
    have HZ2 := Lib.hid ((HZ1.out).call2 hb2 hx2)
    clear hx2 hb2
    go_simp
    refine hK.out _ _ HZ2.out.bel (fun hh => ?_)
    clear hh hK K; try simp only [Act.put, List.setIfInBounds_toArray, List.set_cons_zero, List.set_cons_succ]
    refine held_ready (rs := [6, 7]) (by kernel_rfl) (by simp) ?_
    refine AllReadyH.cons rfl (fun K hK => ?_) (AllReadyH.cons rfl (fun K hK => ?_) AllReadyH.nil)
    go_simp
    have HZ3 := Lib.hid ((HZ2.out).alloc5)
    refine hK.out _ _ HZ3.out.bel (fun hh => ?_)
    clear hh hK K; try simp only [Act.put, List.setIfInBounds_toArray, List.set_cons_zero, List.set_cons_succ]
    try unfold zEx at HZ3
    generalize hgb3 : z2.heap.size = b3 at HZ3 ⊢
    generalize hgw3 : World.alloc z2 _ = z3 at HZ3 ⊢
    clear hgw3 hgb3
    refine held_ready (rs := [7]) (by kernel_rfl) (by simp) ?_
    refine AllReadyH.cons rfl (fun K hK => ?_) AllReadyH.nil
    go_simp
    have HZ4 := Lib.hid ((HZ3.out).alloc6)
    refine hK.out _ _ HZ4.out.bel (fun hh => ?_)
    clear hh hK K; try simp only [Act.put, List.setIfInBounds_toArray, List.set_cons_zero, List.set_cons_succ]
    try unfold zEx at HZ4
    generalize hgb4 : z3.heap.size = b4 at HZ4 ⊢
    generalize hgw4 : World.alloc z3 _ = z4 at HZ4 ⊢
    clear hgw4 hgb4
    refine held_ready (rs := [8]) (by kernel_rfl) (by simp) ?_
    refine AllReadyH.cons rfl (fun K hK => ?_) AllReadyH.nil
    go_simp
    obtain ⟨⟨x0, x1⟩, x2, x3⟩ := open2 ((HZ4.out).b5 _ rfl).1
    go_simp
    have hfin := fun (U1 U2 : World) => (HZ4.out).fin (W1 := U1) (W2 := U2)
    have HFIN := Lib.hid hfin
    clear hfin x0 x1 x2 x3
    generalize hU5 : World.setCell (World.setCell z4 _ _) _ _ = U5
    obtain ⟨k6, kb⟩ := (HFIN.out U5 _ hU5.symm rfl).1
    refine hK.out _ _ kb (fun hh => ?_)
    clear hh hK K; try simp only [Act.put, List.setIfInBounds_toArray, List.set_cons_zero, List.set_cons_succ]
    refine held_ready (rs := [9]) (by kernel_rfl) (by simp) ?_
    refine AllReadyH.cons rfl (fun K hK => ?_) AllReadyH.nil
    obtain ⟨⟨x0, x1⟩, x2, x3⟩ := open2 k6
    go_simp
    clear x0 x1 x2 x3
    generalize hV5 : World.setCell (World.setCell U5 _ _) _ _ = V5
    have hTB := (HFIN.out U5 V5 hU5.symm hV5.symm).2
    refine hK.out _ _ hTB.bel (fun hh => ?_)
    clear hh hK K; try simp only [Act.put, List.setIfInBounds_toArray, List.set_cons_zero, List.set_cons_succ]
    refine wpAnyH_done (by kernel_rfl) (NoPanic.normal ?_) _
    clear hU5 hV5 HFIN k6 kb HZ4
    refine h2 _ _ ?_
    go_meet
    exact hTB
    go_simp
    have HZ6 := Lib.hid ((HZ2.out).alloc6)
    refine hK.out _ _ HZ6.out.bel (fun hh => ?_)
    clear hh hK K; try simp only [Act.put, List.setIfInBounds_toArray, List.set_cons_zero, List.set_cons_succ]
    try unfold zEx at HZ6
    generalize hgb6 : z2.heap.size = b6 at HZ6 ⊢
    generalize hgw6 : World.alloc z2 _ = z6 at HZ6 ⊢
    clear hgw6 hgb6
    refine held_ready (rs := [6]) (by kernel_rfl) (by simp) ?_
    refine AllReadyH.cons rfl (fun K hK => ?_) AllReadyH.nil
    go_simp
    have HZ7 := Lib.hid ((HZ6.out).alloc5)
    refine hK.out _ _ HZ7.out.bel (fun hh => ?_)
    clear hh hK K; try simp only [Act.put, List.setIfInBounds_toArray, List.set_cons_zero, List.set_cons_succ]
    try unfold zEx at HZ7
    generalize hgb7 : z6.heap.size = b7 at HZ7 ⊢
    generalize hgw7 : World.alloc z6 _ = z7 at HZ7 ⊢
    clear hgw7 hgb7
    refine held_ready (rs := [8]) (by kernel_rfl) (by simp) ?_
    refine AllReadyH.cons rfl (fun K hK => ?_) AllReadyH.nil
    go_simp
    obtain ⟨⟨x0, x1⟩, x2, x3⟩ := open2 ((HZ7.out).b5 _ rfl).1
    go_simp
    have hfin := fun (U1 U2 : World) => (HZ7.out).fin (W1 := U1) (W2 := U2)
    have HFIN := Lib.hid hfin
    clear hfin x0 x1 x2 x3
    generalize hU8 : World.setCell (World.setCell z7 _ _) _ _ = U8
    obtain ⟨k6, kb⟩ := (HFIN.out U8 _ hU8.symm rfl).1
    refine hK.out _ _ kb (fun hh => ?_)
    clear hh hK K; try simp only [Act.put, List.setIfInBounds_toArray, List.set_cons_zero, List.set_cons_succ]
    refine held_ready (rs := [9]) (by kernel_rfl) (by simp) ?_
    refine AllReadyH.cons rfl (fun K hK => ?_) AllReadyH.nil
    obtain ⟨⟨x0, x1⟩, x2, x3⟩ := open2 k6
    go_simp
    clear x0 x1 x2 x3
    generalize hV8 : World.setCell (World.setCell U8 _ _) _ _ = V8
    have hTB := (HFIN.out U8 V8 hU8.symm hV8.symm).2
    refine hK.out _ _ hTB.bel (fun hh => ?_)
    clear hh hK K; try simp only [Act.put, List.setIfInBounds_toArray, List.set_cons_zero, List.set_cons_succ]
    refine wpAnyH_done (by kernel_rfl) (NoPanic.normal ?_) _
    clear hU8 hV8 HFIN k6 kb HZ7
    refine h2 _ _ ?_
    go_meet
    exact hTB
    go_simp
    have HZ9 := Lib.hid ((HZ1.out).alloc5)
    refine hK.out _ _ HZ9.out.bel (fun hh => ?_)
    clear hh hK K; try simp only [Act.put, List.setIfInBounds_toArray, List.set_cons_zero, List.set_cons_succ]
    try unfold zEx at HZ9
    generalize hgb9 : z1.heap.size = b9 at HZ9 ⊢
    generalize hgw9 : World.alloc z1 _ = z9 at HZ9 ⊢
    clear hgw9 hgb9
    refine held_ready (rs := [5, 7]) (by kernel_rfl) (by simp) ?_
    refine AllReadyH.cons rfl (fun K hK => ?_) (AllReadyH.cons rfl (fun K hK => ?_) AllReadyH.nil)
    go_simp
    with_reducible refine (HMY.out z9 (Below.next HB3.out HZ9.out.bel)).mono ?_
    rintro e z10 ⟨ac210, cc210, rfl, hx10, hb10⟩
    have HZ10 := Lib.hid ((HZ9.out).call2 hb10 hx10)
    clear hx10 hb10
    go_simp
    refine hK.out _ _ HZ10.out.bel (fun hh => ?_)
    clear hh hK K; try simp only [Act.put, List.setIfInBounds_toArray, List.set_cons_zero, List.set_cons_succ]
    refine held_ready (rs := [7]) (by kernel_rfl) (by simp) ?_
    refine AllReadyH.cons rfl (fun K hK => ?_) AllReadyH.nil
    go_simp
    have HZ11 := Lib.hid ((HZ10.out).alloc6)
    refine hK.out _ _ HZ11.out.bel (fun hh => ?_)
    clear hh hK K; try simp only [Act.put, List.setIfInBounds_toArray, List.set_cons_zero, List.set_cons_succ]
    try unfold zEx at HZ11
    generalize hgb11 : z10.heap.size = b11 at HZ11 ⊢
    generalize hgw11 : World.alloc z10 _ = z11 at HZ11 ⊢
    clear hgw11 hgb11
    refine held_ready (rs := [8]) (by kernel_rfl) (by simp) ?_
    refine AllReadyH.cons rfl (fun K hK => ?_) AllReadyH.nil
    go_simp
    obtain ⟨⟨x0, x1⟩, x2, x3⟩ := open2 ((HZ11.out).b5 _ rfl).1
    go_simp
    have hfin := fun (U1 U2 : World) => (HZ11.out).fin (W1 := U1) (W2 := U2)
    have HFIN := Lib.hid hfin
    clear hfin x0 x1 x2 x3
    generalize hU12 : World.setCell (World.setCell z11 _ _) _ _ = U12
    obtain ⟨k6, kb⟩ := (HFIN.out U12 _ hU12.symm rfl).1
    refine hK.out _ _ kb (fun hh => ?_)
    clear hh hK K; try simp only [Act.put, List.setIfInBounds_toArray, List.set_cons_zero, List.set_cons_succ]
    refine held_ready (rs := [9]) (by kernel_rfl) (by simp) ?_
    refine AllReadyH.cons rfl (fun K hK => ?_) AllReadyH.nil
    obtain ⟨⟨x0, x1⟩, x2, x3⟩ := open2 k6
    go_simp
    clear x0 x1 x2 x3
    generalize hV12 : World.setCell (World.setCell U12 _ _) _ _ = V12
    have hTB := (HFIN.out U12 V12 hU12.symm hV12.symm).2
    refine hK.out _ _ hTB.bel (fun hh => ?_)
    clear hh hK K; try simp only [Act.put, List.setIfInBounds_toArray, List.set_cons_zero, List.set_cons_succ]
    refine wpAnyH_done (by kernel_rfl) (NoPanic.normal ?_) _
    clear hU12 hV12 HFIN k6 kb HZ11
    refine h2 _ _ ?_
    go_meet
    exact hTB
    go_simp
    have HZ13 := Lib.hid ((HZ9.out).alloc6)
    refine hK.out _ _ HZ13.out.bel (fun hh => ?_)
    clear hh hK K; try simp only [Act.put, List.setIfInBounds_toArray, List.set_cons_zero, List.set_cons_succ]
    try unfold zEx at HZ13
    generalize hgb13 : z9.heap.size = b13 at HZ13 ⊢
    generalize hgw13 : World.alloc z9 _ = z13 at HZ13 ⊢
    clear hgw13 hgb13
    refine held_ready (rs := [5]) (by kernel_rfl) (by simp) ?_
    refine AllReadyH.cons rfl (fun K hK => ?_) AllReadyH.nil
    go_simp
    with_reducible refine (HMY.out z13 (Below.next HB3.out HZ13.out.bel)).mono ?_
    rintro e z14 ⟨ac214, cc214, rfl, hx14, hb14⟩
    have HZ14 := Lib.hid ((HZ13.out).call2 hb14 hx14)
    clear hx14 hb14
    go_simp
    refine hK.out _ _ HZ14.out.bel (fun hh => ?_)
    clear hh hK K; try simp only [Act.put, List.setIfInBounds_toArray, List.set_cons_zero, List.set_cons_succ]
    refine held_ready (rs := [8]) (by kernel_rfl) (by simp) ?_
    refine AllReadyH.cons rfl (fun K hK => ?_) AllReadyH.nil
    go_simp
    obtain ⟨⟨x0, x1⟩, x2, x3⟩ := open2 ((HZ14.out).b5 _ rfl).1
    go_simp
    have hfin := fun (U1 U2 : World) => (HZ14.out).fin (W1 := U1) (W2 := U2)
    have HFIN := Lib.hid hfin
    clear hfin x0 x1 x2 x3
    generalize hU15 : World.setCell (World.setCell z14 _ _) _ _ = U15
    obtain ⟨k6, kb⟩ := (HFIN.out U15 _ hU15.symm rfl).1
    refine hK.out _ _ kb (fun hh => ?_)
    clear hh hK K; try simp only [Act.put, List.setIfInBounds_toArray, List.set_cons_zero, List.set_cons_succ]
    refine held_ready (rs := [9]) (by kernel_rfl) (by simp) ?_
    refine AllReadyH.cons rfl (fun K hK => ?_) AllReadyH.nil
    obtain ⟨⟨x0, x1⟩, x2, x3⟩ := open2 k6
    go_simp
    clear x0 x1 x2 x3
    generalize hV15 : World.setCell (World.setCell U15 _ _) _ _ = V15
    have hTB := (HFIN.out U15 V15 hU15.symm hV15.symm).2
    refine hK.out _ _ hTB.bel (fun hh => ?_)
    clear hh hK K; try simp only [Act.put, List.setIfInBounds_toArray, List.set_cons_zero, List.set_cons_succ]
    refine wpAnyH_done (by kernel_rfl) (NoPanic.normal ?_) _
    clear hU15 hV15 HFIN k6 kb HZ14
    refine h2 _ _ ?_
    go_meet
    exact hTB
    go_simp
    have HZ16 := Lib.hid ((HZ1.out).alloc6)
    refine hK.out _ _ HZ16.out.bel (fun hh => ?_)
    clear hh hK K; try simp only [Act.put, List.setIfInBounds_toArray, List.set_cons_zero, List.set_cons_succ]
    try unfold zEx at HZ16
    generalize hgb16 : z1.heap.size = b16 at HZ16 ⊢
    generalize hgw16 : World.alloc z1 _ = z16 at HZ16 ⊢
    clear hgw16 hgb16
    refine held_ready (rs := [5, 6]) (by kernel_rfl) (by simp) ?_
    refine AllReadyH.cons rfl (fun K hK => ?_) (AllReadyH.cons rfl (fun K hK => ?_) AllReadyH.nil)
    go_simp
    with_reducible refine (HMY.out z16 (Below.next HB3.out HZ16.out.bel)).mono ?_
    rintro e z17 ⟨ac217, cc217, rfl, hx17, hb17⟩
    have HZ17 := Lib.hid ((HZ16.out).call2 hb17 hx17)
    clear hx17 hb17
    go_simp
    refine hK.out _ _ HZ17.out.bel (fun hh => ?_)
    clear hh hK K; try simp only [Act.put, List.setIfInBounds_toArray, List.set_cons_zero, List.set_cons_succ]
    refine held_ready (rs := [6]) (by kernel_rfl) (by simp) ?_
    refine AllReadyH.cons rfl (fun K hK => ?_) AllReadyH.nil
    go_simp
    have HZ18 := Lib.hid ((HZ17.out).alloc5)
    refine hK.out _ _ HZ18.out.bel (fun hh => ?_)
    clear hh hK K; try simp only [Act.put, List.setIfInBounds_toArray, List.set_cons_zero, List.set_cons_succ]
    try unfold zEx at HZ18
    generalize hgb18 : z17.heap.size = b18 at HZ18 ⊢
    generalize hgw18 : World.alloc z17 _ = z18 at HZ18 ⊢
    clear hgw18 hgb18
    refine held_ready (rs := [8]) (by kernel_rfl) (by simp) ?_
    refine AllReadyH.cons rfl (fun K hK => ?_) AllReadyH.nil
    go_simp
    obtain ⟨⟨x0, x1⟩, x2, x3⟩ := open2 ((HZ18.out).b5 _ rfl).1
    go_simp
    have hfin := fun (U1 U2 : World) => (HZ18.out).fin (W1 := U1) (W2 := U2)
    have HFIN := Lib.hid hfin
    clear hfin x0 x1 x2 x3
    generalize hU19 : World.setCell (World.setCell z18 _ _) _ _ = U19
    obtain ⟨k6, kb⟩ := (HFIN.out U19 _ hU19.symm rfl).1
    refine hK.out _ _ kb (fun hh => ?_)
    clear hh hK K; try simp only [Act.put, List.setIfInBounds_toArray, List.set_cons_zero, List.set_cons_succ]
    refine held_ready (rs := [9]) (by kernel_rfl) (by simp) ?_
    refine AllReadyH.cons rfl (fun K hK => ?_) AllReadyH.nil
    obtain ⟨⟨x0, x1⟩, x2, x3⟩ := open2 k6
    go_simp
    clear x0 x1 x2 x3
    generalize hV19 : World.setCell (World.setCell U19 _ _) _ _ = V19
    have hTB := (HFIN.out U19 V19 hU19.symm hV19.symm).2
    refine hK.out _ _ hTB.bel (fun hh => ?_)
    clear hh hK K; try simp only [Act.put, List.setIfInBounds_toArray, List.set_cons_zero, List.set_cons_succ]
    refine wpAnyH_done (by kernel_rfl) (NoPanic.normal ?_) _
    clear hU19 hV19 HFIN k6 kb HZ18
    refine h2 _ _ ?_
    go_meet
    exact hTB
    go_simp
    have HZ20 := Lib.hid ((HZ16.out).alloc5)
    refine hK.out _ _ HZ20.out.bel (fun hh => ?_)
    clear hh hK K; try simp only [Act.put, List.setIfInBounds_toArray, List.set_cons_zero, List.set_cons_succ]
    try unfold zEx at HZ20
    generalize hgb20 : z16.heap.size = b20 at HZ20 ⊢
    generalize hgw20 : World.alloc z16 _ = z20 at HZ20 ⊢
    clear hgw20 hgb20
    refine held_ready (rs := [5]) (by kernel_rfl) (by simp) ?_
    refine AllReadyH.cons rfl (fun K hK => ?_) AllReadyH.nil
    go_simp
    with_reducible refine (HMY.out z20 (Below.next HB3.out HZ20.out.bel)).mono ?_
    rintro e z21 ⟨ac221, cc221, rfl, hx21, hb21⟩
    have HZ21 := Lib.hid ((HZ20.out).call2 hb21 hx21)
    clear hx21 hb21
    go_simp
    refine hK.out _ _ HZ21.out.bel (fun hh => ?_)
    clear hh hK K; try simp only [Act.put, List.setIfInBounds_toArray, List.set_cons_zero, List.set_cons_succ]
    refine held_ready (rs := [8]) (by kernel_rfl) (by simp) ?_
    refine AllReadyH.cons rfl (fun K hK => ?_) AllReadyH.nil
    go_simp
    obtain ⟨⟨x0, x1⟩, x2, x3⟩ := open2 ((HZ21.out).b5 _ rfl).1
    go_simp
    have hfin := fun (U1 U2 : World) => (HZ21.out).fin (W1 := U1) (W2 := U2)
    have HFIN := Lib.hid hfin
    clear hfin x0 x1 x2 x3
    generalize hU22 : World.setCell (World.setCell z21 _ _) _ _ = U22
    obtain ⟨k6, kb⟩ := (HFIN.out U22 _ hU22.symm rfl).1
    refine hK.out _ _ kb (fun hh => ?_)
    clear hh hK K; try simp only [Act.put, List.setIfInBounds_toArray, List.set_cons_zero, List.set_cons_succ]
    refine held_ready (rs := [9]) (by kernel_rfl) (by simp) ?_
    refine AllReadyH.cons rfl (fun K hK => ?_) AllReadyH.nil
    obtain ⟨⟨x0, x1⟩, x2, x3⟩ := open2 k6
    go_simp
    clear x0 x1 x2 x3
    generalize hV22 : World.setCell (World.setCell U22 _ _) _ _ = V22
    have hTB := (HFIN.out U22 V22 hU22.symm hV22.symm).2
    refine hK.out _ _ hTB.bel (fun hh => ?_)
    clear hh hK K; try simp only [Act.put, List.setIfInBounds_toArray, List.set_cons_zero, List.set_cons_succ]
    refine wpAnyH_done (by kernel_rfl) (NoPanic.normal ?_) _
    clear hU22 hV22 HFIN k6 kb HZ21
    refine h2 _ _ ?_
    go_meet
    exact hTB
    go_simp
    have HZ23 := Lib.hid ((HT0.out).alloc5)
    refine hK.out _ _ HZ23.out.bel (fun hh => ?_)
    clear hh hK K; try simp only [Act.put, List.setIfInBounds_toArray, List.set_cons_zero, List.set_cons_succ]
    try unfold zEx at HZ23
    generalize hgb23 : y0.heap.size = b23 at HZ23 ⊢
    generalize hgw23 : World.alloc y0 _ = z23 at HZ23 ⊢
    clear hgw23 hgb23
    refine held_ready (rs := [2, 7]) (by kernel_rfl) (by simp) ?_
    refine AllReadyH.cons rfl (fun K hK => ?_) (AllReadyH.cons rfl (fun K hK => ?_) AllReadyH.nil)
    go_simp
    with_reducible refine (HMX.out z23 (Below.next HB3.out HZ23.out.bel)).mono ?_
    rintro e z24 ⟨ac124, cc124, rfl, hx24, hb24⟩
    have HZ24 := Lib.hid ((HZ23.out).call1 hb24 hx24)
    clear hx24 hb24
    go_simp
    refine hK.out _ _ HZ24.out.bel (fun hh => ?_)
    clear hh hK K; try simp only [Act.put, List.setIfInBounds_toArray, List.set_cons_zero, List.set_cons_succ]
    refine held_ready (rs := [5, 7]) (by kernel_rfl) (by simp) ?_
    refine AllReadyH.cons rfl (fun K hK => ?_) (AllReadyH.cons rfl (fun K hK => ?_) AllReadyH.nil)
    go_simp
    with_reducible refine (HMY.out z24 (Below.next HB3.out HZ24.out.bel)).mono ?_
    rintro e z25 ⟨ac225, cc225, rfl, hx25, hb25⟩
    have HZ25 := Lib.hid ((HZ24.out).call2 hb25 hx25)
    clear hx25 hb25
    go_simp
    refine hK.out _ _ HZ25.out.bel (fun hh => ?_)
    clear hh hK K; try simp only [Act.put, List.setIfInBounds_toArray, List.set_cons_zero, List.set_cons_succ]
    refine held_ready (rs := [7]) (by kernel_rfl) (by simp) ?_
    refine AllReadyH.cons rfl (fun K hK => ?_) AllReadyH.nil
    go_simp
    have HZ26 := Lib.hid ((HZ25.out).alloc6)
    refine hK.out _ _ HZ26.out.bel (fun hh => ?_)
    clear hh hK K; try simp only [Act.put, List.setIfInBounds_toArray, List.set_cons_zero, List.set_cons_succ]
    try unfold zEx at HZ26
    generalize hgb26 : z25.heap.size = b26 at HZ26 ⊢
    generalize hgw26 : World.alloc z25 _ = z26 at HZ26 ⊢
    clear hgw26 hgb26
    refine held_ready (rs := [8]) (by kernel_rfl) (by simp) ?_
    refine AllReadyH.cons rfl (fun K hK => ?_) AllReadyH.nil
    go_simp
    obtain ⟨⟨x0, x1⟩, x2, x3⟩ := open2 ((HZ26.out).b5 _ rfl).1
    go_simp
    have hfin := fun (U1 U2 : World) => (HZ26.out).fin (W1 := U1) (W2 := U2)
    have HFIN := Lib.hid hfin
    clear hfin x0 x1 x2 x3
    generalize hU27 : World.setCell (World.setCell z26 _ _) _ _ = U27
    obtain ⟨k6, kb⟩ := (HFIN.out U27 _ hU27.symm rfl).1
    refine hK.out _ _ kb (fun hh => ?_)
    clear hh hK K; try simp only [Act.put, List.setIfInBounds_toArray, List.set_cons_zero, List.set_cons_succ]
    refine held_ready (rs := [9]) (by kernel_rfl) (by simp) ?_
    refine AllReadyH.cons rfl (fun K hK => ?_) AllReadyH.nil
    obtain ⟨⟨x0, x1⟩, x2, x3⟩ := open2 k6
    go_simp
    clear x0 x1 x2 x3
    generalize hV27 : World.setCell (World.setCell U27 _ _) _ _ = V27
    have hTB := (HFIN.out U27 V27 hU27.symm hV27.symm).2
    refine hK.out _ _ hTB.bel (fun hh => ?_)
    clear hh hK K; try simp only [Act.put, List.setIfInBounds_toArray, List.set_cons_zero, List.set_cons_succ]
    refine wpAnyH_done (by kernel_rfl) (NoPanic.normal ?_) _
    clear hU27 hV27 HFIN k6 kb HZ26
    refine h2 _ _ ?_
    go_meet
    exact hTB
    go_simp
    have HZ28 := Lib.hid ((HZ24.out).alloc6)
    refine hK.out _ _ HZ28.out.bel (fun hh => ?_)
    clear hh hK K; try simp only [Act.put, List.setIfInBounds_toArray, List.set_cons_zero, List.set_cons_succ]
    try unfold zEx at HZ28
    generalize hgb28 : z24.heap.size = b28 at HZ28 ⊢
    generalize hgw28 : World.alloc z24 _ = z28 at HZ28 ⊢
    clear hgw28 hgb28
    refine held_ready (rs := [5]) (by kernel_rfl) (by simp) ?_
    refine AllReadyH.cons rfl (fun K hK => ?_) AllReadyH.nil
    go_simp
    with_reducible refine (HMY.out z28 (Below.next HB3.out HZ28.out.bel)).mono ?_
    rintro e z29 ⟨ac229, cc229, rfl, hx29, hb29⟩
    have HZ29 := Lib.hid ((HZ28.out).call2 hb29 hx29)
    clear hx29 hb29
    go_simp
    refine hK.out _ _ HZ29.out.bel (fun hh => ?_)
    clear hh hK K; try simp only [Act.put, List.setIfInBounds_toArray, List.set_cons_zero, List.set_cons_succ]
    refine held_ready (rs := [8]) (by kernel_rfl) (by simp) ?_
    refine AllReadyH.cons rfl (fun K hK => ?_) AllReadyH.nil
    go_simp
    obtain ⟨⟨x0, x1⟩, x2, x3⟩ := open2 ((HZ29.out).b5 _ rfl).1
    go_simp
    have hfin := fun (U1 U2 : World) => (HZ29.out).fin (W1 := U1) (W2 := U2)
    have HFIN := Lib.hid hfin
    clear hfin x0 x1 x2 x3
    generalize hU30 : World.setCell (World.setCell z29 _ _) _ _ = U30
    obtain ⟨k6, kb⟩ := (HFIN.out U30 _ hU30.symm rfl).1
    refine hK.out _ _ kb (fun hh => ?_)
    clear hh hK K; try simp only [Act.put, List.setIfInBounds_toArray, List.set_cons_zero, List.set_cons_succ]
    refine held_ready (rs := [9]) (by kernel_rfl) (by simp) ?_
    refine AllReadyH.cons rfl (fun K hK => ?_) AllReadyH.nil
    obtain ⟨⟨x0, x1⟩, x2, x3⟩ := open2 k6
    go_simp
    clear x0 x1 x2 x3
    generalize hV30 : World.setCell (World.setCell U30 _ _) _ _ = V30
    have hTB := (HFIN.out U30 V30 hU30.symm hV30.symm).2
    refine hK.out _ _ hTB.bel (fun hh => ?_)
    clear hh hK K; try simp only [Act.put, List.setIfInBounds_toArray, List.set_cons_zero, List.set_cons_succ]
    refine wpAnyH_done (by kernel_rfl) (NoPanic.normal ?_) _
    clear hU30 hV30 HFIN k6 kb HZ29
    refine h2 _ _ ?_
    go_meet
    exact hTB
    go_simp
    have HZ31 := Lib.hid ((HZ23.out).alloc6)
    refine hK.out _ _ HZ31.out.bel (fun hh => ?_)
    clear hh hK K; try simp only [Act.put, List.setIfInBounds_toArray, List.set_cons_zero, List.set_cons_succ]
    try unfold zEx at HZ31
    generalize hgb31 : z23.heap.size = b31 at HZ31 ⊢
    generalize hgw31 : World.alloc z23 _ = z31 at HZ31 ⊢
    clear hgw31 hgb31
    refine held_ready (rs := [2]) (by kernel_rfl) (by simp) ?_
    refine AllReadyH.cons rfl (fun K hK => ?_) AllReadyH.nil
    go_simp
    with_reducible refine (HMX.out z31 (Below.next HB3.out HZ31.out.bel)).mono ?_
    rintro e z32 ⟨ac132, cc132, rfl, hx32, hb32⟩
    have HZ32 := Lib.hid ((HZ31.out).call1 hb32 hx32)
    clear hx32 hb32
    go_simp
    refine hK.out _ _ HZ32.out.bel (fun hh => ?_)
    clear hh hK K; try simp only [Act.put, List.setIfInBounds_toArray, List.set_cons_zero, List.set_cons_succ]
    refine held_ready (rs := [5]) (by kernel_rfl) (by simp) ?_
    refine AllReadyH.cons rfl (fun K hK => ?_) AllReadyH.nil
    go_simp
    with_reducible refine (HMY.out z32 (Below.next HB3.out HZ32.out.bel)).mono ?_
    rintro e z33 ⟨ac233, cc233, rfl, hx33, hb33⟩
    have HZ33 := Lib.hid ((HZ32.out).call2 hb33 hx33)
    clear hx33 hb33
    go_simp
    refine hK.out _ _ HZ33.out.bel (fun hh => ?_)
    clear hh hK K; try simp only [Act.put, List.setIfInBounds_toArray, List.set_cons_zero, List.set_cons_succ]
    refine held_ready (rs := [8]) (by kernel_rfl) (by simp) ?_
    refine AllReadyH.cons rfl (fun K hK => ?_) AllReadyH.nil
    go_simp
    obtain ⟨⟨x0, x1⟩, x2, x3⟩ := open2 ((HZ33.out).b5 _ rfl).1
    go_simp
    have hfin := fun (U1 U2 : World) => (HZ33.out).fin (W1 := U1) (W2 := U2)
    have HFIN := Lib.hid hfin
    clear hfin x0 x1 x2 x3
    generalize hU34 : World.setCell (World.setCell z33 _ _) _ _ = U34
    obtain ⟨k6, kb⟩ := (HFIN.out U34 _ hU34.symm rfl).1
    refine hK.out _ _ kb (fun hh => ?_)
    clear hh hK K; try simp only [Act.put, List.setIfInBounds_toArray, List.set_cons_zero, List.set_cons_succ]
    refine held_ready (rs := [9]) (by kernel_rfl) (by simp) ?_
    refine AllReadyH.cons rfl (fun K hK => ?_) AllReadyH.nil
    obtain ⟨⟨x0, x1⟩, x2, x3⟩ := open2 k6
    go_simp
    clear x0 x1 x2 x3
    generalize hV34 : World.setCell (World.setCell U34 _ _) _ _ = V34
    have hTB := (HFIN.out U34 V34 hU34.symm hV34.symm).2
    refine hK.out _ _ hTB.bel (fun hh => ?_)
    clear hh hK K; try simp only [Act.put, List.setIfInBounds_toArray, List.set_cons_zero, List.set_cons_succ]
    refine wpAnyH_done (by kernel_rfl) (NoPanic.normal ?_) _
    clear hU34 hV34 HFIN k6 kb HZ33
    refine h2 _ _ ?_
    go_meet
    exact hTB
    go_simp
    have HZ35 := Lib.hid ((HT0.out).alloc6)
    refine hK.out _ _ HZ35.out.bel (fun hh => ?_)
    clear hh hK K; try simp only [Act.put, List.setIfInBounds_toArray, List.set_cons_zero, List.set_cons_succ]
    try unfold zEx at HZ35
    generalize hgb35 : y0.heap.size = b35 at HZ35 ⊢
    generalize hgw35 : World.alloc y0 _ = z35 at HZ35 ⊢
    clear hgw35 hgb35
    refine held_ready (rs := [2, 6]) (by kernel_rfl) (by simp) ?_
    refine AllReadyH.cons rfl (fun K hK => ?_) (AllReadyH.cons rfl (fun K hK => ?_) AllReadyH.nil)
    go_simp
    with_reducible refine (HMX.out z35 (Below.next HB3.out HZ35.out.bel)).mono ?_
    rintro e z36 ⟨ac136, cc136, rfl, hx36, hb36⟩
    have HZ36 := Lib.hid ((HZ35.out).call1 hb36 hx36)
    clear hx36 hb36
    go_simp
    refine hK.out _ _ HZ36.out.bel (fun hh => ?_)
    clear hh hK K; try simp only [Act.put, List.setIfInBounds_toArray, List.set_cons_zero, List.set_cons_succ]
    refine held_ready (rs := [5, 6]) (by kernel_rfl) (by simp) ?_
    refine AllReadyH.cons rfl (fun K hK => ?_) (AllReadyH.cons rfl (fun K hK => ?_) AllReadyH.nil)
    go_simp
    with_reducible refine (HMY.out z36 (Below.next HB3.out HZ36.out.bel)).mono ?_
    rintro e z37 ⟨ac237, cc237, rfl, hx37, hb37⟩
    have HZ37 := Lib.hid ((HZ36.out).call2 hb37 hx37)
    clear hx37 hb37
    go_simp
    refine hK.out _ _ HZ37.out.bel (fun hh => ?_)
    clear hh hK K; try simp only [Act.put, List.setIfInBounds_toArray, List.set_cons_zero, List.set_cons_succ]
    refine held_ready (rs := [6]) (by kernel_rfl) (by simp) ?_
    refine AllReadyH.cons rfl (fun K hK => ?_) AllReadyH.nil
    go_simp
    have HZ38 := Lib.hid ((HZ37.out).alloc5)
    refine hK.out _ _ HZ38.out.bel (fun hh => ?_)
    clear hh hK K; try simp only [Act.put, List.setIfInBounds_toArray, List.set_cons_zero, List.set_cons_succ]
    try unfold zEx at HZ38
    generalize hgb38 : z37.heap.size = b38 at HZ38 ⊢
    generalize hgw38 : World.alloc z37 _ = z38 at HZ38 ⊢
    clear hgw38 hgb38
    refine held_ready (rs := [8]) (by kernel_rfl) (by simp) ?_
    refine AllReadyH.cons rfl (fun K hK => ?_) AllReadyH.nil
    go_simp
    obtain ⟨⟨x0, x1⟩, x2, x3⟩ := open2 ((HZ38.out).b5 _ rfl).1
    go_simp
    have hfin := fun (U1 U2 : World) => (HZ38.out).fin (W1 := U1) (W2 := U2)
    have HFIN := Lib.hid hfin
    clear hfin x0 x1 x2 x3
    generalize hU39 : World.setCell (World.setCell z38 _ _) _ _ = U39
    obtain ⟨k6, kb⟩ := (HFIN.out U39 _ hU39.symm rfl).1
    refine hK.out _ _ kb (fun hh => ?_)
    clear hh hK K; try simp only [Act.put, List.setIfInBounds_toArray, List.set_cons_zero, List.set_cons_succ]
    refine held_ready (rs := [9]) (by kernel_rfl) (by simp) ?_
    refine AllReadyH.cons rfl (fun K hK => ?_) AllReadyH.nil
    obtain ⟨⟨x0, x1⟩, x2, x3⟩ := open2 k6
    go_simp
    clear x0 x1 x2 x3
    generalize hV39 : World.setCell (World.setCell U39 _ _) _ _ = V39
    have hTB := (HFIN.out U39 V39 hU39.symm hV39.symm).2
    refine hK.out _ _ hTB.bel (fun hh => ?_)
    clear hh hK K; try simp only [Act.put, List.setIfInBounds_toArray, List.set_cons_zero, List.set_cons_succ]
    refine wpAnyH_done (by kernel_rfl) (NoPanic.normal ?_) _
    clear hU39 hV39 HFIN k6 kb HZ38
    refine h2 _ _ ?_
    go_meet
    exact hTB
    go_simp
    have HZ40 := Lib.hid ((HZ36.out).alloc5)
    refine hK.out _ _ HZ40.out.bel (fun hh => ?_)
    clear hh hK K; try simp only [Act.put, List.setIfInBounds_toArray, List.set_cons_zero, List.set_cons_succ]
    try unfold zEx at HZ40
    generalize hgb40 : z36.heap.size = b40 at HZ40 ⊢
    generalize hgw40 : World.alloc z36 _ = z40 at HZ40 ⊢
    clear hgw40 hgb40
    refine held_ready (rs := [5]) (by kernel_rfl) (by simp) ?_
    refine AllReadyH.cons rfl (fun K hK => ?_) AllReadyH.nil
    go_simp
    with_reducible refine (HMY.out z40 (Below.next HB3.out HZ40.out.bel)).mono ?_
    rintro e z41 ⟨ac241, cc241, rfl, hx41, hb41⟩
    have HZ41 := Lib.hid ((HZ40.out).call2 hb41 hx41)
    clear hx41 hb41
    go_simp
    refine hK.out _ _ HZ41.out.bel (fun hh => ?_)
    clear hh hK K; try simp only [Act.put, List.setIfInBounds_toArray, List.set_cons_zero, List.set_cons_succ]
    refine held_ready (rs := [8]) (by kernel_rfl) (by simp) ?_
    refine AllReadyH.cons rfl (fun K hK => ?_) AllReadyH.nil
    go_simp
    obtain ⟨⟨x0, x1⟩, x2, x3⟩ := open2 ((HZ41.out).b5 _ rfl).1
    go_simp
    have hfin := fun (U1 U2 : World) => (HZ41.out).fin (W1 := U1) (W2 := U2)
    have HFIN := Lib.hid hfin
    clear hfin x0 x1 x2 x3
    generalize hU42 : World.setCell (World.setCell z41 _ _) _ _ = U42
    obtain ⟨k6, kb⟩ := (HFIN.out U42 _ hU42.symm rfl).1
    refine hK.out _ _ kb (fun hh => ?_)
    clear hh hK K; try simp only [Act.put, List.setIfInBounds_toArray, List.set_cons_zero, List.set_cons_succ]
    refine held_ready (rs := [9]) (by kernel_rfl) (by simp) ?_
    refine AllReadyH.cons rfl (fun K hK => ?_) AllReadyH.nil
    obtain ⟨⟨x0, x1⟩, x2, x3⟩ := open2 k6
    go_simp
    clear x0 x1 x2 x3
    generalize hV42 : World.setCell (World.setCell U42 _ _) _ _ = V42
    have hTB := (HFIN.out U42 V42 hU42.symm hV42.symm).2
    refine hK.out _ _ hTB.bel (fun hh => ?_)
    clear hh hK K; try simp only [Act.put, List.setIfInBounds_toArray, List.set_cons_zero, List.set_cons_succ]
    refine wpAnyH_done (by kernel_rfl) (NoPanic.normal ?_) _
    clear hU42 hV42 HFIN k6 kb HZ41
    refine h2 _ _ ?_
    go_meet
    exact hTB
    go_simp
    have HZ43 := Lib.hid ((HZ35.out).alloc5)
    refine hK.out _ _ HZ43.out.bel (fun hh => ?_)
    clear hh hK K; try simp only [Act.put, List.setIfInBounds_toArray, List.set_cons_zero, List.set_cons_succ]
    try unfold zEx at HZ43
    generalize hgb43 : z35.heap.size = b43 at HZ43 ⊢
    generalize hgw43 : World.alloc z35 _ = z43 at HZ43 ⊢
    clear hgw43 hgb43
    refine held_ready (rs := [2]) (by kernel_rfl) (by simp) ?_
    refine AllReadyH.cons rfl (fun K hK => ?_) AllReadyH.nil
    go_simp
    with_reducible refine (HMX.out z43 (Below.next HB3.out HZ43.out.bel)).mono ?_
    rintro e z44 ⟨ac144, cc144, rfl, hx44, hb44⟩
    have HZ44 := Lib.hid ((HZ43.out).call1 hb44 hx44)
    clear hx44 hb44
    go_simp
    refine hK.out _ _ HZ44.out.bel (fun hh => ?_)
    clear hh hK K; try simp only [Act.put, List.setIfInBounds_toArray, List.set_cons_zero, List.set_cons_succ]
    refine held_ready (rs := [5]) (by kernel_rfl) (by simp) ?_
    refine AllReadyH.cons rfl (fun K hK => ?_) AllReadyH.nil
    go_simp
    with_reducible refine (HMY.out z44 (Below.next HB3.out HZ44.out.bel)).mono ?_
    rintro e z45 ⟨ac245, cc245, rfl, hx45, hb45⟩
    have HZ45 := Lib.hid ((HZ44.out).call2 hb45 hx45)
    clear hx45 hb45
    go_simp
    refine hK.out _ _ HZ45.out.bel (fun hh => ?_)
    clear hh hK K; try simp only [Act.put, List.setIfInBounds_toArray, List.set_cons_zero, List.set_cons_succ]
    refine held_ready (rs := [8]) (by kernel_rfl) (by simp) ?_
    refine AllReadyH.cons rfl (fun K hK => ?_) AllReadyH.nil
    go_simp
    obtain ⟨⟨x0, x1⟩, x2, x3⟩ := open2 ((HZ45.out).b5 _ rfl).1
    go_simp
    have hfin := fun (U1 U2 : World) => (HZ45.out).fin (W1 := U1) (W2 := U2)
    have HFIN := Lib.hid hfin
    clear hfin x0 x1 x2 x3
    generalize hU46 : World.setCell (World.setCell z45 _ _) _ _ = U46
    obtain ⟨k6, kb⟩ := (HFIN.out U46 _ hU46.symm rfl).1
    refine hK.out _ _ kb (fun hh => ?_)
    clear hh hK K; try simp only [Act.put, List.setIfInBounds_toArray, List.set_cons_zero, List.set_cons_succ]
    refine held_ready (rs := [9]) (by kernel_rfl) (by simp) ?_
    refine AllReadyH.cons rfl (fun K hK => ?_) AllReadyH.nil
    obtain ⟨⟨x0, x1⟩, x2, x3⟩ := open2 k6
    go_simp
    clear x0 x1 x2 x3
    generalize hV46 : World.setCell (World.setCell U46 _ _) _ _ = V46
    have hTB := (HFIN.out U46 V46 hU46.symm hV46.symm).2
    refine hK.out _ _ hTB.bel (fun hh => ?_)
    clear hh hK K; try simp only [Act.put, List.setIfInBounds_toArray, List.set_cons_zero, List.set_cons_succ]
    refine wpAnyH_done (by kernel_rfl) (NoPanic.normal ?_) _
    clear hU46 hV46 HFIN k6 kb HZ45
    refine h2 _ _ ?_
    go_meet
    exact hTB

  case rest =>
    obtain ⟨⟨b5, b6, a1, c1, a2, c2, rfl, rfl, e5, e6, x1, x2⟩, hbc⟩ := hcut
    have HBC := Lib.hid (Below.next HB3.out hbc)
    have HK : Hid (∀ u : World, Below wc.heap.size wc u → ((u.cell? ⟨b5, 0, none⟩ = some (.slice a1 X.nodes.length c1) ∧ u.cell? ⟨b5, 1, none⟩ = some (.int .i64 X.root)) ∧ (u.cell? ⟨b6, 0, none⟩ = some (.slice a2 Y.nodes.length c2) ∧ u.cell? ⟨b6, 1, none⟩ = some (.int .i64 Y.root))) ∧ u.cell? ⟨w.heap.size, 2, none⟩ = some (.int .u16 (U bv)) ∧ (u.cell? ⟨w.heap.size + 1, 0, none⟩ = some (.int .i64 qs) ∧ u.cell? ⟨w.heap.size + 1, 1, none⟩ = some (.int .i64 qf) ∧ u.cell? ⟨w.heap.size + 1, 2, none⟩ = some (.int .i64 qe))) := Lib.hid (fun u hu => by
      obtain ⟨k01, _⟩ := open2 (heap_below hu e5)
      obtain ⟨k23, _⟩ := open2 (heap_below hu e6)
      have h3 := Below.next hbc hu
      exact ⟨⟨k01, k23⟩, cell_of_row _ _ 2 _ _ _ (heap_below h3 HG3.out.1), (open3 (heap_below h3 HG3.out.2)).1⟩)
    have HX1 := Lib.hid x1
    have HX2 := Lib.hid x2
    obtain ⟨⟨⟨k0, k1⟩, k2, k3⟩, k4, -⟩ := HK.out wc (Below.refl _ _)
    have HP1 := Lib.hid (HPV.out a1 _ c1 a2 _ c2 wc x1 x2)
    obtain ⟨⟨⟨tn, tr⟩, pe⟩, hR⟩ : ∃ R, prvS X Y (left12 bv) = R := ⟨_, rfl⟩
    rw [hR] at HP1 HPL
    simp only at HP1 HPL
    obtain ⟨L, hL⟩ : ∃ L, tn.length = L := ⟨_, rfl⟩
    rw [hL] at HP1
    unfold treV at HP1
    have HLT := Lib.hid hL
    have hpl := HPL.out
    clear hbc e5 e6 x1 x2 q0 q1 q2 hR hL HPL
    go_wp2_with fail
    with_reducible refine HP1.out.mono ?_
    rintro e w4 ⟨a4, c4, rfl, t4, b4⟩
    have HB4 := Lib.hid b4
    clear k0 k1 k2 k3 k4
    rcases hpl with ⟨_, hpe, hcert⟩ | ⟨_, hpe⟩
    · subst hpe
      obtain ⟨hl1, hl2⟩ := cert_pos hcert
      simp only at hl1 hl2
      rw [HLT.out] at hl1 hl2
      obtain ⟨w5, hw5⟩ : ∃ w5, w5 = w4.alloc (.cells #[.slice a4 L c4, .int .i64 tr] 33) := ⟨_, rfl⟩
      have b5' : Below w4.heap.size w4 w5 := by rw [hw5]; exact (Below.refl _ _).alloc (Nat.le_refl _) _
      have g5 : w5.heap[w4.heap.size]? = some (.cells #[.slice a4 L c4, .int .i64 tr] 33 (0, 0)) := by rw [hw5]; exact heap_alloc_new _ _
      have HB5 := Lib.hid (Below.next HB4.out b5')
      have HT5 := Lib.hid (RdK.below t4 b5')
      have HG5 := Lib.hid g5
      have HCL := Lib.hid (fun (u : World) (hu : Below w5.heap.size w5 u) => clonec_c tn a4 L c4 u (RdK.below HT5.out hu) (by omega))
      have HCT := Lib.hid hcert
      clear b4 t4 b5' g5 hcert
      go_upto_region 7 with fail
      rw [← hw5]
      clear hw5
      go_cut [11] from 32 to 37 (fun p11 wx => CloB w5 wx tn tr p11)
      case first =>
        have HCC := Lib.hid (fun (u : World) (hu : Below w5.heap.size w5 u) => (open2 (heap_below hu HG5.out)).1)
        rename_i k0 h0 j0 k1 h1 h2
        clear h0
        refine wp_region_noPanic ?_
        refine wp_region_takes (fun u => Below w5.heap.size w5 u) [0, 1, 3, 4] 4 (by kernel_rfl) (by kernel_rfl) (by kernel_rfl) (fun _ _ _ _ _ h => h) (below_drew (Below.refl _ _)) ?_
        repeat (refine wpTk_cons rfl (fun K hK => ?_); go_simp; apply Exists.intro; refine ⟨fun u hu => ?_, hK _ ?_⟩; (first | exact rfl | (obtain ⟨r0, r1⟩ := HCC.out u hu; go_simp; done) | (obtain ⟨r0, r1⟩ := HCC.out u hu; go_simp; exact rfl)); clear hK K)
        refine wpTk_nil ?_
        have HY0 : Hid (Below w5.heap.size w5 w5.drew) := Lib.hid (below_drew (Below.refl _ _))
        generalize w5.drew = y0 at HY0 ⊢
        refine held_ready (rs := [2, 6]) (by kernel_rfl) (by simp) ?_
        refine AllReadyH.cons rfl (fun K hK => ?_) (AllReadyH.cons rfl (fun K hK => ?_) AllReadyH.nil)
        · go_simp
          with_reducible refine (HCL.out y0 HY0.out).mono ?_
          rintro e z1 ⟨v1, rfl, hown1, hb1⟩
          obtain ⟨ac, cc, rfl, _⟩ := rdK_of_row hown1
          have HZ1 := Lib.hid (Below.next HY0.out hb1)
          have HO1 := Lib.hid (rowK_mono hown1 HY0.out.size)
          clear hown1 hb1
          go_simp
          refine hK.out _ _ HZ1.out (fun hh => ?_)
          clear hh hK K; try simp only [Act.put, List.setIfInBounds_toArray, List.set_cons_zero, List.set_cons_succ]
          refine held_takes (f := 2) (by kernel_rfl) (fun _ _ _ _ _ h => h) HZ1.out [5] _ _ (by kernel_rfl) ?_
          refine wpTk_cons rfl (fun K hK => ?_)
          go_simp
          apply Exists.intro
          refine ⟨fun y hy => rfl, hK _ ?_⟩
          clear hK K
          refine wpTk_nil ?_
          refine held_ready (rs := [6]) (by kernel_rfl) (by simp) ?_
          refine AllReadyH.cons rfl (fun K hK => ?_) AllReadyH.nil
          go_simp
          have HZ2 := Lib.hid (HZ1.out.alloc HZ1.out.size (.cells #[.slice none 0 0, .int .i64 0] 33))
          have HG2' := Lib.hid (heap_alloc_new z1 (.cells #[.slice none 0 0, .int .i64 0] 33))
          have HO2 := Lib.hid (rowK_below HO1.out ((Below.refl _ z1).alloc (Nat.le_refl _) (.cells #[.slice none 0 0, .int .i64 0] 33)))
          have HNE := Lib.hid (fun g hg => Nat.ne_of_lt (HO1.out.lt g hg).2)
          have HSZ := Lib.hid HZ1.out.size
          refine hK.out _ _ HZ2.out (fun hh => ?_)
          clear hh hK K; try simp only [Act.put, List.setIfInBounds_toArray, List.set_cons_zero, List.set_cons_succ]
          generalize z1.heap.size = B at HG2' HNE HSZ ⊢
          generalize z1.alloc _ = z2 at HZ2 HG2' HO2 ⊢
          refine held_ready (rs := [7]) (by kernel_rfl) (by simp) ?_
          refine AllReadyH.cons rfl (fun K hK => ?_) AllReadyH.nil
          obtain ⟨⟨x0, x1⟩, x2, x3⟩ := open2 HG2'.out
          go_simp
          clear x0 x1 x2 x3
          generalize hV : World.setCell (World.setCell z2 _ _) _ _ = V
          have hbV : Below w5.heap.size w5 V := by rw [← hV]; exact (HZ2.out.setCell (p := ⟨B, 0, none⟩) HSZ.out _).setCell (p := ⟨B, 1, none⟩) HSZ.out _
          have hCB : CloB w5 V tn tr (.pointer (some ⟨B, 0, none⟩)) := by
            refine ⟨⟨B, ac, cc, rfl, ?_, ?_, ?_, HSZ.out⟩, hbV⟩
            · rw [HLT.out, ← hV, heap_set_at (heap_set_at HG2'.out 0 _) 1 _]; rfl
            · rw [HLT.out]
              refine rowK_at HO2.out fun g hg => ?_
              rw [← hV, Below.heap_setCell _ ⟨B, 1, none⟩ _ g (HNE.out g hg), Below.heap_setCell _ ⟨B, 0, none⟩ _ g (HNE.out g hg)]
            · rw [HLT.out]; exact HNE.out
          refine hK.out _ _ hbV (fun hh => ?_)
          clear hh hK K; try simp only [Act.put, List.setIfInBounds_toArray, List.set_cons_zero, List.set_cons_succ]
          refine wpAnyH_done (by kernel_rfl) (NoPanic.normal ?_) _
          clear hV hbV HG2' HO2 HZ2
          refine h2 _ _ ?_
          go_meet
          exact hCB
        · go_simp
          have HZ1 := Lib.hid (HY0.out.alloc HY0.out.size (.cells #[.slice none 0 0, .int .i64 0] 33))
          have HG1' := Lib.hid (heap_alloc_new y0 (.cells #[.slice none 0 0, .int .i64 0] 33))
          have HS1 := Lib.hid (show (y0.alloc (.cells #[.slice none 0 0, .int .i64 0] 33)).heap.size = y0.heap.size + 1 from World.size_alloc _ _)
          have HSZ := Lib.hid HY0.out.size
          refine hK.out _ _ HZ1.out (fun hh => ?_)
          clear hh hK K; try simp only [Act.put, List.setIfInBounds_toArray, List.set_cons_zero, List.set_cons_succ]
          generalize y0.heap.size = B at HG1' HS1 HSZ ⊢
          generalize y0.alloc _ = z1 at HZ1 HG1' HS1 ⊢
          refine held_ready (rs := [2]) (by kernel_rfl) (by simp) ?_
          refine AllReadyH.cons rfl (fun K hK => ?_) AllReadyH.nil
          go_simp
          with_reducible refine (HCL.out z1 HZ1.out).mono ?_
          rintro e z2 ⟨v1, rfl, hown1, hb1⟩
          obtain ⟨ac, cc, rfl, _⟩ := rdK_of_row hown1
          have HZ2 := Lib.hid (Below.next HZ1.out hb1)
          have HO2 := Lib.hid (rowK_mono hown1 HZ1.out.size)
          have HG2' := Lib.hid (heap_below hb1 HG1'.out)
          have HNE : Hid (∀ g, (Value.slice ac L cc).ownBlock = some g → g ≠ B) := Lib.hid (fun g hg => by have := (hown1.lt g hg).1; have := HS1.out; omega)
          clear hown1 hb1
          go_simp
          refine hK.out _ _ HZ2.out (fun hh => ?_)
          clear hh hK K; try simp only [Act.put, List.setIfInBounds_toArray, List.set_cons_zero, List.set_cons_succ]
          refine held_takes (f := 1) (by kernel_rfl) (fun _ _ _ _ _ h => h) HZ2.out [5] _ _ (by kernel_rfl) ?_
          refine wpTk_cons rfl (fun K hK => ?_)
          go_simp
          apply Exists.intro
          refine ⟨fun y hy => rfl, hK _ ?_⟩
          clear hK K
          refine wpTk_nil ?_
          refine held_ready (rs := [7]) (by kernel_rfl) (by simp) ?_
          refine AllReadyH.cons rfl (fun K hK => ?_) AllReadyH.nil
          obtain ⟨⟨x0, x1⟩, x2, x3⟩ := open2 HG2'.out
          go_simp
          clear x0 x1 x2 x3
          generalize hV : World.setCell (World.setCell z2 _ _) _ _ = V
          have hbV : Below w5.heap.size w5 V := by rw [← hV]; exact (HZ2.out.setCell (p := ⟨B, 0, none⟩) HSZ.out _).setCell (p := ⟨B, 1, none⟩) HSZ.out _
          have hCB : CloB w5 V tn tr (.pointer (some ⟨B, 0, none⟩)) := by
            refine ⟨⟨B, ac, cc, rfl, ?_, ?_, ?_, HSZ.out⟩, hbV⟩
            · rw [HLT.out, ← hV, heap_set_at (heap_set_at HG2'.out 0 _) 1 _]; rfl
            · rw [HLT.out]
              refine rowK_at HO2.out fun g hg => ?_
              rw [← hV, Below.heap_setCell _ ⟨B, 1, none⟩ _ g (HNE.out g hg), Below.heap_setCell _ ⟨B, 0, none⟩ _ g (HNE.out g hg)]
            · rw [HLT.out]; exact HNE.out
          refine hK.out _ _ hbV (fun hh => ?_)
          clear hh hK K; try simp only [Act.put, List.setIfInBounds_toArray, List.set_cons_zero, List.set_cons_succ]
          refine wpAnyH_done (by kernel_rfl) (NoPanic.normal ?_) _
          clear hV hbV HG2' HO2 HZ2
          refine h2 _ _ ?_
          go_meet
          exact hCB

      case rest =>
        obtain ⟨⟨bU, aU, cU, rfl, gU, hown, hneU, hleU⟩, hbU⟩ := hcut
        rw [HLT.out] at gU hown hneU
        obtain ⟨k, hk⟩ : ∃ k, A % L = k := ⟨_, rfl⟩
        have hkl : k < L := by rw [← hk]; exact Nat.mod_lt _ (by omega)
        obtain ⟨gS, rfl, hSo, hSB, hSl, ⟨u0, u1, u2, s0, s1, s2⟩, ⟨f0, f1, f2⟩, hst⟩ := row_store3 hown hkl ⟨qs, qf, qe⟩
        simp only at hst
        have HST := Lib.hid hst
        have HBU := Lib.hid hbU
        have hb5U := Below.next HB5.out hbU
        have HB5U := Lib.hid hb5U
        obtain ⟨⟨x0, x1⟩, -⟩ := open2 gU
        obtain ⟨-, -, c0, c1', c2'⟩ := HK.out wc hb5U
        have hmod : ((A : Int)).tmod (L : Int) = (k : Int) := by rw [← hk]; rfl
        have hwA : wrap64 (A : Int) = (A : Int) := by have := HAT.out; unfold wrap64; omega
        have hmod3 : (wrap64 (A : Int)).tmod (L : Int) = (k : Int) := by rw [hwA]; exact hmod
        have hmod4 : (IntKind.i64.wrap (A : Int)).tmod (L : Int) = (k : Int) := by
          have : IntKind.i64.wrap (A : Int) = (A : Int) := by have := HAT.out; unfold IntKind.wrap; simp [IntKind.bits, IntKind.signed]; omega
          rw [this]; exact hmod
        have hL0 : ¬ L = 0 := by omega
        clear hwA
        clear hst hbU hb5U hown
        have x0d : wc.drew.cell? ⟨bU, 0, none⟩ = some (.slice (some ⟨gS, 0, none⟩) L cU) := x0
        have c0d : wc.drew.cell? ⟨w.heap.size + 1, 0, none⟩ = some (.int .i64 qs) := c0
        have c1d : wc.drew.cell? ⟨w.heap.size + 1, 1, none⟩ = some (.int .i64 qf) := c1'
        have c2d : wc.drew.cell? ⟨w.heap.size + 1, 2, none⟩ = some (.int .i64 qe) := c2'
        have s0d : wc.drew.cell? ⟨gS, k * 3, none⟩ = some u0 := s0
        have s1d : wc.drew.cell? ⟨gS, k * 3 + 1, none⟩ = some u1 := s1
        have s2d : wc.drew.cell? ⟨gS, k * 3 + 2, none⟩ = some u2 := s2
        have f0d : wc.drew.frozen? ⟨gS, k * 3, none⟩ = false := f0
        have f1d : wc.drew.frozen? ⟨gS, k * 3 + 1, none⟩ = false := f1
        have f2d : wc.drew.frozen? ⟨gS, k * 3 + 2, none⟩ = false := f2
        go_upto_region 8 with fail
        go_region
        obtain ⟨W8, hW8⟩ : ∃ W8, W8 = ((wc.setCell ⟨gS, k * 3, none⟩ (.int .i64 qs)).setCell ⟨gS, k * 3 + 1, none⟩ (.int .i64 qf)).setCell ⟨gS, k * 3 + 2, none⟩ (.int .i64 qe) := ⟨_, rfl⟩
        have tm8 := HST.out W8 hW8
        have hb8 : Below w5.heap.size w5 W8 := by
          rw [hW8]
          exact ((HBU.out.setCell (p := ⟨gS, k * 3, none⟩) hSB _).setCell (p := ⟨gS, k * 3 + 1, none⟩) hSB _).setCell (p := ⟨gS, k * 3 + 2, none⟩) hSB _
        have hne8 : bU ≠ gS := fun e => hneU gS hSo e.symm
        have g8 : W8.heap[bU]? = some (.cells #[.slice (some ⟨gS, 0, none⟩) L cU, .int .i64 tr] 33 (0, 0)) := by
          rw [hW8, Below.heap_setCell _ ⟨gS, k * 3 + 2, none⟩ _ bU hne8, Below.heap_setCell _ ⟨gS, k * 3 + 1, none⟩ _ bU hne8, Below.heap_setCell _ ⟨gS, k * 3, none⟩ _ bU hne8]
          exact gU
        obtain ⟨W9, hW9⟩ : ∃ W9, W9 = W8.drew := ⟨_, rfl⟩
        have h89 : Below W8.heap.size W8 W9 := by rw [hW9]; exact below_drew (Below.refl _ _)
        have HB9 := Lib.hid (Below.next HB5.out (hb8.trans (h89.mono hb8.size)))
        have HB59 := Lib.hid (hb8.trans (h89.mono hb8.size))
        have HT9 := Lib.hid (RdK.below tm8 h89)
        have HG9 := Lib.hid (heap_below h89 g8)
        rw [← hW8, ← hW9]
        clear tm8 hb8 g8 h89 hW8 hW9 x0d c0d c1d c2d s0d s1d s2d f0d f1d f2d x0 x1 c0 c1' c2' s0 s1 s2 f0 f1 f2 gU hneU
        have HKS : Hid (∀ y : World, Below W9.heap.size W9 y → (((y.cell? ⟨b5, 0, none⟩ = some (.slice a1 X.nodes.length c1) ∧ y.cell? ⟨b5, 1, none⟩ = some (.int .i64 X.root)) ∧ (y.cell? ⟨b6, 0, none⟩ = some (.slice a2 Y.nodes.length c2) ∧ y.cell? ⟨b6, 1, none⟩ = some (.int .i64 Y.root))) ∧ y.cell? ⟨w.heap.size, 2, none⟩ = some (.int .u16 (U bv))) ∧ (y.cell? ⟨w4.heap.size, 0, none⟩ = some (.slice a4 L c4) ∧ y.cell? ⟨w4.heap.size, 1, none⟩ = some (.int .i64 tr)) ∧ (y.cell? ⟨bU, 0, none⟩ = some (.slice (some ⟨gS, 0, none⟩) L cU) ∧ y.cell? ⟨bU, 1, none⟩ = some (.int .i64 tr))) := Lib.hid (fun y hy => by
          obtain ⟨h1, h2, _⟩ := HK.out y (Below.next HB9.out hy)
          exact ⟨⟨h1, h2⟩, (open2 (heap_below (Below.next HB59.out hy) HG5.out)).1, (open2 (heap_below hy HG9.out)).1⟩)
        have HC1 := Lib.hid (fun (y : World) (hy : Below W9.heap.size W9 y) => HCK.out ⟨tn, tr⟩ a1 _ c1 a2 _ c2 a4 L c4 y (HX1.out.below (Below.next HB9.out hy)) (HX2.out.below (Below.next HB9.out hy)) (RdK.below HT5.out (Below.next HB59.out hy)))
        have HC2 := Lib.hid (fun (y : World) (hy : Below W9.heap.size W9 y) => HCK.out ⟨tn.set k ⟨qs, qf, qe⟩, tr⟩ a1 _ c1 a2 _ c2 (some ⟨gS, 0, none⟩) L cU y (HX1.out.below (Below.next HB9.out hy)) (HX2.out.below (Below.next HB9.out hy)) (RdK.below HT9.out hy))
        have HC3 := Lib.hid (fun (y : World) (hy : Below W9.heap.size W9 y) => HRC.out ⟨tn.set k ⟨qs, qf, qe⟩, tr⟩ a1 _ c1 a2 _ c2 (some ⟨gS, 0, none⟩) L cU y (HX1.out.below (Below.next HB9.out hy)) (HX2.out.below (Below.next HB9.out hy)) (RdK.below HT9.out hy))
        rw [HCT.out] at HC1
        obtain ⟨V, hV⟩ : ∃ V, certC X Y bv ⟨tn.set k ⟨qs, qf, qe⟩, tr⟩ = V := ⟨_, rfl⟩
        rw [hV] at HC2 HC3
        simp only at HC1 HC2 HC3
        have hvv : (V == V) = true := by simp
        clear hV
        go_wp2_with fail
        refine wp_region_quiet (C := fun y => Below W9.heap.size W9 y) (by kernel_rfl) (by kernel_rfl) (below_drew (Below.refl _ _)) ?_
        repeat (refine wpQuiet_step (fun K hK => ?_); go_simp; (first | (refine hK _ ?_; clear hK K) | (apply Exists.intro; refine ⟨fun y hy => ?_, hK _ ?_⟩; (first | with_reducible exact rfl | with_reducible exact ⟨rfl, hy⟩ | with_reducible exact ⟨rfl, rfl⟩ | ((with_reducible refine (HC1.out y hy).mono ?_); (rintro e w3 ⟨rfl, h3⟩; exact ⟨rfl, Below.next hy h3⟩)) | ((with_reducible refine (HC2.out y hy).mono ?_); (rintro e w3 ⟨rfl, h3⟩; exact ⟨rfl, Below.next hy h3⟩)) | ((with_reducible refine (HC3.out y hy).mono ?_); (rintro e w3 ⟨rfl, h3⟩; exact ⟨rfl, Below.next hy h3⟩)) | (obtain ⟨⟨⟨⟨k0, k1⟩, k2, k3⟩, k4⟩, ⟨k5, k6⟩, k7, k8⟩ := HKS.out y hy; go_simp; first | with_reducible exact rfl | with_reducible exact ⟨rfl, hy⟩ | with_reducible exact hy)); clear hK K)))
        refine wpQuiet_nil ?_
        intro wq hwq
        have HBQ := Lib.hid (Below.next HBC.out (Below.next HB9.out hwq))
        clear hwq
        go_wp2_with fail
        go_ret
        exact ⟨rfl, HBQ.out⟩
    · simp only [Prod.mk.injEq, Tre.mk.injEq] at hpe
      obtain ⟨_, rfl⟩ := hpe
      go_wp2_with fail
      go_ret
      exact ⟨rfl, (Below.next HBC.out HB4.out).alloc (Below.next HBC.out HB4.out).size _⟩
end Go.Proofs.YtflpkkebampmfaaDoor
