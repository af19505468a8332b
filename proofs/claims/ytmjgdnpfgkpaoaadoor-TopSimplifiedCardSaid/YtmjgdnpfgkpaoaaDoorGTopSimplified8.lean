/- Texts laid together. Package diagram: fork. Package diagram: newBuilder, leaf, done. Package diagram: grow. Package diagram: table. The reference's Holds of layer 10. The reference's node of layer 10 (printed by rnd.py). The reference's Valid of layer 10. The reference of layer 8: Size, Before, Contains, Range, Accepts, Support, Valid. Eval, the program's and the reference's. Package diagram: Of. Package diagram: server, widen. Package diagram: ordered. -/
import Derived.Test.YtmjgdnpfgkpaoaaDoorGTopSimplified2
import Derived.Test.YtmjgdnpfgkpaoaaDoorGTopSimplified3
import Derived.Test.YtmjgdnpfgkpaoaaDoorGTopSimplified5
import Derived.Test.YtmjgdnpfgkpaoaaDoorGTopSimplified6
import Derived.Test.YtmjgdnpfgkpaoaaDoorGTopSimplified7
import Derived.Deep.AppendLies
import Derived.Deep.RegionLaw
import Derived.Deep.DeepCutAuto
import Derived.Deep.CutRange
import Derived.Deep.RegionHeld3
import Derived.Laws.EntriesVeiled
import Derived.Deep.OwnRows
namespace Go.Proofs.YtmjgdnpfgkpaoaaDoor
open Go.RowKit Go.Shelf Go.Maps

theorem zIntD (w : World) : (zeroValue 3).run Tryd.prog w = .ok (.int .i64 0) w := by kernel_rfl
theorem BM.drew {w : World} {M B base : Nat} {ds : List Frk} {vF : Value} (h : BM w M B base ds vF) : BM w.drew M B base ds vF := ⟨h.bb, h.row, h.mp.at rfl, h.mb, h.bs⟩
theorem ge_old {ds : List Frk} {d : Frk} (h : d.low ≠ d.high) {i : Int} (hf : fmD ds (klD d) = some (.int .i64 i)) : forkS ds d = (i, ds) := by unfold forkS; rw [if_neg h, hf]
theorem ge_new {ds : List Frk} {d : Frk} (h : d.low ≠ d.high) (hf : fmD ds (klD d) = none) : forkS ds d = ((ds.length : Int) + 2, ds ++ [d]) := by unfold forkS; rw [if_neg h, hf]

set_option maxRecDepth 100000 in
set_option maxHeartbeats 4000000 in
theorem fork_c (M B base : Nat) (ds : List Frk) (vF : Value) (d : Frk) (w : World) (h : BM w M B base ds vF) (hwf : wfD d) (hl : ds.length ≤ 900) (hbase : base ≤ w.heap.size) :
    Calls Tryd.prog 62 #[.pointer (some ⟨B, 0, none⟩), .int .i64 d.server, .int .i64 d.low, .int .i64 d.high] w fun e w' => ∃ vF', e = .returned (.int .i64 (forkS ds d).1) ∧ BM w' M B base (forkS ds d).2 vF' ∧ Fra M B base w w' := by
  by_cases hq : d.low = d.high
  · have he : forkS ds d = (d.low, ds) := by unfold forkS; rw [if_pos hq]
    have hqb : (d.low == d.high) = true := by simpa using hq
    have H := Lib.hid h
    have HE := Lib.hid he
    clear h he hq
    go_enter Tryd.func62, Tryd.ntmps62
    go_wp2_with fail
    go_ret
    rw [HE.out]
    exact ⟨vF, rfl, H.out, Fra.refl _ _ _ _⟩
  · have hqb : (d.low == d.high) = false := by simpa using hq
    obtain ⟨av, cv, rfl, hr⟩ := rdK_of_row h.row
    obtain ⟨i0, hi0, hz0, hz1, hz2⟩ := info_parts Tryd.infoFrk
    have hB1 := h.mb
    have hB2 := h.bs
    have HKEY := Lib.hid (keyD_of hwf)
    have HLT : Hid (∀ g, (Value.slice av ds.length cv).ownBlock = some g → g < w.heap.size) := Lib.hid fun g hg => (h.row.lt g hg).2
    obtain ⟨W1, hW1⟩ : ∃ W1, W1 = w.alloc (.cells #[.int .i64 d.server, .int .i64 d.low, .int .i64 d.high] 88) := ⟨_, rfl⟩
    have hs1 : W1.heap.size = w.heap.size + 1 := by rw [hW1]; simp
    have hb1 : Below w.heap.size w W1 := by rw [hW1]; exact (Below.refl _ w).alloc (Nat.le_refl _) _
    have e1 := heap_below hb1 h.bb
    have m1 := h.mp.below hb1
    have r1 := rowK_below h.row hb1
    have ea : W1.heap[w.heap.size]? = some (.cells #[.int .i64 d.server, .int .i64 d.low, .int .i64 d.high] 88 (0, 0)) := by rw [hW1]; exact heap_alloc_new _ _
    have p0 := cell_of_row _ _ 0 _ _ _ e1
    have p1 := cell_of_row _ _ 1 _ _ _ e1
    have a0 := cell_of_row _ _ 0 _ _ _ ea
    have a1 := cell_of_row _ _ 1 _ _ _ ea
    have a2 := cell_of_row _ _ 2 _ _ _ ea
    have hlk := m1.look true kFrk Tryd.underlying125 (zIntD W1) (keyD_of hwf)
    have hlk2 := (FM.at (w' := W1.drew) m1 rfl).look true kFrk Tryd.underlying125 (zIntD W1.drew) (keyD_of hwf)
    unfold keyD at hlk hlk2
    cases hf : fmD ds (klD d) with
    | some v =>
      obtain ⟨i, rfl⟩ := fmD_int hf
      rw [hf] at hlk hlk2
      simp only [if_true, Option.getD_some, Option.isSome_some] at hlk hlk2
      have HE := Lib.hid (ge_old hq hf)
      have HF : Hid (BM W1 M B base ds (.slice av ds.length cv)) := Lib.hid ⟨e1, r1, m1, hB1, hB2⟩
      have HB1 := Lib.hid hb1
      have H := Lib.hid h
      clear h hr e1 m1 r1 ea hf hq hb1
      go_enter Tryd.func62, Tryd.ntmps62
      go_upto_region 4 with fail
      rw [← hW1]
      clear hW1
      go_wp2_with fail
      go_region
      all_goals
        go_wp2_with fail
        go_ret
        rw [HE.out]
        exact ⟨_, rfl, HF.out.drew, ⟨below_drew (HB1.out.mono (by omega)), fun g _ hg => HB1.out.block g (by omega)⟩⟩
    | none =>
      rw [hf] at hlk hlk2
      simp only [if_true, Option.getD_none, Option.isSome_none] at hlk hlk2
      have HE := Lib.hid (ge_new hq hf)
      have HM1 := Lib.hid m1
      have HR1 := Lib.hid r1
      have HE1 := Lib.hid e1
      have HEA := Lib.hid ea
      have HB1 := Lib.hid hb1
      have HS1 := Lib.hid hs1
      clear h hr e1 m1 r1 ea hf hq hb1 hs1
      go_enter Tryd.func62, Tryd.ntmps62
      go_upto_region 4 with fail
      rw [← hW1]
      clear hW1
      go_wp2_with fail
      go_region
      all_goals
        clear hlk hlk2 p0 p1 a0 a1 a2
        go_wp2_with fail
        obtain ⟨W2, hW2⟩ : ∃ W2, W1.drew = W2 := ⟨_, rfl⟩
        have e2 : W2.heap[B]? = some (.cells #[.slice av ds.length cv, .map (some M)] 127 (0, 0)) := by rw [← hW2]; exact HE1.out
        have ea2 : W2.heap[w.heap.size]? = some (.cells #[.int .i64 d.server, .int .i64 d.low, .int .i64 d.high] 88 (0, 0)) := by rw [← hW2]; exact HEA.out
        have r2 : W2.ownsRow base 88 3 (.slice av ds.length cv) ds.length (ds.flatMap frkC) := by rw [← hW2]; exact HR1.out
        have m2 : FM W2 Tryd.prog 88 M ds.length (fmD ds) := by rw [← hW2]; exact HM1.out.at rfl
        have hs2 : W2.heap.size = w.heap.size + 1 := by rw [← hW2]; exact HS1.out
        have hb2 : Below w.heap.size w W2 := by rw [← hW2]; exact below_drew HB1.out
        rw [hW2]
        clear hW2 HE1 HEA HR1 HM1 HS1 HB1
        have p0 := cell_of_row _ _ 0 _ _ _ e2
        have z0 := frozen_row e2 0
        have a0 := cell_of_row _ _ 0 _ _ _ ea2
        have a1 := cell_of_row _ _ 1 _ _ _ ea2
        have a2 := cell_of_row _ _ 2 _ _ _ ea2
        have p0b : (W2.alloc (Obj.cells #[.int .i64 d.server, .int .i64 d.low, .int .i64 d.high] 88)).cell? ⟨B, 0, none⟩ = some (.slice av ds.length cv) := cell_of_row _ _ 0 _ _ _ (heap_alloc_at e2 _)
        have HROW := Lib.hid r2
        have HS2 := Lib.hid hs2
        have HB2 := Lib.hid hb2
        have HM2 := Lib.hid m2
        have HEA2 := Lib.hid ea2
        have hBs : base ≤ W2.heap.size := by omega
        have KA : Hid (∀ x y : World, x.grownBy y (Value.slice av ds.length cv).ownBlock → x.heap[B]? = W2.heap[B]? → W2.heap.size ≤ x.heap.size → y.heap[B]? = some (.cells #[.slice av ds.length cv, .map (some M)] 127 (0, 0))) := Lib.hid (fun x y hg hx hsx => by
          rw [hg.block B (by omega) (fun e => by have := (r2.lt B e.symm).1; omega), hx]
          exact e2)
        clear r2 m2 hs2 hb2 ea2 e2
        go_region_law (first
          | (refine step_append_lies _ (by rfl) _ _ _ (by rfl) base 88 i0 _ 3 24 Tryd.underlying43 hi0 hz0 hz1 hz2 rfl (by omega) (.slice av ds.length cv) ds.length _ (by rfl) ((HROW.out.alloc _).drew) ⟨W2.heap.size, 0, none⟩ 1 1 [.int .i64 d.server, .int .i64 d.low, .int .i64 d.high] (by rfl) (by rfl) (World.news_of_block (cs := #[.int .i64 d.server, .int .i64 d.low, .int .i64 d.high]) (t := 88) (fr := (0, 0)) (heap_alloc_new W2 _)) (by simp [Value.oneCell']) (by omega) (by unfold maxLen; omega) (by omega) (by simp; omega) (W2.heap.size + 1) (by simp) ?_; intro gg cap wA hownA hgrow hat hlt; have hA := KA.out _ _ hgrow (Below.heap_alloc W2 _ B (by have := HS2.out; omega)) (by simp); have pA := cell_of_row _ _ 0 _ _ _ hA; have zA := frozen_row hA 0; have HA := Lib.hid hA; have HOA := Lib.hid hownA; have HGA := Lib.hid hgrow; clear hA hownA hgrow))
        all_goals
          go_wp2_with fail
          clear p0 z0 a0 a1 a2 p0b pA zA
          have hlow : ∀ g, g < base → (Value.slice av ds.length cv).ownBlock ≠ some g := fun g hlt e => by have := (HROW.out.lt g e).1; omega
          have hgr : ∀ g, g < w.heap.size → (Value.slice av ds.length cv).ownBlock ≠ some g → wA.heap[g]? = W2.heap[g]? := fun g hg hne => by
            rw [HGA.out.block g (by simp; have := HS2.out; omega) (fun e => hne e.symm)]
            exact Below.heap_alloc W2 _ g (by have := HS2.out; omega)
          obtain ⟨W8, hW8⟩ : ∃ W8, wA.setCell ⟨B, 0, none⟩ (.slice (some ⟨gg, 0, none⟩) (ds.length + 1) cap) = W8 := ⟨_, rfl⟩
          have hset : ∀ g, g ≠ B → W8.heap[g]? = wA.heap[g]? := fun g hne => by rw [← hW8]; exact Below.heap_setCell _ _ _ _ hne
          have e8 : W8.heap[B]? = some (.cells #[.slice (some ⟨gg, 0, none⟩) (ds.length + 1) cap, .map (some M)] 127 (0, 0)) := by rw [← hW8]; exact heap_set_at HA.out 0 _
          have m8 : FM W8 Tryd.prog 88 M ds.length (fmD ds) := HM2.out.at (by rw [hset M (by omega), hgr M (by omega) (hlow M (by omega))])
          have r8 : W8.ownsRow base 88 3 (.slice (some ⟨gg, 0, none⟩) (ds.length + 1) cap) (ds.length + 1) ((ds ++ [d]).flatMap frkC) := by
            rw [List.flatMap_append]
            exact rowK_at HOA.out fun g hg => hset g (by have := (HOA.out.lt g hg).1; omega)
          have ea8 : W8.heap[w.heap.size]? = some (.cells #[.int .i64 d.server, .int .i64 d.low, .int .i64 d.high] 88 (0, 0)) := by
            rw [hset _ (by omega), HGA.out.block w.heap.size (by simp; have := HS2.out; omega) (fun e => by have := HLT.out _ e.symm; omega), World.drew, Below.heap_alloc W2 _ _ (by have := HS2.out; omega)]
            exact HEA2.out
          have b8 : Below M w W8 := by
            have h1 := (HB2.out.mono (B' := M) (by omega)).alloc (by have := HS2.out; omega) (.cells #[.int .i64 d.server, .int .i64 d.low, .int .i64 d.high] 88)
            have h2 := (below_drew h1).grown HGA.out (by simp; have := HS2.out; omega) (fun k hk => by have := (HROW.out.lt k hk).1; omega)
            rw [← hW8]
            exact h2.setCell (p := ⟨B, 0, none⟩) (by show M ≤ B; omega) _
          have mid8 : ∀ g, B < g → g < base → W8.heap[g]? = w.heap[g]? := fun g h1 h2 => by
            rw [hset g (by omega), hgr g (by omega) (hlow g h2)]
            exact HB2.out.block g (by omega)
          have HSZ8 : Hid (base ≤ W8.heap.size) := Lib.hid (by have := (Array.getElem?_eq_some_iff.1 ea8).1; omega)
          rw [hW8]
          have a0 := cell_of_row _ _ 0 _ _ _ ea8
          have a1 := cell_of_row _ _ 1 _ _ _ ea8
          have a2 := cell_of_row _ _ 2 _ _ _ ea8
          have q1 := cell_of_row _ _ 1 _ _ _ e8
          have HM8 := Lib.hid m8
          have HR8 := Lib.hid r8
          have HE8 := Lib.hid e8
          have HB8 := Lib.hid b8
          have HMID8 := Lib.hid mid8
          clear m8 r8 e8 b8 mid8 ea8 hset hlow hgr hW8
          obtain ⟨w9, hrun9, hf9, hg9, hs9⟩ := FM.put (w := W8.drew) (HM8.out.at rfl) kFrk Tryd.underlying125 (by unfold maxLen; omega) HKEY.out (.int .i64 ((ds.length : Int) + 1 + 1))
          unfold keyD at hrun9
          have HF9 := Lib.hid hf9
          have HG9 := Lib.hid hg9
          have HS9 := Lib.hid hs9
          clear hf9 hg9 hs9
          go_region
          all_goals
            clear a0 a1 a2 q1 hrun9
            go_wp2_with fail
            go_ret
            have hkeep : ∀ g, g < W8.heap.size → g ≠ M → w9.heap[g]? = W8.heap[g]? := fun g hg hne => HG9.out.block g hg (fun e => by injection e with e; exact hne e)
            have hB8 : B < W8.heap.size := (Array.getElem?_eq_some_iff.1 HE8.out).1
            have hsz8 : base ≤ W8.heap.size := HSZ8.out
            rw [HE.out]
            refine ⟨_, by rw [show (ds.length : Int) + 1 + 1 = (ds.length : Int) + 2 by omega]; rfl, ⟨by rw [hkeep B hB8 (by omega)]; exact HE8.out, ?_, ?_, hB1, hB2⟩, ((below_drew HB8.out).grown HG9.out (by show M ≤ W8.heap.size; omega) (fun k hk => by injection hk with hk; omega)), fun g h1 h2 => (hkeep g (by omega) (by omega)).trans (HMID8.out g h1 h2)⟩
            · have hr := rowK_at HR8.out fun g hg => hkeep g (HR8.out.lt g hg).2 (by have := (HR8.out.lt g hg).1; omega)
              rw [List.length_append, List.length_singleton]
              exact hr
            · have hm := HF9.out
              rw [List.length_append, List.length_singleton, fmD_snoc, show (ds.length : Int) + 2 = (ds.length : Int) + 1 + 1 by omega]
              exact hm
end Go.Proofs.YtmjgdnpfgkpaoaaDoor
namespace Go.Proofs.YtmjgdnpfgkpaoaaDoor
open Go.RowKit Go.Shelf Go.Maps

set_option maxRecDepth 100000 in
set_option maxHeartbeats 1000000 in
theorem newBuilder_c (w : World) :
    Calls Tryd.prog 59 #[] w fun e w' => e = .returned (.pointer (some ⟨w.heap.size + 1, 0, none⟩)) ∧ (∀ base, w.heap.size + 1 < base → BM w' w.heap.size (w.heap.size + 1) base [] (.slice none 0 0)) ∧ w'.heap.size = w.heap.size + 2 ∧ Below w.heap.size w w' := by
  have hmm := @run_makeMap Tryd.prog
  go_enter Tryd.func59, Tryd.ntmps59
  go_wp2_with fail
  have hb1 : Below w.heap.size w (w.alloc (.map #[] 0)) := (Below.refl _ w).alloc (Nat.le_refl _) _
  have hb2 := hb1.alloc hb1.size (.cells #[.slice none 0 0, .map (some w.heap.size)] 127)
  have hn := heap_alloc_new (w.alloc (.map #[] 0)) (.cells #[.slice none 0 0, .map (some w.heap.size)] 127)
  rw [World.size_alloc] at hn
  have hm := (FM.made w Tryd.prog 88).at (w' := (w.alloc (.map #[] 0)).alloc (.cells #[.slice none 0 0, .map (some w.heap.size)] 127)) (Below.heap_alloc _ _ _ (by rw [World.size_alloc]; exact Nat.lt_succ_self _))
  go_ret
  exact ⟨rfl, fun base hlt => ⟨hn, World.ownsRow_nil _ _ _ _, hm, Nat.lt_succ_self _, hlt⟩, by simp, hb2⟩
theorem leaf_c (b : Bool) (w : World) : Calls Tryd.prog 61 #[.bool b] w fun e w' => e = .returned (.int .i64 (if b then 1 else 0)) ∧ w' = w := by
  cases b
  all_goals
    go_enter Tryd.func61, Tryd.ntmps61
    go_wp2_with fail
    go_ret
    exact ⟨rfl, rfl⟩
set_option maxRecDepth 100000 in
set_option maxHeartbeats 1000000 in
theorem done_c (M B base : Nat) (ds : List Frk) (vF : Value) (n r : Int) (w : World) (h : BM w M B base ds vF) :
    Calls Tryd.prog 63 #[.pointer (some ⟨B, 0, none⟩), .int .i64 n, .int .i64 r] w fun e w' => e = .returned (.agg #[.int .i64 n, vF, .int .i64 r]) ∧ Below w.heap.size w w' := by
  obtain ⟨av, cv, rfl, hr⟩ := rdK_of_row h.row
  have p0 := cell_of_row _ _ 0 _ _ _ h.bb
  have p0b : (w.alloc (.cells #[.int .i64 0, .slice none 0 0, .int .i64 0] 45)).cell? ⟨B, 0, none⟩ = some (.slice av ds.length cv) := cell_of_row _ _ 0 _ _ _ (heap_alloc_at h.bb _)
  go_enter Tryd.func63, Tryd.ntmps63
  go_wp2_with fail
  refine bodyPost_ret (v := .agg #[.int .i64 n, .slice av ds.length cv, .int .i64 r]) ?_ rfl ⟨rfl, (Below.refl _ w).alloc (Nat.le_refl _) _⟩
  exact results_cell_row rfl _ _ _ _ _ _ _ rfl (heap_alloc_new w _) Tryd.underlying45 rfl (by kernel_rfl)
/-- how a diagram grows: server n - k, the set so far, the forks so far -/
def gro (acc : BitVec 16 → Bool) (n : Nat) : Nat → BitVec 16 → List Frk → Int × List Frk
  | 0, z, ds => (if acc z then 1 else 0, ds)
  | k + 1, z, ds => forkS (gro acc n k (z ||| bitS (n - (k + 1))) (gro acc n k z ds).2).2 ⟨((n - (k + 1) : Nat) : Int), (gro acc n k z ds).1, (gro acc n k (z ||| bitS (n - (k + 1))) (gro acc n k z ds).2).1⟩
theorem fmA_bound : ∀ (l : List Frk) (f : Lit → Option Value) (n m : Nat), (∀ kl (i : Int), f kl = some (.int .i64 i) → 0 ≤ i ∧ i ≤ m) → n + l.length ≤ m + 1 → ∀ kl (i : Int), fmA f n l kl = some (.int .i64 i) → 0 ≤ i ∧ i ≤ m
  | [], f, n, m, h, _ => h
  | e :: l, f, n, m, h, hl => fmA_bound l _ (n + 1) m (fun kl i hv => by
      rw [List.length_cons] at hl
      unfold updF at hv
      split at hv
      · cases hv; omega
      · exact h kl i hv) (by rw [List.length_cons] at hl; omega)
theorem forkS_bd {ds : List Frk} {d : Frk} (h : 0 ≤ d.low ∧ d.low ≤ ds.length + 2) : (0 ≤ (forkS ds d).1 ∧ (forkS ds d).1 ≤ (forkS ds d).2.length + 2) ∧ ds.length ≤ (forkS ds d).2.length ∧ (forkS ds d).2.length ≤ ds.length + 1 := by
  unfold forkS
  by_cases hq : d.low = d.high
  · rw [if_pos hq]; exact ⟨h, Nat.le_refl _, Nat.le_succ _⟩
  · rw [if_neg hq]
    split
    · rename_i k i he
      obtain ⟨j, hj⟩ := fmD_int he
      injection hj with h1 h2
      subst h1
      have := fmA_bound ds (fun _ => none) 2 (ds.length + 2) (fun _ _ h => by cases h) (by omega) _ _ he
      exact ⟨this, Nat.le_refl _, Nat.le_succ _⟩
    · rw [List.length_append, List.length_singleton]
      exact ⟨⟨by show 0 ≤ (ds.length : Int) + 2; omega, by show (ds.length : Int) + 2 ≤ _; omega⟩, by omega, by omega⟩
theorem gro_bd (acc : BitVec 16 → Bool) (n : Nat) : ∀ (k : Nat) (z : BitVec 16) (ds : List Frk), (0 ≤ (gro acc n k z ds).1 ∧ (gro acc n k z ds).1 ≤ (gro acc n k z ds).2.length + 2) ∧ ds.length ≤ (gro acc n k z ds).2.length ∧ (gro acc n k z ds).2.length + 1 ≤ ds.length + 2 ^ k
  | 0, z, ds => by unfold gro; refine ⟨?_, Nat.le_refl _, Nat.le_refl _⟩; split <;> exact ⟨by omega, by omega⟩
  | k + 1, z, ds => by
    obtain ⟨⟨a1, a2⟩, a3, a4⟩ := gro_bd acc n k z ds
    obtain ⟨⟨b1, b2⟩, b3, b4⟩ := gro_bd acc n k (z ||| bitS (n - (k + 1))) (gro acc n k z ds).2
    unfold gro
    obtain ⟨c1, c2, c3⟩ := forkS_bd (ds := (gro acc n k (z ||| bitS (n - (k + 1))) (gro acc n k z ds).2).2) (d := ⟨((n - (k + 1) : Nat) : Int), (gro acc n k z ds).1, (gro acc n k (z ||| bitS (n - (k + 1))) (gro acc n k z ds).2).1⟩) ⟨a1, by show (gro acc n k z ds).1 ≤ _; omega⟩
    rw [Nat.pow_succ]
    exact ⟨c1, by omega, by omega⟩
end Go.Proofs.YtmjgdnpfgkpaoaaDoor
namespace Go.Proofs.YtmjgdnpfgkpaoaaDoor
open Go.RowKit Go.Shelf Go.Maps

/-- what table's closure has caught -/
structure GEnv (w0 w : World) (M B base X2 X3 X5 X6 n G : Nat) (lb : Array Value) : Prop where
  x2 : w.cell? ⟨X2, 0, none⟩ = some (.int .i64 n)
  x3 : w.cell? ⟨X3, 0, none⟩ = some (.func (.func G) #[] lb)
  x5 : w.cell? ⟨X5, 0, none⟩ = some (.pointer (some ⟨B, 0, none⟩))
  x6 : w.cell? ⟨X6, 0, none⟩ = some (.func (.func 60) #[] #[.pointer (some ⟨X2, 0, none⟩), .pointer (some ⟨X3, 0, none⟩), .pointer (some ⟨X6, 0, none⟩), .pointer (some ⟨X5, 0, none⟩)])
  l2 : X2 < M
  l3 : X3 < M
  l5 : B < X5
  b5 : X5 < base
  l6 : B < X6
  b6 : X6 < base
  bl : Below M w0 w
  bs : base ≤ w.heap.size
theorem Fra.size {M B base : Nat} {w w' : World} (h : Fra M B base w w') (hs : base ≤ w.heap.size) (hB : B + 1 < base) : base ≤ w'.heap.size := by
  have h1 := h.mid (base - 1) (by omega) (by omega)
  have h2 : w.heap[base - 1]? = some w.heap[base - 1] := Array.getElem?_eq_getElem (by omega)
  rw [h2] at h1
  have := (Array.getElem?_eq_some_iff.1 h1).1
  omega
theorem GEnv.fra {w0 w w' : World} {M B base X2 X3 X5 X6 n G : Nat} {lb : Array Value} (h : GEnv w0 w M B base X2 X3 X5 X6 n G lb) (k : Fra M B base w w') : GEnv w0 w' M B base X2 X3 X5 X6 n G lb :=
  ⟨(World.cell?_of_block (k.bl.block X2 h.l2)).trans h.x2, (World.cell?_of_block (k.bl.block X3 h.l3)).trans h.x3, (World.cell?_of_block (k.mid X5 h.l5 h.b5)).trans h.x5, (World.cell?_of_block (k.mid X6 h.l6 h.b6)).trans h.x6, h.l2, h.l3, h.l5, h.b5, h.l6, h.b6, h.bl.trans k.bl, k.size h.bs (by have := h.l5; have := h.b5; omega)⟩
theorem BM.below {w w' : World} {M B base : Nat} {ds : List Frk} {vF : Value} (h : BM w M B base ds vF) (hb : Below w.heap.size w w') : BM w' M B base ds vF := ⟨heap_below hb h.bb, rowK_below h.row hb, h.mp.below hb, h.mb, h.bs⟩
theorem Fra.of_below {M B base : Nat} {w w' : World} (h : Below w.heap.size w w') (hM : M ≤ w.heap.size) (hb : base ≤ w.heap.size) : Fra M B base w w' := ⟨h.mono hM, fun g _ hg => h.block g (by omega)⟩
theorem eg_table : ∀ args w, (callFunc 60 args).run Tryd.prog w = .ok (.enter 60 args) w := enters_of Tryd.func60 (by kernel_rfl) rfl
theorem wf64 {x : Int} (h : 0 ≤ x) (h2 : x ≤ 2000) : (Lit.int .i64 x).wf = true := by
  simp [Lit.wf, IntKind.min, IntKind.max, IntKind.bits, IntKind.signed]; omega
/-- a function value that answers whether a set is a member -/
def AccAt (w0 : World) (M G : Nat) (lb : Array Value) (acc : BitVec 16 → Bool) : Prop := ∀ (z : BitVec 16) (W : World), Below M w0 W → Calls Tryd.prog G (#[.int .u16 (U z)] ++ lb) W fun e w' => e = .returned (.bool (acc z)) ∧ Below W.heap.size W w'

set_option maxRecDepth 100000 in
set_option maxHeartbeats 4000000 in
theorem grow_c (acc : BitVec 16 → Bool) (n G : Nat) (hn : n ≤ 12) (lb : Array Value) (eg : ∀ args w, (callFunc G args).run Tryd.prog w = .ok (.enter G args) w) (w0 : World) (M B base X2 X3 X5 X6 : Nat) (hacc : AccAt w0 M G lb acc) :
    ∀ (k : Nat), k ≤ n → ∀ (z : BitVec 16) (ds : List Frk) (vF : Value) (w : World), GEnv w0 w M B base X2 X3 X5 X6 n G lb → BM w M B base ds vF → ds.length + 2 ^ k ≤ 900 →
      Calls Tryd.prog 60 #[.int .i64 ((n - k : Nat) : Int), .int .u16 (U z), .pointer (some ⟨X2, 0, none⟩), .pointer (some ⟨X3, 0, none⟩), .pointer (some ⟨X6, 0, none⟩), .pointer (some ⟨X5, 0, none⟩)] w fun e w' => ∃ vF', e = .returned (.int .i64 (gro acc n k z ds).1) ∧ BM w' M B base (gro acc n k z ds).2 vF' ∧ Fra M B base w w'
  | 0, hk, z, ds, vF, w, he, hb, hl => by
    have x2 := he.x2
    have x3 := he.x3
    have hq : ((n : Int) == (n : Int)) = true := by simp
    have HA := Lib.hid (hacc z w he.bl)
    have HB := Lib.hid hb
    have HE := Lib.hid he
    clear hb he hacc
    obtain ⟨q, hq2⟩ : ∃ q, acc z = q := ⟨_, rfl⟩
    have HG : Hid (gro acc n 0 z ds = (if q = true then 1 else 0, ds)) := Lib.hid (by unfold gro; rw [hq2])
    rw [hq2] at HA
    rw [Nat.sub_zero, HG.out]
    clear hq2 HG
    cases q
    all_goals
      go_enter Tryd.func60, Tryd.ntmps60
      go_wp2_with fail
      with_reducible refine HA.out.mono ?_
      rintro e w1 ⟨rfl, hb1⟩
      have HB1 := Lib.hid hb1
      clear hb1
      go_wp2_with fail
      with_reducible refine (leaf_c _ w1).mono ?_
      rintro e w2 ⟨rfl, rfl⟩
      go_wp2_with fail
      go_ret
      refine ⟨rfl, ⟨vF, HB.out.below HB1.out⟩, Fra.of_below HB1.out ?_ HE.out.bs⟩
      have := HE.out.bs; have := HE.out.l5; have := HE.out.b5; have := HB.out.mb
      omega
  | k + 1, hk, z, ds, vF, w, he, hb, hl => by
    obtain ⟨i, hi⟩ : ∃ i, n - (k + 1) = i := ⟨_, rfl⟩
    have hi1 : n - k = i + 1 := by omega
    obtain ⟨⟨a1, a2⟩, a3, a4⟩ := gro_bd acc n k z ds
    obtain ⟨⟨b1, b2⟩, b3, b4⟩ := gro_bd acc n k (z ||| bitS i) (gro acc n k z ds).2
    rw [Nat.pow_succ] at hl
    have HC1 := Lib.hid (grow_c acc n G hn lb eg w0 M B base X2 X3 X5 X6 hacc k (by omega) z ds vF w he hb (by omega))
    have HC2 := Lib.hid (fun vF' w' h1 h2 => grow_c acc n G hn lb eg w0 M B base X2 X3 X5 X6 hacc k (by omega) (z ||| bitS i) (gro acc n k z ds).2 vF' w' h1 h2 (by omega))
    have HG : Hid (gro acc n (k + 1) z ds = forkS (gro acc n k (z ||| bitS i) (gro acc n k z ds).2).2 ⟨(i : Int), (gro acc n k z ds).1, (gro acc n k (z ||| bitS i) (gro acc n k z ds).2).1⟩) := Lib.hid (by
      conv => lhs; unfold gro
      rw [hi])
    rw [hi, HG.out]
    rw [hi1, show ((i + 1 : Nat) : Int) = (i : Int) + 1 from rfl] at HC1 HC2
    clear HG
    obtain ⟨R1, hR1⟩ : ∃ R1, gro acc n k z ds = R1 := ⟨_, rfl⟩
    rw [hR1] at HC1 HC2 a1 a2 a3 a4 b1 b2 b3 b4 ⊢
    obtain ⟨R2, hR2⟩ : ∃ R2, gro acc n k (z ||| bitS i) R1.2 = R2 := ⟨_, rfl⟩
    rw [hR2] at HC2 b1 b2 b3 b4 ⊢
    obtain ⟨l, ds1⟩ := R1
    obtain ⟨h, ds2⟩ := R2
    simp only at HC1 HC2 a1 a2 a3 a4 b1 b2 b3 b4 ⊢
    have HC3 := fun vF' w' h1 h2 => fork_c M B base ds2 vF' ⟨(i : Int), l, h⟩ w' h1 ⟨wf64 (by show 0 ≤ (i : Int); omega) (by show (i : Int) ≤ 2000; omega), wf64 (by show 0 ≤ l; omega) (by show l ≤ 2000; omega), wf64 (by show 0 ≤ h; omega) (by show h ≤ 2000; omega)⟩ (by omega) h2
    dsimp only at HC3
    have HC3 := Lib.hid HC3
    have hin : ((i : Int) == (n : Int)) = false := by
      have : (i : Int) ≠ n := by omega
      simpa using this
    have hi12 : i < 12 := by omega
    have x2 := he.x2
    have x6 := he.x6
    have HE := Lib.hid he
    have eg1 := eg_table
    clear he hb hacc hR1 hR2 hi hi1
    go_enter Tryd.func60, Tryd.ntmps60
    go_wp2_with fail
    with_reducible refine HC1.out.mono ?_
    rintro e w1 ⟨vF1, rfl, hm1, hf1⟩
    have HM1 := Lib.hid hm1
    have HF1 := Lib.hid hf1
    have he1 := HE.out.fra hf1
    have HE1 := Lib.hid he1
    clear HC1 hm1 hf1 he1 x2 x6
    go_wp2_with fail
    have KS : Hid (∀ u : World, GEnv w0 u M B base X2 X3 X5 X6 n G lb → u.cell? ⟨X5, 0, none⟩ = some (.pointer (some ⟨B, 0, none⟩)) ∧ u.cell? ⟨X6, 0, none⟩ = some (.func (.func 60) #[] #[.pointer (some ⟨X2, 0, none⟩), .pointer (some ⟨X3, 0, none⟩), .pointer (some ⟨X6, 0, none⟩), .pointer (some ⟨X5, 0, none⟩)])) := Lib.hid (fun u hu => ⟨hu.x5, hu.x6⟩)
    have HY : Hid (GEnv w0 w1.drew M B base X2 X3 X5 X6 n G lb) := Lib.hid (HE1.out.fra ⟨below_drew (Below.refl _ _), fun _ _ _ => rfl⟩)
    refine wp_region_noPanic ?_
    refine wp_region_takes (fun u => GEnv w0 u M B base X2 X3 X5 X6 n G lb) [0, 1, 2, 3, 4, 5, 6, 7, 8, 9] 3 (by kernel_rfl) (by kernel_rfl) (by kernel_rfl) (fun _ _ _ _ _ h => h) HY.out ?_
    repeat (refine wpTk_cons rfl (fun K hK => ?_); go_simp; apply Exists.intro; refine ⟨fun u hu => ?_, hK _ ?_⟩; (first | exact rfl | (obtain ⟨q1, q2⟩ := KS.out u hu; go_simp; done) | (obtain ⟨q1, q2⟩ := KS.out u hu; go_simp; exact rfl)); clear hK K)
    refine wpTk_nil ?_
    rw [show IntKind.i64.wrap ((i : Int) + 1) = (i : Int) + 1 by unfold IntKind.wrap; simp [IntKind.bits, IntKind.signed]; omega]
    refine held_ready (rs := [10]) (by kernel_rfl) (by simp) ?_
    refine AllReadyH.cons rfl (fun K hK => ?_) AllReadyH.nil
    go_simp
    with_reducible refine (HC2.out vF1 _ HY.out HM1.out.drew).mono ?_
    rintro e w2 ⟨vF2, rfl, hm2, hf2⟩
    have HY2 := Lib.hid (HY.out.fra hf2)
    have HM2 := Lib.hid hm2
    have HF2 := Lib.hid hf2
    clear HM1 hm2 hf2 HY HC2
    go_simp
    refine hK.out _ _ HY2.out (fun hh => ?_)
    clear hh hK K; try simp only [Act.put, List.setIfInBounds_toArray, List.set_cons_zero, List.set_cons_succ]
    refine held_ready (rs := [11]) (by kernel_rfl) (by simp) ?_
    refine AllReadyH.cons rfl (fun K hK => ?_) AllReadyH.nil
    go_simp
    with_reducible refine (HC3.out vF2 _ HM2.out HY2.out.bs).mono ?_
    rintro e w3 ⟨vF3, rfl, hm3, hf3⟩
    have HY3 := Lib.hid (HY2.out.fra hf3)
    have HM3 := Lib.hid hm3
    have HF3 := Lib.hid hf3
    clear HM2 hm3 hf3 HY2
    go_simp
    refine hK.out _ _ HY3.out (fun hh => ?_)
    clear hh hK K; try simp only [Act.put, List.setIfInBounds_toArray, List.set_cons_zero, List.set_cons_succ]
    refine held_takes (f := 0) (by kernel_rfl) (fun _ _ _ _ _ h => h) HY3.out [12] _ _ (by kernel_rfl) ?_
    refine wpTk_cons rfl (fun K hK => ?_)
    go_simp
    apply Exists.intro
    refine ⟨fun y hy => rfl, hK _ ?_⟩
    clear hK K
    refine wpTk_nil ?_
    refine wpAnyH_done (by kernel_rfl) (NoPanic.normal ?_) _
    go_wp2_with fail
    go_ret
    exact ⟨_, rfl, HM3.out, (HF1.out.trans ⟨below_drew (Below.refl _ _), fun _ _ _ => rfl⟩).trans (HF2.out.trans HF3.out)⟩
end Go.Proofs.YtmjgdnpfgkpaoaaDoor
namespace Go.Proofs.YtmjgdnpfgkpaoaaDoor
open Go.RowKit Go.Shelf Go.Maps

theorem AccAt.at {w w0 : World} {M G : Nat} {lb : Array Value} {acc : BitVec 16 → Bool} (h : AccAt w w.heap.size G lb acc) (hb : Below w.heap.size w w0) (hM : w.heap.size ≤ M) : AccAt w0 M G lb acc := fun z W hW => h z W (hb.trans (hW.mono hM))

theorem boxes2 {w W : World} {c0 c1 : Array Value} {t0 t1 : TypeId} (h : (w.alloc (.cells c0 t0)).alloc (.cells c1 t1) = W) :
    W.heap[w.heap.size]? = some (.cells c0 t0 (0, 0)) ∧ W.heap[w.heap.size + 1]? = some (.cells c1 t1 (0, 0)) ∧ W.heap.size = w.heap.size + 2 ∧ Below w.heap.size w W := by
  subst h
  have h1 := heap_alloc_new (w.alloc (.cells c0 t0)) (.cells c1 t1)
  rw [World.size_alloc] at h1
  exact ⟨heap_alloc_at (heap_alloc_new w _) _, h1, by simp, ((Below.refl _ w).alloc (Nat.le_refl _) _).alloc (by simp) _⟩
theorem set3_c {w W : World} {g : Nat} {a b c x y z : Value} {t : TypeId} (h : ((w.setCell ⟨g, 0, none⟩ a).setCell ⟨g, 1, none⟩ b).setCell ⟨g, 2, none⟩ c = W) (hg : w.heap[g]? = some (.cells #[x, y, z] t (0, 0))) :
    W.heap[g]? = some (.cells #[a, b, c] t (0, 0)) ∧ ∀ k, k ≠ g → W.heap[k]? = w.heap[k]? := by
  subst h
  refine ⟨?_, fun k hk => ?_⟩
  · rw [heap_set_at (heap_set_at (heap_set_at hg 0 a) 1 b) 2 c]; rfl
  · rw [Below.heap_setCell _ _ _ _ hk, Below.heap_setCell _ _ _ _ hk, Below.heap_setCell _ _ _ _ hk]
/-- what table's last statement reads -/
structure TabS (u : World) (B X2 X3 X5 X6 n : Nat) : Prop where
  x5 : u.cell? ⟨X5, 0, none⟩ = some (.pointer (some ⟨B, 0, none⟩))
  x2 : u.cell? ⟨X2, 0, none⟩ = some (.int .i64 n)
  x6 : u.cell? ⟨X6, 0, none⟩ = some (.func (.func 60) #[] #[.pointer (some ⟨X2, 0, none⟩), .pointer (some ⟨X3, 0, none⟩), .pointer (some ⟨X6, 0, none⟩), .pointer (some ⟨X5, 0, none⟩)])
set_option maxRecDepth 100000 in
set_option maxHeartbeats 4000000 in
theorem table_c (acc : BitVec 16 → Bool) (n G : Nat) (hn : n ≤ 9) (lb : Array Value) (eg : ∀ args w, (callFunc G args).run Tryd.prog w = .ok (.enter G args) w) (w : World) (hacc : AccAt w w.heap.size G lb acc) :
    Calls Tryd.prog 32 #[.int .i64 n, .func (.func G) #[] lb] w fun e w' => ∃ vF, e = .returned (.agg #[.int .i64 n, vF, .int .i64 (gro acc n n 0#16 []).1]) ∧ w'.ownsRow w.heap.size 88 3 vF (gro acc n n 0#16 []).2.length ((gro acc n n 0#16 []).2.flatMap frkC) ∧ Below w.heap.size w w' := by
  have HA := Lib.hid hacc
  clear hacc
  obtain ⟨r, ds, hR⟩ : ∃ r ds, gro acc n n 0#16 [] = (r, ds) := ⟨_, _, rfl⟩
  have HRR := Lib.hid hR
  rw [hR]
  clear hR
  simp only
  go_enter Tryd.func32, Tryd.ntmps32
  go_wp2_with fail
  generalize hW1 : ((w.alloc _).alloc _).alloc _ = W1
  have hs1 : W1.heap.size = w.heap.size + 3 := by rw [← hW1]; simp
  have hb1 : Below w.heap.size w W1 := by rw [← hW1]; exact (((Below.refl _ w).alloc (Nat.le_refl _) _).alloc (by simp) _).alloc (by simp; omega) _
  have g0 : W1.heap[w.heap.size]? = some (.cells #[.int .i64 n] 3 (0, 0)) := by
    rw [← hW1]; exact heap_alloc_at (heap_alloc_at (heap_alloc_new _ _) _) _
  have g1 : ∃ t, W1.heap[w.heap.size + 1]? = some (.cells #[.func (.func G) #[] lb] t (0, 0)) := by
    have := heap_alloc_new (w.alloc (Obj.cells #[Value.int IntKind.i64 n] 3)) (.cells #[Value.func (Fn.func G) #[] lb] 84)
    rw [World.size_alloc] at this
    rw [← hW1]; exact ⟨_, heap_alloc_at this _⟩
  have g2 : W1.heap[w.heap.size + 2]? = some (.cells #[.int .i64 0, .slice none 0 0, .int .i64 0] 45 (0, 0)) := by
    rw [← hW1]
    have := heap_alloc_new ((w.alloc (Obj.cells #[Value.int IntKind.i64 n] 3)).alloc (.cells #[Value.func (Fn.func G) #[] lb] 84)) (.cells #[.int .i64 0, .slice none 0 0, .int .i64 0] 45)
    rw [World.size_alloc, World.size_alloc] at this
    exact this
  have G0 := Lib.hid g0
  have G1 := Lib.hid g1
  have G2 := Lib.hid g2
  have HB1 := Lib.hid hb1
  clear hW1 g0 g1 g2 hb1
  with_reducible refine (newBuilder_c W1).mono ?_
  rintro e w2 ⟨rfl, hm2, hs2, hb2⟩
  have HM2 := Lib.hid hm2
  have HB2 := Lib.hid hb2
  clear hm2 hb2
  go_upto_region 3 with fail
  generalize hW3 : (w2.alloc _).alloc _ = W3
  obtain ⟨k5, k6, hs3, hb3⟩ := boxes2 hW3
  have hs3 : W3.heap.size = w.heap.size + 7 := by omega
  have g5 : ∃ t, W3.heap[w.heap.size + 5]? = some (.cells #[.pointer (some ⟨w.heap.size + 4, 0, none⟩)] t (0, 0)) := ⟨_, (congrArg (fun q => W3.heap[q]?) (by omega)).trans k5⟩
  obtain ⟨t6, g6⟩ : ∃ t, W3.heap[w.heap.size + 6]? = some (.cells #[.nilFunc] t (0, 0)) := ⟨_, (congrArg (fun q => W3.heap[q]?) (by omega)).trans k6⟩
  have p6 : W3.cell? ⟨w.heap.size + 3 + 2 + 1, 0, none⟩ = some .nilFunc := cell_of_row _ _ 0 _ _ _ g6
  have z6 : W3.frozen? ⟨w.heap.size + 3 + 2 + 1, 0, none⟩ = false := frozen_row g6 0
  have HS3 := Lib.hid hs3
  have HB3 := Lib.hid hb3
  have G5 := Lib.hid g5
  have G6 := Lib.hid g6
  clear hW3 hb3 g5 g6 k5 k6
  go_wp2_with fail
  generalize hW4 : W3.setCell _ _ = W4
  have hset : ∀ g, g ≠ w.heap.size + 6 → W4.heap[g]? = W3.heap[g]? := fun g hne => by rw [← hW4]; exact Below.heap_setCell _ _ _ _ hne
  have hs4 : W4.heap.size = w.heap.size + 7 := by rw [← hW4]; simp; omega
  have h6 : W4.cell? ⟨w.heap.size + 3 + 2 + 1, 0, none⟩ = some (.func (.func 60) #[] #[.pointer (some ⟨w.heap.size, 0, none⟩), .pointer (some ⟨w.heap.size + 1, 0, none⟩), .pointer (some ⟨w.heap.size + 3 + 2 + 1, 0, none⟩), .pointer (some ⟨w.heap.size + 3 + 2, 0, none⟩)]) := by
    rw [← hW4]
    exact cell_of_row _ _ 0 _ _ _ (heap_set_at G6.out 0 _)
  have hold : ∀ g, g < w.heap.size + 3 → W4.heap[g]? = W1.heap[g]? := fun g hg => by
    rw [hset g (by omega), HB3.out.block g (by omega), HB2.out.block g (by omega)]
  obtain ⟨t3, hg1⟩ := G1.out
  obtain ⟨t5, hg5⟩ := G5.out
  have hBM : BM W4 (w.heap.size + 3) (w.heap.size + 3 + 1) (w.heap.size + 7) [] (.slice none 0 0) := by
    have h1 := HM2.out (w.heap.size + 7) (by omega)
    rw [hs1] at h1
    have h2 := BM.below h1 HB3.out
    exact ⟨by rw [hset _ (by omega)]; exact h2.bb, World.ownsRow_nil _ _ _ _, h2.mp.at (hset _ (by omega)), h2.mb, h2.bs⟩
  have hE : GEnv W4 W4 (w.heap.size + 3) (w.heap.size + 3 + 1) (w.heap.size + 7) w.heap.size (w.heap.size + 1) (w.heap.size + 3 + 2) (w.heap.size + 3 + 2 + 1) n G lb :=
    ⟨cell_of_row _ _ 0 _ _ _ ((hold _ (by omega)).trans G0.out), cell_of_row _ _ 0 _ _ _ ((hold _ (by omega)).trans hg1), cell_of_row _ _ 0 _ _ _ ((hset _ (by omega)).trans hg5), h6, by omega, by omega, by omega, by omega, by omega, by omega, Below.refl _ _, by omega⟩
  have hb4 : Below w.heap.size w W4 := by
    rw [← hW4]
    exact ((HB1.out.trans (HB2.out.mono (by omega))).trans (HB3.out.mono (by omega))).setCell (p := ⟨w.heap.size + 3 + 2 + 1, 0, none⟩) (by show w.heap.size ≤ w.heap.size + 3 + 2 + 1; omega) _
  have h24 : W4.heap[w.heap.size + 2]? = some (.cells #[.int .i64 0, .slice none 0 0, .int .i64 0] 45 (0, 0)) := (hold _ (by omega)).trans G2.out
  have hpow : 2 ^ n ≤ 512 := Nat.pow_le_pow_right (by omega) hn
  have HC : Hid (∀ (W : World), GEnv W4 W (w.heap.size + 3) (w.heap.size + 3 + 1) (w.heap.size + 7) w.heap.size (w.heap.size + 1) (w.heap.size + 3 + 2) (w.heap.size + 3 + 2 + 1) n G lb → BM W (w.heap.size + 3) (w.heap.size + 3 + 1) (w.heap.size + 7) [] (.slice none 0 0) →
      Calls Tryd.prog 60 #[.int .i64 0, .int .u16 0, .pointer (some ⟨w.heap.size, 0, none⟩), .pointer (some ⟨w.heap.size + 1, 0, none⟩), .pointer (some ⟨w.heap.size + 3 + 2 + 1, 0, none⟩), .pointer (some ⟨w.heap.size + 3 + 2, 0, none⟩)] W fun e w' => ∃ vF', e = .returned (.int .i64 (gro acc n n 0#16 []).1) ∧ BM w' (w.heap.size + 3) (w.heap.size + 3 + 1) (w.heap.size + 7) (gro acc n n 0#16 []).2 vF' ∧ Fra (w.heap.size + 3) (w.heap.size + 3 + 1) (w.heap.size + 7) W w') := Lib.hid (fun W h1 h2 => by
    have h3 := grow_c acc n G (by omega) lb eg W4 _ _ _ _ _ _ _ (HA.out.at (M := w.heap.size + 3) hb4 (by omega)) n (Nat.le_refl _) 0#16 [] (.slice none 0 0) W h1 h2 (by show 0 + 2 ^ n ≤ 900; omega)
    rw [Nat.sub_self] at h3
    exact h3)
  rw [HRR.out] at HC
  simp only at HC
  have HY : Hid (GEnv W4 W4.drew (w.heap.size + 3) (w.heap.size + 3 + 1) (w.heap.size + 7) w.heap.size (w.heap.size + 1) (w.heap.size + 3 + 2) (w.heap.size + 3 + 2 + 1) n G lb) := Lib.hid (hE.fra ⟨below_drew (Below.refl _ _), fun _ _ _ => rfl⟩)
  have HMM := Lib.hid hBM.drew
  have HB4 := Lib.hid hb4
  have H24 := Lib.hid h24
  have eg1 := eg_table
  clear hW4 hset h6 hold hg1 hg5 hBM hE hb4 h24 hpow p6 z6 HM2 HB1 HB2 HB3 G0 G1 G2 G5 G6 hs1 hs2 hs3 HS3
  refine wp_region_noPanic ?_
  refine wp_region_takes (fun u => TabS u (w.heap.size + 3 + 1) w.heap.size (w.heap.size + 1) (w.heap.size + 3 + 2) (w.heap.size + 3 + 2 + 1) n) [0, 1, 2] 3 (by kernel_rfl) (by kernel_rfl) (by kernel_rfl) (fun _ _ _ _ _ h => h) ⟨HY.out.x5, HY.out.x2, HY.out.x6⟩ ?_
  repeat (refine wpTk_cons rfl (fun K hK => ?_); go_simp; apply Exists.intro; refine ⟨fun u hu => ?_, hK _ ?_⟩; (first | exact rfl | (obtain ⟨q1, q2, q3⟩ := hu; go_simp; done) | (obtain ⟨q1, q2, q3⟩ := hu; go_simp; exact rfl)); clear hK K)
  refine wpTk_nil ?_
  refine held_ready (rs := [3]) (by kernel_rfl) (by simp) ?_
  refine AllReadyH.cons rfl (fun K hK => ?_) AllReadyH.nil
  go_simp
  with_reducible refine (HC.out _ HY.out HMM.out).mono ?_
  rintro e w5 ⟨vF5, rfl, hm5, hf5⟩
  obtain ⟨av, cv, rfl, _⟩ := rdK_of_row hm5.row
  have HY5 := Lib.hid (HY.out.fra hf5)
  have HM5 := Lib.hid hm5
  have HF5 := Lib.hid hf5
  clear HMM hm5 hf5 HY HC
  go_simp
  refine hK.out _ _ ⟨HY5.out.x5, HY5.out.x2, HY5.out.x6⟩ (fun hh => ?_)
  clear hh hK K; try simp only [Act.put, List.setIfInBounds_toArray, List.set_cons_zero, List.set_cons_succ]
  refine held_ready (rs := [4]) (by kernel_rfl) (by simp) ?_
  refine AllReadyH.cons rfl (fun K hK => ?_) AllReadyH.nil
  go_simp
  with_reducible refine (done_c _ _ _ ds _ n r w5 HM5.out).mono ?_
  rintro e w6 ⟨rfl, hb6⟩
  have HM6 := Lib.hid (HM5.out.below hb6)
  have HY6 := Lib.hid (HY5.out.fra (Fra.of_below hb6 (by have := HY5.out.bs; omega) HY5.out.bs))
  have HB6 := Lib.hid hb6
  clear hb6 HY5
  go_simp
  refine hK.out _ _ ⟨HY6.out.x5, HY6.out.x2, HY6.out.x6⟩ (fun hh => ?_)
  clear hh hK K; try simp only [Act.put, List.setIfInBounds_toArray, List.set_cons_zero, List.set_cons_succ]
  have h26 : w6.heap[w.heap.size + 2]? = some (.cells #[.int .i64 0, .slice none 0 0, .int .i64 0] 45 (0, 0)) := by
    rw [HB6.out.block _ (by have := HY6.out.bs; have := HF5.out.size (by show _ ≤ W4.heap.size; omega) (by omega); omega), HF5.out.bl.block _ (by omega)]
    exact H24.out
  have p0 : w6.cell? ⟨w.heap.size + 1 + 1, 0, none⟩ = some (.int .i64 0) := cell_of_row _ _ 0 _ _ _ h26
  have p1 : w6.cell? ⟨w.heap.size + 1 + 1, 1, none⟩ = some (.slice none 0 0) := cell_of_row _ _ 1 _ _ _ h26
  have p2 : w6.cell? ⟨w.heap.size + 1 + 1, 2, none⟩ = some (.int .i64 0) := cell_of_row _ _ 2 _ _ _ h26
  have z0 : w6.frozen? ⟨w.heap.size + 1 + 1, 0, none⟩ = false := frozen_row h26 0
  have z1 : w6.frozen? ⟨w.heap.size + 1 + 1, 1, none⟩ = false := frozen_row h26 1
  have z2 : w6.frozen? ⟨w.heap.size + 1 + 1, 2, none⟩ = false := frozen_row h26 2
  have H26 := Lib.hid h26
  clear h26
  refine held_ready (rs := [5]) (by kernel_rfl) (by simp) ?_
  refine AllReadyH.cons rfl (fun K hK => ?_) AllReadyH.nil
  go_simp
  clear p0 p1 p2 z0 z1 z2
  generalize hW8 : World.setCell _ _ _ = W8
  obtain ⟨g8, k8⟩ := set3_c hW8 H26.out
  have c8 : ∀ g, g ≠ w.heap.size + 2 → W8.cell? ⟨g, 0, none⟩ = w6.cell? ⟨g, 0, none⟩ := fun g hne => World.cell?_of_block (k8 g hne)
  have hb8 : Below w.heap.size w W8 := by
    have h1 := HB4.out.trans ((below_drew (Below.refl W4.heap.size W4)).mono (B' := w.heap.size) (by omega))
    have h2 := h1.trans (HF5.out.bl.mono (B' := w.heap.size) (by omega))
    have h3 := Below.next h2 HB6.out
    rw [← hW8]
    exact ((h3.setCell (p := ⟨w.heap.size + 1 + 1, 0, none⟩) (by show w.heap.size ≤ w.heap.size + 1 + 1; omega) _).setCell (p := ⟨w.heap.size + 1 + 1, 1, none⟩) (by show w.heap.size ≤ w.heap.size + 1 + 1; omega) _).setCell (p := ⟨w.heap.size + 1 + 1, 2, none⟩) (by show w.heap.size ≤ w.heap.size + 1 + 1; omega) _
  have r8 := rowK_at HM6.out.row (w' := W8) fun g hg => k8 g (by have := (HM6.out.row.lt g hg).1; omega)
  have G8 := Lib.hid g8
  have HB8 := Lib.hid hb8
  have HR8 := Lib.hid r8
  clear hW8 k8 g8 hb8 r8
  refine hK.out _ _ ⟨(c8 _ (by omega)).trans HY6.out.x5, (c8 _ (by omega)).trans HY6.out.x2, (c8 _ (by omega)).trans HY6.out.x6⟩ (fun hh => ?_)
  clear hh hK K c8; try simp only [Act.put, List.setIfInBounds_toArray, List.set_cons_zero, List.set_cons_succ]
  refine wpAnyH_done (by kernel_rfl) (NoPanic.normal ?_) _
  go_wp2_with fail
  refine bodyPost_ret (v := .agg #[.int .i64 n, .slice av ds.length cv, .int .i64 r]) ?_ rfl ⟨_, rfl, ?_, HB8.out⟩
  · exact results_cell_row rfl _ _ _ _ _ _ _ rfl G8.out Tryd.underlying45 rfl (by kernel_rfl)
  · exact rowK_mono HR8.out (by omega)
end Go.Proofs.YtmjgdnpfgkpaoaaDoor
namespace Go.Proofs.YtmjgdnpfgkpaoaaDoor
open Go.RowKit Go.Shelf

theorem Tryd.infoBl : (Tryd.prog.info? 4).map (fun i => (i.zero, i.size, i.bytes)) = some (some (.bool false), 1, 1) := by kernel_rfl
theorem make_bool (m : Nat) (hm : m ≤ 1000000) : ∀ w, (Instr.makeSlice 130 (.int .i64 m) (.int .i64 m)).run Tryd.prog w = .ok (.slice (some ⟨w.heap.size, 0, none⟩) m m) (w.alloc (.cells (madeCells #[.bool false] m) 4)) :=
  fun w => run_make_row' 130 4 (.bool false) 1 Tryd.underlying130 Tryd.infoBl rfl .i64 .i64 m (by omega) (by omega) w
/-- so many places, the first ones filled -/
def isN (n : Nat) (l : List Bool) : Array Value := ((l ++ List.replicate (n - l.length) false).map Value.bool).toArray
theorem isN_made (n : Nat) : madeCells #[.bool false] n = isN n [] := by
  apply Array.toList_inj.1
  rw [toList_madeCells_one]; unfold isN; simp
theorem isN_at {n : Nat} {l : List Bool} (h : l.length ≤ n) {i : Nat} (hi : i < n) : (isN n l)[i]? = some (.bool (l.getD i false)) := by
  unfold isN
  rw [List.getElem?_toArray, List.getElem?_map, List.getD_eq_getElem?_getD]
  by_cases h1 : i < l.length
  · rw [List.getElem?_append_left h1, List.getElem?_eq_getElem h1]; rfl
  · rw [List.getElem?_append_right (by omega), List.getElem?_replicate, if_pos (by omega), List.getElem?_eq_none (by omega)]; rfl
theorem isN_set {n : Nat} {l : List Bool} (h : l.length < n) (v : Bool) : (isN n l).setIfInBounds l.length (.bool v) = isN n (l ++ [v]) := by
  unfold isN
  rw [List.setIfInBounds_toArray]
  congr 1
  have e : n - l.length = (n - (l ++ [v]).length) + 1 := by simp; omega
  rw [e, List.replicate_succ, List.map_append, List.map_append, List.map_append, List.map_cons, List.set_append_right _ _ (by simp)]
  simp

end Go.Proofs.YtmjgdnpfgkpaoaaDoor
namespace Go.Proofs.YtmjgdnpfgkpaoaaDoor
open Go.RowKit Go.Shelf

end Go.Proofs.YtmjgdnpfgkpaoaaDoor
namespace Go.Proofs.YtmjgdnpfgkpaoaaDoor
open Go.RowKit Go.Shelf

/-- no node has so many weights and kids that their number is none of Go's -/
def XprSum (x : Xpr) : Prop := ∀ (k : Nat) nd, x.nodes[k]? = some nd → nd.weights.length + nd.kids.length ≤ 9223372036854775807

end Go.Proofs.YtmjgdnpfgkpaoaaDoor
namespace Go.Proofs.YtmjgdnpfgkpaoaaDoor
open Go.RowKit Go.Shelf

theorem cntTo_succ (x : BitVec 16) (k : Nat) : (memTo x (k + 1)).length = (memTo x k).length + (if hasB x k then 1 else 0) := by
  rw [memTo_succ]; cases hasB x k <;> simp
@[go_sem] theorem b01_conv (b : Bool) : IntKind.i64.wrap (b01 b) = b01 b := by cases b <;> decide

/-- x comes before y -/
def befB (x y : BitVec 16) : Bool := decide (keyS x < keyS y)
theorem bef_ne {x y : BitVec 16} (h : cnt x ≠ cnt y) : befB x y = decide (cnt x < cnt y) := by
  unfold befB keyS; have := x.isLt; have := y.isLt
  rw [Bool.eq_iff_iff, decide_eq_true_iff, decide_eq_true_iff]; omega
theorem bef_eq {x y : BitVec 16} (h : cnt x = cnt y) : befB x y = decide (U x < U y) := by
  unfold befB keyS U
  rw [Bool.eq_iff_iff, decide_eq_true_iff, decide_eq_true_iff]; omega

end Go.Proofs.YtmjgdnpfgkpaoaaDoor
namespace Go.Proofs.YtmjgdnpfgkpaoaaDoor
open Go.RowKit Go.Shelf

def evalS (x : Xpr) (s : BitVec 16) : Bool × Int := if xprE x ≠ 0 then (false, xprE x) else if 4096 ≤ s.toNat then (false, 7) else (holdX x s, 0)

set_option maxRecDepth 100000 in
set_option maxHeartbeats 1000000 in
theorem evalx_c (x : Xpr) (hf : XprFew x) (s : BitVec 16) (a : Option Addr) (n c : Nat) (w : World) (h : XM w a n c x.nodes) :
    Calls Tryd.prog 34 #[.agg #[.slice a n c, .int .i64 x.root], .int .u16 (U s)] w fun e w' => e = .returned (.tuple #[.bool (evalS x s).1, .int .i64 (evalS x s).2]) ∧ Below w.heap.size w w' := by
  have H1 := Lib.hid (fun (v : World) (hb : Below w.heap.size w v) => xpr_c x a n c v (h.below hb))
  obtain ⟨W2, hW2⟩ : ∃ W2, W2 = w.alloc (.cells #[.slice a n c, .int .i64 x.root] 28) := ⟨_, rfl⟩
  have hb2 : Below w.heap.size w W2 := by rw [hW2]; exact (Below.refl _ w).alloc (Nat.le_refl _) _
  have HB2 := Lib.hid hb2
  by_cases hx : xprE x = 0
  · by_cases hs : 4096 ≤ s.toNat
    · have hR : evalS x s = (false, 7) := by unfold evalS; rw [if_neg (by rw [hx]; simp), if_pos hs]
      rw [hR]
      rw [hx] at H1
      have hd : decide (4096 ≤ U s) = true := decide_eq_true (by unfold U; omega)
      clear h hf hx hR hb2 hs
      go_enter Tryd.func34, Tryd.ntmps34
      go_wp2_with fail
      rw [← hW2]
      refine (H1.out W2 HB2.out).mono ?_
      rintro e w1 ⟨rfl, hb1⟩
      go_wp2_with fail
      go_ret2
      exact ⟨rfl, Below.next HB2.out hb1⟩
    · have hR : evalS x s = (holdX x s, 0) := by unfold evalS; rw [if_neg (by rw [hx]; simp), if_neg hs]
      rw [hR]
      exact eval_c x hx hf s (by omega) a n c w h
  · have hR : evalS x s = (false, xprE x) := by unfold evalS; rw [if_pos hx]
    obtain ⟨E, hE⟩ : ∃ E, xprE x = E := ⟨_, rfl⟩
    rw [hR, hE]
    rw [hE] at H1 hx
    have hne : (E != 0) = true := by simpa using hx
    clear h hf hx hR hb2 hE
    go_enter Tryd.func34, Tryd.ntmps34
    go_wp2_with fail
    rw [← hW2]
    refine (H1.out W2 HB2.out).mono ?_
    rintro e w1 ⟨rfl, hb1⟩
    go_wp2_with fail
    go_ret2
    exact ⟨rfl, Below.next HB2.out hb1⟩
end Go.Proofs.YtmjgdnpfgkpaoaaDoor
namespace Go.Proofs.YtmjgdnpfgkpaoaaDoor
open Go.RowKit Go.Shelf Go.Maps

theorem eg_of1 : ∀ args w, (callFunc 33 args).run Tryd.prog w = .ok (.enter 33 args) w := enters_of Tryd.func33 (by kernel_rfl) rfl
set_option maxRecDepth 100000 in
set_option maxHeartbeats 1000000 in
theorem of1_c (x : Xpr) (hf : XprFew x) (X1 : Nat) (a : Option Addr) (n c : Nat) (z : BitVec 16) (W : World) (hg : W.heap[X1]? = some (.cells #[.slice a n c, .int .i64 x.root] 28 (0, 0))) (h : XM W a n c x.nodes) :
    Calls Tryd.prog 33 #[.int .u16 (U z), .pointer (some ⟨X1, 0, none⟩)] W fun e w' => e = .returned (.bool (evalS x z).1) ∧ Below W.heap.size W w' := by
  have p0 := cell_of_row _ _ 0 _ _ _ hg
  have p1 := cell_of_row _ _ 1 _ _ _ hg
  have HE := Lib.hid (evalx_c x hf z a n c W h)
  clear h hg
  go_enter Tryd.func33, Tryd.ntmps33
  go_wp2_with fail
  with_reducible refine HE.out.mono ?_
  rintro e w1 ⟨rfl, hb1⟩
  go_wp2_with fail
  go_ret
  exact ⟨rfl, hb1⟩
theorem of1_at (x : Xpr) (hf : XprFew x) (X1 : Nat) (a : Option Addr) (n c : Nat) (w : World) (hg : w.heap[X1]? = some (.cells #[.slice a n c, .int .i64 x.root] 28 (0, 0))) (h : XM w a n c x.nodes) :
    AccAt w w.heap.size 33 #[.pointer (some ⟨X1, 0, none⟩)] (fun z => (evalS x z).1) := fun z W hW => by
  show Calls Tryd.prog 33 #[.int .u16 (U z), .pointer (some ⟨X1, 0, none⟩)] W _
  exact of1_c x hf X1 a n c z W (heap_below hW hg) (h.below hW)
/-- the servers of some nodes -/
def nmx (l : List Nod) : Int := l.foldl (fun m nd => if nd.kind = 1 then max m (nd.server + 1) else m) 0
theorem nmx_take {l : List Nod} {k : Nat} {nd : Nod} (h : l[k]? = some nd) : nmx (l.take (k + 1)) = if nd.kind = 1 then max (nmx (l.take k)) (nd.server + 1) else nmx (l.take k) := by
  unfold nmx
  rw [List.take_add_one, h, Option.toList_some, List.foldl_append]
  rfl
set_option maxRecDepth 100000 in
set_option maxHeartbeats 4000000 in
theorem dof_c (x : Xpr) (hx : xprE x = 0) (hf : XprFew x) (m : Nat) (hm : nmx x.nodes = m) (hm9 : m ≤ 9) (a : Option Addr) (n c : Nat) (w : World) (h : XM w a n c x.nodes) :
    Calls Tryd.prog 13 #[.agg #[.slice a n c, .int .i64 x.root]] w fun e w' => ∃ vF, e = .returned (.tuple #[.agg #[.int .i64 m, vF, .int .i64 (gro (fun z => (evalS x z).1) m m 0#16 []).1], .int .i64 0]) ∧ w'.ownsRow w.heap.size 88 3 vF (gro (fun z => (evalS x z).1) m m 0#16 []).2.length ((gro (fun z => (evalS x z).1) m m 0#16 []).2.flatMap frkC) ∧ Below w.heap.size w w' := by
  have ok := xprE_ok hx
  have hle := h.le
  have hmx := h.max
  unfold maxLen at hmx
  have hnpos : 0 < n := by have h1 := ok.pos; have h2 := h.len; omega
  have HV := Lib.hid (fun (v : World) (hb : Below w.heap.size w v) => xpr_c x a n c v (h.below hb))
  rw [hx] at HV
  have HX := Lib.hid h
  have HO := Lib.hid ok
  have HM := Lib.hid hm
  have HF := Lib.hid hf
  have HN := Lib.hid h.len
  clear h ok hx hm hf
  obtain ⟨b, o, rfl, _⟩ := HX.out.at' hnpos
  go_enter Tryd.func13, Tryd.ntmps13
  go_wp2_with fail
  generalize hW1 : (w.alloc _).alloc _ = W1
  obtain ⟨k0, k1, hs1, hb1⟩ := boxes2 hW1
  have HC := Lib.hid (HV.out W1 (hb1.mono (Nat.le_refl _)))
  have K0 := Lib.hid k0
  have K1 := Lib.hid k1
  have HB1 := Lib.hid hb1
  clear hW1 k0 k1 hb1 HV
  with_reducible refine HC.out.mono ?_
  rintro e w2 ⟨rfl, hb2⟩
  have k0 := heap_below hb2 K0.out
  have p0 := cell_of_row _ _ 0 _ _ _ k0
  have p1 := cell_of_row _ _ 1 _ _ _ k0
  have K02 := Lib.hid k0
  have K12 := Lib.hid (heap_below hb2 K1.out)
  have HB2 := Lib.hid (Below.next HB1.out hb2)
  have hs2 : w.heap.size + 2 ≤ w2.heap.size := by have := hb2.size; omega
  clear hb2 k0 HC K0 K1
  go_wp2_with fail
  go_loopw [5, 17] (fun v i wr => ∃ k : Nat, k ≤ n ∧ i = .int .i64 k ∧ v = .int .i64 (nmx (x.nodes.take k)) ∧ Below w2.heap.size w2 wr) (fun _ i _ => n - (intOf i).toNat)
  case atStart => exact ⟨0, Nat.zero_le _, rfl, rfl, Below.refl _ _⟩
  case round =>
    obtain ⟨k, hk, rfl, rfl, hb⟩ := hrel
    have HB := Lib.hid hb
    clear p0 p1
    by_cases hlt : k < n
    · obtain ⟨nd, hnd⟩ : ∃ nd, x.nodes[k]? = some nd := ⟨_, List.getElem?_eq_getElem (by have := HN.out; omega)⟩
      obtain ⟨b', o', ha, hat⟩ := HX.out.at' (by omega)
      cases ha
      have hM := hat k nd hnd
      obtain ⟨a3, n3, c3, m3, r3⟩ := hM.ws
      obtain ⟨a4, n4, c4, m4, r4⟩ := hM.ks
      have hbb := Below.next HB2.out hb
      have m0 := cell_keep hbb hM.c0
      have m1 := cell_keep hbb hM.c1
      have m2 := cell_keep hbb hM.c2
      have m3 := cell_keep hbb m3
      have m4 := cell_keep hbb m4
      have HT := Lib.hid (nmx_take hnd)
      have hsv := (HO.out.node k nd hnd).server
      obtain ⟨g, hg⟩ : ∃ g, nmx (x.nodes.take k) = g := ⟨_, rfl⟩
      rw [hg] at HT ⊢
      obtain ⟨kind, server, need, ws, ks⟩ := nd
      simp only at m0 m1 m2 hsv HT
      clear hM r3 r4 hat hnd hb hbb hg
      by_cases hkd : kind = 1
      · subst hkd
        rw [if_pos rfl] at HT
        go_wp2_with fail
        go_roundw
        case rel => exact ⟨k + 1, by omega, by go_num, by rw [HT.out], HB.out.alloc HB.out.size _⟩
        case measure => simp [intOf]; omega
      · have hkb : (kind == 1) = false := by simpa using hkd
        rw [if_neg hkd] at HT
        go_wp2_with fail
        go_roundw
        case rel => exact ⟨k + 1, by omega, by go_num, by rw [HT.out], HB.out.alloc HB.out.size _⟩
        case measure => simp [intOf]; omega
    · obtain rfl : k = n := by omega
      rw [List.take_of_length_le (Nat.le_of_eq HN.out), HM.out]
      have HTB := Lib.hid (table_c (fun z => (evalS x z).1) m 33 hm9 #[.pointer (some ⟨w.heap.size, 0, none⟩)] eg_of1 wr (of1_at x HF.out w.heap.size _ _ _ wr (heap_below HB.out K02.out) ((HX.out.below HB2.out).below HB.out)))
      go_wp2_with fail
      with_reducible refine HTB.out.mono ?_
      rintro e w3 ⟨vF, rfl, hrow, hb3⟩
      obtain ⟨av, cv, rfl, _⟩ := rdK_of_row hrow
      have h3 : w3.heap[w.heap.size + 1]? = some (.cells #[.int .i64 0, .slice none 0 0, .int .i64 0] 45 (0, 0)) := heap_below hb3 (heap_below HB.out K12.out)
      have p0 := cell_of_row _ _ 0 _ _ _ h3
      have p1 := cell_of_row _ _ 1 _ _ _ h3
      have p2 := cell_of_row _ _ 2 _ _ _ h3
      have z0 := frozen_row h3 0
      have z1 := frozen_row h3 1
      have z2 := frozen_row h3 2
      have H3 := Lib.hid h3
      have HROW := Lib.hid hrow
      have HB3 := Lib.hid (Below.next HB2.out (Below.next HB.out hb3))
      have hsr := HB.out.size
      clear HTB h3 hrow hb3
      go_wp2_with fail
      clear p0 p1 p2 z0 z1 z2
      generalize hW8 : World.setCell _ _ _ = W8
      obtain ⟨g8, k8⟩ := set3_c hW8 H3.out
      have hb8 : Below w.heap.size w W8 := by
        rw [← hW8]
        exact ((HB3.out.setCell (p := ⟨w.heap.size + 1, 0, none⟩) (by show w.heap.size ≤ w.heap.size + 1; omega) _).setCell (p := ⟨w.heap.size + 1, 1, none⟩) (by show w.heap.size ≤ w.heap.size + 1; omega) _).setCell (p := ⟨w.heap.size + 1, 2, none⟩) (by show w.heap.size ≤ w.heap.size + 1; omega) _
      have r8 := rowK_mono (rowK_at HROW.out (w' := W8) fun g hg => k8 g (by have := (HROW.out.lt g hg).1; omega)) (B' := w.heap.size) (by omega)
      refine bodyPost_ret (v := .tuple #[.agg #[.int .i64 m, .slice av _ cv, .int .i64 (gro (fun z => (evalS x z).1) m m 0#16 []).1], .int .i64 0]) ?_ rfl ⟨_, rfl, r8, hb8⟩
      rw [results_cell_tmp rfl]
      have hld := run_loadVar_row (P := Tryd.prog) W8 (w.heap.size + 1) 45 45 _ (0, 0) _ g8 Tryd.underlying45 rfl (by kernel_rfl)
      simp [asAddr, Result.andThen, hld]
end Go.Proofs.YtmjgdnpfgkpaoaaDoor
namespace Go.Proofs.YtmjgdnpfgkpaoaaDoor
open Go.RowKit Go.Shelf Go.Maps

/-- the server of a node -/
def srvD (N : Int) (ds : List Frk) (i : Nat) : Int := if i < 2 then N else ((ds[i - 2]?).map Frk.server).getD 0
theorem boxes1 {w W : World} {c0 : Array Value} {t0 : TypeId} (h : w.alloc (.cells c0 t0) = W) : W.heap[w.heap.size]? = some (.cells c0 t0 (0, 0)) ∧ W.heap.size = w.heap.size + 1 ∧ Below w.heap.size w W := by
  subst h
  exact ⟨heap_alloc_new w _, by simp, (Below.refl _ w).alloc (Nat.le_refl _) _⟩
set_option maxRecDepth 100000 in
set_option maxHeartbeats 1000000 in
theorem dserver_c (N root : Int) (ds : List Frk) (a : Option Addr) (n c : Nat) (hn : ds.length = n) (hn9 : n ≤ 900) (i : Nat) (hi : i < n + 2) (w : World) (h : RdK 3 w a n c (ds.flatMap frkC)) :
    Calls Tryd.prog 37 #[.agg #[.int .i64 N, .slice a n c, .int .i64 root], .int .i64 i] w fun e w' => e = .returned (.int .i64 (srvD N ds i)) ∧ Below w.heap.size w w' := by
  by_cases h2 : i < 2
  · have hs : srvD N ds i = N := by unfold srvD; rw [if_pos h2]
    have hd : decide ((i : Int) < 2) = true := decide_eq_true (by omega)
    rw [hs]
    clear h hs
    go_enter Tryd.func37, Tryd.ntmps37
    go_upto_region 1 with fail
    generalize hW1 : w.alloc _ = W1
    obtain ⟨k0, hs1, hb1⟩ := boxes1 hW1
    have p0 := cell_of_row _ _ 0 _ _ _ k0
    clear hW1 k0
    go_wp2_with fail
    go_ret
    exact ⟨rfl, hb1⟩
  · obtain ⟨j, rfl⟩ : ∃ j, i = j + 2 := ⟨i - 2, by omega⟩
    obtain ⟨d, hd⟩ : ∃ d, ds[j]? = some d := ⟨_, List.getElem?_eq_getElem (by omega)⟩
    have hs : srvD N ds (j + 2) = d.server := by unfold srvD; rw [if_neg h2, Nat.add_sub_cancel, hd]; rfl
    have hdd : decide ((j : Int) + 2 < 2) = false := decide_eq_false (by omega)
    have hjn : j < n := by omega
    rw [hs, show ((j + 2 : Nat) : Int) = (j : Int) + 2 from rfl]
    have HR := Lib.hid h
    have hle := h.le
    have hmx := h.max
    unfold maxLen at hmx
    clear h hs
    go_enter Tryd.func37, Tryd.ntmps37
    go_upto_region 1 with fail
    generalize hW1 : w.alloc _ = W1
    obtain ⟨k0, hs1, hb1⟩ := boxes1 hW1
    have p0 := cell_of_row _ _ 0 _ _ _ k0
    have p1 := cell_of_row _ _ 1 _ _ _ k0
    obtain ⟨b, o, ha, hcell⟩ := RdK.cells (HR.out.below hb1) frkC_len (by omega)
    subst ha
    have g0 : W1.cell? ⟨b, o + j * 3, none⟩ = some (.int .i64 d.server) := hcell j d hd 0 (by omega)
    have hsub : IntKind.i64.wrap ((j : Int) + 2 - 2) = (j : Int) := by unfold IntKind.wrap; simp [IntKind.bits, IntKind.signed]; omega
    clear hW1 k0 hcell
    go_wp2_with fail
    go_ret
    exact ⟨rfl, hb1⟩
theorem Tryd.infoI64 : (Tryd.prog.info? 2).map (fun i => (i.zero, i.size, i.bytes)) = some (some (.int .i64 0), 1, 8) := by kernel_rfl
def i6 (x : Int) : Value := .int .i64 x
def iA (l : List Int) : Array Value := (l.map i6).toArray
theorem iA_at {l : List Int} {i : Nat} (h : i < l.length) : (iA l)[i]? = some (.int .i64 (l[i]?.getD 0)) := by
  unfold iA
  rw [List.getElem?_toArray, List.getElem?_map, List.getElem?_eq_getElem h]; rfl
theorem iA_set (l : List Int) (i : Nat) (v : Int) : (iA l).setIfInBounds i (.int .i64 v) = iA (l.set i v) := by
  unfold iA
  rw [List.setIfInBounds_toArray, show (Value.int .i64 v) = i6 v from rfl, List.map_set]
theorem make_i64 (m : Nat) (hm : m ≤ 1000000) : ∀ w, (Instr.makeSlice 48 (.int .i64 m) (.int .i64 m)).run Tryd.prog w = .ok (.slice (some ⟨w.heap.size, 0, none⟩) m m) (w.alloc (.cells (madeCells #[.int .i64 0] m) 2)) :=
  fun w => run_make_row' 48 2 (.int .i64 0) 8 Tryd.underlying48 Tryd.infoI64 rfl .i64 .i64 m (by omega) (by omega) w
theorem iA_made (m : Nat) : madeCells #[.int .i64 0] m = iA (List.replicate m 0) := by
  apply Array.toList_inj.1
  rw [toList_madeCells_one]; unfold iA; simp [i6]
theorem iA_Rd {w : World} {g : Nat} {l : List Int} (h : w.heap[g]? = some (.cells (iA l) 2 (0, 0))) (hm : l.length ≤ maxLen) : Rd w (some ⟨g, 0, none⟩) l.length l.length (l.map i6) := by
  refine ⟨(List.length_map ..).symm, Nat.le_refl _, hm, fun h => (by cases h), fun _ => ⟨_, 0, rfl, fun i v hv => ?_⟩⟩
  rw [Nat.zero_add]
  refine (cell_of_row _ _ i _ _ _ h).trans ?_
  unfold iA
  rw [List.getElem?_toArray]; exact hv
def addAt (l : List Int) (j : Nat) (x : Int) : List Int := l.set j (wrap64 (l[j]?.getD 0 + x))
theorem addAt_len (l : List Int) (j : Nat) (x : Int) : (addAt l j x).length = l.length := List.length_set
def stepA : List Int → Nat → List Int → List Int
  | [], _, acc => acc
  | x :: xs, j, acc => stepA xs (j + 1) (addAt (addAt acc j x) (j + 1) x)
theorem stepA_len : ∀ (l : List Int) (j : Nat) (acc : List Int), (stepA l j acc).length = acc.length
  | [], _, _ => rfl
  | x :: xs, j, acc => by show (stepA xs (j + 1) _).length = _; rw [stepA_len xs, addAt_len, addAt_len]
theorem stepA_snoc (x : Int) : ∀ (l : List Int) (j : Nat) (acc : List Int), stepA (l ++ [x]) j acc = addAt (addAt (stepA l j acc) (j + l.length) x) (j + l.length + 1) x
  | [], _, _ => rfl
  | y :: xs, j, acc => by
    show stepA (xs ++ [x]) (j + 1) _ = _
    rw [stepA_snoc x xs]
    show _ = addAt (addAt (stepA xs (j + 1) _) _ x) _ x
    rw [List.length_cons, show j + 1 + xs.length = j + (xs.length + 1) by omega]
theorem stepA_take {l : List Int} {k : Nat} {x : Int} (h : l[k]? = some x) (acc : List Int) : stepA (l.take (k + 1)) 0 acc = addAt (addAt (stepA (l.take k) 0 acc) k x) (k + 1) x := by
  rw [List.take_add_one, h, Option.toList_some, stepA_snoc, List.length_take, Nat.min_eq_left (Nat.le_of_lt (List.getElem?_eq_some_iff.1 h).1), Nat.zero_add]
/-- a row of counts, seen from so many servers above -/
def widenM (l : List Int) : Nat → List Int
  | 0 => l
  | k + 1 => stepA (widenM l k) 0 (List.replicate ((widenM l k).length + 1) 0)
theorem widenM_len (l : List Int) : ∀ k, (widenM l k).length = l.length + k
  | 0 => rfl
  | k + 1 => by unfold widenM; rw [stepA_len, List.length_replicate, widenM_len l k, Nat.add_assoc]

set_option maxRecDepth 100000 in
set_option maxHeartbeats 4000000 in
theorem widen_c (l : List Int) (m : Nat) (hm : m ≤ 12) (a : Option Addr) (n c : Nat) (hn : n ≤ 5000) (w : World) (h : Rd w a n c (l.map i6)) :
    Calls Tryd.prog 36 #[.slice a n c, .int .i64 m] w fun e w' => ∃ a' c', e = .returned (.slice a' (n + m) c') ∧ Rd w' a' (n + m) c' ((widenM l m).map i6) ∧ Below w.heap.size w w' := by
  have HN : Hid (l.length = n) := Lib.hid (by have := h.len; rw [List.length_map] at this; exact this.symm)
  have HR := Lib.hid h
  clear h
  go_enter Tryd.func36, Tryd.ntmps36
  go_wp2_with fail
  go_loopw [0, 9] (fun v i wr => ∃ (k : Nat) (a' : Option Addr) (c' : Nat), k ≤ m ∧ i = .int .i64 k ∧ v = .slice a' (n + k) c' ∧ Rd wr a' (n + k) c' ((widenM l k).map i6) ∧ Below w.heap.size w wr) (fun _ i _ => m - (intOf i).toNat)
  case atStart => exact ⟨0, a, c, Nat.zero_le _, rfl, rfl, HR.out, Below.refl _ _⟩
  case round =>
    obtain ⟨k, a', c', hk, rfl, rfl, hrd, hb⟩ := hrel
    have hle := hrd.le
    have hmx := hrd.max
    unfold maxLen at hmx
    have HRD := Lib.hid hrd
    have HB := Lib.hid hb
    clear hrd hb
    by_cases hlt : k < m
    · obtain ⟨L, hL⟩ : ∃ L, widenM l k = L := ⟨_, rfl⟩
      have HLN : Hid (L.length = n + k) := Lib.hid (by rw [← hL, widenM_len, HN.out])
      have HW : Hid (widenM l (k + 1) = stepA L 0 (List.replicate (n + k + 1) 0)) := Lib.hid (by
        conv => lhs; unfold widenM
        rw [hL, HLN.out])
      rw [hL] at HRD
      clear hL
      obtain ⟨p, hp⟩ : ∃ p, n + k = p := ⟨_, rfl⟩
      rw [hp] at HRD HLN HW hle ⊢
      have hmk := make_i64 (p + 1) (by omega)
      rw [show ((p + 1 : Nat) : Int) = (p : Int) + 1 from rfl, iA_made] at hmk
      go_upto_region 4 with fail
      generalize hW1 : wr.alloc _ = W1
      obtain ⟨k1, hs1, hb1⟩ := boxes1 hW1
      have K1 := Lib.hid k1
      have HB1 := Lib.hid hb1
      clear hW1 k1 hb1 hmk
      go_wp2_with fail
      obtain ⟨W0, hW0⟩ : ∃ W0, W0 = wr := ⟨_, rfl⟩
      subst hW0
      go_loopw [17] (fun i wq => ∃ j : Nat, j ≤ p ∧ i = .int .i64 j ∧ wq.heap[W0.heap.size]? = some (.cells (iA (stepA (L.take j) 0 (List.replicate (p + 1) 0))) 2 (0, 0)) ∧ Below W0.heap.size W0 wq) (fun i _ => p - (intOf i).toNat)
      case atStart => exact ⟨0, Nat.zero_le _, rfl, K1.out, HB1.out⟩
      case round =>
        obtain ⟨j, hj, rfl, hg, hbq⟩ := hrel
        by_cases hltj : j < p
        · obtain ⟨x, hx⟩ : ∃ x, L[j]? = some x := ⟨_, List.getElem?_eq_getElem (by have := HLN.out; omega)⟩
          obtain ⟨b, o, ha, hcell⟩ := (HRD.out.below hbq).at' (by omega)
          have hc : wr.cell? ⟨b, o + j, none⟩ = some (.int .i64 x) := hcell j (.int .i64 x) (by rw [List.getElem?_map, hx]; rfl)
          subst ha
          have HST := Lib.hid (stepA_take hx (List.replicate (p + 1) 0))
          have HTL := Lib.hid (stepA_len (L.take j) 0 (List.replicate (p + 1) 0))
          obtain ⟨T, hT⟩ : ∃ T, stepA (L.take j) 0 (List.replicate (p + 1) 0) = T := ⟨_, rfl⟩
          rw [hT] at hg HST HTL
          rw [List.length_replicate] at HTL
          have q0 := (cell_of_row _ _ j _ _ _ hg).trans (iA_at (by have := HTL.out; omega))
          have z0 := frozen_row hg j
          have HG := Lib.hid hg
          have HBQ := Lib.hid hbq
          clear hT hcell hg hbq hx
          go_upto_region 8 with fail
          generalize hW2 : wr.setCell _ _ = W2
          have e2 : W2.heap[W0.heap.size]? = some (.cells (iA (addAt T j x)) 2 (0, 0)) := by
            rw [← hW2, heap_set_at HG.out j _, iA_set]; rfl
          have hb2 : Below W0.heap.size W0 W2 := by rw [← hW2]; exact HBQ.out.setCell (p := ⟨W0.heap.size, j, none⟩) (Nat.le_refl _) _
          have q1 := (cell_of_row _ _ (j + 1) _ _ _ e2).trans (iA_at (by rw [addAt_len]; have := HTL.out; omega))
          have z1 := frozen_row e2 (j + 1)
          have E2 := Lib.hid e2
          have HB2 := Lib.hid hb2
          obtain ⟨T2, hT2⟩ : ∃ T2, addAt T j x = T2 := ⟨_, rfl⟩
          rw [hT2] at q1 E2 HST
          clear hW2 e2 hb2 q0 z0 hc hT2
          go_wp2_with fail
          generalize hW3 : W2.setCell _ _ = W3
          have e3 : W3.heap[W0.heap.size]? = some (.cells (iA (addAt T2 (j + 1) x)) 2 (0, 0)) := by
            rw [← hW3, heap_set_at E2.out (j + 1) _, iA_set]; rfl
          have hb3 : Below W0.heap.size W0 W3 := by rw [← hW3]; exact HB2.out.setCell (p := ⟨W0.heap.size, j + 1, none⟩) (Nat.le_refl _) _
          have E3 := Lib.hid e3
          have HB3 := Lib.hid hb3
          clear hW3 e3 hb3 q1 z1
          go_roundw
          case rel => exact ⟨j + 1, by omega, by go_num, by rw [HST.out]; exact E3.out, HB3.out⟩
          case measure => simp [intOf] <;> omega
        · obtain rfl : j = p := by omega
          rw [List.take_of_length_le (Nat.le_of_eq HLN.out), ← HW.out] at hg
          have hwl : (widenM l (k + 1)).length = n + (k + 1) := by rw [widenM_len, HN.out]
          have hrd := iA_Rd hg (by rw [hwl]; unfold maxLen; omega)
          rw [hwl] at hrd
          have HRD2 := Lib.hid hrd
          have HBQ := Lib.hid hbq
          clear hrd hg hbq hwl
          go_wp2_with fail
          go_roundw
          case rel => exact ⟨k + 1, _, _, by omega, by go_num, by rw [← Nat.add_assoc, hp], HRD2.out, HB.out.trans (HBQ.out.mono HB.out.size)⟩
          case measure => simp [intOf] <;> omega
    · obtain rfl : k = m := by omega
      go_wp2_with fail
      go_ret
      exact ⟨_, _, rfl, HRD.out, HB.out⟩
end Go.Proofs.YtmjgdnpfgkpaoaaDoor
namespace Go.Proofs.YtmjgdnpfgkpaoaaDoor
open Go.RowKit Go.Shelf Go.Maps

theorem zBoolD (w : World) : (zeroValue 4).run Tryd.prog w = .ok (.bool false) w := by kernel_rfl
def frkN (s l h : Nat) : Frk := ⟨(s : Int), (l : Int), (h : Int)⟩
/-- the forks that a map has seen -/
def seenD (l : List Frk) : Lit → Option Value := l.foldl (fun f d => updF f (klD d) (.bool true)) (fun _ => none)
theorem seenD_take {l : List Frk} {k : Nat} {d : Frk} (h : l[k]? = some d) : seenD (l.take (k + 1)) = updF (seenD (l.take k)) (klD d) (.bool true) := by
  unfold seenD
  rw [List.take_add_one, h, Option.toList_some, List.foldl_append]
  rfl
/-- forks that build upon earlier ones alone, no two alike -/
def OrdD (N : Nat) (ds : List Frk) : Prop := ∀ k d, ds[k]? = some d → ∃ s l h : Nat, d = frkN s l h ∧ s < N ∧ l < k + 2 ∧ h < k + 2 ∧ l ≠ h ∧ (s : Int) < srvD N ds l ∧ (s : Int) < srvD N ds h ∧ seenD (ds.take k) (klD d) = none
set_option maxRecDepth 100000 in
set_option maxHeartbeats 4000000 in
theorem ordered_c (N : Nat) (root : Int) (hN : N ≤ 12) (ds : List Frk) (hO : OrdD N ds) (a : Option Addr) (n c : Nat) (hn : ds.length = n) (hn9 : n ≤ 900) (w : World) (h : RdK 3 w a n c (ds.flatMap frkC)) :
    Calls Tryd.prog 64 #[.agg #[.int .i64 N, .slice a n c, .int .i64 root]] w fun e w' => e = .returned (.bool true) ∧ Below w.heap.size w w' := by
  have hmm := @run_makeMap Tryd.prog
  have HR := Lib.hid h
  have HO := Lib.hid hO
  have HN := Lib.hid hn
  have hle := h.le
  have hmx := h.max
  unfold maxLen at hmx
  clear h hO hn
  go_enter Tryd.func64, Tryd.ntmps64
  go_upto_region 2 with fail
  generalize hW1 : (w.alloc _).alloc _ = W1
  have k0 : W1.heap[w.heap.size]? = some (.cells #[.int .i64 N, .slice a n c, .int .i64 root] 45 (0, 0)) := by rw [← hW1]; exact heap_alloc_at (heap_alloc_new w _) _
  have km : FM W1 Tryd.prog 88 (w.heap.size + 1) 0 (seenD (ds.take 0)) := by
    rw [← hW1]
    have := FM.made (w.alloc (Obj.cells #[Value.int IntKind.i64 N, Value.slice a n c, Value.int IntKind.i64 root] 45)) Tryd.prog 88
    rw [World.size_alloc] at this
    exact this
  have hb1 : Below w.heap.size w W1 := by rw [← hW1]; exact ((Below.refl _ w).alloc (Nat.le_refl _) _).alloc (by simp) _
  have hs1 : W1.heap.size = w.heap.size + 2 := by rw [← hW1]; simp
  have p1 := cell_of_row _ _ 1 _ _ _ k0
  have K0 := Lib.hid k0
  have KM := Lib.hid km
  have HB1 := Lib.hid hb1
  clear hW1 k0 km hb1 hmm
  go_wp2_with fail
  clear p1
  go_loopw [10] (fun i wr => ∃ k : Nat, k ≤ n ∧ i = .int .i64 k ∧ FM wr Tryd.prog 88 (w.heap.size + 1) k (seenD (ds.take k)) ∧ wr.heap[w.heap.size]? = some (.cells #[.int .i64 N, .slice a n c, .int .i64 root] 45 (0, 0)) ∧ w.heap.size + 2 ≤ wr.heap.size ∧ Below w.heap.size w wr) (fun i _ => n - (intOf i).toNat)
  case atStart => exact ⟨0, Nat.zero_le _, rfl, KM.out, K0.out, Nat.le_of_eq hs1.symm, HB1.out⟩
  case round =>
    obtain ⟨k, hk, rfl, hm, hbox, hsz, hb⟩ := hrel
    have HM := Lib.hid hm
    have HBX := Lib.hid hbox
    have HB := Lib.hid hb
    clear hm hbox hb
    by_cases hlt : k < n
    · obtain ⟨d, hd⟩ : ∃ d, ds[k]? = some d := ⟨_, List.getElem?_eq_getElem (by have := HN.out; omega)⟩
      obtain ⟨s, lo, hi, rfl, hs, hlo, hhi, hne, hsl, hsh, hnone⟩ := HO.out k d hd
      obtain ⟨b, o, ha, hcell⟩ := RdK.cells (HR.out.below HB.out) frkC_len (by omega)
      subst ha
      have g0 : wr.cell? ⟨b, o + k * 3, none⟩ = some (.int .i64 (s : Int)) := hcell k _ hd 0 (by omega)
      have g1 : wr.cell? ⟨b, o + k * 3 + 1, none⟩ = some (.int .i64 (lo : Int)) := hcell k _ hd 1 (by omega)
      have g2 : wr.cell? ⟨b, o + k * 3 + 2, none⟩ = some (.int .i64 (hi : Int)) := hcell k _ hd 2 (by omega)
      have hwf : wfD (frkN s lo hi) := ⟨wf64 (by show 0 ≤ (s : Int); omega) (by show (s : Int) ≤ 2000; omega), wf64 (by show 0 ≤ (lo : Int); omega) (by show (lo : Int) ≤ 2000; omega), wf64 (by show 0 ≤ (hi : Int); omega) (by show (hi : Int) ≤ 2000; omega)⟩
      have HKEY := Lib.hid (keyD_of hwf)
      have HSN := Lib.hid (seenD_take hd)
      have HNO := Lib.hid hnone
      have HSL := Lib.hid hsl
      have HSH := Lib.hid hsh
      have hne' : ((lo : Int) == (hi : Int)) = false := by
        have : (lo : Int) ≠ hi := by omega
        simpa using this
      clear hcell hd hwf hnone hsl hsh hne
      go_upto_region 5 with fail
      generalize hW2 : wr.alloc _ = W2
      obtain ⟨k2, hs2, hb2⟩ := boxes1 hW2
      have hbx := heap_below hb2 HBX.out
      have hm2 := HM.out.below hb2
      have n0 := cell_of_row _ _ 0 _ _ _ k2
      have n1 := cell_of_row _ _ 1 _ _ _ k2
      have n2 := cell_of_row _ _ 2 _ _ _ k2
      have b0 := cell_of_row _ _ 0 _ _ _ hbx
      have b1 := cell_of_row _ _ 1 _ _ _ hbx
      have b2 := cell_of_row _ _ 2 _ _ _ hbx
      have hlk := hm2.look false kFrk Tryd.underlying129 (zBoolD W2) HKEY.out
      rw [HNO.out] at hlk
      unfold keyD frkN at hlk
      simp only [Option.getD_none, Bool.false_eq_true, if_false] at hlk
      have K2 := Lib.hid k2
      have HBX2 := Lib.hid hbx
      have HM2 := Lib.hid hm2
      have HB2 := Lib.hid hb2
      clear hW2 k2 hbx hm2 hb2 g0 g1 g2
      go_upto_region 7 with fail
      have HCL := Lib.hid (fun (u : World) (hu : Below W2.heap.size W2 u) => dserver_c N root ds (some ⟨b, o, none⟩) n c HN.out hn9 lo (by omega) u ((HR.out.below (HB.out.trans (HB2.out.mono HB.out.size))).below hu))
      have HCH := Lib.hid (fun (u : World) (hu : Below W2.heap.size W2 u) => dserver_c N root ds (some ⟨b, o, none⟩) n c HN.out hn9 hi (by omega) u ((HR.out.below (HB.out.trans (HB2.out.mono HB.out.size))).below hu))
      have hd1 : decide (srvD N ds lo ≤ (s : Int)) = false := decide_eq_false (by have := HSL.out; omega)
      have hd2 : decide (srvD N ds hi ≤ (s : Int)) = false := decide_eq_false (by have := HSH.out; omega)
      obtain ⟨S1, hS1⟩ : ∃ S1, srvD N ds lo = S1 := ⟨_, rfl⟩
      obtain ⟨S2, hS2⟩ : ∃ S2, srvD N ds hi = S2 := ⟨_, rfl⟩
      rw [hS1] at HCL hd1
      rw [hS2] at HCH hd2
      clear hS1 hS2 HSL HSH hlk n0 n1 n2 b0 b1 b2
      have KS : Hid (∀ u : World, Below W2.heap.size W2 u → (u.cell? ⟨w.heap.size, 0, none⟩ = some (.int .i64 (N : Int)) ∧ u.cell? ⟨w.heap.size, 1, none⟩ = some (.slice (some ⟨b, o, none⟩) n c) ∧ u.cell? ⟨w.heap.size, 2, none⟩ = some (.int .i64 root)) ∧ u.cell? ⟨wr.heap.size, 0, none⟩ = some (.int .i64 (s : Int)) ∧ u.cell? ⟨wr.heap.size, 1, none⟩ = some (.int .i64 (lo : Int)) ∧ u.cell? ⟨wr.heap.size, 2, none⟩ = some (.int .i64 (hi : Int))) := Lib.hid (fun u hu =>
        ⟨⟨cell_of_row _ _ 0 _ _ _ (heap_below hu HBX2.out), cell_of_row _ _ 1 _ _ _ (heap_below hu HBX2.out), cell_of_row _ _ 2 _ _ _ (heap_below hu HBX2.out)⟩, cell_of_row _ _ 0 _ _ _ (heap_below hu K2.out), cell_of_row _ _ 1 _ _ _ (heap_below hu K2.out), cell_of_row _ _ 2 _ _ _ (heap_below hu K2.out)⟩)
      have HS2 := Lib.hid hs2
      clear hs2
      have HY := Lib.hid (below_drew (Below.refl W2.heap.size W2))
      refine wp_region_noPanic ?_
      refine wp_region_takes (fun u => Below W2.heap.size W2 u) [0, 1, 2, 4, 5] 11 (by kernel_rfl) (by kernel_rfl) (by kernel_rfl) (fun _ _ _ _ _ h => h) HY.out ?_
      repeat (refine wpTk_cons rfl (fun K hK => ?_); go_simp; apply Exists.intro; refine ⟨fun u hu => ?_, hK _ ?_⟩; (first | exact rfl | (obtain ⟨⟨q1, q2, q3⟩, q4, q5, q6⟩ := KS.out u hu; go_simp; done) | (obtain ⟨⟨q1, q2, q3⟩, q4, q5, q6⟩ := KS.out u hu; go_simp; exact rfl)); clear hK K)
      refine wpTk_nil ?_
      refine held_ready (rs := [3]) (by kernel_rfl) (by simp) ?_
      refine AllReadyH.cons rfl (fun K hK => ?_) AllReadyH.nil
      go_simp
      with_reducible refine (HCL.out _ HY.out).mono ?_
      rintro e v1 ⟨rfl, hv⟩
      have HY2 := Lib.hid (Below.next HY.out hv)
      clear hv HY HCL
      go_simp
      refine hK.out _ _ HY2.out (fun hh => ?_)
      clear hh hK K; try simp only [Act.put, List.setIfInBounds_toArray, List.set_cons_zero, List.set_cons_succ]
      refine held_takes (f := 8) (by kernel_rfl) (fun _ _ _ _ _ h => h) HY2.out [6, 7] _ _ (by kernel_rfl) ?_
      repeat (refine wpTk_cons rfl (fun K hK => ?_); go_simp; apply Exists.intro; refine ⟨fun u hu => ?_, hK _ ?_⟩; (first | exact rfl | (obtain ⟨⟨q1, q2, q3⟩, q4, q5, q6⟩ := KS.out u hu; go_simp; done) | (obtain ⟨⟨q1, q2, q3⟩, q4, q5, q6⟩ := KS.out u hu; go_simp; exact rfl)); clear hK K)
      refine wpTk_nil ?_
      refine held_takes (f := 3) (by kernel_rfl) (fun _ _ _ _ _ h => h) HY2.out [8, 9, 10, 12, 13] _ _ (by kernel_rfl) ?_
      repeat (refine wpTk_cons rfl (fun K hK => ?_); go_simp; apply Exists.intro; refine ⟨fun u hu => ?_, hK _ ?_⟩; (first | exact rfl | (obtain ⟨⟨q1, q2, q3⟩, q4, q5, q6⟩ := KS.out u hu; go_simp; done) | (obtain ⟨⟨q1, q2, q3⟩, q4, q5, q6⟩ := KS.out u hu; go_simp; exact rfl)); clear hK K)
      refine wpTk_nil ?_
      refine held_ready (rs := [11]) (by kernel_rfl) (by simp) ?_
      refine AllReadyH.cons rfl (fun K hK => ?_) AllReadyH.nil
      go_simp
      with_reducible refine (HCH.out _ HY2.out).mono ?_
      rintro e v2 ⟨rfl, hv⟩
      have HY3 := Lib.hid (Below.next HY2.out hv)
      clear hv HY2 HCH
      go_simp
      refine hK.out _ _ HY3.out (fun hh => ?_)
      clear hh hK K; try simp only [Act.put, List.setIfInBounds_toArray, List.set_cons_zero, List.set_cons_succ]
      refine held_takes (f := 0) (by kernel_rfl) (fun _ _ _ _ _ h => h) HY3.out [14, 15] _ _ (by kernel_rfl) ?_
      repeat (refine wpTk_cons rfl (fun K hK => ?_); go_simp; apply Exists.intro; refine ⟨fun u hu => ?_, hK _ ?_⟩; (first | exact rfl | (obtain ⟨⟨q1, q2, q3⟩, q4, q5, q6⟩ := KS.out u hu; go_simp; done) | (obtain ⟨⟨q1, q2, q3⟩, q4, q5, q6⟩ := KS.out u hu; go_simp; exact rfl)); clear hK K)
      refine wpTk_nil ?_
      refine wpAnyH_done (by kernel_rfl) (NoPanic.normal ?_) _
      have hs3 := HY3.out.size
      have k3 := heap_below HY3.out K2.out
      have bx3 := heap_below HY3.out HBX2.out
      obtain ⟨w9, hrun9, hf9, hg9, hs9⟩ := FM.put (w := v2) (HM2.out.below HY3.out) kFrk Tryd.underlying129 (by unfold maxLen; omega) HKEY.out (.bool true)
      rw [← HSN.out] at hf9
      unfold keyD frkN at hrun9
      simp only at hrun9
      have n0 := cell_of_row _ _ 0 _ _ _ k3
      have n1 := cell_of_row _ _ 1 _ _ _ k3
      have n2 := cell_of_row _ _ 2 _ _ _ k3
      have HBX3 := Lib.hid bx3
      have HF9 := Lib.hid hf9
      have HG9 := Lib.hid hg9
      have HS9 := Lib.hid hs9
      clear bx3 hf9 hg9 hs9 k3
      go_wp2_with fail
      have hB9 : Below w.heap.size w w9 := by
        have h1 := HB.out.trans (HB2.out.mono (B' := w.heap.size) (by omega))
        have h2 := h1.trans (HY3.out.mono (B' := w.heap.size) (by have := HS2.out; omega))
        exact h2.grown HG9.out (by have := HS2.out; omega) (fun q hq => by injection hq with hq; omega)
      have hbx9 := (HG9.out.block w.heap.size (by have := HS2.out; omega) (fun e => by injection e with e; omega)).trans HBX3.out
      have hsz9 : w.heap.size + 2 ≤ w9.heap.size := by have := HS2.out; have := HS9.out; omega
      go_roundw
      case rel => exact ⟨k + 1, by omega, by go_num, HF9.out, hbx9, hsz9, hB9⟩
      case measure => simp [intOf] <;> omega
    · obtain rfl : k = n := by omega
      go_wp2_with fail
      go_ret
      exact ⟨rfl, HB.out⟩
end Go.Proofs.YtmjgdnpfgkpaoaaDoor
