/- set.Subsets and set.Choose as iterators; slices.Collect of sets. -/
import Derived.Test.YthkboibhkpkliaaDoorSeq3
import Derived.RangeFuncBox
import Derived.Maps.AppendAt
namespace Go.Proofs.YthkboibhkpkliaaDoor
open Go.RowKit Go.Shelf
attribute [local go_sem] Oper.semAt_some

set_option maxRecDepth 100000 in
set_option maxHeartbeats 2000000 in
theorem choose1_stops (n Bs Bk : Nat) (C : Nat → TypeId → Prop) (hCi : ∀ k, C k 3) (hCg : ∀ t, C 0 t) (hCs : ∀ t, C Bs t) (hCk : ∀ t, C Bk t) (x : BitVec 16) (k : Int) (w : World) (ht : HasTab w)
    (hs : w.cell? ⟨Bs, 0, none⟩ = some (.int .u16 (U x))) (hk : w.cell? ⟨Bk, 0, none⟩ = some (.int .i64 k)) :
    SeqStopsK Fence.wide n Tryd.prog 46 #[.pointer (some ⟨Bs, 0, none⟩), .pointer (some ⟨Bk, 0, none⟩)] (fun y : BitVec 16 => #[Value.int .u16 (U y)]) (KeepC C) (fun ys => ys = chooseS x k) (fun pre => pre <+: chooseS x k) (chooseS x k).length w := by
  intro l J Jx W hW hJ hJx hY h0
  have hs' : W.cell? ⟨Bs, 0, none⟩ = some (.int .u16 (U x)) := (hW.cell (p := ⟨Bs, 0, none⟩) (cell_lt hs)).trans hs
  have hk' : W.cell? ⟨Bk, 0, none⟩ = some (.int .i64 k) := (hW.cell (p := ⟨Bk, 0, none⟩) (cell_lt hk)).trans hk
  have hc := choose_in l (chooseS x k).length W.heap.size C hCi x J Jx hJ (fun m pre y W hj hl => YieldAt.any m (hY pre y W hj hl)) (n - 1) k [] W (ht.below hW) h0 (by simp)
  have HC := Lib.hid hc
  clear hc hY hJ hJx hW hCi hCg hCs hCk hs hk ht
  refine callsIn_of_wp Tryd.func46 rfl trivial ?_ rfl
  simp only [Tryd.ntmps46, List.size_toArray, List.length_cons, List.length_nil, Nat.reduceAdd, Nat.reduceSub, Array.replicate_succ, Array.replicate_zero, List.push_toArray, List.append_toArray, List.nil_append, List.cons_append]
  gi_wp2_with fail
  refine ⟨trivial, fun h => (by cases h), ?_⟩
  refine HC.out.mono ?_
  rintro e W1 (⟨rfl, hj1, _⟩ | ⟨rfl, q, hq, hx⟩)
  · gi_wp2_with fail
    go_end0
    exact ⟨⟨_, rfl⟩, .inl ⟨_, rfl, by simpa using hj1⟩⟩
  · gi_wp2_with fail
    go_end0
    exact ⟨⟨_, rfl⟩, .inr ⟨q, hq, by simpa using hx⟩⟩

theorem subsTo_prefix (x : BitVec 16) (k : Nat) (h : k ≤ cnt x) (q : List (BitVec 16)) (hq : q <+: chooseS x k) : subsTo x k ++ q <+: subsS x := by
  obtain ⟨d, hd⟩ : ∃ d, cnt x + 1 = (k + 1) + d := ⟨cnt x - k, by omega⟩
  obtain ⟨r, hr⟩ := hq
  unfold subsS
  rw [hd]
  refine ⟨r ++ ((List.range d).map (fun i => k + 1 + i)).flatMap (fun (k : Nat) => chooseS x (k : Int)), ?_⟩
  have e : subsTo x (k + 1 + d) = subsTo x (k + 1) ++ ((List.range d).map (fun i => k + 1 + i)).flatMap (fun (k : Nat) => chooseS x (k : Int)) := by
    unfold subsTo; rw [List.range_add, List.flatMap_append]
  rw [e, subsTo_succ, ← hr]
  simp [List.append_assoc]

set_option maxRecDepth 100000 in
set_option maxHeartbeats 2000000 in
theorem subsets1_stops (n Bs : Nat) (C : Nat → TypeId → Prop) (hCi : ∀ k, C k 3) (hCg : ∀ t, C 0 t) (hCs : ∀ t, C Bs t) (x : BitVec 16) (w : World) (ht : HasTab w)
    (hs : w.cell? ⟨Bs, 0, none⟩ = some (.int .u16 (U x))) :
    SeqStopsK Fence.wide n Tryd.prog 44 #[.pointer (some ⟨Bs, 0, none⟩)] (fun y : BitVec 16 => #[Value.int .u16 (U y)]) (KeepC C) (fun ys => ys = subsS x) (fun pre => pre <+: subsS x) (subsS x).length w := by
  intro l J Jx W hW hJ hJx hY h0
  have hs' : W.cell? ⟨Bs, 0, none⟩ = some (.int .u16 (U x)) := (hW.cell (p := ⟨Bs, 0, none⟩) (cell_lt hs)).trans hs
  have hc := fun k => choose_in l (subsS x).length W.heap.size C hCi x J Jx hJ (fun m pre y W hj hl => YieldAt.any m (hY pre y W hj hl)) (n - 1) k
  have HC := Lib.hid hc
  have HT := Lib.hid (ht.below hW)
  have HJ := Lib.hid hJ
  have HCS := Lib.hid hCs
  have HCG := Lib.hid hCg
  have HS := Lib.hid hs'
  have hcl := cnt_le x
  clear hc hY hJ hJx hW hCi hCg hCs hs ht hs'
  refine callsIn_of_wp Tryd.func44 rfl trivial ?_ rfl
  simp only [Tryd.ntmps44, List.size_toArray, List.length_cons, List.length_nil, Nat.reduceAdd, Nat.reduceSub, Array.replicate_succ, Array.replicate_zero, List.push_toArray, List.append_toArray, List.nil_append, List.cons_append]
  gi_wp2_with fail
  gi_loopw [3] (fun i wr => ∃ k : Nat, k ≤ cnt x + 1 ∧ i = .int .i64 k ∧ J (subsTo x k) wr ∧ KeepC C W wr) (fun i _ => cnt x + 1 - (intOf i).toNat)
  case atStart => exact ⟨0, Nat.zero_le _, rfl, h0, KeepC.refl _ _⟩
  case round =>
    obtain ⟨k, hk, rfl, hj, hkw⟩ := hrel
    have hsw : wr.cell? ⟨Bs, 0, none⟩ = some (.int .u16 (U x)) := hkw.cell HS.out (fun _ t _ _ => HCS.out t)
    gi_wp2_with fail
    refine ⟨trivial, fun h => (by cases h), ?_⟩
    refine (callsIn_wide.2 (count_c x _ _ rfl)).mono ?_
    rintro e W1 ⟨rfl, q, rfl⟩
    have hb1 : Below wr.heap.size wr (wr.drewN q) := below_drewN (Below.refl _ _)
    have hj1 := abides_below HJ.out hj hb1
    have hk1 := hkw.trans (KeepC.of_below C hb1)
    clear hj hkw
    by_cases hlt : k ≤ cnt x
    · have HT1 := Lib.hid (HT.out.keepC hk1 HCG.out)
      have hlen : (subsTo x k).length + (chooseS x k).length ≤ (subsS x).length := by
        obtain ⟨r, hr⟩ := subsTo_prefix x k hlt _ (List.prefix_refl _)
        rw [← hr]; simp
      have hpr := fun q hq => subsTo_prefix x k hlt q hq
      have HP := Lib.hid hpr
      have hss := Lib.hid (subsTo_succ x k)
      clear hpr
      gi_wp2_with fail
      refine ⟨trivial, fun h => (by cases h), ?_⟩
      refine (HC.out k _ _ HT1.out hj1 hlen).mono ?_
      clear hlen hj1
      rintro e W2 (⟨rfl, hj2, hk2⟩ | ⟨rfl, q, hq, hx⟩)
      · gi_wp2_with fail
        go_roundw
        case rel => exact ⟨k + 1, by omega, by go_num, by rw [hss.out]; exact hj2, hk1.trans hk2⟩
        case measure => simp [intOf]; omega
      · gi_wp2_with fail
        go_end0
        exact ⟨⟨_, rfl⟩, .inr ⟨_, HP.out q hq, hx⟩⟩
    · have hE : Hid (subsTo x k = subsS x) := by
        have : k = cnt x + 1 := by omega
        show subsTo x k = subsTo x (cnt x + 1)
        rw [this]
      gi_wp2_with fail
      refine ⟨trivial, ?_⟩
      gi_wp2_with fail
      go_end0
      exact ⟨⟨_, rfl⟩, .inl ⟨_, rfl, by rw [← hE.out]; exact hj1⟩⟩

/-- what a loop that collects sets protects: all that lay when it began, and all that is neither a slice's box nor a row of sets -/
def CCol (base : Nat) (k : Nat) (t : TypeId) : Prop := k < base ∨ (t ≠ 28 ∧ t ≠ 23)

theorem keepC_append {base B : Nat} {W w1 : World} {v v' : Value} {k : Nat} {xs : List Value} {tmp : Obj} (hBb : base ≤ B)
    (hv : Boxed W B 28 v) (hrow : W.ownsRow base 23 1 v k xs)
    (hgrow : (W.alloc tmp).grownBy w1 v.ownBlock) (hv1 : Boxed w1 B 28 v) : KeepC (CCol base) W (w1.setCell ⟨B, 0, none⟩ v') := by
  have h1 := hgrow.size
  simp only [World.size_alloc] at h1
  refine ⟨by have := (grownBy_setCell' w1 B v').size; omega, fun j cur t f hj hc => ?_⟩
  have hlt := (Array.getElem?_eq_some_iff.1 hj).1
  have hjB : j ≠ B := by
    intro e; subst e
    have := (show W.heap[j]? = _ from hv).symm.trans hj
    simp only [Option.some.injEq, Obj.cells.injEq] at this
    rcases hc with hc | hc
    · omega
    · exact hc.1 this.2.1.symm
  have hjv : some j ≠ v.ownBlock := by
    intro e
    have h2 := hrow.lt j e.symm
    rcases hc with hc | hc
    · omega
    · rcases hrow.2 with ⟨rfl, _⟩ | ⟨g, cap, cur', rfl, _, hg, _⟩
      · simp [Value.ownBlock] at e
      · obtain rfl : j = g := by simpa [Value.ownBlock] using e
        rw [hg] at hj; cases hj; exact hc.2 rfl
  rw [Below.heap_setCell _ _ _ _ hjB, hgrow.block j (by simp; omega) hjv, Below.heap_alloc _ _ _ hlt]
  exact hj

theorem kT_b {C : Nat → TypeId → Prop} {w : World} (W : World) (l : Nat) (o o' : Obj) (_ : w.heap.size ≤ l) (h : W.heap[l]? = some o) (ho : o.isCells = false) (_ : o.isWalk = false) : KeepC C W (W.putObj l o') := KeepC.putObj C W l o o' h ho

set_option maxRecDepth 100000 in
set_option maxHeartbeats 2000000 in
/-- **slices.AppendSeq onto nil, at an iterator over sets that ends.** -/
theorem appendSeq_in (n gf : Nat) (hn : 3 ≤ n) (lb : Array Value) (L : List (BitVec 16)) (hL : L.length ≤ 3000000) (eg : ∀ args w, (callFunc gf args).run Tryd.prog w = .ok (.enter gf args) w) (w : World)
    (hseq : ∀ m, SeqStopsK Fence.wide m Tryd.prog gf lb (fun y : BitVec 16 => #[Value.int .u16 (U y)]) (KeepC (CCol w.heap.size)) (fun ys => ys = L) (fun pre => pre <+: L) L.length w) :
    CallsIn Fence.wide n Tryd.prog 43 #[.slice none 0 0, .func (.func gf) #[] lb] w fun e W' => ∃ v, e = .returned v ∧ Own w W' 23 v (L.map setV) ∧ Below w.heap.size w W' := by
  have h1 : 1 ≤ n := by omega
  obtain ⟨i0, hi, hz0, hz1, hz2⟩ := info_parts Tryd.infoSet
  have HS := Lib.hid hseq
  clear hseq
  refine callsIn_of_wp_marks Tryd.func43 rfl trivial ?_ rfl
  simp only [Tryd.ntmps43, List.size_toArray, List.length_cons, List.length_nil, Nat.reduceAdd, Nat.reduceSub, Array.replicate_succ, Array.replicate_zero, List.push_toArray, List.append_toArray, List.nil_append, List.cons_append]
  gi_wp2_with fail
  have bO := Boxed.new w 28 (.slice none 0 0)
  have hB0 : Below w.heap.size w (w.alloc (.cells #[.slice none 0 0] 28)) := (Below.refl _ w).alloc (Nat.le_refl _) _
  refine wpIn_rangeFunc_ownG rfl h1 (gf := gf) (lb := lb) rfl trivial eg (HS.out (n - 1)) KeepC.trans kT_b hB0 (fun _ => rfl)
    (fun pre W => (∃ v, Boxed W w.heap.size 28 v ∧ W.ownsRow w.heap.size 23 1 v pre.length (pre.map setV) ∧ True) ∧ Below w.heap.size w W)
    (fun _ _ _ => False)
    (OwnFrom.and (Own.from (holdsRow_own w.heap.size w.heap.size 28 23 1 (fun pre : List (BitVec 16) => pre.length) (fun pre => pre.map setV) (fun _ _ => True)) _) (ownFrom_below (Nat.le_refl _) (by simp)))
    (fun _ _ _ _ _ hs _ _ => hs)
    ⟨⟨_, bO, World.ownsRow_nil _ _ _ _, trivial⟩, hB0⟩
    (fun x => { tmps := #[.slice none 0 0, .func (.func gf) #[] lb, .pointer (some ⟨w.heap.size, 0, none⟩), undef, .slice none 0 0, .int .u16 (U x), .func (.func gf) #[] lb, .int .u16 (U x), undef, undef, undef, undef, undef], defers := [] }) ?assign ?body ?done ?stop
  case assign =>
    intro l x W K hK
    gi_wp2_with fail
    exact hK
  case body =>
    rintro l pre x W ⟨⟨v, hv, hrow, _⟩, hB⟩ hlt
    have hc := hv.cell
    gi_wp2_with (gi_at_builtin; go_must (refine wpListIn_append_own _ rfl _ _ 28 rfl w.heap.size 23 i0 (.int .u16 0) 1 2 Tryd.underlying28 hi hz0 hz1 hz2 rfl (by decide) _ _ _ rfl (hrow.alloc _) ⟨W.heap.size, 0, none⟩ 1 1 [.int .u16 (U x)] rfl rfl (cell_one_new _ _ _) (by simp [Value.oneCell']) (by unfold maxLen; omega) (by omega) (by have := hB.size; simp; omega) ?_); go_must (intro v' w1 hown' hgrow _; obtain ⟨g', cap', rfl⟩ := ownsRow_succ hown'; obtain ⟨hv1, hv2, hr2, hk2, hb2⟩ := hv.appended (by decide) hrow hB.size (Nat.le_refl _) hown' hgrow; have hkk := keepC_append (v' := .slice (some ⟨g', 0, none⟩) (pre.length + 1) cap') (Nat.le_refl _) hv hrow hgrow hv1; have hc1 := hv1.cell; have hf1 := hv1.frozen))
    exact ⟨hk2.from _, hkk, ⟨_, hv2, by simpa [setV] using hr2, trivial⟩, hB.trans hb2⟩
  case done =>
    rintro D ys W hD rfl ⟨⟨v, hv, hrow, _⟩, hB⟩ hK
    have hc := hv.cell
    gi_wp2_with fail
    refine ⟨by simp, .inl ⟨_, _, rfl, run_takeDeferred hK, ?_⟩⟩
    refine ⟨_, results_tmp rfl _ _ _, v, rfl, ?_, hB.trans (belowK_b (w := w) (Nat.le_refl _) W D _ _ (by simp at hD; omega) hK rfl rfl)⟩
    unfold Own
    rw [List.length_map]
    exact ownsRow_putObj hrow _ hK rfl
  case stop =>
    rintro D c pre W _ _ h _
    exact h.elim

set_option maxRecDepth 100000 in
set_option maxHeartbeats 1000000 in
theorem collect_c (gf : Nat) (lb : Array Value) (L : List (BitVec 16)) (hL : L.length ≤ 3000000) (eg : ∀ args w, (callFunc gf args).run Tryd.prog w = .ok (.enter gf args) w) (w : World)
    (hseq : ∀ m, SeqStopsK Fence.wide m Tryd.prog gf lb (fun y : BitVec 16 => #[Value.int .u16 (U y)]) (KeepC (CCol w.heap.size)) (fun ys => ys = L) (fun pre => pre <+: L) L.length w) :
    Calls Tryd.prog 17 #[.func (.func gf) #[] lb] w fun e W' => ∃ v, e = .returned v ∧ Own w W' 23 v (L.map setV) ∧ Below w.heap.size w W' := by
  have HC := Lib.hid (callsIn_wide.1 (appendSeq_in 3 gf (by decide) lb L hL eg w hseq))
  clear hseq eg
  go_enter Tryd.func17, Tryd.ntmps17
  go_wp2_with fail
  refine HC.out.mono ?_
  rintro e w1 ⟨v, rfl, hown, hb⟩
  go_wp2_with fail
  go_ret
  exact ⟨_, rfl, hown, hb⟩

set_option maxHeartbeats 400000 in
theorem subsets_c (x : BitVec 16) (s : Int) (w : World) (hs : s = U x) :
    Calls Tryd.prog 18 #[.int .u16 s] w fun e w' => e = .returned (.func (.func 44) #[] #[.pointer (some ⟨w.heap.size, 0, none⟩)]) ∧ w' = w.alloc (.cells #[.int .u16 (U x)] 23) := by
  subst hs
  go_enter Tryd.func18, Tryd.ntmps18
  go_wp2
  go_ret
  exact ⟨rfl, rfl⟩

set_option maxHeartbeats 400000 in
theorem choosem_c (x : BitVec 16) (s k : Int) (w : World) (hs : s = U x) :
    Calls Tryd.prog 21 #[.int .u16 s, .int .i64 k] w fun e w' => e = .returned (.func (.func 46) #[] #[.pointer (some ⟨w.heap.size, 0, none⟩), .pointer (some ⟨w.heap.size + 1, 0, none⟩)]) ∧ w' = (w.alloc (.cells #[.int .u16 (U x)] 23)).alloc (.cells #[.int .i64 k] 3) := by
  subst hs
  go_enter Tryd.func21, Tryd.ntmps21
  go_wp2
  go_ret
  exact ⟨rfl, rfl⟩
end Go.Proofs.YthkboibhkpkliaaDoor
