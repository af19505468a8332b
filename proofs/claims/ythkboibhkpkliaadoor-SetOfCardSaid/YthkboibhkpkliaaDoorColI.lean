/- slices.Collect and slices.Sorted of ints over slices.Values. -/
import Derived.Test.YthkboibhkpkliaaDoorSeq4
import Derived.Test.YthkboibhkpkliaaDoorShelf3
import Derived.Lib.SortBridge
import Derived.Sort.OwnSortedInts
namespace Go.Proofs.YthkboibhkpkliaaDoor
open Go.RowKit Go.Shelf
attribute [local go_sem] Oper.semAt_some

set_option maxRecDepth 100000 in
set_option maxHeartbeats 2000000 in
theorem values1_stops (m Bs : Nat) (C : Nat → TypeId → Prop) (l : List Int) (a : Option Addr) (n c : Nat) (w : World)
    (hs : w.cell? ⟨Bs, 0, none⟩ = some (.slice a n c)) (h : Rd w a n c (l.map (Value.int .i64))) (hC : ∀ b t, b < w.heap.size → C b t) :
    SeqStopsK Fence.wide m Tryd.prog 60 #[.pointer (some ⟨Bs, 0, none⟩)] (fun y : Int => #[Value.int .i64 y]) (KeepC C) (fun ys => ys = l) (fun pre => pre <+: l) l.length w := by
  intro L J Jx W hW hJ hJx hY h0
  have hs' : W.cell? ⟨Bs, 0, none⟩ = some (.slice a n c) := (hW.cell (p := ⟨Bs, 0, none⟩) (cell_lt hs)).trans hs
  have hr := h.below hW
  have hn1 : n ≤ l.length ∧ l.length ≤ n := by have := h.len; simp at this; omega
  obtain ⟨hn1, hn2⟩ := hn1
  have hrl := hr.le
  have hrm := hr.max
  unfold maxLen at hrm
  have hC' : Hid (∀ b o cur t f, a = some ⟨b, o, none⟩ → W.heap[b]? = some (.cells cur t f) → b < w.heap.size → C b t) := Lib.hid (fun b o cur t f _ _ hb => hC b t hb)
  have hold : Hid (∀ b o i v, a = some ⟨b, o, none⟩ → (l.map (Value.int .i64))[i]? = some v → b < w.heap.size) := Lib.hid (fun b o i v ha hv => by
    have hi := (List.getElem?_eq_some_iff.1 hv).1
    rw [List.length_map] at hi
    obtain ⟨b', o', e, hc⟩ := h.at' (by omega)
    rw [ha] at e; cases e
    exact cell_lt (hc i v hv))
  have HC := Lib.hid hC
  have HY := Lib.hid hY
  have HR := Lib.hid hr
  clear hC hY hW hJ hJx hs h hr
  refine callsIn_of_wp Tryd.func60 rfl trivial ?_ rfl
  simp only [Tryd.ntmps60, List.size_toArray, List.length_cons, List.length_nil, Nat.reduceAdd, Nat.reduceSub, Array.replicate_succ, Array.replicate_zero, List.push_toArray, List.append_toArray, List.nil_append, List.cons_append]
  gi_wp2_with fail
  gi_loopw [7] (fun i wr => ∃ k : Nat, k ≤ n ∧ i = .int .i64 k ∧ J (l.take k) wr ∧ KeepC C W wr) (fun i _ => n - (intOf i).toNat)
  case atStart => exact ⟨0, Nat.zero_le _, rfl, by simpa using h0, KeepC.refl _ _⟩
  case round =>
    obtain ⟨k, hk, rfl, hj, hkw⟩ := hrel
    by_cases hlt : k < n
    · obtain ⟨x, hx⟩ : ∃ x, l[k]? = some x := ⟨l[k]'(by omega), by simp⟩
      have hxv : (l.map (Value.int .i64))[k]? = some (.int .i64 x) := by rw [List.getElem?_map, hx]; rfl
      obtain ⟨b, o, ha, hcell⟩ := HR.out.at' (by omega)
      have hc0 := hcell k _ hxv
      have hbo := hold.out b o k _ ha hxv
      have hc := hkw.cell hc0 (fun cur t f _ => HC.out b t hbo)
      have htk : Hid (l.take (k + 1) = l.take k ++ [x]) := by show _ = _; rw [List.take_add_one, hx]; rfl
      have hlen : (l.take k).length < l.length := by rw [List.length_take]; omega
      have hpre : Hid (l.take (k + 1) <+: l) := List.take_prefix _ _
      obtain ⟨fn, tmps, assign, body, hy, hR⟩ := HY.out (l.take k) x wr hj hlen
      subst ha
      clear hcell hxv hc0 hbo hx hlen hj
      gi_wp2_with fail
      refine ⟨fun h => (by cases h), ?_⟩
      refine hR.mono ?_
      clear hR hy
      rintro e W3 (⟨rfl, hj3, hk3⟩ | ⟨rfl, hj3⟩)
      · gi_wp2_with fail
        go_roundw
        case rel => exact ⟨k + 1, by omega, by go_num, by rw [htk.out]; exact hj3, hkw.trans hk3⟩
        case measure => simp [intOf]; omega
      · gi_wp2_with fail
        refine ⟨rfl, .tuple #[], results_none rfl _ _ _, ?_⟩
        exact ⟨⟨_, rfl⟩, .inr ⟨_, hpre.out, by rw [htk.out]; exact hj3⟩⟩
    · have hE : Hid (l.take k = l) := List.take_of_length_le (by omega)
      gi_wp2_with fail
      refine ⟨rfl, .tuple #[], results_none rfl _ _ _, ?_⟩
      exact ⟨⟨_, rfl⟩, .inl ⟨_, rfl, by rw [hE.out] at hj; exact hj⟩⟩

def CColI (base : Nat) (k : Nat) (t : TypeId) : Prop := k < base ∨ (t ≠ 44 ∧ t ≠ 3)

theorem keepCI_append {base B : Nat} {W w1 : World} {v v' : Value} {k : Nat} {xs : List Value} {tmp : Obj} (hBb : base ≤ B)
    (hv : Boxed W B 44 v) (hrow : W.ownsRow base 3 1 v k xs)
    (hgrow : (W.alloc tmp).grownBy w1 v.ownBlock) (hv1 : Boxed w1 B 44 v) : KeepC (CColI base) W (w1.setCell ⟨B, 0, none⟩ v') := by
  have h1 := hgrow.size
  simp only [World.size_alloc] at h1
  refine ⟨by have := (grownBy_setCell' w1 B v').size; omega, fun j cur t f hj hc => ?_⟩
  have hlt := (Array.getElem?_eq_some_iff.1 hj).1
  have hjB : j ≠ B := by
    intro e; subst e
    have := (show W.heap[j]? = _ from hv).symm.trans hj
    simp only [Option.some.injEq, Obj.cells.injEq] at this
    rcases hc with hc | hc
    · omega
    · exact hc.1 this.2.1.symm
  have hjv : some j ≠ v.ownBlock := by
    intro e
    have h2 := hrow.lt j e.symm
    rcases hc with hc | hc
    · omega
    · rcases hrow.2 with ⟨rfl, _⟩ | ⟨g, cap, cur', rfl, _, hg, _⟩
      · simp [Value.ownBlock] at e
      · obtain rfl : j = g := by simpa [Value.ownBlock] using e
        rw [hg] at hj; cases hj; exact hc.2 rfl
  rw [Below.heap_setCell _ _ _ _ hjB, hgrow.block j (by simp; omega) hjv, Below.heap_alloc _ _ _ hlt]
  exact hj

set_option maxRecDepth 100000 in
set_option maxHeartbeats 2000000 in
theorem appendSeqI_in (n gf : Nat) (hn : 3 ≤ n) (lb : Array Value) (L : List Int) (hL : L.length ≤ 3000000) (eg : ∀ args w, (callFunc gf args).run Tryd.prog w = .ok (.enter gf args) w) (w : World)
    (hseq : ∀ m, SeqStopsK Fence.wide m Tryd.prog gf lb (fun y : Int => #[Value.int .i64 y]) (KeepC (CColI w.heap.size)) (fun ys => ys = L) (fun pre => pre <+: L) L.length w) :
    CallsIn Fence.wide n Tryd.prog 69 #[.slice none 0 0, .func (.func gf) #[] lb] w fun e W' => ∃ v, e = .returned v ∧ Own w W' 3 v (L.map (Value.int .i64)) ∧ Below w.heap.size w W' := by
  have h1 : 1 ≤ n := by omega
  obtain ⟨i0, hi, hz0, hz1, hz2⟩ := info_parts Tryd.infoInt
  have HS := Lib.hid hseq
  clear hseq
  refine callsIn_of_wp_marks Tryd.func69 rfl trivial ?_ rfl
  simp only [Tryd.ntmps69, List.size_toArray, List.length_cons, List.length_nil, Nat.reduceAdd, Nat.reduceSub, Array.replicate_succ, Array.replicate_zero, List.push_toArray, List.append_toArray, List.nil_append, List.cons_append]
  gi_wp2_with fail
  have bO := Boxed.new w 44 (.slice none 0 0)
  have hB0 : Below w.heap.size w (w.alloc (.cells #[.slice none 0 0] 44)) := (Below.refl _ w).alloc (Nat.le_refl _) _
  refine wpIn_rangeFunc_ownG rfl h1 (gf := gf) (lb := lb) rfl trivial eg (HS.out (n - 1)) KeepC.trans kT_b hB0 (fun _ => rfl)
    (fun pre W => (∃ v, Boxed W w.heap.size 44 v ∧ W.ownsRow w.heap.size 3 1 v pre.length (pre.map (Value.int .i64)) ∧ True) ∧ Below w.heap.size w W)
    (fun _ _ _ => False)
    (OwnFrom.and (Own.from (holdsRow_own w.heap.size w.heap.size 44 3 1 (fun pre : List Int => pre.length) (fun pre => pre.map (Value.int .i64)) (fun _ _ => True)) _) (ownFrom_below (Nat.le_refl _) (by simp)))
    (fun _ _ _ _ _ hs _ _ => hs)
    ⟨⟨_, bO, World.ownsRow_nil _ _ _ _, trivial⟩, hB0⟩
    (fun x => { tmps := #[.slice none 0 0, .func (.func gf) #[] lb, .pointer (some ⟨w.heap.size, 0, none⟩), undef, .slice none 0 0, .int .i64 x, .func (.func gf) #[] lb, .int .i64 x, undef, undef, undef, undef, undef], defers := [] }) ?assign ?body ?done ?stop
  case assign =>
    intro l x W K hK
    gi_wp2_with fail
    exact hK
  case body =>
    rintro l pre x W ⟨⟨v, hv, hrow, _⟩, hB⟩ hlt
    have hc := hv.cell
    gi_wp2_with (gi_at_builtin; go_must (refine wpListIn_append_own _ rfl _ _ 44 rfl w.heap.size 3 i0 (.int .i64 0) 1 8 Tryd.underlying44 hi hz0 hz1 hz2 rfl (by decide) _ _ _ rfl (hrow.alloc _) ⟨W.heap.size, 0, none⟩ 1 1 [.int .i64 x] rfl rfl (cell_one_new _ _ _) (by simp [Value.oneCell']) (by unfold maxLen; omega) (by omega) (by have := hB.size; simp; omega) ?_); go_must (intro v' w1 hown' hgrow _; obtain ⟨g', cap', rfl⟩ := ownsRow_succ hown'; obtain ⟨hv1, hv2, hr2, hk2, hb2⟩ := hv.appended (by decide) hrow hB.size (Nat.le_refl _) hown' hgrow; have hkk := keepCI_append (v' := .slice (some ⟨g', 0, none⟩) (pre.length + 1) cap') (Nat.le_refl _) hv hrow hgrow hv1; have hc1 := hv1.cell; have hf1 := hv1.frozen))
    exact ⟨hk2.from _, hkk, ⟨_, hv2, by simpa using hr2, trivial⟩, hB.trans hb2⟩
  case done =>
    rintro D ys W hD rfl ⟨⟨v, hv, hrow, _⟩, hB⟩ hK
    have hc := hv.cell
    gi_wp2_with fail
    refine ⟨by simp, .inl ⟨_, _, rfl, run_takeDeferred hK, ?_⟩⟩
    refine ⟨_, results_tmp rfl _ _ _, v, rfl, ?_, hB.trans (belowK_b (w := w) (Nat.le_refl _) W D _ _ (by simp at hD; omega) hK rfl rfl)⟩
    unfold Own
    rw [List.length_map]
    exact ownsRow_putObj hrow _ hK rfl
  case stop =>
    rintro D c pre W _ _ h _
    exact h.elim

set_option maxRecDepth 100000 in
set_option maxHeartbeats 1000000 in
theorem collectI_c (gf : Nat) (lb : Array Value) (L : List Int) (hL : L.length ≤ 3000000) (eg : ∀ args w, (callFunc gf args).run Tryd.prog w = .ok (.enter gf args) w) (w : World)
    (hseq : ∀ m, SeqStopsK Fence.wide m Tryd.prog gf lb (fun y : Int => #[Value.int .i64 y]) (KeepC (CColI w.heap.size)) (fun ys => ys = L) (fun pre => pre <+: L) L.length w) :
    Calls Tryd.prog 58 #[.func (.func gf) #[] lb] w fun e W' => ∃ v, e = .returned v ∧ Own w W' 3 v (L.map (Value.int .i64)) ∧ Below w.heap.size w W' := by
  have HC := Lib.hid (callsIn_wide.1 (appendSeqI_in 3 gf (by decide) lb L hL eg w hseq))
  clear hseq eg
  go_enter Tryd.func58, Tryd.ntmps58
  go_wp2_with fail
  refine HC.out.mono ?_
  rintro e w1 ⟨v, rfl, hown, hb⟩
  go_wp2_with fail
  go_ret
  exact ⟨_, rfl, hown, hb⟩

set_option maxHeartbeats 400000 in
theorem values_c (a : Option Addr) (n c : Nat) (w : World) :
    Calls Tryd.prog 39 #[.slice a n c] w fun e w' => e = .returned (.func (.func 60) #[] #[.pointer (some ⟨w.heap.size, 0, none⟩)]) ∧ w' = w.alloc (.cells #[.slice a n c] 44) := by
  go_enter Tryd.func39, Tryd.ntmps39
  go_wp2
  go_ret
  exact ⟨rfl, rfl⟩

def srt (l : List Int) : List Int := l.mergeSort fun x y => decide (x ≤ y)

set_option maxRecDepth 100000 in
set_option maxHeartbeats 1000000 in
theorem sorted_c (l : List Int) (a : Option Addr) (n c Bs : Nat) (w : World) (hs : w.cell? ⟨Bs, 0, none⟩ = some (.slice a n c)) (h : Rd w a n c (l.map (Value.int .i64))) (hn : n ≤ 1000000) :
    Calls Tryd.prog 38 #[.func (.func 60) #[] #[.pointer (some ⟨Bs, 0, none⟩)]] w fun e W' => ∃ v, e = .returned v ∧ Own w W' 3 v ((srt l).map (Value.int .i64)) ∧ Below w.heap.size w W' := by
  have hl : l.length = n := by have := h.len; simp at this; omega
  have HC := Lib.hid (collectI_c 60 #[.pointer (some ⟨Bs, 0, none⟩)] l (by omega) (enters_of Tryd.func60 (by kernel_rfl) rfl) w
    (fun m => values1_stops m Bs (CColI w.heap.size) l a n c w hs h (fun b t hb => .inl hb)))
  have hsl : (srt l).length = l.length := List.length_mergeSort _
  have HL := Lib.hid hl
  have HSL := Lib.hid hsl
  clear hs h hl hsl
  go_enter Tryd.func38, Tryd.ntmps38
  go_wp2_with fail
  refine HC.out.mono ?_
  rintro e w1 ⟨v, rfl, hown, hb⟩
  clear HC
  by_cases h0 : n = 0
  · have hnil : l = [] := List.eq_nil_of_length_eq_zero (by have := HL.out; omega)
    subst hnil
    obtain ⟨p, cp, rfl, _⟩ := hown.rd
    have HO := Lib.hid hown
    simp only [List.map_nil, List.length_nil]
    clear hown h0
    go_wp2_with fail
    refine (Tryd.slices_Sort_int_none _ _ _).mono ?_
    rintro e w2 ⟨rfl, rfl⟩
    go_wp2_with fail
    go_ret
    exact ⟨_, rfl, by rw [show srt [] = [] by simp [srt]]; exact HO.out, hb⟩
  · rcases hown.2 with ⟨_, hz⟩ | ⟨g, cap, cur, rfl, hbase, hg, hle, hm, hsz, ht⟩
    · rw [List.length_map] at hz; have := HL.out; omega
    · rw [List.length_map] at hle ht
      have hH := holds_of_blockI (ss := l) hg (by rw [Nat.mul_one] at ht; exact ht)
      have hS := Lib.hid (Tryd.slices_Sort_int g 0 cap l w1 hH (Array.getElem?_eq_some_iff.1 hg).1 (by have := HL.out; omega))
      have hsort : Hid (∀ q os, Own w (Sort.grow (Sort.putRow (Value.int .i64) (Sort.ahead w1 q) g 0 (srt l).toArray) os) 3 (.slice (some ⟨g, 0, none⟩) l.length cap) ((srt l).map (Value.int .i64))) := Lib.hid (fun q os => by
        have := ownsRow_sortedI (os := os) (n := q) (ss := l) (ts := srt l) HSL.out hbase hg hle hm hsz
        unfold Own
        rw [List.length_map, HSL.out]
        exact this)
      have hbel : Hid (∀ q os, Below w.heap.size w (Sort.grow (Sort.putRow (Value.int .i64) (Sort.ahead w1 q) g 0 (srt l).toArray) os)) := Lib.hid (fun q os =>
        hb.grown (grownBy_sortedI (os := os) (n := q) (w := w1) (g := g) (srt l).toArray) hb.size (fun k hk => by cases hk; exact hbase))
      rw [List.length_map]
      obtain ⟨len, hlen⟩ : ∃ len, l.length = len := ⟨_, rfl⟩
      rw [hlen] at hS hsort ⊢
      clear hown hH hg hle hm hsz ht hbase hlen hb h0
      go_wp2_with fail
      refine hS.out.mono ?_
      rintro e w2 ⟨rfl, q, os, hw2⟩
      have HO : Own w w2 3 (.slice (some ⟨g, 0, none⟩) len cap) ((srt l).map (Value.int .i64)) := by rw [hw2]; exact hsort.out q os
      have HB : Below w.heap.size w w2 := by rw [hw2]; exact hbel.out q os
      have HO := Lib.hid HO
      clear hw2 hS hsort hbel
      go_wp2_with fail
      go_ret
      exact ⟨_, rfl, HO.out, HB⟩
end Go.Proofs.YthkboibhkpkliaaDoor
