/- Texts laid together. The reference's weight and sum of layer 10. Nodes that lie in a range of blocks: they read the same in every world that agrees there. Plain lemmas over the model, no program. A region that draws its order: operations that stay in a class of worlds, and behind them, in one forced order, a tail that writes. Over any program. A region that draws its order and ends in one store that changes what some of its loads read: one walk in the order of the text. Over any program. The reference's Made of layer 10. Two expressions made into boxes of their own, in whatever order. Plain lemmas over the model. -/
import Derived.Test.YtflpkkebampmfaaDoorGIntersectSpoiled1
import Derived.Test.YtflpkkebampmfaaDoorGIntersectSpoiled3
import Derived.Test.YtflpkkebampmfaaDoorGIntersectSpoiled4
import Derived.Test.YtflpkkebampmfaaDoorGIntersectSpoiled7
import Derived.Test.YtflpkkebampmfaaDoorProg
import Derived.StillTail
import Derived.Deep.Quiet
import Derived.Deep.QuietTactic
import Derived.Deep.RegionHeld3
import Derived.Deep.AppendLies
import Derived.Deep.RegionLaw
namespace Go.Proofs.YtflpkkebampmfaaDoor
open Go.RowKit Go.Shelf

set_option maxRecDepth 100000 in
set_option maxHeartbeats 1000000 in
theorem rwgt_c (nd : Nod) (k : Nat) (aw : Option Addr) (nw cw : Nat) (ak : Option Addr) (nk ck : Nat) (w : World) (hw : Rd w aw nw cw (nd.weights.map (Value.int .i64))) (hk : nd.weights = [] ∨ k < nd.weights.length) :
    Calls Tryd.prog 66 #[.agg #[.int .i64 nd.kind, .int .i64 nd.server, .int .i64 nd.need, .slice aw nw cw, .slice ak nk ck], .int .i64 k] w fun e w' => e = .returned (.int .i64 (wgtN nd k)) ∧ Below w.heap.size w w' := by
  have hlw : nd.weights.length = nw := by have := hw.len; simp at this; omega
  have hle := hw.le
  have hm := hw.max
  unfold maxLen at hm
  obtain ⟨W2, hW2⟩ : ∃ W2, W2 = w.alloc (Obj.cells #[.int .i64 nd.kind, .int .i64 nd.server, .int .i64 nd.need, .slice aw nw cw, .slice ak nk ck] 64) := ⟨_, rfl⟩
  have hb2 : Below w.heap.size w W2 := by rw [hW2]; exact (Below.refl _ w).alloc (Nat.le_refl _) _
  have HB2 := Lib.hid hb2
  by_cases h0 : nw = 0
  · have hn : nd.weights = [] := List.eq_nil_of_length_eq_zero (by omega)
    have hV : Hid (wgtN nd k = 1) := by show _ = _; unfold wgtN; rw [if_pos hn]
    subst h0
    clear hn hlw hk hw hb2
    go_enter Tryd.func66, Tryd.ntmps66
    go_wp2_with fail
    go_ret
    exact ⟨ret_int hV.out.symm, by rw [← hW2]; exact HB2.out⟩
  · have hne : ((nw : Int) == 0) = false := by rw [beq_eq_false_iff_ne]; omega
    have hkn : k < nw := by rcases hk with h | h
                            · rw [h] at hlw; simp at hlw; omega
                            · omega
    obtain ⟨z, hz⟩ : ∃ z, nd.weights[k]? = some z := ⟨_, List.getElem?_eq_getElem (by omega)⟩
    have hV : Hid (wgtN nd k = z) := by
      show _ = _; unfold wgtN
      rw [if_neg (fun e => by rw [e] at hlw; simp at hlw; omega), List.getD_eq_getElem?_getD, hz]; rfl
    obtain ⟨b, o, ha, hcell⟩ := (hw.below hb2).at' (by omega)
    have hc := hcell k (.int .i64 z) (by rw [List.getElem?_map, hz]; rfl)
    subst ha
    clear hlw hk hw hb2 hcell hz h0
    rw [hW2] at hc
    go_enter Tryd.func66, Tryd.ntmps66
    go_wp2_with fail
    go_ret
    exact ⟨ret_int hV.out.symm, by rw [← hW2]; exact HB2.out⟩

set_option maxRecDepth 100000 in
set_option maxHeartbeats 2000000 in
theorem rsum_c (nd : Nod) (hnd : nd.weights = [] ∨ nd.weights.length = nd.kids.length) (hsm : ∀ k, k ≤ nd.kids.length → 0 ≤ sumTo nd k ∧ sumTo nd k ≤ 1000000) (hwt : ∀ k, k < nd.kids.length → sumTo nd (k + 1) = sumTo nd k + wgtN nd k) (aw : Option Addr) (nw cw : Nat) (ak : Option Addr) (nk ck : Nat) (w : World) (hw : Rd w aw nw cw (nd.weights.map (Value.int .i64))) (hk : Rd w ak nk ck (nd.kids.map (Value.int .i64))) :
    Calls Tryd.prog 42 #[.agg #[.int .i64 nd.kind, .int .i64 nd.server, .int .i64 nd.need, .slice aw nw cw, .slice ak nk ck]] w fun e w' => e = .returned (.int .i64 (sumN nd)) ∧ Below w.heap.size w w' := by
  have hlk : nd.kids.length = nk := by have := hk.len; simp at this; omega
  have hle := hk.le
  have hm := hk.max
  unfold maxLen at hm
  obtain ⟨W2, hW2⟩ : ∃ W2, W2 = w.alloc (Obj.cells #[.int .i64 nd.kind, .int .i64 nd.server, .int .i64 nd.need, .slice aw nw cw, .slice ak nk ck] 64) := ⟨_, rfl⟩
  have hb2 : Below w.heap.size w W2 := by rw [hW2]; exact (Below.refl _ w).alloc (Nat.le_refl _) _
  have HB2 := Lib.hid hb2
  have g2 : W2.heap[w.heap.size]? = some (.cells #[.int .i64 nd.kind, .int .i64 nd.server, .int .i64 nd.need, .slice aw nw cw, .slice ak nk ck] 64 (0, 0)) := by rw [hW2]; exact heap_alloc_new _ _
  have G2 := Lib.hid g2
  have HWW := Lib.hid (hw.below hb2)
  have HLK := Lib.hid hlk
  have HND := Lib.hid hnd
  have HSM := Lib.hid hsm
  have HWT := Lib.hid hwt
  have HV : Hid (sumTo nd nk = sumN nd) := by show _ = _; unfold sumN; rw [HLK.out]
  clear hw hk hb2 g2 hlk hnd hsm hwt
  go_enter Tryd.func42, Tryd.ntmps42
  go_wp2_with fail
  rw [← hW2]
  clear hW2
  go_loopw [3, 4] (fun v i wr => ∃ k : Nat, k ≤ nk ∧ i = .int .i64 k ∧ v = .int .i64 (sumTo nd k) ∧ Below W2.heap.size W2 wr) (fun _ i _ => nk - (intOf i).toNat)
  case atStart => exact ⟨0, Nat.zero_le _, rfl, rfl, Below.refl _ _⟩
  case round =>
    obtain ⟨k, hk, rfl, rfl, hb⟩ := hrel
    have g := heap_below hb G2.out
    have q0 := cell_of_row _ _ 0 _ _ _ g
    have q1 := cell_of_row _ _ 1 _ _ _ g
    have q2 := cell_of_row _ _ 2 _ _ _ g
    have q3 := cell_of_row _ _ 3 _ _ _ g
    have q4 := cell_of_row _ _ 4 _ _ _ g
    by_cases hlt : k < nk
    · have hwk : nd.weights = [] ∨ k < nd.weights.length := by
        rcases HND.out with h | h
        · exact .inl h
        · exact .inr (by have := HLK.out; omega)
      have HC := Lib.hid (rwgt_c nd k aw nw cw ak nk ck wr (HWW.out.below hb) hwk)
      clear hwk
      have hst := HWT.out k (by have := HLK.out; omega)
      have s1 := HSM.out k (by have := HLK.out; omega)
      have s2 := HSM.out (k + 1) (by have := HLK.out; omega)
      obtain ⟨x, hx⟩ : ∃ x, wgtN nd k = x := ⟨_, rfl⟩
      obtain ⟨y, hy⟩ : ∃ y, sumTo nd k = y := ⟨_, rfl⟩
      rw [hx] at HC hst
      rw [hy] at hst s1 ⊢
      have hwr : wrap64 (y + x) = y + x := by unfold wrap64; omega
      have HST := Lib.hid hst
      have HB := Lib.hid hb
      clear g hst s1 s2 hx hy hb
      go_wp2_with fail
      with_reducible refine HC.out.mono ?_
      rintro e w5 ⟨rfl, hb5⟩
      go_wp2_with fail
      go_roundw
      case rel => exact ⟨k + 1, by omega, by go_num, by (rw [HST.out]; first | rfl | rw [hwr]), Below.next HB.out hb5⟩
      case measure => simp [intOf]; omega
    · obtain rfl : k = nk := by omega
      rw [HV.out]
      clear g
      go_wp2_with fail
      go_ret
      exact ⟨rfl, Below.next HB2.out hb⟩
end Go.Proofs.YtflpkkebampmfaaDoor
namespace Go.Proofs.YtflpkkebampmfaaDoor
open Go.RowKit

def XMR (lo hi : Nat) (w : World) (a : Option Addr) (n c : Nat) (nodes : List Nod) : Prop :=
  ∀ w2 : World, (∀ g, lo ≤ g → g < hi → w2.heap[g]? = w.heap[g]?) → XM w2 a n c nodes
theorem XMR.xm {lo hi : Nat} {w : World} {a : Option Addr} {n c : Nat} {nodes : List Nod} (h : XMR lo hi w a n c nodes) : XM w a n c nodes := h w fun _ _ _ => rfl
theorem XMR.mono {lo hi lo' hi' : Nat} {w : World} {a : Option Addr} {n c : Nat} {nodes : List Nod} (h : XMR lo hi w a n c nodes) (h1 : lo' ≤ lo) (h2 : hi ≤ hi') : XMR lo' hi' w a n c nodes :=
  fun w2 hg => h w2 fun g g1 g2 => hg g (by omega) (by omega)
theorem XMR.agree {lo hi : Nat} {w w' : World} {a : Option Addr} {n c : Nat} {nodes : List Nod} (h : XMR lo hi w a n c nodes) (hg : ∀ g, lo ≤ g → g < hi → w'.heap[g]? = w.heap[g]?) : XMR lo hi w' a n c nodes :=
  fun w2 h2 => h w2 fun g g1 g2 => (h2 g g1 g2).trans (hg g g1 g2)
theorem cell_blk_lt {w : World} {b o : Nat} {v : Value} (h : w.cell? ⟨b, o, none⟩ = some v) : b < w.heap.size := by
  by_cases hb : b < w.heap.size
  · exact hb
  · have h0 : w.heap[b]? = none := Array.getElem?_eq_none (by omega)
    simp [World.cell?, h0] at h
theorem Rd.agree {w w2 : World} {a : Option Addr} {n c X : Nat} {l : List Value} (h : Rd w a n c l) (hc : ∀ Y, Y ≤ X → Clear n (blkV Y) a) (hg : ∀ g, X + 1 ≤ g → g < w.heap.size → w2.heap[g]? = w.heap[g]?) : Rd w2 a n c l := by
  refine ⟨h.len, h.le, h.max, h.nil, fun hn => ?_⟩
  obtain ⟨b, o, ha, hcell⟩ := h.at' hn
  refine ⟨b, o, ha, fun i v hv => ?_⟩
  have h1 := hcell i v hv
  have hX : X + 1 ≤ b := by
    by_cases h2 : b ≤ X
    · exact absurd (blkV_own b) (hc b h2 hn b o ha)
    · omega
  rw [World.cell?_of_block (w := w) (w' := w2) (a := ⟨b, o + i, none⟩) (hg b hX (cell_blk_lt h1))]
  exact h1
theorem NodC.agree {w w2 : World} {X : Nat} {v : Value} {p : NodV} {nd : Nod} (h : NodC w X v p nd) (hg : ∀ g, X + 1 ≤ g → g < w.heap.size → w2.heap[g]? = w.heap[g]?) : NodR w2 p nd := by
  obtain ⟨a, n, c, h3, r3, _, k2⟩ := h.ws
  obtain ⟨a', n', c', h4, r4, _, k4⟩ := h.ks
  exact ⟨h.e0, h.e1, h.e2, ⟨a, n, c, h3, r3.agree k2 hg⟩, ⟨a', n', c', h4, r4.agree k4 hg⟩⟩
theorem XW.xmr {w : World} {X : Nat} {v : Value} {t : TypeId} {nodes : List Nod} (h : XW w X v t nodes) : ∃ a c, v = .slice a nodes.length c ∧ XMR (X + 1) w.heap.size w a nodes.length c nodes := by
  obtain ⟨V, h1, h2, h3⟩ := h.row
  obtain ⟨a, c, rfl, _⟩ := rdK_of_row h2
  refine ⟨a, c, rfl, fun w2 hg => ?_⟩
  obtain ⟨a', c', e, hx⟩ := XM.of_row (rowK_at h2 fun g hgv => hg g (h2.lt g hgv).1 (h2.lt g hgv).2) h1 fun i p nd hp hn => (h3 i p nd hp hn).agree hg
  cases e
  exact hx
end Go.Proofs.YtflpkkebampmfaaDoor
namespace Go.Proofs.YtflpkkebampmfaaDoor
open Go.RowKit
section
variable {P : Program} {ops : Array Oper} {md : Region.Mode} {C : World → Prop}

/-- the first n operations in any order, each quiet in the class; then L -/
def headQ (P : Program) (md : Region.Mode) (ops : Array Oper) (C : World → Prop) (n : Nat) (L : Array Bool → Act → Prop) : Nat → Array Bool → Act → Prop
  | 0, listed, a => L listed a
  | f + 1, listed, a => Region.ready md ops listed ≠ [] ∧ ∀ i ∈ Region.ready md ops listed, i < n ∧ qOp P ops C i (headQ P md ops C n L f (listed.setIfInBounds i true)) a

theorem any_of_headQ {n g : Nat} {L : Array Bool → Act → Prop} {Q' : Exit → Act → World → Prop} (hL : ∀ listed a w, C w → L listed a → wpAny P md ops Q' g listed a w) :
    ∀ (f : Nat) (listed : Array Bool) (a : Act) (w : World), C w → headQ P md ops C n L f listed a → wpAny P md ops Q' (f + g) listed a w
  | 0, listed, a, w, hw, h => by rw [Nat.zero_add]; exact hL _ _ _ hw h
  | f + 1, listed, a, w, hw, h => by
    rw [show f + 1 + g = (f + g) + 1 by omega]
    exact ⟨fun h0 => absurd h0 h.1, fun i hi => wpOp_of_qOp hw (fun a' w' hw' h' => any_of_headQ hL f _ a' w' hw' h') (h.2 i hi).2⟩

theorem headQ_first {n i : Nat} {oi : Oper} {v : Value} {L : Array Bool → Act → Prop} (hi : ops[i]? = some oi) (hsel : ∀ (j : Nat) (o : Oper) cs b, ops[j]? = some o → o.op ≠ .select cs b)
    (hs : Region.sinkB md ops n = true) (hc : Region.chainB md ops n = true) (hn : n < ops.size) (hin : i < n)
    (hdone : ∀ listed a, L listed a → ∀ j ∈ Region.ready md ops listed, n ≤ j) :
    ∀ (f : Nat) (listed : Array Bool) (a : Act), HeadInv md ops n listed →
      (∀ j oj, ops[j]? = some oj → j ≠ i → listed.getD j true = false → (∀ e ∈ oj.after, Region.binds md e = true → e.on ≠ i) → oi.apart ops oj = true) →
      i ∈ Region.ready md ops listed → YieldsIn P ops C oi v a →
      headQ P md ops C n L f (listed.setIfInBounds i true) (a.put oi.dst v) → headQ P md ops C n L (f + 1) listed a := by
  intro f
  induction f with
  | zero =>
    intro listed a inv _ hr hy H
    have hun := (mem_ready.1 hr).1
    refine ⟨fun h => (by rw [h] at hr; cases hr), fun j hj => ?_⟩
    have hjn : j < n := by
      rcases Nat.lt_or_ge j n with h | h
      · exact h
      · exact absurd hj (tail_waits hs hc hn inv _ i rfl hin hun j h)
    refine ⟨hjn, ?_⟩
    by_cases hji : j = i
    · subst hji; exact hy.qOp hi H
    · have := hdone _ _ H j (ready_mono hj hji)
      omega
  | succ f ih =>
    intro listed a inv hfree hr hy H
    have hun := (mem_ready.1 hr).1
    refine ⟨fun h => (by rw [h] at hr; cases hr), fun j hj => ?_⟩
    have hjn : j < n := by
      rcases Nat.lt_or_ge j n with h | h
      · exact h
      · exact absurd hj (tail_waits hs hc hn inv _ i rfl hin hun j h)
    refine ⟨hjn, ?_⟩
    by_cases hji : j = i
    · subst hji; exact hy.qOp hi H
    · have h1 := (H.2 j (ready_mono hj hji)).2
      obtain ⟨hjun, oj, hoj, hall⟩ := mem_ready.1 hj
      have hnot : ∀ e ∈ oj.after, Region.binds md e = true → e.on ≠ i := fun e he hb heq => by
        have h1 := hall e he hb
        rw [heq, getD_both hun] at h1
        cases h1
      have h2 := qOp_put hoj (hfree j oj hoj hji hjun hnot) (fun cs b => hsel i oi cs b hi) (fun cs b => hsel j oj cs b hoj) hy h1
      have hfree' : ∀ k ok, ops[k]? = some ok → k ≠ i → (listed.setIfInBounds j true).getD k true = false →
          (∀ e ∈ ok.after, Region.binds md e = true → e.on ≠ i) → oi.apart ops ok = true := fun k ok hk hki hun hno => by
        refine hfree k ok hk hki ?_ hno
        by_cases hjk : j = k
        · subst hjk; exact hjun
        · rw [getD_set_ne true hjk] at hun; exact hun
      refine qOp_mono (fun a' h3 => ih (listed.setIfInBounds j true) a' (inv.set hj hjn) hfree' (ready_mono hr (Ne.symm hji)) h3.1 ?_) h2
      rw [Array.setIfInBounds_comm _ _ hji]
      exact h3.2

theorem headQ_lex {n g : Nat} {Lq : Act → Prop} (hsel : Region.noSelect ops = true) (hs : Region.sinkB md ops n = true) (hc : Region.chainB md ops n = true) (hn : n < ops.size) :
    ∀ (l : List Oper) (k : Nat) (listed : Array Bool) (a : Act), (∀ j, j < l.length → l[j]? = ops[k + j]?) → k + l.length = n → HeadInv md ops n listed →
    Region.lexHead md ops g l.length k listed = true → wpQuiet P ops C Lq l a →
    headQ P md ops C n (fun listed' a' => Region.seqB md ops g n listed' = true ∧ Lq a') l.length listed a
  | [], k, listed, a, _, hk, _, hB, h => by
    have : k = n := by simpa using hk
    subst this
    exact ⟨by simpa [Region.lexHead] using hB, h⟩
  | o :: l, k, listed, a, hl, hk, inv, hB, h => by
    have h0 : ops[k]? = some o := by simpa using (hl 0 (by simp)).symm
    simp only [List.length_cons, Region.lexHead, Bool.and_eq_true] at hB
    obtain ⟨⟨hr, hf⟩, hB'⟩ := hB
    have hkn : k < n := by simp only [List.length_cons] at hk; omega
    have hr' : k ∈ Region.ready md ops listed := by simpa using hr
    have hst : qOp P ops C k (wpQuiet P ops C Lq l) a := by unfold qOp; simp only [h0]; exact h
    obtain ⟨v, hy, hK⟩ := yieldsIn_of_qOp h0 hst
    exact headQ_first h0 (Region.noSelect_spec hsel) hs hc hn hkn (fun listed' a' hL => seqB_ready hL.1) l.length listed a inv (Region.free_spec h0 hf) hr' hy
      (headQ_lex hsel hs hc hn l (k + 1) _ _ (fun j hj => by have := hl (j + 1) (by simp; omega); simpa [Nat.add_assoc, Nat.add_comm 1 j] using this) (by simp only [List.length_cons] at hk; omega) (inv.set hr' hkn) hB' hK)

/-- one walk in the order of the text serves every order; the tail stands behind, in any world of the class -/
theorem wp_region_quiet_tail {id : Nat} {Q : Exit → Act → World → Prop} {a : Act} {w : World} {l : List Oper} (C : World → Prop) (n : Nat) (hm : P.follows .mixedOrders = true) (hB : Region.lexTailB .any l.toArray n = true) (hC : C { w with drawn := w.drawn + 1 })
    (h : wpQuiet P l.toArray C (fun a' => ∀ w', C w' → wpList P l.toArray Q (l.drop n) a' w') (l.take n) a) : (Code.region id l.toArray true).wp P Q a w := by
  simp only [Region.lexTailB, Bool.and_eq_true, decide_eq_true_eq] at hB
  obtain ⟨⟨⟨⟨hsel, hn⟩, hs⟩, hc⟩, hlex⟩ := hB
  have hn' : n < l.length := by simpa using hn
  have htl : (l.take n).length = n := by simp; omega
  have hdl : (l.drop n).length = l.toArray.size - n := by simp
  have inv0 : HeadInv .any l.toArray n (Array.replicate l.toArray.size false) :=
    ⟨by simp, fun j oj _ hl => (by rw [getD_replicate_false] at hl; cases hl), fun t _ ht => getD_in (by simpa using ht) (getD_replicate_false _ _)⟩
  have H := headQ_lex (md := .any) (C := C) (g := l.toArray.size - n) hsel hs hc hn (l.take n) 0 _ a (fun j hj => by
    have hj' : j < n := by rw [htl] at hj; exact hj
    simp [hj']) (by simpa using htl) inv0 (by rw [htl]; exact hlex) h
  refine wp_region_any hm ?_
  have := any_of_headQ (Q' := Q) (g := l.toArray.size - n) (fun listed a' w' hw' hL => by
    have := wpAny_of_seq (md := .any) (Q' := Q) (l.drop n) n listed a' w' (fun j => by simp [List.getElem?_drop]) (by rw [hdl]; exact hL.1) (hL.2 w' hw')
    rwa [hdl] at this) _ _ _ _ hC H
  rw [htl, show n + (l.toArray.size - n) = l.toArray.size by omega] at this
  exact this
end
end Go.Proofs.YtflpkkebampmfaaDoor
namespace Go.Proofs.YtflpkkebampmfaaDoor
open Go.RowKit
section
variable {P : Program} {ops : Array Oper} {md : Region.Mode} {C D : World → Prop}

def inC (C D : World → Prop) (b : Bool) (w : World) : Prop := match b with
  | true => D w
  | false => C w
def StoreAt (P : Program) (o : Oper) (a : Act) (C D : World → Prop) : Prop := ∀ w, C w → ∃ w', (execOp a.eval o).run P w = .ok .skip w' ∧ D w'
def walkT (P : Program) (md : Region.Mode) (ops : Array Oper) (C D : World → Prop) (t : Nat) (Q : Act → Prop) : Nat → Array Bool → Act → Prop
  | 0, listed, a => Region.ready md ops listed = [] ∧ listed.getD t true = true ∧ Q a
  | f + 1, listed, a => (Region.ready md ops listed = [] → listed.getD t true = true ∧ Q a) ∧ ∀ i ∈ Region.ready md ops listed,
      (i ≠ t → qOp P ops (inC C D (listed.getD t true)) i (walkT P md ops C D t Q f (listed.setIfInBounds i true)) a) ∧
      (i = t → ∃ o, ops[t]? = some o ∧ Region.wanted o (yielded ops a.tmps) = true ∧ StoreAt P o a C D ∧ walkT P md ops C D t Q f (listed.setIfInBounds t true) (a.put o.dst undef))

theorem getD_set_same (listed : Array Bool) (t : Nat) : (listed.setIfInBounds t true).getD t true = true := by
  rw [Array.getD_eq_getD_getElem?, Array.getElem?_setIfInBounds, if_pos rfl]
  split <;> rfl
theorem any_of_walkT {t : Nat} {Q : Act → Prop} {Q' : Exit → Act → World → Prop} (hQ : ∀ a w, D w → Q a → Q' .normal a w) :
    ∀ (f : Nat) (listed : Array Bool) (a : Act) (w : World), inC C D (listed.getD t true) w → walkT P md ops C D t Q f listed a → wpAny P md ops Q' f listed a w
  | 0, listed, a, w, hw, h => ⟨h.1, hQ _ _ (by have := h.2.1; rw [this] at hw; exact hw) h.2.2⟩
  | f + 1, listed, a, w, hw, h => by
    refine ⟨fun h0 => ?_, fun i hi => ?_⟩
    · obtain ⟨h1, h2⟩ := h.1 h0
      exact hQ _ _ (by rw [h1] at hw; exact hw) h2
    · by_cases hit : i = t
      · subst hit
        obtain ⟨o, ho, hwd, hst, hn⟩ := (h.2 i hi).2 rfl
        have hun := (mem_ready.1 hi).1
        rw [hun] at hw
        obtain ⟨w', hr, hD⟩ := hst w hw
        unfold wpOp
        simp only [ho]
        rw [if_pos hwd]
        left
        unfold Oper.wp
        rw [hr]
        exact any_of_walkT hQ f _ _ _ (by rw [getD_set_same]; exact hD) hn
      · exact wpOp_of_qOp hw (fun a' w' hw' h' => any_of_walkT hQ f _ a' w' (by rw [getD_set_ne true hit]; exact hw') h') ((h.2 i hi).1 hit)

theorem qOp_put2 {C' : World → Prop} {j : Nat} {oi oj : Oper} {v : Value} (hj : ops[j]? = some oj) (hap : oi.apart ops oj = true)
    (hsj : ∀ cs b, oj.op ≠ .select cs b) {K : Act → Prop} {a : Act} (h : qOp P ops C' j K (a.put oi.dst v)) :
    qOp P ops C' j (fun a' => (∃ u, a' = a.put oj.dst u) ∧ K (a'.put oi.dst v)) a := by
  obtain ⟨h1, h2, h3⟩ := Oper.apart_spec hap
  unfold qOp at *
  simp only [hj] at *
  rw [wanted_put oj a oi.dst v h1] at h
  split
  · rename_i hw
    simp only [hw, if_true] at h
    obtain ⟨u, hu, hn⟩ := h
    refine ⟨u, fun w hw' => ?_, ⟨u, rfl⟩, by rw [← Act.put_comm a v u h2]; exact hn⟩
    have := hu w hw'
    unfold Oper.quietAt at *
    rwa [execOp_put oj hsj a oi.dst v h1] at this
  · rename_i hw
    simp only [hw] at h
    exact ⟨⟨undef, rfl⟩, by rw [← Act.put_comm a v undef h2]; exact h⟩

theorem walkT_first {t i : Nat} {oi : Oper} {v : Value} {Q : Act → Prop} (hi : ops[i]? = some oi) (hit : i ≠ t) (hsel : ∀ (j : Nat) (o : Oper) cs b, ops[j]? = some o → o.op ≠ .select cs b)
    (late : Bool) (hlate : late = false → Region.waitsFor md ops t i = true) :
    ∀ (f : Nat) (listed : Array Bool) (a : Act),
      (∀ j oj, ops[j]? = some oj → j ≠ i → listed.getD j true = false → (∀ e ∈ oj.after, Region.binds md e = true → e.on ≠ i) → oi.apart ops oj = true) →
      i ∈ Region.ready md ops listed → (listed.getD t true = false → YieldsIn P ops C oi v a) → ((late = true ∨ listed.getD t true = true) → YieldsIn P ops D oi v a) →
      walkT P md ops C D t Q f (listed.setIfInBounds i true) (a.put oi.dst v) → walkT P md ops C D t Q (f + 1) listed a := by
  have yin : ∀ (listed : Array Bool) (a : Act), (listed.getD t true = false → YieldsIn P ops C oi v a) → ((late = true ∨ listed.getD t true = true) → YieldsIn P ops D oi v a) → YieldsIn P ops (inC C D (listed.getD t true)) oi v a := by
    intro listed a h1 h2
    cases hb : listed.getD t true
    · exact h1 hb
    · exact h2 (.inr hb)
  intro f
  induction f with
  | zero =>
    intro listed a _ hr hC hD H
    refine ⟨fun h => (by rw [h] at hr; cases hr), fun j hj => ?_⟩
    by_cases hji : j = i
    · subst hji; exact ⟨fun _ => (yin listed a hC hD).qOp hi H, fun h => absurd h hit⟩
    · have := ready_mono hj hji
      rw [H.1] at this
      cases this
  | succ f ih =>
    intro listed a hfree hr hC hD H
    refine ⟨fun h => (by rw [h] at hr; cases hr), fun j hj => ?_⟩
    by_cases hji : j = i
    · subst hji; exact ⟨fun _ => (yin listed a hC hD).qOp hi H, fun h => absurd h hit⟩
    · have hHj := H.2 j (ready_mono hj hji)
      obtain ⟨hjun, oj, hoj, hall⟩ := mem_ready.1 hj
      have hiun := (mem_ready.1 hr).1
      have hnot : ∀ e ∈ oj.after, Region.binds md e = true → e.on ≠ i := fun e he hb heq => by
        have h1 := hall e he hb
        rw [heq, getD_both hiun] at h1
        cases h1
      have hap := hfree j oj hoj hji hjun hnot
      obtain ⟨p1, p2, p3⟩ := Oper.apart_spec hap
      have hsi := fun cs b => hsel i oi cs b hi
      have keep : ∀ (E : World → Prop), YieldsIn P ops E oi v a → ∀ u, YieldsIn P ops E oi v (a.put oj.dst u) := fun E hy u =>
        hy.of_same (execOp_put oi hsi a oj.dst u p3) (wanted_put oi a oj.dst u p3)
      have hfree' : ∀ k ok, ops[k]? = some ok → k ≠ i → (listed.setIfInBounds j true).getD k true = false →
          (∀ e ∈ ok.after, Region.binds md e = true → e.on ≠ i) → oi.apart ops ok = true := fun k ok hk hki hun hno => by
        refine hfree k ok hk hki ?_ hno
        by_cases hjk : j = k
        · subst hjk; exact hjun
        · rw [getD_set_ne true hjk] at hun; exact hun
      by_cases hjt : j = t
      · subst hjt
        refine ⟨fun h => absurd rfl h, fun _ => ?_⟩
        have hl : late = true := by
          cases hl : late
          · exfalso
            obtain ⟨oj', hoj', e, he, hb, hon⟩ := Region.waitsFor_spec (hlate hl)
            rw [hoj] at hoj'
            cases hoj'
            exact hnot e he hb hon
          · rfl
        obtain ⟨o, ho, hwd, hst, hn⟩ := hHj.2 rfl
        rw [hoj] at ho
        cases ho
        refine ⟨oj, hoj, by rw [wanted_put oj a oi.dst v p1] at hwd; exact hwd, fun w hw => ?_, ?_⟩
        · obtain ⟨w', hr', hD'⟩ := hst w hw
          rw [execOp_put oj (fun cs b => hsel j oj cs b hoj) a oi.dst v p1] at hr'
          exact ⟨w', hr', hD'⟩
        · refine ih (listed.setIfInBounds j true) _ hfree' (ready_mono hr (Ne.symm hji)) (fun h => by rw [getD_set_same] at h; cases h) (fun _ => keep D (hD (.inl hl)) undef) ?_
          rw [Array.setIfInBounds_comm _ _ hji, ← Act.put_comm a v undef p2]
          exact hn
      · refine ⟨fun _ => ?_, fun h => absurd h hjt⟩
        have e1 : (listed.setIfInBounds i true).getD t true = listed.getD t true := getD_set_ne true hit
        have e2 : (listed.setIfInBounds j true).getD t true = listed.getD t true := getD_set_ne true hjt
        have h1 := hHj.1 hjt
        rw [e1] at h1
        refine qOp_mono (fun a' h3 => ?_) (qOp_put2 hoj hap (fun cs b => hsel j oj cs b hoj) h1)
        obtain ⟨⟨u, hu⟩, h4⟩ := h3
        refine ih (listed.setIfInBounds j true) a' hfree' (ready_mono hr (Ne.symm hji)) (fun h => by rw [hu]; exact keep C (hC (by rw [← e2]; exact h)) u) (fun h => by rw [hu]; exact keep D (hD (h.imp id fun h => by rw [← e2]; exact h)) u) ?_
        rw [Array.setIfInBounds_comm _ _ hji]
        exact h4

/-- a late one yields behind the store, too -/
def LateAt (P : Program) (D : World → Prop) (late : Nat → Bool) (k : Nat) (o : Oper) (a : Act) (v : Value) : Prop := late k = true → ∀ w, D w → o.quietAt P a D w v
theorem late_not {late : Nat → Bool} {k : Nat} {o : Oper} {a : Act} {v : Value} (h : late k = false) : LateAt P D late k o a v := fun h' => by rw [h] at h'; cases h'
/-- the walk in the order of the text; the late ones yield behind the store, too -/
def wpT (P : Program) (ops : Array Oper) (C D : World → Prop) (late : Nat → Bool) (Qt : Act → Prop) : Nat → List Oper → Act → Prop
  | _, [], a => Qt a
  | k, o :: rest, a => if Region.wanted o (yielded ops a.tmps) = true then ∃ v, (∀ w, C w → o.quietAt P a C w v) ∧ LateAt P D late k o a v ∧ wpT P ops C D late Qt (k + 1) rest (a.put o.dst v)
      else wpT P ops C D late Qt (k + 1) rest (a.put o.dst undef)
theorem wpT_nil {late : Nat → Bool} {Qt : Act → Prop} {k : Nat} {a : Act} (h : Qt a) : wpT P ops C D late Qt k [] a := h
theorem wpT_step {late : Nat → Bool} {Qt : Act → Prop} {k : Nat} {o : Oper} {rest : List Oper} {a : Act}
    (h : ∀ K : Act → Prop, (∀ a, wpT P ops C D late Qt (k + 1) rest a → K a) → if Region.wanted o (yielded ops a.tmps) = true then ∃ v, (∀ w, C w → o.quietAt P a C w v) ∧ LateAt P D late k o a v ∧ K (a.put o.dst v) else K (a.put o.dst undef)) :
    wpT P ops C D late Qt k (o :: rest) a := h _ (fun _ h => h)

theorem walkT_lex {t : Nat} {late : Nat → Bool} {Q : Act → Prop} (hsel : Region.noSelect ops = true) (hlate : ∀ i, i < t → late i = false → Region.waitsFor md ops t i = true) :
    ∀ (l : List Oper) (k : Nat) (listed : Array Bool) (a : Act), (∀ j, j < l.length → l[j]? = ops[k + j]?) → k + l.length = t → listed.getD t true = false →
    Region.lexFrom md ops (l.length + 1) k listed = true →
    wpT P ops C D late (fun a' => ∃ o, ops[t]? = some o ∧ Region.wanted o (yielded ops a'.tmps) = true ∧ StoreAt P o a' C D ∧ Q (a'.put o.dst undef)) k l a →
    walkT P md ops C D t Q (l.length + 1) listed a
  | [], k, listed, a, _, hk, hun, hB, h => by
    have hkt : k = t := by simpa using hk
    subst hkt
    simp only [List.length_nil, Region.lexFrom, Bool.and_eq_true] at hB
    have hr : k ∈ Region.ready md ops listed := by simpa using hB.1.1
    have he : Region.ready md ops (listed.setIfInBounds k true) = [] := by simpa using hB.2
    refine ⟨fun h0 => (by rw [h0] at hr; cases hr), fun i hi => ⟨fun hik => ?_, fun hik => ?_⟩⟩
    · have := ready_mono hi hik
      rw [he] at this; cases this
    · obtain ⟨o, ho, hwd, hst, hq⟩ := h
      exact ⟨o, ho, hwd, hst, he, getD_set_same _ _, hq⟩
  | o :: l, k, listed, a, hl, hk, hun, hB, h => by
    have h0 : ops[k]? = some o := by simpa using (hl 0 (by simp)).symm
    have hkt : k < t := by simp only [List.length_cons] at hk; omega
    simp only [List.length_cons] at hB ⊢
    rw [Region.lexFrom] at hB
    simp only [Bool.and_eq_true] at hB
    obtain ⟨⟨hr, hf⟩, hB'⟩ := hB
    have hr' : k ∈ Region.ready md ops listed := by simpa using hr
    have rec' := fun (v : Value) (hK : wpT P ops C D late (fun a' => ∃ o, ops[t]? = some o ∧ Region.wanted o (yielded ops a'.tmps) = true ∧ StoreAt P o a' C D ∧ Q (a'.put o.dst undef)) (k + 1) l (a.put o.dst v)) =>
      walkT_lex hsel hlate l (k + 1) (listed.setIfInBounds k true) (a.put o.dst v) (fun j hj => by have := hl (j + 1) (by simp; omega); simpa [Nat.add_assoc, Nat.add_comm 1 j] using this) (by simp only [List.length_cons] at hk; omega) (by rw [getD_set_ne true (by omega)]; exact hun) hB' hK
    unfold wpT at h
    by_cases hw : Region.wanted o (yielded ops a.tmps) = true
    · rw [if_pos hw] at h
      obtain ⟨v, hC, hD, hK⟩ := h
      exact walkT_first h0 (by omega) (Region.noSelect_spec hsel) (late k) (hlate k hkt) _ listed a (Region.free_spec h0 hf) hr' (fun _ => .inl ⟨hw, hC⟩) (fun hh => .inl ⟨hw, hD (hh.resolve_right (by rw [hun]; decide))⟩) (rec' v hK)
    · rw [if_neg hw] at h
      have hw' : Region.wanted o (yielded ops a.tmps) = false := by simpa using hw
      exact walkT_first h0 (by omega) (Region.noSelect_spec hsel) (late k) (hlate k hkt) _ listed a (Region.free_spec h0 hf) hr' (fun _ => .inr ⟨hw', rfl⟩) (fun _ => .inr ⟨hw', rfl⟩) (rec' undef h)

theorem wp_region_store {id : Nat} {Q : Exit → Act → World → Prop} {a : Act} {w : World} {l : List Oper} (C D : World → Prop) (late : List Nat) (t : Nat) (hm : P.follows .mixedOrders = true) (hB : Region.lexB .any l.toArray = true)
    (hT : (decide (t + 1 = l.length) && (List.range t).all fun i => late.contains i || Region.waitsFor .any l.toArray t i) = true) (hC : C { w with drawn := w.drawn + 1 })
    (h : wpT P l.toArray C D late.contains (fun a' => ∃ o, l.toArray[t]? = some o ∧ Region.wanted o (yielded l.toArray a'.tmps) = true ∧ StoreAt P o a' C D ∧ ∀ w', D w' → Q .normal (a'.put o.dst undef) w') 0 (l.take t) a) :
    (Code.region id l.toArray true).wp P Q a w := by
  simp only [Region.lexB, Bool.and_eq_true] at hB
  simp only [Bool.and_eq_true, decide_eq_true_eq] at hT
  obtain ⟨hlen, hall⟩ := hT
  have htl : (l.take t).length = t := by simp; omega
  refine wp_region_any hm ?_
  have hun : (Array.replicate l.toArray.size false).getD t true = false := getD_in (by simp; omega) (getD_replicate_false _ _)
  have := walkT_lex (md := .any) (C := C) (D := D) (t := t) (late := late.contains) (Q := fun a' => ∀ w', D w' → Q .normal a' w') hB.1 (fun i hi hl => by
    have := List.all_eq_true.1 hall i (List.mem_range.2 hi)
    rw [hl, Bool.false_or] at this
    exact this) (l.take t) 0 (Array.replicate l.toArray.size false) a (fun j hj => by
    have hj' : j < t := by rw [htl] at hj; exact hj
    simp [hj']) (by rw [htl]; omega) hun (by rw [htl, show t + 1 = l.toArray.size by simp; omega]; exact hB.2) h
  have h2 := any_of_walkT (Q' := Q) (fun a' w' hw' h' => h' w' hw') _ _ _ { w with drawn := w.drawn + 1 } (by rw [hun]; exact hC) this
  rw [htl] at h2
  rw [show t + 1 = l.toArray.size by simp; omega] at h2
  exact h2
end
end Go.Proofs.YtflpkkebampmfaaDoor
namespace Go.Proofs.YtflpkkebampmfaaDoor
open Go.RowKit Go.Shelf

theorem Tryd.infoNod : (Tryd.prog.info? 64).map (fun i => (i.zero, i.size, i.bytes)) = some (some (.agg #[.int .i64 0, .int .i64 0, .int .i64 0, .slice none 0 0, .slice none 0 0]), 5, 72) := by kernel_rfl

theorem w4_val (z : Int) (h : 0 ≤ z ∧ z < 256) : IntKind.i64.wrap (1 + IntKind.i64.wrap ((IntKind.u8.wrap (z.tdiv 16)).tmod 4)) = 1 + z / 16 % 4 := by
  obtain ⟨n, rfl⟩ := Int.eq_ofNat_of_zero_le h.1
  have key : ∀ n : Fin 256, IntKind.i64.wrap (1 + IntKind.i64.wrap ((IntKind.u8.wrap ((n.val : Int).tdiv 16)).tmod 4)) = 1 + (n.val : Int) / 16 % 4 := by decide +kernel
  exact key ⟨n, by omega⟩

theorem fin_heap {w : World} {R X : Nat} {p q : Value} {t : TypeId} (hX : R ≠ X) (h : w.heap[R]? = some (.cells #[p, q] t (0, 0))) (x y u : Value) : (((w.setCell ⟨X, 1, none⟩ x).setCell ⟨R, 0, none⟩ y).setCell ⟨R, 1, none⟩ u).heap[R]? = some (.cells #[y, u] t (0, 0)) := by
  have h1 := (Below.heap_setCell w ⟨X, 1, none⟩ x R hX).trans h
  have h2 : ((w.setCell ⟨X, 1, none⟩ x).setCell ⟨R, 0, none⟩ y).heap[R]? = some (.cells #[y, q] t (0, 0)) := by rw [heap_set_at h1]; rfl
  rw [heap_set_at h2]; rfl
theorem fin_other {w : World} {G R X : Nat} {o : Obj} (hX : G ≠ X) (hR : G ≠ R) (h : w.heap[G]? = some o) (x y u : Value) : (((w.setCell ⟨X, 1, none⟩ x).setCell ⟨R, 0, none⟩ y).setCell ⟨R, 1, none⟩ u).heap[G]? = some o :=
  (Below.heap_setCell _ ⟨R, 1, none⟩ _ G hR).trans ((Below.heap_setCell _ ⟨R, 0, none⟩ _ G hR).trans ((Below.heap_setCell _ ⟨X, 1, none⟩ _ G hX).trans h))
theorem srv_xm {w : World} {G : Nat} {t : TypeId} {fr : Nat × Nat} (h : w.heap[G]? = some (.cells #[.int .i64 1, .int .i64 0, .int .i64 0, .slice none 0 0, .slice none 0 0] t fr)) : XM w (some ⟨G, 0, none⟩) 1 1 [srv0] := by
  refine XM.of_rdK (V := [⟨1, 0, 0, .slice none 0 0, .slice none 0 0⟩]) ⟨rfl, Nat.le_refl _, by unfold maxLen; omega, fun h => (by cases h), fun _ => ⟨_, _, rfl, fun i v hv => ?_⟩⟩ rfl ?_
  · rw [Nat.zero_add]
    exact (cell_of_row _ _ i _ _ _ h).trans (by simpa [nodVC] using hv)
  · intro i p nd hp hn
    match i, hp, hn with
    | 0, hp, hn => cases hp; cases hn; exact ⟨rfl, rfl, rfl, ⟨none, 0, 0, rfl, Rd.none_ _⟩, ⟨none, 0, 0, rfl, Rd.none_ _⟩⟩

set_option maxRecDepth 100000 in
set_option maxHeartbeats 8000000 in
theorem made_r (ps : List Pce) (hok : ∀ p ∈ ps, p.ok) (a : Option Addr) (n c : Nat) (w : World) (h : PM w a n c ps) :
    Calls Tryd.prog 18 #[.agg #[.slice a n c]] w fun e w' => ∃ a' c', e = .returned (.agg #[.slice a' (madX ps).nodes.length c', .int .i64 (madX ps).root]) ∧ XMR w.heap.size w'.heap.size w' a' (madX ps).nodes.length c' (madX ps).nodes ∧ Below w.heap.size w w' := by
  have hle := h.le
  have hm := h.max
  unfold maxLen at hm
  have HN := Lib.hid h.len
  have HPM := Lib.hid h
  have HOK := Lib.hid hok
  clear h hok
  go_enter Tryd.func18, Tryd.ntmps18
  go_wp2_with fail
  generalize hWS : ((w.alloc _).alloc _).alloc _ = WS
  have hS : WS.heap.size = w.heap.size + 3 := by rw [← hWS]; simp
  have hbS : Below w.heap.size w WS := by rw [← hWS]; exact (((Below.refl _ w).alloc (Nat.le_refl _) _).alloc (by simp) _).alloc (by simp; omega) _
  have gD : WS.heap[w.heap.size]? = some (.cells #[.slice a n c] 45 (0, 0)) := by
    rw [← hWS]; exact heap_alloc_at (heap_alloc_at (heap_alloc_new _ _) _) _
  have gR : WS.heap[w.heap.size + 1]? = some (.cells #[.slice none 0 0, .int .i64 0] 24 (0, 0)) := by
    rw [← hWS]
    have := heap_alloc_new (w.alloc (Obj.cells #[.slice a n c] 45)) (.cells #[.slice none 0 0, .int .i64 0] 24)
    rw [World.size_alloc] at this
    exact heap_alloc_at this _
  have gX : WS.heap[w.heap.size + 1 + 1]? = some (.cells #[.slice none 0 0, .int .i64 0] 24 (0, 0)) := by
    rw [← hWS]
    have := heap_alloc_new ((w.alloc (Obj.cells #[.slice a n c] 45)).alloc (.cells #[.slice none 0 0, .int .i64 0] 24)) (.cells #[.slice none 0 0, .int .i64 0] 24)
    rw [World.size_alloc, World.size_alloc] at this; exact this
  have HGD := Lib.hid gD
  have HGR := Lib.hid gR
  have HGX := Lib.hid gX
  have HBS := Lib.hid hbS
  have HSS := Lib.hid hS
  clear hWS gD gR gX hbS hS
  go_loopw [4] (fun i wr => ∃ k v, k ≤ mad9 ps ∧ i = .int .i64 ((k : Nat) : Int) ∧ wr.heap[w.heap.size + 1 + 1]? = some (.cells #[v, .int .i64 0] 24 (0, 0)) ∧ XW wr (w.heap.size + 1 + 1) v 64 (madT ps k) ∧ Below (w.heap.size + 1 + 1) WS wr) (fun i _ => mad9 ps - (intOf i).toNat)
  case atStart => exact ⟨0, _, Nat.zero_le _, rfl, HGX.out, XW.nil _ _ _, Below.refl _ _⟩
  case round =>
    obtain ⟨k, v, hk, rfl, hX, hxw, hb⟩ := hrel
    have hD := (hb.block w.heap.size (by omega)).trans HGD.out
    have qD := cell_of_row _ _ 0 _ _ _ hD
    by_cases hlt : k < mad9 ps
    · have h9 : k < 9 ∧ k < n := by unfold mad9 at hlt; have := HN.out; omega
      obtain ⟨p, hp⟩ : ∃ p, ps[k]? = some p := ⟨_, List.getElem?_eq_getElem (by have := HN.out; omega)⟩
      obtain ⟨hpk, hpz⟩ := HOK.out p (List.mem_of_getElem? hp)
      have hbw : Below w.heap.size w wr := HBS.out.trans (hb.mono (by omega))
      obtain ⟨b, o, ha, hat⟩ := (HPM.out.below hbw).at' (by omega)
      have hM := hat k p hp
      obtain ⟨a4, n4, c4, m4, r4⟩ := hM.ks
      have m0 := hM.c0
      have m1 := hM.c1
      have m2 := hM.c2
      have m3 := hM.c3
      have HTS : Hid (madT ps (k + 1) = madT ps k ++ [madN p k]) := Lib.hid (by rw [madT_succ, List.getD_eq_getElem?_getD, hp]; rfl)
      subst ha
      obtain ⟨kind, server, need, heavy, kids⟩ := p
      simp only at m0 m1 m2 m3 hpk hpz
      have R4 := Lib.hid r4
      have HB := Lib.hid hb
      have HX := Lib.hid hX
      have HXW := Lib.hid hxw
      have HPZ := Lib.hid hpz
      clear hM hat hp r4 hb hX hxw hbw hpz
      obtain ⟨hpk1, hpk2, hpk3⟩ := hpk
      have hd1 : decide ((k : Int) < (n : Int)) = true := decide_eq_true (by omega)
      have hd2 : decide ((k : Int) < 9) = true := decide_eq_true (by omega)
      by_cases hsv : k = 0 ∨ kind % 3 = 0
      · have hmn : madN ⟨kind, server, need, heavy, kids⟩ k = ⟨1, server % 6, 0, [], []⟩ := by unfold madN; rw [if_pos hsv]
        rw [hmn] at HTS
        have hsm : IntKind.i64.wrap (server % 6) = server % 6 := by unfold IntKind.wrap; simp [IntKind.bits, IntKind.signed]; omega
        have HSM := Lib.hid hsm
        obtain ⟨z, hz⟩ : ∃ z, z = wr.alloc (.cells #[.int .u8 kind, .int .u8 server, .int .u8 need, .bool heavy, .slice a4 n4 c4] 85) := ⟨_, rfl⟩
        have hbz : Below wr.heap.size wr z := by rw [hz]; exact (Below.refl _ _).alloc (Nat.le_refl _) _
        have gX := heap_below hbz HX.out
        have hxw := HXW.out.below hbz
        have hp : NodC z (w.heap.size + 1 + 1) v ⟨1, server % 6, 0, .slice none 0 0, .slice none 0 0⟩ ⟨1, server % 6, 0, [], []⟩ := by exact NodC.srv _ _ _ _ _
        have hsel : (k = 0 ∧ ((k : Int) == 0) = true) ∨ (((k : Int) == 0) = false ∧ (kind % 3 == 0) = true) := by
          by_cases h0 : k = 0
          · exact .inl ⟨h0, by subst h0; rfl⟩
          · have h3 : kind % 3 = 0 := hsv.resolve_left h0
            exact .inr ⟨by rw [beq_eq_false_iff_ne]; omega, by rw [h3]; rfl⟩
        obtain ⟨V', hV1, hV2, hV3⟩ := hxw.row
        rw [madT_len] at hV2
        obtain ⟨av, cv, rfl, _⟩ := rdK_of_row hV2
        have x0 := cell_of_row _ _ 0 _ _ _ gX
        have HGX2 := Lib.hid gX
        have hXl : w.heap.size + 1 + 1 < z.heap.size := (Array.getElem?_eq_some_iff.1 gX).1
        have HP := Lib.hid hp
        have HV1 := Lib.hid hV1
        have HV3 := Lib.hid hV3
        have HBZ := Lib.hid hbz
        rw [hz] at x0
        have HZS : Hid (z.heap.size = wr.heap.size + 1) := Lib.hid (by rw [hz]; simp)
        have HZ := Lib.hid hz
        clear gX hbz hxw hp hV1 hV3 hmn hsm hsv hz
        have hkk := hk
        rcases hsel with ⟨h0, e1⟩ | ⟨e1, e2⟩
        all_goals try (subst h0; clear e1; simp only [Nat.zero_mul, Nat.mul_zero, Nat.add_zero] at m0 m1 m2 m3 m4)
        all_goals
          go_wp2_with (at_builtin; rw [← HZ.out, ← HZS.out]; go_must (refine wpList_appK2 5 _ _ 22 72 (.agg #[.int .i64 0, .int .i64 0, .int .i64 0, .slice none 0 0, .slice none 0 0]) (nodVC ⟨1, server % 6, 0, .slice none 0 0, .slice none 0 0⟩) _ Tryd.underlying22 Tryd.infoNod rfl (by decide) hV2 (Below.refl (w.heap.size + 1 + 1 + 1) z) hXl rfl rfl rfl rfl rfl (by intro u hu; unfold nodVC at hu; simp at hu; rcases hu with rfl | rfl | rfl | rfl | rfl <;> rfl) (by unfold maxLen; omega) (by omega) ?_))
          intro v' w4 hown4 hb4 hg4 hs4 hv4
          obtain ⟨a5, c5, rfl, _⟩ := rdK_of_row hown4
          have hX4 := (hg4.block (w.heap.size + 1 + 1) hXl (fun e => by have := (hV2.lt _ e.symm).1; omega)).trans HGX2.out
          have p0 := cell_of_row _ _ 0 _ _ _ hX4
          have z0 := frozen_row hX4 0
          have HO4 := Lib.hid hown4
          have HG4 := Lib.hid hg4
          have HB4 := Lib.hid hb4
          have HVV4 := Lib.hid hv4
          have HX4 := Lib.hid hX4
          clear hown4 hb4 hg4 hs4 hv4 hX4 x0
          go_wp2_with fail
          go_roundw
          case rel => first | exact ⟨k + 1, .slice a5 (k + 1) c5, by omega, by go_num, by rw [heap_set_at HX4.out]; rfl, by rw [HTS.out]; exact (XW.push HV1.out HV3.out (by rw [madT_len]; exact HO4.out) HP.out HG4.out HVV4.out).set 0 _, ((HB.out.trans (HBZ.out.mono (by have := (Array.getElem?_eq_some_iff.1 HX.out).1; omega))).trans (HB4.out.mono (Nat.le_succ _))).setCell (p := ⟨w.heap.size + 1 + 1, 0, none⟩) (Nat.le_refl _) _⟩ | exact ⟨0 + 1, .slice a5 (0 + 1) c5, by omega, by go_num, by rw [heap_set_at HX4.out]; rfl, by rw [HTS.out]; exact (XW.push HV1.out HV3.out (by rw [madT_len]; exact HO4.out) HP.out HG4.out HVV4.out).set 0 _, ((HB.out.trans (HBZ.out.mono (by have := (Array.getElem?_eq_some_iff.1 HX.out).1; omega))).trans (HB4.out.mono (Nat.le_succ _))).setCell (p := ⟨w.heap.size + 1 + 1, 0, none⟩) (Nat.le_refl _) _⟩
          case measure => simp [intOf] <;> omega
      · have hk0 : ¬ k = 0 := fun e => hsv (.inl e)
        have hk3 : ¬ kind % 3 = 0 := fun e => hsv (.inr e)
        have e1 : ((k : Int) == 0) = false := by rw [beq_eq_false_iff_ne]; omega
        have e2 : (kind % 3 == 0) = false := by simpa using hk3
        have hmk : mk5 ⟨kind, server, need, heavy, kids⟩ ≤ 5 ∧ mk5 ⟨kind, server, need, heavy, kids⟩ ≤ n4 := by
          have h1 := R4.out.len
          simp at h1
          unfold mk5; simp only; omega
        have hmk2 : ∀ j, j < n4 → j < 5 → j < mk5 ⟨kind, server, need, heavy, kids⟩ := fun j h1 h2 => by
          have h3 := R4.out.len
          simp at h3
          unfold mk5; simp only; omega
        have HMK := Lib.hid hmk
        have HMK2 := Lib.hid hmk2
        clear hmk hmk2
        go_wp2_with fail
        generalize hW2 : (wr.alloc _).alloc _ = W2
        have gP : W2.heap[wr.heap.size]? = some (.cells #[.int .u8 kind, .int .u8 server, .int .u8 need, .bool heavy, .slice a4 n4 c4] 85 (0, 0)) := by rw [← hW2]; exact heap_alloc_at (heap_alloc_new _ _) _
        have gN : W2.heap[wr.heap.size + 1]? = some (.cells #[.int .i64 2, .int .i64 0, .int .i64 0, .slice none 0 0, .slice none 0 0] 64 (0, 0)) := by
          rw [← hW2]
          have := heap_alloc_new (wr.alloc (Obj.cells #[.int .u8 kind, .int .u8 server, .int .u8 need, .bool heavy, .slice a4 n4 c4] 85)) (.cells #[.int .i64 2, .int .i64 0, .int .i64 0, .slice none 0 0, .slice none 0 0] 64)
          rw [World.size_alloc] at this; exact this
        have hb2 : Below wr.heap.size wr W2 := by rw [← hW2]; exact ((Below.refl _ _).alloc (Nat.le_refl _) _).alloc (by simp) _
        have hs2 : W2.heap.size = wr.heap.size + 2 := by rw [← hW2]; simp
        have GP := Lib.hid gP
        have GN := Lib.hid gN
        have HB2 := Lib.hid hb2
        have HS2 := Lib.hid hs2
        have R42 := Lib.hid (R4.out.below hb2)
        clear hW2 gP gN hb2 hs2
        obtain ⟨W0, hW0⟩ : ∃ W0, W0 = wr := ⟨_, rfl⟩
        subst hW0
        go_loopw [7] (fun i wq => ∃ j wv kv, j ≤ mk5 ⟨kind, server, need, heavy, kids⟩ ∧ i = .int .i64 ((j : Nat) : Int) ∧ wq.heap[W0.heap.size + 1]? = some (.cells #[.int .i64 2, .int .i64 0, .int .i64 0, wv, kv] 64 (0, 0)) ∧ wq.ownsRow (W0.heap.size + 1 + 1) 3 1 wv (mwtTo ⟨kind, server, need, heavy, kids⟩ j).length ((mwtTo ⟨kind, server, need, heavy, kids⟩ j).map (Value.int .i64)) ∧ wq.ownsRow (W0.heap.size + 1 + 1) 3 1 kv j ((mkdTo ⟨kind, server, need, heavy, kids⟩ k j).map (Value.int .i64)) ∧ (∀ g, wv.ownBlock = some g → kv.ownBlock ≠ some g) ∧ Below (W0.heap.size + 1) W2 wq) (fun i _ => mk5 ⟨kind, server, need, heavy, kids⟩ - (intOf i).toNat)
        case atStart => exact ⟨0, _, _, Nat.zero_le _, rfl, GN.out, by unfold mwtTo; simp; exact World.ownsRow_nil _ _ _ _, by unfold mkdTo; simp; exact World.ownsRow_nil _ _ _ _, fun g hg => (by cases hg), Below.refl _ _⟩
        case round =>
          obtain ⟨j, wv, kv, hj, rfl, hbk, hrw, hrk, hdis, hbq⟩ := hrel
          have hP := (hbq.block W0.heap.size (by omega)).trans GP.out
          have q2 := cell_of_row _ _ 2 _ _ _ hP
          have q3 := cell_of_row _ _ 3 _ _ _ hP
          have q4 := cell_of_row _ _ 4 _ _ _ hP
          by_cases hltj : j < mk5 ⟨kind, server, need, heavy, kids⟩
          · have hmk := HMK.out
            obtain ⟨z, hz⟩ : ∃ z, kids[j]? = some z := ⟨_, List.getElem?_eq_getElem (by have h1 := R4.out.len; simp at h1; omega)⟩
            have hzr := HPZ.out z (List.mem_of_getElem? hz)
            have t1 : decide ((j : Int) < (n4 : Int)) = true := decide_eq_true (by omega)
            have t2 : decide ((j : Int) < 5) = true := decide_eq_true (by omega)
            obtain ⟨b4, o4, ha4, hcell4⟩ := (R4.out).at' (by omega)
            have hc40 := hcell4 j (.int .u8 z) (by rw [List.getElem?_map, hz]; rfl)
            have hb4lt : b4 < W0.heap.size := cell_lt hc40
            have KC4 : Hid (∀ u : World, Below (W0.heap.size + 1) W2 u → u.cell? ⟨b4, o4 + j, none⟩ = some (.int .u8 z)) := Lib.hid (fun u hu => by
              rw [World.cell?_of_block (w := W2) (w' := u) (a := ⟨b4, o4 + j, none⟩) (hu.block _ (by show b4 < W0.heap.size + 1; omega))]
              exact cell_keep HB2.out hc40)
            have hc4 := KC4.out wr hbq
            obtain ⟨ak, ck, rfl, _⟩ := rd_of_row hrk
            have HBK := Lib.hid hbk
            have HRK := Lib.hid hrk
            have HRW := Lib.hid hrw
            have HDIS := Lib.hid hdis
            have HBQ := Lib.hid hbq
            have HKS := Lib.hid (mkdTo_succ (p := ⟨kind, server, need, heavy, kids⟩) (i := k) hz)
            have HWSS := Lib.hid (fun hh => mwtTo_succ (p := ⟨kind, server, need, heavy, kids⟩) hz hh)
            subst ha4
            clear hcell4 hz hbk hrw hrk hdis hbq hP
            have HVAL : Hid ((IntKind.i64.wrap z).tmod (k : Int) = z % (k : Int)) := Lib.hid (by
              rw [show IntKind.i64.wrap z = z by unfold IntKind.wrap; simp [IntKind.bits, IntKind.signed]; omega, Int.tmod_eq_emod_of_nonneg (by omega)])
            clear hc40 hb4lt
            have p4 := cell_of_row _ _ 4 _ _ _ HBK.out
            have z4 := frozen_row HBK.out 4
            have p4b : (wr.alloc (Obj.cells #[.int .i64 ((IntKind.i64.wrap z).tmod (k : Int))] 3)).cell? ⟨W0.heap.size + 1, 4, none⟩ = some (.slice ak j ck) := cell_of_row _ _ 4 _ _ _ (heap_alloc_at HBK.out _)
            have hNn : W0.heap.size + 1 < wr.heap.size := (Array.getElem?_eq_some_iff.1 HBK.out).1
            have KA : Hid (∀ x y : World, x.grownBy y (Value.slice ak j ck).ownBlock → x.heap[W0.heap.size + 1]? = wr.heap[W0.heap.size + 1]? → wr.heap.size ≤ x.heap.size → y.heap[W0.heap.size + 1]? = some (.cells #[.int .i64 2, .int .i64 0, .int .i64 0, wv, .slice ak j ck] 64 (0, 0))) := Lib.hid (fun x y hg hx hsx => by
              rw [hg.block _ (by omega) (fun e => by have := (HRK.out.lt _ e.symm).1; omega), hx]
              exact HBK.out)
            obtain ⟨ii, hi0, hz0, hz1, hz2⟩ := info_parts Tryd.infoInt
            go_wp2_with fail
            go_region_law (first
              | (refine step_append_lies _ (by rfl) _ _ _ (by rfl) (W0.heap.size + 1 + 1) 3 ii _ 1 8 Tryd.underlying62 hi0 hz0 hz1 hz2 rfl (by omega) (.slice ak j ck) j _ (by rfl) ((HRK.out.alloc _).drew) ⟨wr.heap.size, 0, none⟩ 1 1 [.int .i64 ((IntKind.i64.wrap z).tmod (k : Int))] (by rfl) (by rfl) (World.news_of_block (cs := #[.int .i64 ((IntKind.i64.wrap z).tmod (k : Int))]) (t := 3) (fr := (0, 0)) (heap_alloc_new wr _)) (by simp [Value.oneCell']) (by omega) (by unfold maxLen; omega) (by omega) (by simp; omega) (wr.heap.size + 1) (by simp) ?_; intro gg cap wA hownA hgrow hat hlt; have hA := KA.out _ _ hgrow (Below.heap_alloc wr _ _ (by omega)) (by simp); have pA := cell_of_row _ _ 4 _ _ _ hA; have zA := frozen_row hA 4; have HA := Lib.hid hA; have HOA := Lib.hid hownA; have HGA := Lib.hid hgrow; have HAT := Lib.hid hat; clear hA hownA hgrow hat p4 z4 p4b))
            all_goals
              generalize hw5 : wA.setCell _ _ = w5
              have hbk5 : w5.heap[W0.heap.size + 1]? = some (.cells #[.int .i64 2, .int .i64 0, .int .i64 0, wv, .slice (some ⟨gg, 0, none⟩) (j + 1) cap] 64 (0, 0)) := by rw [← hw5, heap_set_at HA.out]; rfl
              have hrk5 : w5.ownsRow (W0.heap.size + 1 + 1) 3 1 (.slice (some ⟨gg, 0, none⟩) (j + 1) cap) (j + 1) ((mkdTo ⟨kind, server, need, heavy, kids⟩ k (j + 1)).map (Value.int .i64)) := by
                rw [← hw5, HKS.out, List.map_append]
                have hrow := HOA.out
                rw [HVAL.out] at hrow
                exact rowK_at hrow fun g hg => Below.heap_setCell _ _ _ _ (by have := (hrow.lt g hg).1; show g ≠ W0.heap.size + 1; omega)
              have hrw5 : w5.ownsRow (W0.heap.size + 1 + 1) 3 1 wv (mwtTo ⟨kind, server, need, heavy, kids⟩ j).length ((mwtTo ⟨kind, server, need, heavy, kids⟩ j).map (Value.int .i64)) := rowK_at HRW.out fun g hg => by
                have hgl := HRW.out.lt g hg
                rw [← hw5, Below.heap_setCell _ _ _ _ (by show g ≠ W0.heap.size + 1; omega), HGA.out.block g (by show g < (wr.alloc _).heap.size; simp; omega) (fun e => HDIS.out g hg e.symm)]
                exact Below.heap_alloc wr _ g hgl.2
              have hdis5 : ∀ g, wv.ownBlock = some g → (Value.slice (some ⟨gg, 0, none⟩) (j + 1) cap).ownBlock ≠ some g := fun g hg e => by
                have hgl := (HRW.out.lt g hg).2
                have e2 : gg = g := by simpa [Value.ownBlock] using e
                rcases HAT.out with h1 | h1
                · exact HDIS.out g hg (e2 ▸ h1)
                · omega
              have hbq5 : Below (W0.heap.size + 1) W2 w5 := by
                rw [← hw5]
                exact ((HBQ.out.trans (below_drew ((Below.refl (W0.heap.size + 1) wr).alloc (by omega) _))).grown HGA.out (by show W0.heap.size + 1 ≤ (wr.alloc _).heap.size; simp; omega) (fun g hg => by have := (HRK.out.lt g hg).1; omega)).setCell (p := ⟨W0.heap.size + 1, 4, none⟩) (Nat.le_refl _) _
              have hP5 := (hbq5.block W0.heap.size (by omega)).trans GP.out
              have s3 := cell_of_row _ _ 3 _ _ _ hP5
              have s4 := cell_of_row _ _ 4 _ _ _ hP5
              have hc5 := KC4.out w5 hbq5
              have HBK5 := Lib.hid hbk5
              have HRK5 := Lib.hid hrk5
              have HRW5 := Lib.hid hrw5
              have HDIS5 := Lib.hid hdis5
              have HBQ5 := Lib.hid hbq5
              clear hw5 hbk5 hrk5 hrw5 hdis5 hbq5 hP5 HA HOA HGA HAT pA zA hc4 q2 q3 q4
              cases heavy with
              | false =>
                go_wp2_with fail
                go_roundw
                case rel => exact ⟨j + 1, wv, _, by omega, by go_num, HBK5.out, by have := HRW5.out; rw [mwtTo_light _ rfl] at this ⊢; exact this, HRK5.out, HDIS5.out, HBQ5.out⟩
                case measure => simp [intOf] <;> omega
              | true =>
                have hml : ∀ j, j ≤ mk5 ⟨kind, server, need, true, kids⟩ → (mwtTo ⟨kind, server, need, true, kids⟩ j).length = j := fun j hj => by
                  unfold mwtTo; rw [if_pos rfl, List.length_map, List.length_take]; unfold mk5 at hj; simp only at hj ⊢; omega
                have hrw6 := HRW5.out
                rw [hml j (by omega)] at hrw6
                obtain ⟨aw, cw, rfl, _⟩ := rd_of_row hrw6
                have HRW6 := Lib.hid hrw6
                obtain ⟨kv5, hkv5⟩ : ∃ kv5, kv5 = Value.slice (some ⟨gg, 0, none⟩) (j + 1) cap := ⟨_, rfl⟩
                rw [← hkv5] at HBK5 HRK5 HDIS5
                have HBK := Lib.hid HBK5.out
                have HML := Lib.hid (hml (j + 1) (by omega))
                clear hrw6 hml hkv5 HRW HRW5 HRK HDIS HBQ HBK5
                have p4 := cell_of_row _ _ 3 _ _ _ HBK.out
                have z4 := frozen_row HBK.out 3
                have p4b : (w5.alloc (Obj.cells #[.int .i64 (IntKind.i64.wrap (1 + IntKind.i64.wrap ((IntKind.u8.wrap (z.tdiv 16)).tmod 4)))] 3)).cell? ⟨W0.heap.size + 1, 3, none⟩ = some (.slice aw j cw) := cell_of_row _ _ 3 _ _ _ (heap_alloc_at HBK.out _)
                have hNn : W0.heap.size + 1 < w5.heap.size := (Array.getElem?_eq_some_iff.1 HBK.out).1
                have KA : Hid (∀ x y : World, x.grownBy y (Value.slice aw j cw).ownBlock → x.heap[W0.heap.size + 1]? = w5.heap[W0.heap.size + 1]? → w5.heap.size ≤ x.heap.size → y.heap[W0.heap.size + 1]? = some (.cells #[.int .i64 2, .int .i64 0, .int .i64 0, .slice aw j cw, kv5] 64 (0, 0))) := Lib.hid (fun x y hg hx hsx => by
                  rw [hg.block _ (by omega) (fun e => by have := (HRW6.out.lt _ e.symm).1; omega), hx]
                  exact HBK.out)
                obtain ⟨ii, hi0, hz0, hz1, hz2⟩ := info_parts Tryd.infoInt
                go_wp2_with fail
                go_region_law (first
                  | (refine step_append_lies _ (by rfl) _ _ _ (by rfl) (W0.heap.size + 1 + 1) 3 ii _ 1 8 Tryd.underlying62 hi0 hz0 hz1 hz2 rfl (by omega) (.slice aw j cw) j _ (by rfl) ((HRW6.out.alloc _).drew) ⟨w5.heap.size, 0, none⟩ 1 1 [.int .i64 (IntKind.i64.wrap (1 + IntKind.i64.wrap ((IntKind.u8.wrap (z.tdiv 16)).tmod 4)))] (by rfl) (by rfl) (World.news_of_block (cs := #[.int .i64 (IntKind.i64.wrap (1 + IntKind.i64.wrap ((IntKind.u8.wrap (z.tdiv 16)).tmod 4)))]) (t := 3) (fr := (0, 0)) (heap_alloc_new w5 _)) (by simp [Value.oneCell']) (by omega) (by unfold maxLen; omega) (by omega) (by simp; omega) (w5.heap.size + 1) (by simp) ?_; intro gg cap wA hownA hgrow hat hlt; have hA := KA.out _ _ hgrow (Below.heap_alloc w5 _ _ (by omega)) (by simp); have pA := cell_of_row _ _ 3 _ _ _ hA; have zA := frozen_row hA 3; have HA := Lib.hid hA; have HOA := Lib.hid hownA; have HGA := Lib.hid hgrow; have HAT := Lib.hid hat; clear hA hownA hgrow hat p4 z4 p4b))
                all_goals
                  generalize hw7 : wA.setCell _ _ = w7
                  have hbk7 : w7.heap[W0.heap.size + 1]? = some (.cells #[.int .i64 2, .int .i64 0, .int .i64 0, .slice (some ⟨gg, 0, none⟩) (j + 1) cap, kv5] 64 (0, 0)) := by rw [← hw7, heap_set_at HA.out]; rfl
                  have hrw7 : w7.ownsRow (W0.heap.size + 1 + 1) 3 1 (.slice (some ⟨gg, 0, none⟩) (j + 1) cap) (mwtTo ⟨kind, server, need, true, kids⟩ (j + 1)).length ((mwtTo ⟨kind, server, need, true, kids⟩ (j + 1)).map (Value.int .i64)) := by
                    rw [HML.out, ← hw7, HWSS.out (by trivial), List.map_append]
                    have hrow := HOA.out
                    rw [w4_val z hzr] at hrow
                    exact rowK_at hrow fun g hg => Below.heap_setCell _ _ _ _ (by have := (hrow.lt g hg).1; show g ≠ W0.heap.size + 1; omega)
                  have hrk7 : w7.ownsRow (W0.heap.size + 1 + 1) 3 1 kv5 (j + 1) ((mkdTo ⟨kind, server, need, true, kids⟩ k (j + 1)).map (Value.int .i64)) := rowK_at HRK5.out fun g hg => by
                    have hgl := HRK5.out.lt g hg
                    rw [← hw7, Below.heap_setCell _ _ _ _ (by show g ≠ W0.heap.size + 1; omega), HGA.out.block g (by show g < (w5.alloc _).heap.size; simp; omega) (fun e => HDIS5.out g e.symm hg)]
                    exact Below.heap_alloc w5 _ g hgl.2
                  have hdis7 : ∀ g, (Value.slice (some ⟨gg, 0, none⟩) (j + 1) cap).ownBlock = some g → kv5.ownBlock ≠ some g := fun g e hg => by
                    have hgl := (HRK5.out.lt g hg).2
                    have e2 : gg = g := by simpa [Value.ownBlock] using e
                    rcases HAT.out with h1 | h1
                    · exact HDIS5.out gg h1 (e2 ▸ hg)
                    · omega
                  have hbq7 : Below (W0.heap.size + 1) W2 w7 := by
                    rw [← hw7]
                    exact ((HBQ5.out.trans (below_drew ((Below.refl (W0.heap.size + 1) w5).alloc (by omega) _))).grown HGA.out (by show W0.heap.size + 1 ≤ (w5.alloc _).heap.size; simp; omega) (fun g hg => by have := (HRW6.out.lt g hg).1; omega)).setCell (p := ⟨W0.heap.size + 1, 3, none⟩) (Nat.le_refl _) _
                  have HBK7 := Lib.hid hbk7
                  have HRW7 := Lib.hid hrw7
                  have HRK7 := Lib.hid hrk7
                  have HDIS7 := Lib.hid hdis7
                  have HBQ7 := Lib.hid hbq7
                  clear hw7 hbk7 hrw7 hrk7 hdis7 hbq7 HA HOA HGA HAT pA zA
                  go_wp2_with fail
                  go_roundw
                  case rel => exact ⟨j + 1, _, kv5, by omega, by go_num, HBK7.out, HRW7.out, HRK7.out, HDIS7.out, HBQ7.out⟩
                  case measure => simp [intOf] <;> omega
          · have hjm : j = mk5 ⟨kind, server, need, heavy, kids⟩ := by omega
            have hnt : ¬ (j < n4 ∧ j < 5) := fun e => hltj (HMK2.out j e.1 e.2)
            have hkp : ∀ q : Pce, (∀ z ∈ q.kids, 0 ≤ z ∧ z < 256) → ∀ l, l ≤ (madK q k).kids.length → 0 ≤ sumTo (madK q k) l ∧ sumTo (madK q k) l ≤ 1000000 := fun q hq l hl => by
              have h1 := sum_bd (nd := madK q k) (mwt_rng q hq (mk5 q)) (mwt_len q k (mk5 q)) l hl
              have h2 : (madK q k).kids.length ≤ 5 := by show (mkdTo q k (mk5 q)).length ≤ 5; rw [mkdTo_len q k _ (by unfold mk5; omega)]; unfold mk5; omega
              omega
            obtain ⟨aw, cw, rfl, hrdw⟩ := rd_of_row hrw
            obtain ⟨ak, ck, rfl, hrdk⟩ := rd_of_row hrk
            subst hjm
            obtain ⟨J, hJ⟩ : ∃ J, mk5 ⟨kind, server, need, heavy, kids⟩ = J := ⟨_, rfl⟩
            obtain ⟨L, hL⟩ : ∃ L, (mwtTo ⟨kind, server, need, heavy, kids⟩ (mk5 ⟨kind, server, need, heavy, kids⟩)).length = L := ⟨_, rfl⟩
            have HSUM : Hid (∀ y : World, Below wr.heap.size wr y → Calls Tryd.prog 42 #[.agg #[.int .i64 2, .int .i64 0, .int .i64 0, .slice aw L cw, .slice ak J ck]] y fun e w' => e = .returned (.int .i64 (sumN (madK ⟨kind, server, need, heavy, kids⟩ k))) ∧ Below wr.heap.size wr w') := Lib.hid (fun y hy => by
              rw [← hJ, ← hL]
              refine Calls.mono ?_ (fun e w' (h : e = _ ∧ Below y.heap.size y w') => ⟨h.1, Below.next hy h.2⟩)
              exact rsum_c (madK ⟨kind, server, need, heavy, kids⟩ k) (mwt_len _ k _) (hkp _ HPZ.out) (fun l hl => rfl) aw _ cw ak _ ck y (hrdw.below hy) (hrdk.below hy))
            have hsb := sum_madK ⟨kind, server, need, heavy, kids⟩ HPZ.out k
            have hne : (madN ⟨kind, server, need, heavy, kids⟩ k).need = need % (sumN (madK ⟨kind, server, need, heavy, kids⟩ k) + 2) := by unfold madN; rw [if_neg hsv]
            have hnk : (madN ⟨kind, server, need, heavy, kids⟩ k).kind = 2 ∧ (madN ⟨kind, server, need, heavy, kids⟩ k).server = 0 ∧ (madN ⟨kind, server, need, heavy, kids⟩ k).weights = mwtTo ⟨kind, server, need, heavy, kids⟩ (mk5 ⟨kind, server, need, heavy, kids⟩) ∧ (madN ⟨kind, server, need, heavy, kids⟩ k).kids = mkdTo ⟨kind, server, need, heavy, kids⟩ k (mk5 ⟨kind, server, need, heavy, kids⟩) := by unfold madN; rw [if_neg hsv]; exact ⟨rfl, rfl, rfl, rfl⟩
            obtain ⟨SM, hSM⟩ : ∃ SM, sumN (madK ⟨kind, server, need, heavy, kids⟩ k) = SM := ⟨_, rfl⟩
            rw [hSM] at HSUM hsb hne
            have HNE := Lib.hid hne
            have HNK := Lib.hid hnk
            rw [hJ]
            rw [hL] at hrw
            rw [hJ] at hrk
            rw [hL] at hrdw
            rw [hJ] at hrdk hnt
            have HBK := Lib.hid hbk
            have HRW := Lib.hid hrw
            have HRK := Lib.hid hrk
            have HRDW := Lib.hid hrdw
            have HRDK := Lib.hid hrdk
            have HBQ := Lib.hid hbq
            have hP := (hbq.block W0.heap.size (by omega)).trans GP.out
            have HP9 := Lib.hid hP
            have HLE := Lib.hid hL
            have HJE := Lib.hid hJ
            have KS : Hid (∀ y : World, Below wr.heap.size wr y → y.heap[W0.heap.size + 1]? = some (.cells #[.int .i64 2, .int .i64 0, .int .i64 0, .slice aw L cw, .slice ak J ck] 64 (0, 0)) ∧ y.cell? ⟨W0.heap.size, 2, none⟩ = some (.int .u8 need)) := Lib.hid (fun y hy => by
              have := heap_below hy HBK.out
              rw [hL, hJ] at this
              exact ⟨this, (cell_of_row _ _ 2 _ _ _ (heap_below hy hP)).trans rfl⟩)
            clear hbk hrw hrk hrdw hrdk hbq hP hL hJ hSM hne hnk hkp hdis HMK HMK2 R42 q2 q3 q4
            have hwr : wrap64 (SM + 2) = SM + 2 := by unfold wrap64; omega
            have hwr2 : IntKind.i64.wrap (SM + 2) = SM + 2 := by unfold IntKind.wrap; simp [IntKind.bits, IntKind.signed]; omega
            have HWR2 := Lib.hid hwr2
            clear hwr2 hwr
            have HVAL : Hid ((IntKind.i64.wrap need).tmod (SM + 2) = need % (SM + 2)) := Lib.hid (by
              rw [show IntKind.i64.wrap need = need by unfold IntKind.wrap; simp [IntKind.bits, IntKind.signed]; omega, Int.tmod_eq_emod_of_nonneg (by omega)])
            have hterm : ¬ J < n4 ∨ (J < n4 ∧ (5 : Int) ≤ (J : Int)) := by
              by_cases h1 : J < n4
              · exact .inr ⟨h1, by omega⟩
              · exact .inl h1
            have qq4 := (cell_of_row _ _ 4 _ _ _ HP9.out).trans (show _ = some (Value.slice a4 n4 c4) from rfl)
            clear hnt hltj
            rcases hterm with t1 | ⟨t1, t2⟩
            all_goals
              go_wp2_with fail
              refine wp_region_store (fun y => Below wr.heap.size wr y) (fun z => ∃ y, Below wr.heap.size wr y ∧ z = y.setCell ⟨W0.heap.size + 1, 2, none⟩ (.int .i64 ((IntKind.i64.wrap need).tmod (SM + 2)))) [] 8 (by kernel_rfl) (by kernel_rfl) (by kernel_rfl) (below_drew (Below.refl _ _)) ?_
              simp only [List.take_succ_cons, List.take_zero]
              repeat (refine wpT_step (fun K hK => ?_); go_simp; apply Exists.intro; refine ⟨fun y hy => ?_, ?_, hK _ ?_⟩; (first | exact rfl | (refine (HSUM.out y hy).mono ?_; rintro e w3 ⟨rfl, h3⟩; exact ⟨rfl, h3⟩) | (obtain ⟨hn, q2⟩ := KS.out y hy; have n0 := cell_of_row _ _ 0 _ _ _ hn; have n1 := cell_of_row _ _ 1 _ _ _ hn; have n2 := cell_of_row _ _ 2 _ _ _ hn; have n3 := cell_of_row _ _ 3 _ _ _ hn; have n4' := cell_of_row _ _ 4 _ _ _ hn; clear hn; go_simp; first | exact rfl | exact ⟨rfl, hy⟩ | exact hy)); (first | exact late_not rfl | (focus (intro _ z hz; go_simp; done))); clear hK K)
              refine wpT_step (fun K hK => ?_)
              go_simp
              refine ⟨.int .i64 ((IntKind.i64.wrap need).tmod (SM + 2)), fun y hy => ?_, ?_, hK _ ?_⟩
              · go_simp
                rw [if_neg (by rw [HWR2.out]; omega), HWR2.out]
                exact ⟨rfl, rfl⟩
              · exact late_not rfl
              clear hK K
              repeat (refine wpT_step (fun K hK => ?_); go_simp; apply Exists.intro; refine ⟨fun y hy => ?_, ?_, hK _ ?_⟩; (first | exact rfl | (obtain ⟨hn, q2⟩ := KS.out y hy; have n2 := cell_of_row _ _ 2 _ _ _ hn; clear hn; go_simp; first | exact rfl | exact ⟨rfl, hy⟩ | exact hy)); (first | exact late_not rfl | (focus (intro _ z hz; go_simp; done))); clear hK K)
              refine wpT_nil ?_
              refine ⟨_, rfl, by go_simp, fun y hy => ?_, ?_⟩
              · obtain ⟨hn, q2⟩ := KS.out y hy
                have n2 := cell_of_row _ _ 2 _ _ _ hn
                have f2 := frozen_row hn 2
                clear hn
                refine ⟨_, ?_, y, hy, rfl⟩
                go_simp
              · rintro z ⟨y, hy, rfl⟩
                obtain ⟨hn, _⟩ := KS.out y hy
                have hby : Below W0.heap.size W0 y := (HB2.out.trans (HBQ.out.mono (Nat.le_succ _))).trans (hy.mono (by have := HBQ.out.size; have := HS2.out; omega))
                have hry := HRDW.out.below hy
                have hrk := HRDK.out.below hy
                have c1 : Clear L (blkV (W0.heap.size + 1)) aw := Clear.lower HRW.out (fun g hg => by rw [blkV_own] at hg; cases hg; omega)
                have c2 : Clear J (blkV (W0.heap.size + 1)) ak := Clear.lower HRK.out (fun g hg => by rw [blkV_own] at hg; cases hg; omega)
                have hXW0 : w.heap.size + 1 + 1 < W0.heap.size := (Array.getElem?_eq_some_iff.1 HX.out).1
                generalize hz : y.setCell _ _ = z
                have gN : z.heap[W0.heap.size + 1]? = some (.cells #[.int .i64 2, .int .i64 0, .int .i64 ((IntKind.i64.wrap need).tmod (SM + 2)), .slice aw L cw, .slice ak J ck] 64 (0, 0)) := by rw [← hz, heap_set_at hn]; rfl
                have hbz : Below W0.heap.size W0 z := by rw [← hz]; exact hby.setCell (p := ⟨W0.heap.size + 1, 2, none⟩) (Nat.le_succ _) _
                have gX := (hbz.block _ hXW0).trans HX.out
                have hxw := HXW.out.below hbz
                have hp : NodC z (w.heap.size + 1 + 1) v ⟨2, 0, need % (SM + 2), .slice aw L cw, .slice ak J ck⟩ (madN ⟨kind, server, need, heavy, kids⟩ k) := by
                  obtain ⟨n1, n2, n3, n5⟩ := HNK.out
                  obtain ⟨V0, _, hr0, _⟩ := HXW.out.row
                  refine ⟨n1.symm, n2.symm, by rw [HNE.out], ⟨aw, L, cw, rfl, ?_, Clear.lower HRW.out (fun g hg => by have := (hr0.lt g hg).2; omega), fun Y hY => Clear.lower HRW.out (fun g hg => by rw [blkV_own] at hg; cases hg; omega)⟩, ⟨ak, J, ck, rfl, ?_, Clear.lower HRK.out (fun g hg => by have := (hr0.lt g hg).2; omega), fun Y hY => Clear.lower HRK.out (fun g hg => by rw [blkV_own] at hg; cases hg; omega)⟩⟩
                  · rw [n3, ← hz]; exact hry.setOther c1 _ _
                  · rw [n5, HJE.out, ← hz]; exact hrk.setOther c2 _ _
                have n0 := cell_of_row _ _ 0 _ _ _ gN
                have n1 := cell_of_row _ _ 1 _ _ _ gN
                have n2 := cell_of_row _ _ 2 _ _ _ gN
                have n3 := cell_of_row _ _ 3 _ _ _ gN
                have n5 := cell_of_row _ _ 4 _ _ _ gN
                obtain ⟨V', hV1, hV2, hV3⟩ := hxw.row
                rw [madT_len] at hV2
                obtain ⟨av, cv, rfl, _⟩ := rdK_of_row hV2
                have x0 := cell_of_row _ _ 0 _ _ _ gX
                have HGX2 := Lib.hid gX
                have hXl : w.heap.size + 1 + 1 < z.heap.size := (Array.getElem?_eq_some_iff.1 gX).1
                have HP := Lib.hid hp
                have HV1 := Lib.hid hV1
                have HV3 := Lib.hid hV3
                have HBZ := Lib.hid hbz
                clear hn hby hry hrk c1 c2 gN gX hbz hxw hp hz hV1 hV3 hXW0 qq4
                go_simp
                go_wp2_with (at_builtin; go_must (refine wpList_appK2 5 _ _ 22 72 (.agg #[.int .i64 0, .int .i64 0, .int .i64 0, .slice none 0 0, .slice none 0 0]) (nodVC ⟨2, 0, need % (SM + 2), .slice aw L cw, .slice ak J ck⟩) _ Tryd.underlying22 Tryd.infoNod rfl (by decide) hV2 (Below.refl (w.heap.size + 1 + 1 + 1) z) hXl rfl rfl rfl rfl rfl (by intro u hu; unfold nodVC at hu; simp at hu; rcases hu with rfl | rfl | rfl | rfl | rfl <;> rfl) (by unfold maxLen; omega) (by omega) ?_))
                intro v' w4 hown4 hb4 hg4 hs4 hv4
                obtain ⟨a5, c5, rfl, _⟩ := rdK_of_row hown4
                have hX4 := (hg4.block (w.heap.size + 1 + 1) hXl (fun e => by have := (hV2.lt _ e.symm).1; omega)).trans HGX2.out
                have p0 := cell_of_row _ _ 0 _ _ _ hX4
                have z0 := frozen_row hX4 0
                have HO4 := Lib.hid hown4
                have HG4 := Lib.hid hg4
                have HB4 := Lib.hid hb4
                have HVV4 := Lib.hid hv4
                have HX4 := Lib.hid hX4
                clear hown4 hb4 hg4 hs4 hv4 hX4 x0 n0 n1 n2 n3 n5
                go_wp2_with fail
                go_roundw
                case rel => exact ⟨k + 1, .slice a5 (k + 1) c5, by omega, by go_num, by rw [heap_set_at HX4.out]; rfl, by rw [HTS.out]; exact (XW.push HV1.out HV3.out (by rw [madT_len]; exact HO4.out) HP.out HG4.out HVV4.out).set 0 _, ((HB.out.trans (HBZ.out.mono (by have := (Array.getElem?_eq_some_iff.1 HX.out).1; omega))).trans (HB4.out.mono (Nat.le_succ _))).setCell (p := ⟨w.heap.size + 1 + 1, 0, none⟩) (Nat.le_refl _) _⟩
                case measure => simp [intOf] <;> omega
    · have hkm : mad9 ps = k := by omega
      have hn9 := HN.out
      unfold mad9 at hkm
      obtain ⟨av, cv, hv, hxm⟩ := hxw.xm
      rw [madT_len] at hv hxm
      subst hv
      have x0 := cell_of_row _ _ 0 _ _ _ hX
      have x1 := cell_of_row _ _ 1 _ _ _ hX
      have f0 := frozen_row hX 0
      have f1 := frozen_row hX 1
      have hR := (hb.block (w.heap.size + 1) (by omega)).trans HGR.out
      have r0 := cell_of_row _ _ 0 _ _ _ hR
      have r1 := cell_of_row _ _ 1 _ _ _ hR
      have s0 := frozen_row hR 0
      have s1 := frozen_row hR 1
      have HR := Lib.hid hR
      clear hR
      have HXM := Lib.hid hxm
      have HXW := Lib.hid hxw
      have HX := Lib.hid hX
      have HB := Lib.hid hb
      have HD := Lib.hid hD
      clear hxm hxw hX hb hD
      by_cases hn0 : n = 0
      · have hk0 : k = 0 := by omega
        subst hk0
        subst hn0
        obtain ⟨z, hz⟩ : ∃ z, z = wr.alloc (.cells #[.int .i64 1, .int .i64 0, .int .i64 0, .slice none 0 0, .slice none 0 0] 64) := ⟨_, rfl⟩
        have hbz : Below wr.heap.size wr z := by rw [hz]; exact (Below.refl _ _).alloc (Nat.le_refl _) _
        have gX := heap_below hbz HX.out
        have gZ : z.heap[wr.heap.size]? = some (.cells #[.int .i64 1, .int .i64 0, .int .i64 0, .slice none 0 0, .slice none 0 0] 64 (0, 0)) := by rw [hz]; exact heap_alloc_new _ _
        have y0 := cell_of_row _ _ 0 _ _ _ gX
        have y1 := cell_of_row _ _ 1 _ _ _ gX
        have g0 := frozen_row gX 0
        have g1 := frozen_row gX 1
        have gR := heap_below hbz HR.out
        have i0 := cell_of_row _ _ 0 _ _ _ gR
        have i1 := cell_of_row _ _ 1 _ _ _ gR
        have j0 := frozen_row gR 0
        have j1 := frozen_row gR 1
        have HGX3 := Lib.hid gX
        have HGZ := Lib.hid gZ
        have HBZ := Lib.hid hbz
        rw [hz] at y0 y1 g0 g1 i0 i1 j0 j1
        have HZ := Lib.hid hz
        clear gX gZ hbz hz gR
        go_wp2_with fail
        rw [← HZ.out]
        have hXl : w.heap.size + 1 + 1 < wr.heap.size := (Array.getElem?_eq_some_iff.1 HX.out).1
        have hps : ps = [] := List.length_eq_zero_iff.1 HN.out
        subst hps
        have k1 := (Below.heap_setCell z ⟨w.heap.size + 1 + 1, 0, none⟩ (.slice (some ⟨wr.heap.size, 0, none⟩) 1 1) (w.heap.size + 1) (by show w.heap.size + 1 ≠ w.heap.size + 1 + 1; omega)).trans (heap_below HBZ.out HR.out)
        have k2 := (Below.heap_setCell z ⟨w.heap.size + 1 + 1, 0, none⟩ (.slice (some ⟨wr.heap.size, 0, none⟩) 1 1) wr.heap.size (by show wr.heap.size ≠ w.heap.size + 1 + 1; omega)).trans HGZ.out
        refine bodyPost_ret (v := .agg #[.slice (some ⟨wr.heap.size, 0, none⟩) 1 1, .int .i64 0]) ?_ rfl ⟨_, _, rfl, fun u2 hg2 => srv_xm ((hg2 wr.heap.size (by omega) (Array.getElem?_eq_some_iff.1 (fin_other (by omega) (by omega) k2 _ _ _)).1).trans (fin_other (by omega) (by omega) k2 _ _ _)), ?_⟩
        · exact results_cell_row rfl _ _ _ _ _ _ _ rfl (fin_heap (by omega) k1 _ _ _) Tryd.underlying24 rfl (by kernel_rfl)
        · exact ((((HBS.out.trans ((HB.out.trans (HBZ.out.mono (by omega))).mono (by omega))).setCell (p := ⟨w.heap.size + 1 + 1, 0, none⟩) (by show w.heap.size ≤ w.heap.size + 1 + 1; omega) _).setCell (p := ⟨w.heap.size + 1 + 1, 1, none⟩) (by show w.heap.size ≤ w.heap.size + 1 + 1; omega) _).setCell (p := ⟨w.heap.size + 1, 0, none⟩) (by show w.heap.size ≤ w.heap.size + 1; omega) _).setCell (p := ⟨w.heap.size + 1, 1, none⟩) (by show w.heap.size ≤ w.heap.size + 1; omega) _
      · have hk0 : ((k : Int) == 0) = false := by rw [beq_eq_false_iff_ne]; omega
        have HMX : Hid (madX ps = ⟨madT ps k, (k : Int) - 1⟩) := Lib.hid (by
          unfold madX mad9
          rw [if_neg (fun e => hn0 (by rw [← hn9, e]; rfl)), hkm])
        have hterm : ¬ k < n ∨ (k < n ∧ (9 : Int) ≤ (k : Int)) := by
          by_cases h1 : k < n
          · exact .inr ⟨h1, by omega⟩
          · exact .inl h1
        rcases hterm with t1 | ⟨t1, t2⟩
        all_goals
          go_wp2_with fail
          obtain ⟨a9, c9, h9, hx9⟩ := (((HXW.out.set 1 (.int .i64 ((k : Int) - 1))).setAt (w.heap.size + 1) (Nat.le_succ _) 0 (.slice av k cv)).setAt (w.heap.size + 1) (Nat.le_succ _) 1 (.int .i64 ((k : Int) - 1))).xmr
          rw [madT_len] at h9 hx9
          cases h9
          refine bodyPost_ret (v := .agg #[.slice av k cv, .int .i64 ((k : Int) - 1)]) ?_ rfl ⟨av, cv, by rw [HMX.out]; show _ = Ending.returned (.agg #[.slice av (madT ps k).length cv, _]); rw [madT_len], by rw [HMX.out]; show XMR _ _ _ av (madT ps k).length cv _; rw [madT_len]; exact hx9.mono (by omega) (Nat.le_refl _), ?_⟩
          · exact results_cell_row rfl _ _ _ _ _ _ _ rfl (fin_heap (by omega) HR.out _ _ _) Tryd.underlying24 rfl (by kernel_rfl)
          · exact (((HBS.out.trans (HB.out.mono (by omega))).setCell (p := ⟨w.heap.size + 1 + 1, 1, none⟩) (by show w.heap.size ≤ w.heap.size + 1 + 1; omega) _).setCell (p := ⟨w.heap.size + 1, 0, none⟩) (by show w.heap.size ≤ w.heap.size + 1; omega) _).setCell (p := ⟨w.heap.size + 1, 1, none⟩) (by show w.heap.size ≤ w.heap.size + 1; omega) _

theorem made_c (ps : List Pce) (hok : ∀ p ∈ ps, p.ok) (a : Option Addr) (n c : Nat) (w : World) (h : PM w a n c ps) :
    Calls Tryd.prog 18 #[.agg #[.slice a n c]] w fun e w' => ∃ a' c', e = .returned (.agg #[.slice a' (madX ps).nodes.length c', .int .i64 (madX ps).root]) ∧ XM w' a' (madX ps).nodes.length c' (madX ps).nodes ∧ Below w.heap.size w w' :=
  (made_r ps hok a n c w h).mono fun _ _ ⟨a', c', h1, h2, h3⟩ => ⟨a', c', h1, h2.xm, h3⟩
end Go.Proofs.YtflpkkebampmfaaDoor
namespace Go.Proofs.YtflpkkebampmfaaDoor
open Go.RowKit

/-- two expressions made, in boxes of their own -/
structure TwoB (x y : Xpr) (w0 W : World) (p5 p6 : Value) : Prop where
  ex : ∃ b5 b6 a1 c1 a2 c2, p5 = .pointer (some ⟨b5, 0, none⟩) ∧ p6 = .pointer (some ⟨b6, 0, none⟩) ∧ W.heap[b5]? = some (.cells #[.slice a1 x.nodes.length c1, .int .i64 x.root] 24 (0, 0)) ∧ W.heap[b6]? = some (.cells #[.slice a2 y.nodes.length c2, .int .i64 y.root] 24 (0, 0)) ∧ XM W a1 x.nodes.length c1 x.nodes ∧ XM W a2 y.nodes.length c2 y.nodes
  bel : Below w0.heap.size w0 W

abbrev zEx : Obj := .cells #[.slice none 0 0, .int .i64 0] 24
structure TS (x y : Xpr) (w0 W : World) (o5 o6 : Option Nat) (r1 r2 : Option (Option Addr × Nat)) : Prop where
  bel : Below w0.heap.size w0 W
  b5 : ∀ b, o5 = some b → W.heap[b]? = some zEx ∧ w0.heap.size ≤ b
  b6 : ∀ b, o6 = some b → W.heap[b]? = some zEx ∧ w0.heap.size ≤ b
  ne : ∀ b b', o5 = some b → o6 = some b' → b ≠ b'
  x1 : ∀ p, r1 = some p → ∃ lo hi, XMR lo hi W p.1 x.nodes.length p.2 x.nodes ∧ hi ≤ W.heap.size ∧ ∀ b, (o5 = some b ∨ o6 = some b) → b < lo ∨ hi ≤ b
  x2 : ∀ p, r2 = some p → ∃ lo hi, XMR lo hi W p.1 y.nodes.length p.2 y.nodes ∧ hi ≤ W.heap.size ∧ ∀ b, (o5 = some b ∨ o6 = some b) → b < lo ∨ hi ≤ b
theorem heap_some_lt {w : World} {b : Nat} {o : Obj} (h : w.heap[b]? = some o) : b < w.heap.size := (Array.getElem?_eq_some_iff.1 h).1
section
variable {x y : Xpr} {w0 W W' : World} {o5 o6 : Option Nat} {r1 r2 : Option (Option Addr × Nat)}
theorem TS.start (x y : Xpr) (w0 : World) : TS x y w0 w0.drew none none none none :=
  ⟨below_drew (Below.refl _ _), (fun _ h => by cases h), (fun _ h => by cases h), (fun _ _ h => by cases h), (fun _ h => by cases h), (fun _ h => by cases h)⟩
theorem TS.lt (h : TS x y w0 W o5 o6 r1 r2) {b : Nat} (hb : o5 = some b ∨ o6 = some b) : b < W.heap.size := by
  rcases hb with e | e
  · exact heap_some_lt (h.b5 b e).1
  · exact heap_some_lt (h.b6 b e).1
theorem TS.call1 (h : TS x y w0 W o5 o6 none r2) (hb : Below W.heap.size W W') {a : Option Addr} {c : Nat} (hx : XMR W.heap.size W'.heap.size W' a x.nodes.length c x.nodes) : TS x y w0 W' o5 o6 (some (a, c)) r2 :=
  { bel := Below.next h.bel hb
    b5 := fun b e => ⟨heap_below hb (h.b5 b e).1, (h.b5 b e).2⟩
    b6 := fun b e => ⟨heap_below hb (h.b6 b e).1, (h.b6 b e).2⟩
    ne := h.ne
    x1 := fun p e => by cases e; exact ⟨_, _, hx, Nat.le_refl _, fun b hb' => .inl (h.lt hb')⟩
    x2 := fun p e => by
      obtain ⟨lo, hi, h1, h2, h3⟩ := h.x2 p e
      exact ⟨lo, hi, h1.agree fun g _ hg => hb.block g (by omega), Nat.le_trans h2 hb.size, h3⟩ }
theorem TS.call2 (h : TS x y w0 W o5 o6 r1 none) (hb : Below W.heap.size W W') {a : Option Addr} {c : Nat} (hx : XMR W.heap.size W'.heap.size W' a y.nodes.length c y.nodes) : TS x y w0 W' o5 o6 r1 (some (a, c)) :=
  { bel := Below.next h.bel hb
    b5 := fun b e => ⟨heap_below hb (h.b5 b e).1, (h.b5 b e).2⟩
    b6 := fun b e => ⟨heap_below hb (h.b6 b e).1, (h.b6 b e).2⟩
    ne := h.ne
    x2 := fun p e => by cases e; exact ⟨_, _, hx, Nat.le_refl _, fun b hb' => .inl (h.lt hb')⟩
    x1 := fun p e => by
      obtain ⟨lo, hi, h1, h2, h3⟩ := h.x1 p e
      exact ⟨lo, hi, h1.agree fun g _ hg => hb.block g (by omega), Nat.le_trans h2 hb.size, h3⟩ }
theorem alloc_x {nodes : List Nod} {p : Option Addr × Nat} (W : World) (o : Obj) {O Q : Nat → Prop} (h : ∃ lo hi, XMR lo hi W p.1 nodes.length p.2 nodes ∧ hi ≤ W.heap.size ∧ ∀ b, O b → b < lo ∨ hi ≤ b) (hq : ∀ b, Q b → b = W.heap.size ∨ O b) :
    ∃ lo hi, XMR lo hi (W.alloc o) p.1 nodes.length p.2 nodes ∧ hi ≤ (W.alloc o).heap.size ∧ ∀ b, Q b → b < lo ∨ hi ≤ b := by
  obtain ⟨lo, hi, h1, h2, h3⟩ := h
  refine ⟨lo, hi, h1.agree fun g _ hg => Below.heap_alloc W o g (by omega), by rw [World.size_alloc]; omega, fun b hb => ?_⟩
  rcases hq b hb with rfl | h
  · exact .inr h2
  · exact h3 b h
theorem TS.alloc5 (h : TS x y w0 W none o6 r1 r2) : TS x y w0 (W.alloc zEx) (some W.heap.size) o6 r1 r2 :=
  { bel := h.bel.alloc h.bel.size _
    b5 := fun b e => by cases e; exact ⟨heap_alloc_new _ _, h.bel.size⟩
    b6 := fun b e => ⟨heap_alloc_at (h.b6 b e).1 _, (h.b6 b e).2⟩
    ne := fun b b' e e' => by cases e; have := h.lt (.inr e'); omega
    x1 := fun p e => alloc_x W _ (h.x1 p e) fun b hb => by
      rcases hb with hb | hb
      · cases hb; exact .inl rfl
      · exact .inr (.inr hb)
    x2 := fun p e => alloc_x W _ (h.x2 p e) fun b hb => by
      rcases hb with hb | hb
      · cases hb; exact .inl rfl
      · exact .inr (.inr hb) }
theorem TS.alloc6 (h : TS x y w0 W o5 none r1 r2) : TS x y w0 (W.alloc zEx) o5 (some W.heap.size) r1 r2 :=
  { bel := h.bel.alloc h.bel.size _
    b6 := fun b e => by cases e; exact ⟨heap_alloc_new _ _, h.bel.size⟩
    b5 := fun b e => ⟨heap_alloc_at (h.b5 b e).1 _, (h.b5 b e).2⟩
    ne := fun b b' e e' => by cases e'; have := h.lt (.inl e); omega
    x1 := fun p e => alloc_x W _ (h.x1 p e) fun b hb => by
      rcases hb with hb | hb
      · exact .inr (.inl hb)
      · cases hb; exact .inl rfl
    x2 := fun p e => alloc_x W _ (h.x2 p e) fun b hb => by
      rcases hb with hb | hb
      · exact .inr (.inl hb)
      · cases hb; exact .inl rfl }
theorem open2 {w : World} {B : Nat} {p q : Value} {t : TypeId} (h : w.heap[B]? = some (.cells #[p, q] t (0, 0))) :
    (w.cell? ⟨B, 0, none⟩ = some p ∧ w.cell? ⟨B, 1, none⟩ = some q) ∧ w.frozen? ⟨B, 0, none⟩ = false ∧ w.frozen? ⟨B, 1, none⟩ = false :=
  ⟨⟨cell_of_row _ _ 0 _ _ _ h, cell_of_row _ _ 1 _ _ _ h⟩, frozen_row h 0, frozen_row h 1⟩
theorem TS.fin {b5 b6 : Nat} {a1 a2 : Option Addr} {c1 c2 : Nat} (h : TS x y w0 W (some b5) (some b6) (some (a1, c1)) (some (a2, c2))) {W1 W2 : World} (h1 : W1 = (W.setCell ⟨b5, 0, none⟩ (.slice a1 x.nodes.length c1)).setCell ⟨b5, 1, none⟩ (.int .i64 x.root)) (h2 : W2 = (W1.setCell ⟨b6, 0, none⟩ (.slice a2 y.nodes.length c2)).setCell ⟨b6, 1, none⟩ (.int .i64 y.root)) :
    (W1.heap[b6]? = some zEx ∧ Below w0.heap.size w0 W1) ∧ TwoB x y w0 W2 (.pointer (some ⟨b5, 0, none⟩)) (.pointer (some ⟨b6, 0, none⟩)) := by
  have hne := h.ne b5 b6 rfl rfl
  obtain ⟨e5, l5⟩ := h.b5 b5 rfl
  obtain ⟨e6, l6⟩ := h.b6 b6 rfl
  obtain ⟨lo1, hi1, x1, _, y1⟩ := h.x1 _ rfl
  obtain ⟨lo2, hi2, x2, _, y2⟩ := h.x2 _ rfl
  have H : ∀ g, g ≠ b5 → W1.heap[g]? = W.heap[g]? := fun g hg => by
    rw [h1, Below.heap_setCell _ ⟨b5, 1, none⟩ _ g hg, Below.heap_setCell _ ⟨b5, 0, none⟩ _ g hg]
  have K : ∀ g, g ≠ b6 → W2.heap[g]? = W1.heap[g]? := fun g hg => by
    rw [h2, Below.heap_setCell _ ⟨b6, 1, none⟩ _ g hg, Below.heap_setCell _ ⟨b6, 0, none⟩ _ g hg]
  have k6 : W1.heap[b6]? = some zEx := (H b6 (fun e => hne e.symm)).trans e6
  have B1 : Below w0.heap.size w0 W1 := by rw [h1]; exact (h.bel.setCell (p := ⟨b5, 0, none⟩) l5 _).setCell (p := ⟨b5, 1, none⟩) l5 _
  have B2 : Below w0.heap.size w0 W2 := by rw [h2]; exact (B1.setCell (p := ⟨b6, 0, none⟩) l6 _).setCell (p := ⟨b6, 1, none⟩) l6 _
  refine ⟨⟨k6, B1⟩, ⟨b5, b6, a1, c1, a2, c2, rfl, rfl, ?_, ?_, ?_, ?_⟩, B2⟩
  · rw [K b5 hne, h1, heap_set_at (heap_set_at e5 0 _) 1 _]; rfl
  · rw [h2, heap_set_at (heap_set_at k6 0 _) 1 _]; rfl
  · exact x1 W2 fun g g1 g2 => (K g (fun e => by have := y1 b6 (.inr rfl); omega)).trans (H g (fun e => by have := y1 b5 (.inl rfl); omega))
  · exact x2 W2 fun g g1 g2 => (K g (fun e => by have := y2 b6 (.inr rfl); omega)).trans (H g (fun e => by have := y2 b5 (.inl rfl); omega))
end
end Go.Proofs.YtflpkkebampmfaaDoor
