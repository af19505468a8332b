/- Texts laid together. A region that draws its order: operations that stay in a class of worlds, and behind them, in one forced order, a tail that writes. Over any program. A region that draws its order and ends in one store that changes what some of its loads read: one walk in the order of the text. Over any program. Layer 37: the reference's replay. A region that draws its order: some operations that only read are taken first; the rest is walked by hand. Over any program. Layer 37: the reference's reports. Layer 37: what the reference demands. -/
import Derived.Test.YtgfjmplifmbmlaaDoorGSingleAttack3
import Derived.Test.YtgfjmplifmbmlaaDoorGSingleAttack6
import Derived.StillTail
import Derived.Deep.Quiet
import Derived.Deep.QuietTactic
import Derived.OrdersHeld
import Derived.Deep.RegionHeld
namespace Go.Proofs.YtgfjmplifmbmlaaDoor
open Go.RowKit
section
variable {P : Program} {ops : Array Oper} {md : Region.Mode} {C : World → Prop}

/-- the first n operations in any order, each quiet in the class; then L -/
def headQ (P : Program) (md : Region.Mode) (ops : Array Oper) (C : World → Prop) (n : Nat) (L : Array Bool → Act → Prop) : Nat → Array Bool → Act → Prop
  | 0, listed, a => L listed a
  | f + 1, listed, a => Region.ready md ops listed ≠ [] ∧ ∀ i ∈ Region.ready md ops listed, i < n ∧ qOp P ops C i (headQ P md ops C n L f (listed.setIfInBounds i true)) a

theorem any_of_headQ {n g : Nat} {L : Array Bool → Act → Prop} {Q' : Exit → Act → World → Prop} (hL : ∀ listed a w, C w → L listed a → wpAny P md ops Q' g listed a w) :
    ∀ (f : Nat) (listed : Array Bool) (a : Act) (w : World), C w → headQ P md ops C n L f listed a → wpAny P md ops Q' (f + g) listed a w
  | 0, listed, a, w, hw, h => by rw [Nat.zero_add]; exact hL _ _ _ hw h
  | f + 1, listed, a, w, hw, h => by
    rw [show f + 1 + g = (f + g) + 1 by omega]
    exact ⟨fun h0 => absurd h0 h.1, fun i hi => wpOp_of_qOp hw (fun a' w' hw' h' => any_of_headQ hL f _ a' w' hw' h') (h.2 i hi).2⟩

theorem headQ_first {n i : Nat} {oi : Oper} {v : Value} {L : Array Bool → Act → Prop} (hi : ops[i]? = some oi) (hsel : ∀ (j : Nat) (o : Oper) cs b, ops[j]? = some o → o.op ≠ .select cs b)
    (hs : Region.sinkB md ops n = true) (hc : Region.chainB md ops n = true) (hn : n < ops.size) (hin : i < n)
    (hdone : ∀ listed a, L listed a → ∀ j ∈ Region.ready md ops listed, n ≤ j) :
    ∀ (f : Nat) (listed : Array Bool) (a : Act), HeadInv md ops n listed →
      (∀ j oj, ops[j]? = some oj → j ≠ i → listed.getD j true = false → (∀ e ∈ oj.after, Region.binds md e = true → e.on ≠ i) → oi.apart ops oj = true) →
      i ∈ Region.ready md ops listed → YieldsIn P ops C oi v a →
      headQ P md ops C n L f (listed.setIfInBounds i true) (a.put oi.dst v) → headQ P md ops C n L (f + 1) listed a := by
  intro f
  induction f with
  | zero =>
    intro listed a inv _ hr hy H
    have hun := (mem_ready.1 hr).1
    refine ⟨fun h => (by rw [h] at hr; cases hr), fun j hj => ?_⟩
    have hjn : j < n := by
      rcases Nat.lt_or_ge j n with h | h
      · exact h
      · exact absurd hj (tail_waits hs hc hn inv _ i rfl hin hun j h)
    refine ⟨hjn, ?_⟩
    by_cases hji : j = i
    · subst hji; exact hy.qOp hi H
    · have := hdone _ _ H j (ready_mono hj hji)
      omega
  | succ f ih =>
    intro listed a inv hfree hr hy H
    have hun := (mem_ready.1 hr).1
    refine ⟨fun h => (by rw [h] at hr; cases hr), fun j hj => ?_⟩
    have hjn : j < n := by
      rcases Nat.lt_or_ge j n with h | h
      · exact h
      · exact absurd hj (tail_waits hs hc hn inv _ i rfl hin hun j h)
    refine ⟨hjn, ?_⟩
    by_cases hji : j = i
    · subst hji; exact hy.qOp hi H
    · have h1 := (H.2 j (ready_mono hj hji)).2
      obtain ⟨hjun, oj, hoj, hall⟩ := mem_ready.1 hj
      have hnot : ∀ e ∈ oj.after, Region.binds md e = true → e.on ≠ i := fun e he hb heq => by
        have h1 := hall e he hb
        rw [heq, getD_both hun] at h1
        cases h1
      have h2 := qOp_put hoj (hfree j oj hoj hji hjun hnot) (fun cs b => hsel i oi cs b hi) (fun cs b => hsel j oj cs b hoj) hy h1
      have hfree' : ∀ k ok, ops[k]? = some ok → k ≠ i → (listed.setIfInBounds j true).getD k true = false →
          (∀ e ∈ ok.after, Region.binds md e = true → e.on ≠ i) → oi.apart ops ok = true := fun k ok hk hki hun hno => by
        refine hfree k ok hk hki ?_ hno
        by_cases hjk : j = k
        · subst hjk; exact hjun
        · rw [getD_set_ne true hjk] at hun; exact hun
      refine qOp_mono (fun a' h3 => ih (listed.setIfInBounds j true) a' (inv.set hj hjn) hfree' (ready_mono hr (Ne.symm hji)) h3.1 ?_) h2
      rw [Array.setIfInBounds_comm _ _ hji]
      exact h3.2

theorem headQ_lex {n g : Nat} {Lq : Act → Prop} (hsel : Region.noSelect ops = true) (hs : Region.sinkB md ops n = true) (hc : Region.chainB md ops n = true) (hn : n < ops.size) :
    ∀ (l : List Oper) (k : Nat) (listed : Array Bool) (a : Act), (∀ j, j < l.length → l[j]? = ops[k + j]?) → k + l.length = n → HeadInv md ops n listed →
    Region.lexHead md ops g l.length k listed = true → wpQuiet P ops C Lq l a →
    headQ P md ops C n (fun listed' a' => Region.seqB md ops g n listed' = true ∧ Lq a') l.length listed a
  | [], k, listed, a, _, hk, _, hB, h => by
    have : k = n := by simpa using hk
    subst this
    exact ⟨by simpa [Region.lexHead] using hB, h⟩
  | o :: l, k, listed, a, hl, hk, inv, hB, h => by
    have h0 : ops[k]? = some o := by simpa using (hl 0 (by simp)).symm
    simp only [List.length_cons, Region.lexHead, Bool.and_eq_true] at hB
    obtain ⟨⟨hr, hf⟩, hB'⟩ := hB
    have hkn : k < n := by simp only [List.length_cons] at hk; omega
    have hr' : k ∈ Region.ready md ops listed := by simpa using hr
    have hst : qOp P ops C k (wpQuiet P ops C Lq l) a := by unfold qOp; simp only [h0]; exact h
    obtain ⟨v, hy, hK⟩ := yieldsIn_of_qOp h0 hst
    exact headQ_first h0 (Region.noSelect_spec hsel) hs hc hn hkn (fun listed' a' hL => seqB_ready hL.1) l.length listed a inv (Region.free_spec h0 hf) hr' hy
      (headQ_lex hsel hs hc hn l (k + 1) _ _ (fun j hj => by have := hl (j + 1) (by simp; omega); simpa [Nat.add_assoc, Nat.add_comm 1 j] using this) (by simp only [List.length_cons] at hk; omega) (inv.set hr' hkn) hB' hK)

/-- one walk in the order of the text serves every order; the tail stands behind, in any world of the class -/
theorem wp_region_quiet_tail {id : Nat} {Q : Exit → Act → World → Prop} {a : Act} {w : World} {l : List Oper} (C : World → Prop) (n : Nat) (hm : P.follows .mixedOrders = true) (hB : Region.lexTailB .any l.toArray n = true) (hC : C { w with drawn := w.drawn + 1 })
    (h : wpQuiet P l.toArray C (fun a' => ∀ w', C w' → wpList P l.toArray Q (l.drop n) a' w') (l.take n) a) : (Code.region id l.toArray true).wp P Q a w := by
  simp only [Region.lexTailB, Bool.and_eq_true, decide_eq_true_eq] at hB
  obtain ⟨⟨⟨⟨hsel, hn⟩, hs⟩, hc⟩, hlex⟩ := hB
  have hn' : n < l.length := by simpa using hn
  have htl : (l.take n).length = n := by simp; omega
  have hdl : (l.drop n).length = l.toArray.size - n := by simp
  have inv0 : HeadInv .any l.toArray n (Array.replicate l.toArray.size false) :=
    ⟨by simp, fun j oj _ hl => (by rw [getD_replicate_false] at hl; cases hl), fun t _ ht => getD_in (by simpa using ht) (getD_replicate_false _ _)⟩
  have H := headQ_lex (md := .any) (C := C) (g := l.toArray.size - n) hsel hs hc hn (l.take n) 0 _ a (fun j hj => by
    have hj' : j < n := by rw [htl] at hj; exact hj
    simp [hj']) (by simpa using htl) inv0 (by rw [htl]; exact hlex) h
  refine wp_region_any hm ?_
  have := any_of_headQ (Q' := Q) (g := l.toArray.size - n) (fun listed a' w' hw' hL => by
    have := wpAny_of_seq (md := .any) (Q' := Q) (l.drop n) n listed a' w' (fun j => by simp [List.getElem?_drop]) (by rw [hdl]; exact hL.1) (hL.2 w' hw')
    rwa [hdl] at this) _ _ _ _ hC H
  rw [htl, show n + (l.toArray.size - n) = l.toArray.size by omega] at this
  exact this
end
end Go.Proofs.YtgfjmplifmbmlaaDoor
namespace Go.Proofs.YtgfjmplifmbmlaaDoor
open Go.RowKit
section
variable {P : Program} {ops : Array Oper} {md : Region.Mode} {C D : World → Prop}

def inC (C D : World → Prop) (b : Bool) (w : World) : Prop := match b with
  | true => D w
  | false => C w
def StoreAt (P : Program) (o : Oper) (a : Act) (C D : World → Prop) : Prop := ∀ w, C w → ∃ w', (execOp a.eval o).run P w = .ok .skip w' ∧ D w'
def walkT (P : Program) (md : Region.Mode) (ops : Array Oper) (C D : World → Prop) (t : Nat) (Q : Act → Prop) : Nat → Array Bool → Act → Prop
  | 0, listed, a => Region.ready md ops listed = [] ∧ listed.getD t true = true ∧ Q a
  | f + 1, listed, a => (Region.ready md ops listed = [] → listed.getD t true = true ∧ Q a) ∧ ∀ i ∈ Region.ready md ops listed,
      (i ≠ t → qOp P ops (inC C D (listed.getD t true)) i (walkT P md ops C D t Q f (listed.setIfInBounds i true)) a) ∧
      (i = t → ∃ o, ops[t]? = some o ∧ Region.wanted o (yielded ops a.tmps) = true ∧ StoreAt P o a C D ∧ walkT P md ops C D t Q f (listed.setIfInBounds t true) (a.put o.dst undef))

theorem getD_set_same (listed : Array Bool) (t : Nat) : (listed.setIfInBounds t true).getD t true = true := by
  rw [Array.getD_eq_getD_getElem?, Array.getElem?_setIfInBounds, if_pos rfl]
  split <;> rfl
theorem any_of_walkT {t : Nat} {Q : Act → Prop} {Q' : Exit → Act → World → Prop} (hQ : ∀ a w, D w → Q a → Q' .normal a w) :
    ∀ (f : Nat) (listed : Array Bool) (a : Act) (w : World), inC C D (listed.getD t true) w → walkT P md ops C D t Q f listed a → wpAny P md ops Q' f listed a w
  | 0, listed, a, w, hw, h => ⟨h.1, hQ _ _ (by have := h.2.1; rw [this] at hw; exact hw) h.2.2⟩
  | f + 1, listed, a, w, hw, h => by
    refine ⟨fun h0 => ?_, fun i hi => ?_⟩
    · obtain ⟨h1, h2⟩ := h.1 h0
      exact hQ _ _ (by rw [h1] at hw; exact hw) h2
    · by_cases hit : i = t
      · subst hit
        obtain ⟨o, ho, hwd, hst, hn⟩ := (h.2 i hi).2 rfl
        have hun := (mem_ready.1 hi).1
        rw [hun] at hw
        obtain ⟨w', hr, hD⟩ := hst w hw
        unfold wpOp
        simp only [ho]
        rw [if_pos hwd]
        left
        unfold Oper.wp
        rw [hr]
        exact any_of_walkT hQ f _ _ _ (by rw [getD_set_same]; exact hD) hn
      · exact wpOp_of_qOp hw (fun a' w' hw' h' => any_of_walkT hQ f _ a' w' (by rw [getD_set_ne true hit]; exact hw') h') ((h.2 i hi).1 hit)

theorem qOp_put2 {C' : World → Prop} {j : Nat} {oi oj : Oper} {v : Value} (hj : ops[j]? = some oj) (hap : oi.apart ops oj = true)
    (hsj : ∀ cs b, oj.op ≠ .select cs b) {K : Act → Prop} {a : Act} (h : qOp P ops C' j K (a.put oi.dst v)) :
    qOp P ops C' j (fun a' => (∃ u, a' = a.put oj.dst u) ∧ K (a'.put oi.dst v)) a := by
  obtain ⟨h1, h2, h3⟩ := Oper.apart_spec hap
  unfold qOp at *
  simp only [hj] at *
  rw [wanted_put oj a oi.dst v h1] at h
  split
  · rename_i hw
    simp only [hw, if_true] at h
    obtain ⟨u, hu, hn⟩ := h
    refine ⟨u, fun w hw' => ?_, ⟨u, rfl⟩, by rw [← Act.put_comm a v u h2]; exact hn⟩
    have := hu w hw'
    unfold Oper.quietAt at *
    rwa [execOp_put oj hsj a oi.dst v h1] at this
  · rename_i hw
    simp only [hw] at h
    exact ⟨⟨undef, rfl⟩, by rw [← Act.put_comm a v undef h2]; exact h⟩

theorem walkT_first {t i : Nat} {oi : Oper} {v : Value} {Q : Act → Prop} (hi : ops[i]? = some oi) (hit : i ≠ t) (hsel : ∀ (j : Nat) (o : Oper) cs b, ops[j]? = some o → o.op ≠ .select cs b)
    (late : Bool) (hlate : late = false → Region.waitsFor md ops t i = true) :
    ∀ (f : Nat) (listed : Array Bool) (a : Act),
      (∀ j oj, ops[j]? = some oj → j ≠ i → listed.getD j true = false → (∀ e ∈ oj.after, Region.binds md e = true → e.on ≠ i) → oi.apart ops oj = true) →
      i ∈ Region.ready md ops listed → (listed.getD t true = false → YieldsIn P ops C oi v a) → ((late = true ∨ listed.getD t true = true) → YieldsIn P ops D oi v a) →
      walkT P md ops C D t Q f (listed.setIfInBounds i true) (a.put oi.dst v) → walkT P md ops C D t Q (f + 1) listed a := by
  have yin : ∀ (listed : Array Bool) (a : Act), (listed.getD t true = false → YieldsIn P ops C oi v a) → ((late = true ∨ listed.getD t true = true) → YieldsIn P ops D oi v a) → YieldsIn P ops (inC C D (listed.getD t true)) oi v a := by
    intro listed a h1 h2
    cases hb : listed.getD t true
    · exact h1 hb
    · exact h2 (.inr hb)
  intro f
  induction f with
  | zero =>
    intro listed a _ hr hC hD H
    refine ⟨fun h => (by rw [h] at hr; cases hr), fun j hj => ?_⟩
    by_cases hji : j = i
    · subst hji; exact ⟨fun _ => (yin listed a hC hD).qOp hi H, fun h => absurd h hit⟩
    · have := ready_mono hj hji
      rw [H.1] at this
      cases this
  | succ f ih =>
    intro listed a hfree hr hC hD H
    refine ⟨fun h => (by rw [h] at hr; cases hr), fun j hj => ?_⟩
    by_cases hji : j = i
    · subst hji; exact ⟨fun _ => (yin listed a hC hD).qOp hi H, fun h => absurd h hit⟩
    · have hHj := H.2 j (ready_mono hj hji)
      obtain ⟨hjun, oj, hoj, hall⟩ := mem_ready.1 hj
      have hiun := (mem_ready.1 hr).1
      have hnot : ∀ e ∈ oj.after, Region.binds md e = true → e.on ≠ i := fun e he hb heq => by
        have h1 := hall e he hb
        rw [heq, getD_both hiun] at h1
        cases h1
      have hap := hfree j oj hoj hji hjun hnot
      obtain ⟨p1, p2, p3⟩ := Oper.apart_spec hap
      have hsi := fun cs b => hsel i oi cs b hi
      have keep : ∀ (E : World → Prop), YieldsIn P ops E oi v a → ∀ u, YieldsIn P ops E oi v (a.put oj.dst u) := fun E hy u =>
        hy.of_same (execOp_put oi hsi a oj.dst u p3) (wanted_put oi a oj.dst u p3)
      have hfree' : ∀ k ok, ops[k]? = some ok → k ≠ i → (listed.setIfInBounds j true).getD k true = false →
          (∀ e ∈ ok.after, Region.binds md e = true → e.on ≠ i) → oi.apart ops ok = true := fun k ok hk hki hun hno => by
        refine hfree k ok hk hki ?_ hno
        by_cases hjk : j = k
        · subst hjk; exact hjun
        · rw [getD_set_ne true hjk] at hun; exact hun
      by_cases hjt : j = t
      · subst hjt
        refine ⟨fun h => absurd rfl h, fun _ => ?_⟩
        have hl : late = true := by
          cases hl : late
          · exfalso
            obtain ⟨oj', hoj', e, he, hb, hon⟩ := Region.waitsFor_spec (hlate hl)
            rw [hoj] at hoj'
            cases hoj'
            exact hnot e he hb hon
          · rfl
        obtain ⟨o, ho, hwd, hst, hn⟩ := hHj.2 rfl
        rw [hoj] at ho
        cases ho
        refine ⟨oj, hoj, by rw [wanted_put oj a oi.dst v p1] at hwd; exact hwd, fun w hw => ?_, ?_⟩
        · obtain ⟨w', hr', hD'⟩ := hst w hw
          rw [execOp_put oj (fun cs b => hsel j oj cs b hoj) a oi.dst v p1] at hr'
          exact ⟨w', hr', hD'⟩
        · refine ih (listed.setIfInBounds j true) _ hfree' (ready_mono hr (Ne.symm hji)) (fun h => by rw [getD_set_same] at h; cases h) (fun _ => keep D (hD (.inl hl)) undef) ?_
          rw [Array.setIfInBounds_comm _ _ hji, ← Act.put_comm a v undef p2]
          exact hn
      · refine ⟨fun _ => ?_, fun h => absurd h hjt⟩
        have e1 : (listed.setIfInBounds i true).getD t true = listed.getD t true := getD_set_ne true hit
        have e2 : (listed.setIfInBounds j true).getD t true = listed.getD t true := getD_set_ne true hjt
        have h1 := hHj.1 hjt
        rw [e1] at h1
        refine qOp_mono (fun a' h3 => ?_) (qOp_put2 hoj hap (fun cs b => hsel j oj cs b hoj) h1)
        obtain ⟨⟨u, hu⟩, h4⟩ := h3
        refine ih (listed.setIfInBounds j true) a' hfree' (ready_mono hr (Ne.symm hji)) (fun h => by rw [hu]; exact keep C (hC (by rw [← e2]; exact h)) u) (fun h => by rw [hu]; exact keep D (hD (h.imp id fun h => by rw [← e2]; exact h)) u) ?_
        rw [Array.setIfInBounds_comm _ _ hji]
        exact h4

/-- a late one yields behind the store, too -/
def LateAt (P : Program) (D : World → Prop) (late : Nat → Bool) (k : Nat) (o : Oper) (a : Act) (v : Value) : Prop := late k = true → ∀ w, D w → o.quietAt P a D w v
theorem late_not {late : Nat → Bool} {k : Nat} {o : Oper} {a : Act} {v : Value} (h : late k = false) : LateAt P D late k o a v := fun h' => by rw [h] at h'; cases h'
/-- the walk in the order of the text; the late ones yield behind the store, too -/
def wpT (P : Program) (ops : Array Oper) (C D : World → Prop) (late : Nat → Bool) (Qt : Act → Prop) : Nat → List Oper → Act → Prop
  | _, [], a => Qt a
  | k, o :: rest, a => if Region.wanted o (yielded ops a.tmps) = true then ∃ v, (∀ w, C w → o.quietAt P a C w v) ∧ LateAt P D late k o a v ∧ wpT P ops C D late Qt (k + 1) rest (a.put o.dst v)
      else wpT P ops C D late Qt (k + 1) rest (a.put o.dst undef)
theorem wpT_nil {late : Nat → Bool} {Qt : Act → Prop} {k : Nat} {a : Act} (h : Qt a) : wpT P ops C D late Qt k [] a := h
theorem wpT_step {late : Nat → Bool} {Qt : Act → Prop} {k : Nat} {o : Oper} {rest : List Oper} {a : Act}
    (h : ∀ K : Act → Prop, (∀ a, wpT P ops C D late Qt (k + 1) rest a → K a) → if Region.wanted o (yielded ops a.tmps) = true then ∃ v, (∀ w, C w → o.quietAt P a C w v) ∧ LateAt P D late k o a v ∧ K (a.put o.dst v) else K (a.put o.dst undef)) :
    wpT P ops C D late Qt k (o :: rest) a := h _ (fun _ h => h)

theorem walkT_lex {t : Nat} {late : Nat → Bool} {Q : Act → Prop} (hsel : Region.noSelect ops = true) (hlate : ∀ i, i < t → late i = false → Region.waitsFor md ops t i = true) :
    ∀ (l : List Oper) (k : Nat) (listed : Array Bool) (a : Act), (∀ j, j < l.length → l[j]? = ops[k + j]?) → k + l.length = t → listed.getD t true = false →
    Region.lexFrom md ops (l.length + 1) k listed = true →
    wpT P ops C D late (fun a' => ∃ o, ops[t]? = some o ∧ Region.wanted o (yielded ops a'.tmps) = true ∧ StoreAt P o a' C D ∧ Q (a'.put o.dst undef)) k l a →
    walkT P md ops C D t Q (l.length + 1) listed a
  | [], k, listed, a, _, hk, hun, hB, h => by
    have hkt : k = t := by simpa using hk
    subst hkt
    simp only [List.length_nil, Region.lexFrom, Bool.and_eq_true] at hB
    have hr : k ∈ Region.ready md ops listed := by simpa using hB.1.1
    have he : Region.ready md ops (listed.setIfInBounds k true) = [] := by simpa using hB.2
    refine ⟨fun h0 => (by rw [h0] at hr; cases hr), fun i hi => ⟨fun hik => ?_, fun hik => ?_⟩⟩
    · have := ready_mono hi hik
      rw [he] at this; cases this
    · obtain ⟨o, ho, hwd, hst, hq⟩ := h
      exact ⟨o, ho, hwd, hst, he, getD_set_same _ _, hq⟩
  | o :: l, k, listed, a, hl, hk, hun, hB, h => by
    have h0 : ops[k]? = some o := by simpa using (hl 0 (by simp)).symm
    have hkt : k < t := by simp only [List.length_cons] at hk; omega
    simp only [List.length_cons] at hB ⊢
    rw [Region.lexFrom] at hB
    simp only [Bool.and_eq_true] at hB
    obtain ⟨⟨hr, hf⟩, hB'⟩ := hB
    have hr' : k ∈ Region.ready md ops listed := by simpa using hr
    have rec' := fun (v : Value) (hK : wpT P ops C D late (fun a' => ∃ o, ops[t]? = some o ∧ Region.wanted o (yielded ops a'.tmps) = true ∧ StoreAt P o a' C D ∧ Q (a'.put o.dst undef)) (k + 1) l (a.put o.dst v)) =>
      walkT_lex hsel hlate l (k + 1) (listed.setIfInBounds k true) (a.put o.dst v) (fun j hj => by have := hl (j + 1) (by simp; omega); simpa [Nat.add_assoc, Nat.add_comm 1 j] using this) (by simp only [List.length_cons] at hk; omega) (by rw [getD_set_ne true (by omega)]; exact hun) hB' hK
    unfold wpT at h
    by_cases hw : Region.wanted o (yielded ops a.tmps) = true
    · rw [if_pos hw] at h
      obtain ⟨v, hC, hD, hK⟩ := h
      exact walkT_first h0 (by omega) (Region.noSelect_spec hsel) (late k) (hlate k hkt) _ listed a (Region.free_spec h0 hf) hr' (fun _ => .inl ⟨hw, hC⟩) (fun hh => .inl ⟨hw, hD (hh.resolve_right (by rw [hun]; decide))⟩) (rec' v hK)
    · rw [if_neg hw] at h
      have hw' : Region.wanted o (yielded ops a.tmps) = false := by simpa using hw
      exact walkT_first h0 (by omega) (Region.noSelect_spec hsel) (late k) (hlate k hkt) _ listed a (Region.free_spec h0 hf) hr' (fun _ => .inr ⟨hw', rfl⟩) (fun _ => .inr ⟨hw', rfl⟩) (rec' undef h)

theorem wp_region_store {id : Nat} {Q : Exit → Act → World → Prop} {a : Act} {w : World} {l : List Oper} (C D : World → Prop) (late : List Nat) (t : Nat) (hm : P.follows .mixedOrders = true) (hB : Region.lexB .any l.toArray = true)
    (hT : (decide (t + 1 = l.length) && (List.range t).all fun i => late.contains i || Region.waitsFor .any l.toArray t i) = true) (hC : C { w with drawn := w.drawn + 1 })
    (h : wpT P l.toArray C D late.contains (fun a' => ∃ o, l.toArray[t]? = some o ∧ Region.wanted o (yielded l.toArray a'.tmps) = true ∧ StoreAt P o a' C D ∧ ∀ w', D w' → Q .normal (a'.put o.dst undef) w') 0 (l.take t) a) :
    (Code.region id l.toArray true).wp P Q a w := by
  simp only [Region.lexB, Bool.and_eq_true] at hB
  simp only [Bool.and_eq_true, decide_eq_true_eq] at hT
  obtain ⟨hlen, hall⟩ := hT
  have htl : (l.take t).length = t := by simp; omega
  refine wp_region_any hm ?_
  have hun : (Array.replicate l.toArray.size false).getD t true = false := getD_in (by simp; omega) (getD_replicate_false _ _)
  have := walkT_lex (md := .any) (C := C) (D := D) (t := t) (late := late.contains) (Q := fun a' => ∀ w', D w' → Q .normal a' w') hB.1 (fun i hi hl => by
    have := List.all_eq_true.1 hall i (List.mem_range.2 hi)
    rw [hl, Bool.false_or] at this
    exact this) (l.take t) 0 (Array.replicate l.toArray.size false) a (fun j hj => by
    have hj' : j < t := by rw [htl] at hj; exact hj
    simp [hj']) (by rw [htl]; omega) hun (by rw [htl, show t + 1 = l.toArray.size by simp; omega]; exact hB.2) h
  have h2 := any_of_walkT (Q' := Q) (fun a' w' hw' h' => h' w' hw') _ _ _ { w with drawn := w.drawn + 1 } (by rw [hun]; exact hC) this
  rw [htl] at h2
  rw [show t + 1 = l.toArray.size by simp; omega] at h2
  exact h2
end
end Go.Proofs.YtgfjmplifmbmlaaDoor
namespace Go.Proofs.YtgfjmplifmbmlaaDoor
open Go.RowKit Go.Maps

/-- what a cell holds -/
noncomputable def cv (B i : Nat) (w : World) : Value := (w.cell? ⟨B, i, none⟩).getD undef
theorem cv_eq {w : World} {B i : Nat} {v : Value} (h : w.cell? ⟨B, i, none⟩ = some v) : cv B i w = v := by unfold cv; rw [h]; rfl
theorem cv_cell {w : World} {B i : Nat} {v : Value} (h : w.cell? ⟨B, i, none⟩ = some v) : w.cell? ⟨B, i, none⟩ = some (cv B i w) := by rw [cv_eq h]; exact h
theorem at_in {l : List Acc} {s : Nat} (hs : s < l.length) : l[s]? = some (atS l s) := by unfold atS; rw [Int.toNat_natCast, List.getD, List.getElem?_eq_getElem hs]; rfl
theorem set_at {l : List Acc} {s : Nat} (hs : s < l.length) : l.set s (atS l s) = l := by
  apply List.ext_getElem?
  intro i
  rw [List.getElem?_set]
  split
  · rename_i h; subst h
    first
    | (rw [at_in hs]; done)
    | (rw [at_in hs]; simp [hs])
  · rfl
theorem step1 {l : List Acc} {s : Nat} {b : Int} {v : ByteArray} {p q : Int} {x : ByteArray} (hs : s < l.length) (ha : atS l s = ⟨p, q, x⟩) : stepA l ⟨1, s, b, v⟩ = l.set s ⟨if p < b then b else p, q, x⟩ := by
  unfold stepA
  simp only [if_true, Int.toNat_natCast]
  rw [ha]
  unfold promB
  by_cases h : p < b
  · rw [if_pos (decide_eq_true h), if_pos h]
  · rw [if_neg (by simp [h]), if_neg h, ← ha, set_at hs]
theorem step2 {l : List Acc} {k : Int} {s : Nat} {b : Int} {v : ByteArray} {p q : Int} {x : ByteArray} (hk : k ≠ 1) (hs : s < l.length) (ha : atS l s = ⟨p, q, x⟩) : stepA l ⟨k, s, b, v⟩ = l.set s (if 1 ≤ b ∧ p ≤ b then ⟨b, b, v⟩ else ⟨p, q, x⟩) := by
  unfold stepA
  simp only [Int.toNat_natCast]
  rw [if_neg hk, ha]
  unfold accpB
  by_cases h : 1 ≤ b ∧ p ≤ b
  · rw [if_pos (by simp [h]), if_pos h]
  · rw [if_neg (by simp; exact fun h1 => Classical.byContradiction fun h2 => h ⟨h1, by simpa using h2⟩), if_neg h, ← ha, set_at hs]

set_option maxRecDepth 100000 in
set_option maxHeartbeats 4000000 in
theorem replay_c (m : Nat) (l : List Ev) (a2 : Option Addr) (n2 c2 : Nat) (w : World) (h2 : RdK 4 w a2 n2 c2 (l.flatMap evC)) (hsv : ∀ e ∈ l, 0 ≤ e.server ∧ e.server < m) (hl : l.length ≤ 1000) (hm : m ≤ 12) :
    Calls Tryd.prog 70 #[.int .i64 m, .slice a2 n2 c2] w fun e w' => e = .returned (.slice (some ⟨w.heap.size, 0, none⟩) m m) ∧ w'.heap[w.heap.size]? = some (.cells ((repA m l).flatMap accC).toArray 96 (0, 0)) ∧ Below w.heap.size w w' := by
  have hnl : l.length = n2 := by have := h2.len; rw [flat_len 4 evC evC_len] at this; omega
  have HR2 := Lib.hid h2
  have HN := Lib.hid hnl
  have HSV := Lib.hid hsv
  have hle := h2.le
  have hmx := h2.max
  unfold maxLen at hmx
  rw [hnl] at hl
  have hmk := make_acc m (by omega)
  have HM := Lib.hid (made_acc m hm)
  have hb0 := blA w (.cells (madeCells #[.int .i64 0, .int .i64 0, .string ⟨#[]⟩] (m * 3)) 96)
  have HB0 := Lib.hid hb0
  have HA0 := Lib.hid (heap_alloc_new w (.cells (madeCells #[.int .i64 0, .int .i64 0, .string ⟨#[]⟩] (m * 3)) 96))
  clear h2 hnl hsv hb0
  go_enter Tryd.func70, Tryd.ntmps70
  go_wp2_with fail
  go_loopw [6] (fun i wr => ∃ k : Nat, k ≤ n2 ∧ i = .int .i64 k ∧ Below w.heap.size w wr ∧ Hid (wr.heap[w.heap.size]? = some (.cells ((repA m (l.take k)).flatMap accC).toArray 96 (0, 0)))) (fun i _ => n2 - (intOf i).toNat)
  case atStart => exact ⟨0, Nat.zero_le _, rfl, HB0.out, Lib.hid (by rw [HA0.out, HM.out]; rfl)⟩
  case round =>
    obtain ⟨k, hk, rfl, hb, hacc⟩ := hrel
    by_cases hlt : k < n2
    · obtain ⟨e, he⟩ : ∃ e, l[k]? = some e := ⟨l[k]'(by have := HN.out; omega), List.getElem?_eq_getElem _⟩
      obtain ⟨b', o, ha, hcell⟩ := RdK.cells (HR2.out.below hb) evC_len (by omega)
      have hc0 : wr.cell? ⟨b', o + k * 4, none⟩ = some (.int .i64 e.kind) := hcell k e he 0 (by omega)
      have hc1 : wr.cell? ⟨b', o + k * 4 + 1, none⟩ = some (.int .i64 e.server) := hcell k e he 1 (by omega)
      have hc2 : wr.cell? ⟨b', o + k * 4 + 2, none⟩ = some (.int .i64 e.ballot) := hcell k e he 2 (by omega)
      have hc3 : wr.cell? ⟨b', o + k * 4 + 3, none⟩ = some (.string e.value) := hcell k e he 3 (by omega)
      obtain ⟨hs0, hsm⟩ := HSV.out e (List.mem_of_getElem? he)
      have HTK : Hid (repA m (l.take (k + 1)) = stepA (repA m (l.take k)) e) := Lib.hid (by rw [List.take_add_one, he]; exact repA_snoc m _ e)
      obtain ⟨kd, sv, b, x⟩ := e
      simp only at hc0 hc1 hc2 hc3 hs0 hsm
      obtain ⟨s, rfl⟩ := Int.eq_ofNat_of_zero_le hs0
      have hsm2 : s < m := by omega
      obtain ⟨p, q, v, hat⟩ : ∃ p q v, atS (repA m (l.take k)) (s : Int) = ⟨p, q, v⟩ := ⟨_, _, _, rfl⟩
      have HAT := Lib.hid hat
      have HLEN : Hid (s < (repA m (l.take k)).length) := Lib.hid (by rw [repA_len]; exact hsm2)
      have i0 : (0 : Int) ≤ (s : Int) := by omega
      have i1 : (s : Int) < (m : Int) := by omega
      have hsz := hb.size
      have hlt0 : w.heap.size < wr.heap.size := (Array.getElem?_eq_some_iff.1 hacc.out).1
      have HB := Lib.hid hb
      subst ha
      by_cases hkd : kd = 1
      · subst hkd
        clear hcell he hat hs0 hsm hb
        go_wp2_with fail
        generalize hW : wr.alloc (.cells #[.int .i64 1, .int .i64 s, .int .i64 b, .string x] 48) = W0
        have hbW : Below wr.heap.size wr W0 := by rw [← hW]; exact blA _ _
        have hbox : W0.heap[wr.heap.size]? = some (.cells #[.int .i64 1, .int .i64 s, .int .i64 b, .string x] 48 (0, 0)) := by rw [← hW]; exact heap_alloc_new wr _
        have hWs : W0.heap.size = wr.heap.size + 1 := by rw [← hW]; simp
        obtain ⟨_, e1, e2, e3⟩ := open4 hbox
        have haW := heap_below hbW hacc.out
        obtain ⟨⟨A0, A1, A2⟩, _⟩ := acc_cells haW HLEN.out
        rw [HAT.out] at A0 A1 A2
        have KS : Hid (∀ y : World, Below W0.heap.size W0 y → y.cell? ⟨wr.heap.size, 1, none⟩ = some (.int .i64 s) ∧ y.cell? ⟨wr.heap.size, 2, none⟩ = some (.int .i64 b) ∧ y.cell? ⟨wr.heap.size, 3, none⟩ = some (.string x) ∧ y.cell? ⟨w.heap.size, s * 3, none⟩ = some (.int .i64 p) ∧ y.cell? ⟨w.heap.size, s * 3 + 1, none⟩ = some (.int .i64 q) ∧ y.cell? ⟨w.heap.size, s * 3 + 2, none⟩ = some (.string v)) := Lib.hid (fun y hy => ⟨(hy.cell (p := ⟨wr.heap.size, 1, none⟩) (cell_lt e1)).trans e1, (hy.cell (p := ⟨wr.heap.size, 2, none⟩) (cell_lt e2)).trans e2, (hy.cell (p := ⟨wr.heap.size, 3, none⟩) (cell_lt e3)).trans e3, (hy.cell (p := ⟨w.heap.size, s * 3, none⟩) (cell_lt A0)).trans A0, (hy.cell (p := ⟨w.heap.size, s * 3 + 1, none⟩) (cell_lt A1)).trans A1, (hy.cell (p := ⟨w.heap.size, s * 3 + 2, none⟩) (cell_lt A2)).trans A2⟩)
        obtain ⟨p', q', v', hres⟩ : ∃ (p' q' : Int) (v' : ByteArray), (repA m (l.take k)).set s ⟨p', q', v'⟩ = stepA (repA m (l.take k)) ⟨1, s, b, x⟩ ∧ p' = (if p < b then b else p) ∧ q' = q ∧ v' = v := ⟨_, _, _, (step1 HLEN.out HAT.out).symm, rfl, rfl, rfl⟩
        obtain ⟨ok, hok⟩ : ∃ ok, decide (p < b) = ok := ⟨_, rfl⟩
        have HP2 : Hid (∀ y : World, Below W0.heap.size W0 y → Calls Tryd.prog 71 #[.agg #[.int .i64 p, .int .i64 q, .string v], .int .i64 b] y fun e w3 => e = .returned (.tuple #[.agg #[.int .i64 p', .int .i64 q', .string v'], .bool ok]) ∧ Below W0.heap.size W0 w3) := Lib.hid (fun y hy => (rpromise_c p q v b y).mono fun e w3 ⟨h1, h2⟩ => ⟨by rw [h1, hres.2.1, hres.2.2.1, hres.2.2.2, hok], Below.next hy h2⟩)
        have HBW := Lib.hid hbW
        have HAW := Lib.hid haW
        have HRES := Lib.hid hres
        have HFZ : Hid (∀ y : World, Below W0.heap.size W0 y → ∀ i, y.frozen? ⟨w.heap.size, i, none⟩ = false) := Lib.hid (fun y hy i => by simp [World.frozen?, heap_below hy haW])
        clear hW hbW hbox haW e1 e2 e3 hres hc1 hc2 hc3 A0 A1 A2
        refine wp_region_store (fun y => Below W0.heap.size W0 y) (fun z => ∃ y, Below W0.heap.size W0 y ∧ z = ((y.setCell ⟨w.heap.size, s * 3, none⟩ (.int .i64 p')).setCell ⟨w.heap.size, s * 3 + 1, none⟩ (.int .i64 q')).setCell ⟨w.heap.size, s * 3 + 2, none⟩ (.string v')) [13] 15 (by kernel_rfl) (by kernel_rfl) (by kernel_rfl) (below_drew (Below.refl _ _)) ?_
        simp only [List.take_succ_cons, List.take_zero]
        repeat (refine wpT_step (fun K hK => ?_); go_simp; apply Exists.intro; refine ⟨fun y hy => ?_, ?_, hK _ ?_⟩; (first | exact rfl | (refine (HP2.out y (by rw [hWs]; exact hy)).mono ?_; rintro e w3 ⟨rfl, h3⟩; rw [hWs] at h3; exact ⟨rfl, h3⟩) | (obtain ⟨q1, q2, q3, q4, q5, q6⟩ := KS.out y (by rw [hWs]; exact hy); go_simp; first | exact rfl | exact ⟨rfl, hy⟩ | exact hy)); (first | exact late_not rfl | (focus (intro _ z hz; go_simp; done))); clear hK K)
        refine wpT_nil ?_
        refine ⟨_, rfl, by go_simp, fun y hy => ?_, ?_⟩
        · obtain ⟨q1, q2, q3, q4, q5, q6⟩ := KS.out y hy
          have hH := heap_below hy HAW.out
          have n1 : (y.setCell ⟨w.heap.size, s * 3, none⟩ (.int .i64 p')).cell? ⟨w.heap.size, s * 3 + 1, none⟩ = some (.int .i64 q) := (World.cell?_setCell_other _ _ _ _ (by simp)).trans q5
          have n2' : ((y.setCell ⟨w.heap.size, s * 3, none⟩ (.int .i64 p')).setCell ⟨w.heap.size, s * 3 + 1, none⟩ (.int .i64 q')).cell? ⟨w.heap.size, s * 3 + 2, none⟩ = some (.string v) := (World.cell?_setCell_other _ _ _ _ (by simp)).trans ((World.cell?_setCell_other _ _ _ _ (by simp)).trans q6)
          have f0 : y.frozen? ⟨w.heap.size, s * 3, none⟩ = false := by simp [World.frozen?, hH]
          have f1 : (y.setCell ⟨w.heap.size, s * 3, none⟩ (.int .i64 p')).frozen? ⟨w.heap.size, s * 3 + 1, none⟩ = false := by simp [World.frozen?, heap_set_at hH]
          have f2 : ((y.setCell ⟨w.heap.size, s * 3, none⟩ (.int .i64 p')).setCell ⟨w.heap.size, s * 3 + 1, none⟩ (.int .i64 q')).frozen? ⟨w.heap.size, s * 3 + 2, none⟩ = false := by simp [World.frozen?, heap_set_at (heap_set_at hH _ _)]
          clear hH
          refine ⟨_, ?_, y, hy, rfl⟩
          go_simp
        · rintro z ⟨y, hb3, rfl⟩
          have hA := heap_set_at (heap_set_at (heap_set_at (heap_below hb3 HAW.out) (s * 3) (.int .i64 p')) (s * 3 + 1) (.int .i64 q')) (s * 3 + 2) (.string v')
          rw [set3A _ _ _ ⟨p', q', v'⟩ rfl _ s HLEN.out, HRES.out.1, ← HTK.out] at hA
          have HACC2 := Lib.hid hA
          have HBF := Lib.hid ((((HB.out.trans ((Below.next HBW.out hb3).mono hsz)).setCell (p := ⟨w.heap.size, s * 3, none⟩) (Nat.le_refl _) (.int .i64 p')).setCell (p := ⟨w.heap.size, s * 3 + 1, none⟩) (Nat.le_refl _) (.int .i64 q')).setCell (p := ⟨w.heap.size, s * 3 + 2, none⟩) (Nat.le_refl _) (.string v'))
          clear hA hb3
          go_simp
          go_wp2_with fail
          go_roundw
          case rel => exact ⟨k + 1, by omega, by go_num, HBF.out, HACC2.out⟩
          case measure => simp [intOf]; omega
      · have hkb : (kd == 1) = false := by simpa using hkd
        clear hcell he hat hs0 hsm hb
        go_wp2_with fail
        generalize hW : wr.alloc (.cells #[.int .i64 kd, .int .i64 s, .int .i64 b, .string x] 48) = W0
        have hbW : Below wr.heap.size wr W0 := by rw [← hW]; exact blA _ _
        have hbox : W0.heap[wr.heap.size]? = some (.cells #[.int .i64 kd, .int .i64 s, .int .i64 b, .string x] 48 (0, 0)) := by rw [← hW]; exact heap_alloc_new wr _
        have hWs : W0.heap.size = wr.heap.size + 1 := by rw [← hW]; simp
        obtain ⟨_, e1, e2, e3⟩ := open4 hbox
        have haW := heap_below hbW hacc.out
        obtain ⟨⟨A0, A1, A2⟩, _⟩ := acc_cells haW HLEN.out
        rw [HAT.out] at A0 A1 A2
        have KS : Hid (∀ y : World, Below W0.heap.size W0 y → y.cell? ⟨wr.heap.size, 1, none⟩ = some (.int .i64 s) ∧ y.cell? ⟨wr.heap.size, 2, none⟩ = some (.int .i64 b) ∧ y.cell? ⟨wr.heap.size, 3, none⟩ = some (.string x) ∧ y.cell? ⟨w.heap.size, s * 3, none⟩ = some (.int .i64 p) ∧ y.cell? ⟨w.heap.size, s * 3 + 1, none⟩ = some (.int .i64 q) ∧ y.cell? ⟨w.heap.size, s * 3 + 2, none⟩ = some (.string v)) := Lib.hid (fun y hy => ⟨(hy.cell (p := ⟨wr.heap.size, 1, none⟩) (cell_lt e1)).trans e1, (hy.cell (p := ⟨wr.heap.size, 2, none⟩) (cell_lt e2)).trans e2, (hy.cell (p := ⟨wr.heap.size, 3, none⟩) (cell_lt e3)).trans e3, (hy.cell (p := ⟨w.heap.size, s * 3, none⟩) (cell_lt A0)).trans A0, (hy.cell (p := ⟨w.heap.size, s * 3 + 1, none⟩) (cell_lt A1)).trans A1, (hy.cell (p := ⟨w.heap.size, s * 3 + 2, none⟩) (cell_lt A2)).trans A2⟩)
        obtain ⟨p', q', v', hres⟩ : ∃ (p' q' : Int) (v' : ByteArray), (repA m (l.take k)).set s ⟨p', q', v'⟩ = stepA (repA m (l.take k)) ⟨kd, s, b, x⟩ ∧ (if 1 ≤ b ∧ p ≤ b then Value.agg #[.int .i64 b, .int .i64 b, .string x] else .agg #[.int .i64 p, .int .i64 q, .string v]) = .agg #[.int .i64 p', .int .i64 q', .string v'] := by
          by_cases h9 : 1 ≤ b ∧ p ≤ b
          · exact ⟨b, b, x, by rw [step2 hkd HLEN.out HAT.out, if_pos h9], by rw [if_pos h9]⟩
          · exact ⟨p, q, v, by rw [step2 hkd HLEN.out HAT.out, if_neg h9], by rw [if_neg h9]⟩
        obtain ⟨ok, hok⟩ : ∃ ok, decide (1 ≤ b ∧ p ≤ b) = ok := ⟨_, rfl⟩
        have HP2 : Hid (∀ y : World, Below W0.heap.size W0 y → Calls Tryd.prog 72 #[.agg #[.int .i64 p, .int .i64 q, .string v], .int .i64 b, .string x] y fun e w3 => e = .returned (.tuple #[.agg #[.int .i64 p', .int .i64 q', .string v'], .bool ok]) ∧ Below W0.heap.size W0 w3) := Lib.hid (fun y hy => (raccept_c p q v b x y).mono fun e w3 ⟨h1, h2⟩ => ⟨by rw [h1, hres.2, hok], Below.next hy h2⟩)
        have HBW := Lib.hid hbW
        have HAW := Lib.hid haW
        have HRES := Lib.hid hres
        have HFZ : Hid (∀ y : World, Below W0.heap.size W0 y → ∀ i, y.frozen? ⟨w.heap.size, i, none⟩ = false) := Lib.hid (fun y hy i => by simp [World.frozen?, heap_below hy haW])
        clear hW hbW hbox haW e1 e2 e3 hres hc1 hc2 hc3 A0 A1 A2
        refine wp_region_store (fun y => Below W0.heap.size W0 y) (fun z => ∃ y, Below W0.heap.size W0 y ∧ z = ((y.setCell ⟨w.heap.size, s * 3, none⟩ (.int .i64 p')).setCell ⟨w.heap.size, s * 3 + 1, none⟩ (.int .i64 q')).setCell ⟨w.heap.size, s * 3 + 2, none⟩ (.string v')) [15] 17 (by kernel_rfl) (by kernel_rfl) (by kernel_rfl) (below_drew (Below.refl _ _)) ?_
        simp only [List.take_succ_cons, List.take_zero]
        repeat (refine wpT_step (fun K hK => ?_); go_simp; apply Exists.intro; refine ⟨fun y hy => ?_, ?_, hK _ ?_⟩; (first | exact rfl | (refine (HP2.out y (by rw [hWs]; exact hy)).mono ?_; rintro e w3 ⟨rfl, h3⟩; rw [hWs] at h3; exact ⟨rfl, h3⟩) | (obtain ⟨q1, q2, q3, q4, q5, q6⟩ := KS.out y (by rw [hWs]; exact hy); go_simp; first | exact rfl | exact ⟨rfl, hy⟩ | exact hy)); (first | exact late_not rfl | (focus (intro _ z hz; go_simp; done))); clear hK K)
        refine wpT_nil ?_
        refine ⟨_, rfl, by go_simp, fun y hy => ?_, ?_⟩
        · obtain ⟨q1, q2, q3, q4, q5, q6⟩ := KS.out y hy
          have hH := heap_below hy HAW.out
          have n1 : (y.setCell ⟨w.heap.size, s * 3, none⟩ (.int .i64 p')).cell? ⟨w.heap.size, s * 3 + 1, none⟩ = some (.int .i64 q) := (World.cell?_setCell_other _ _ _ _ (by simp)).trans q5
          have n2' : ((y.setCell ⟨w.heap.size, s * 3, none⟩ (.int .i64 p')).setCell ⟨w.heap.size, s * 3 + 1, none⟩ (.int .i64 q')).cell? ⟨w.heap.size, s * 3 + 2, none⟩ = some (.string v) := (World.cell?_setCell_other _ _ _ _ (by simp)).trans ((World.cell?_setCell_other _ _ _ _ (by simp)).trans q6)
          have f0 : y.frozen? ⟨w.heap.size, s * 3, none⟩ = false := by simp [World.frozen?, hH]
          have f1 : (y.setCell ⟨w.heap.size, s * 3, none⟩ (.int .i64 p')).frozen? ⟨w.heap.size, s * 3 + 1, none⟩ = false := by simp [World.frozen?, heap_set_at hH]
          have f2 : ((y.setCell ⟨w.heap.size, s * 3, none⟩ (.int .i64 p')).setCell ⟨w.heap.size, s * 3 + 1, none⟩ (.int .i64 q')).frozen? ⟨w.heap.size, s * 3 + 2, none⟩ = false := by simp [World.frozen?, heap_set_at (heap_set_at hH _ _)]
          clear hH
          refine ⟨_, ?_, y, hy, rfl⟩
          go_simp
        · rintro z ⟨y, hb3, rfl⟩
          have hA := heap_set_at (heap_set_at (heap_set_at (heap_below hb3 HAW.out) (s * 3) (.int .i64 p')) (s * 3 + 1) (.int .i64 q')) (s * 3 + 2) (.string v')
          rw [set3A _ _ _ ⟨p', q', v'⟩ rfl _ s HLEN.out, HRES.out.1, ← HTK.out] at hA
          have HACC2 := Lib.hid hA
          have HBF := Lib.hid ((((HB.out.trans ((Below.next HBW.out hb3).mono hsz)).setCell (p := ⟨w.heap.size, s * 3, none⟩) (Nat.le_refl _) (.int .i64 p')).setCell (p := ⟨w.heap.size, s * 3 + 1, none⟩) (Nat.le_refl _) (.int .i64 q')).setCell (p := ⟨w.heap.size, s * 3 + 2, none⟩) (Nat.le_refl _) (.string v'))
          clear hA hb3
          go_simp
          go_wp2_with fail
          go_roundw
          case rel => exact ⟨k + 1, by omega, by go_num, HBF.out, HACC2.out⟩
          case measure => simp [intOf]; omega
    · obtain rfl : k = n2 := by omega
      have hE : l.take k = l := List.take_of_length_le (by have := HN.out; omega)
      have HAC : Hid (wr.heap[w.heap.size]? = some (.cells ((repA m l).flatMap accC).toArray 96 (0, 0))) := Lib.hid (by have := hacc.out; rw [hE] at this; exact this)
      clear hE hacc
      go_wp2_with fail
      go_ret
      exact ⟨rfl, HAC.out, hb⟩
end Go.Proofs.YtgfjmplifmbmlaaDoor
namespace Go.Proofs.YtgfjmplifmbmlaaDoor
open Go.RowKit
section
variable {P : Program} {ops : Array Oper} {md : Region.Mode} {S : World → Prop}

def takesB (md : Region.Mode) (ops : Array Oper) : List Nat → Array Bool → Bool
  | [], _ => true
  | i :: L, listed => (Region.free md ops listed i && (Region.ready md ops listed).contains i) && takesB md ops L (listed.setIfInBounds i true)
def afterT : List Nat → Array Bool → Array Bool
  | [], listed => listed
  | i :: L, listed => afterT L (listed.setIfInBounds i true)
def wpTk (P : Program) (ops : Array Oper) (S : World → Prop) (K : Act → Prop) : List Nat → Act → Prop
  | [], a => K a
  | i :: L, a => ∃ o, ops[i]? = some o ∧ if Region.wanted o (yielded ops a.tmps) = true then ∃ v, (∀ w, S w → (execOp a.eval o).run P w = .ok (.value v) w) ∧ wpTk P ops S K L (a.put o.dst v) else wpTk P ops S K L (a.put o.dst undef)
theorem wpTk_nil {K : Act → Prop} {a : Act} (h : K a) : wpTk P ops S K [] a := h
theorem wpTk_cons {K : Act → Prop} {i : Nat} {L : List Nat} {a : Act} {o : Oper} (ho : ops[i]? = some o)
    (h : ∀ K' : Act → Prop, (∀ a, wpTk P ops S K L a → K' a) → if Region.wanted o (yielded ops a.tmps) = true then ∃ v, (∀ w, S w → (execOp a.eval o).run P w = .ok (.value v) w) ∧ K' (a.put o.dst v) else K' (a.put o.dst undef)) : wpTk P ops S K (i :: L) a :=
  ⟨o, ho, h _ (fun _ h => h)⟩
theorem held_takes {Q : Exit → Act → World → Prop} {f : Nat} {w : World} (hsel : Region.noSelect ops = true) (hQ : ∀ c a d v w, Q (.panic c) (a.put d v) w → Q (.panic c) a w) (hS : S w) :
    ∀ (L : List Nat) (listed : Array Bool) (a : Act), takesB md ops L listed = true → wpTk P ops S (fun a' => wpAnyH P md ops Q S f (afterT L listed) a' w) L a → wpAnyH P md ops Q S (f + L.length) listed a w
  | [], listed, a, _, h => h
  | i :: L, listed, a, hB, h => by
    obtain ⟨o, ho, h⟩ := h
    unfold takesB at hB
    simp only [Bool.and_eq_true] at hB
    rw [List.length_cons, ← Nat.add_assoc]
    by_cases hw : Region.wanted o (yielded ops a.tmps) = true
    · rw [if_pos hw] at h
      obtain ⟨v, hv, h⟩ := h
      exact wpAnyH_take ho hsel hB.1.1 hB.1.2 (fun c a w => hQ c a _ _ w) (.inl ⟨hw, hv⟩) hS (held_takes hsel hQ hS L _ _ hB.2 h)
    · rw [if_neg hw] at h
      have hw' : Region.wanted o (yielded ops a.tmps) = false := by simpa using hw
      exact wpAnyH_take ho hsel hB.1.1 hB.1.2 (fun c a w => hQ c a _ _ w) (.inr ⟨hw', rfl⟩) hS (held_takes hsel hQ hS L _ _ hB.2 h)
theorem wp_region_takes {id : Nat} {Q : Exit → Act → World → Prop} {a : Act} {w : World} {l : List Oper} (S : World → Prop) (L : List Nat) (f : Nat) (hm : P.follows .mixedOrders = true) (hf : (f + L.length == l.length) = true)
    (hB : (Region.noSelect l.toArray && takesB .any l.toArray L (Array.replicate l.length false)) = true) (hQ : ∀ c a d v w, Q (.panic c) (a.put d v) w → Q (.panic c) a w) (hS : S w.drew)
    (h : wpTk P l.toArray S (fun a' => wpAnyH P .any l.toArray Q S f (afterT L (Array.replicate l.length false)) a' w.drew) L a) : (Code.region id l.toArray true).wp P Q a w := by
  simp only [Bool.and_eq_true] at hB
  have e : l.toArray.size = f + L.length := by rw [List.size_toArray]; exact (eq_of_beq hf).symm
  refine wp_region_held_drew hm hS (fun _ => ?_)
  rw [e]
  have := held_takes (md := .any) (f := f) (w := w.drew) hB.1 hQ hS L (Array.replicate l.length false) a hB.2 h
  rw [show f + L.length = l.length from eq_of_beq hf] at this ⊢
  exact this
/-- whichever comes up -/
theorem held_ready {Q : Exit → Act → World → Prop} {rs : List Nat} {f : Nat} {listed : Array Bool} {a : Act} {w : World} (hr : (Region.ready md ops listed == rs) = true) (hne : rs ≠ [])
    (h : AllReadyH P md ops Q S f listed a w rs) : wpAnyH P md ops Q S (f + 1) listed a w := wpAnyH_ready (eq_of_beq hr) hne h
end
end Go.Proofs.YtgfjmplifmbmlaaDoor
namespace Go.Proofs.YtgfjmplifmbmlaaDoor
open Go.RowKit Go.Maps

theorem flat_take {α : Type} (k : Nat) (enc : α → List Value) (hk : ∀ x, (enc x).length = k) : ∀ (L : List α) (m : Nat), (L.take m).flatMap enc = (L.flatMap enc).take (m * k) := by
  intro L
  induction L with
  | nil => intro m; simp
  | cons x L ih =>
    intro m
    cases m with
    | zero => simp
    | succ m =>
      rw [List.take_succ_cons, List.flatMap_cons, List.flatMap_cons, ih m, List.take_append, hk x]
      have e1 : (m + 1) * k = k + m * k := by rw [Nat.succ_mul, Nat.add_comm]
      rw [e1, List.take_of_length_le (l := enc x) (by rw [hk x]; omega), Nat.add_sub_cancel_left]
theorem RdK.takeF {k : Nat} {w : World} {a : Option Addr} {n c : Nat} {α : Type} {enc : α → List Value} {L : List α} (h : RdK k w a n c (L.flatMap enc)) (hk : ∀ x, (enc x).length = k) (m : Nat) (hm : m ≤ n) : RdK k w a m c ((L.take m).flatMap enc) := by
  rw [flat_take k enc hk]
  have hl : m * k ≤ n * k := Nat.mul_le_mul_right k hm
  refine ⟨by rw [List.length_take, ← h.len]; omega, by have := h.le; omega, h.max, h.nil, fun hn => ?_⟩
  obtain ⟨b, o, ha, hc⟩ := h.at' (by omega)
  refine ⟨b, o, ha, fun i v hv => hc i v ?_⟩
  rw [List.getElem?_take] at hv
  split at hv
  · exact hv
  · cases hv

set_option maxRecDepth 100000 in
set_option maxHeartbeats 4000000 in
theorem reports_c (m : Nat) (l : List Ev) (a2 : Option Addr) (n2 c2 : Nat) (b : Int) (w : World) (h2 : RdK 4 w a2 n2 c2 (l.flatMap evC)) (hsv : ∀ e ∈ l, 0 ≤ e.server ∧ e.server < m) (hl : l.length ≤ 1000) (hm : m ≤ 12) :
    Calls Tryd.prog 78 #[.int .i64 m, .slice a2 n2 c2, .int .i64 b] w fun e w' => ∃ v, e = .returned v ∧ w'.ownsRow w.heap.size 33 3 v (repS m l b).length ((repS m l b).flatMap repC) ∧ Below w.heap.size w w' := by
  have hnl : l.length = n2 := by have := h2.len; rw [flat_len 4 evC evC_len] at this; omega
  have HR2 := Lib.hid h2
  have HN := Lib.hid hnl
  have HSV := Lib.hid hsv
  have hle := h2.le
  have hmx := h2.max
  unfold maxLen at hmx
  have hl0 := hl
  rw [hnl] at hl
  have HL0 := Lib.hid hl0
  clear h2 hnl hsv hl0
  go_enter Tryd.func78, Tryd.ntmps78
  go_wp2_with fail
  go_loopw [7, 8] (fun v i wr => ∃ (k : Nat), k ≤ n2 ∧ i = .int .i64 k ∧ wr.ownsRow w.heap.size 33 3 v (repTo m l b k).length ((repTo m l b k).flatMap repC) ∧ Hid ((repTo m l b k).length ≤ k) ∧ Below w.heap.size w wr) (fun _ i _ => n2 - (intOf i).toNat)
  case atStart => exact ⟨0, Nat.zero_le _, rfl, World.ownsRow_nil _ _ _ _, Lib.hid (by simp [repTo]), Below.refl _ _⟩
  case round =>
    obtain ⟨k, hk, rfl, hown, hlen, hb⟩ := hrel
    have hsz := hb.size
    have HB := Lib.hid hb
    have HOWN := Lib.hid hown
    by_cases hlt : k < n2
    · obtain ⟨e, he⟩ : ∃ e, l[k]? = some e := ⟨l[k]'(by have := HN.out; omega), List.getElem?_eq_getElem _⟩
      have hrd := HR2.out.below hb
      obtain ⟨b', o, ha, hcell⟩ := RdK.cells hrd evC_len (by omega)
      have HTK := Lib.hid (hrd.takeF evC_len k (by omega))
      have hc0 : wr.cell? ⟨b', o + k * 4, none⟩ = some (.int .i64 e.kind) := hcell k e he 0 (by omega)
      have hc1 : wr.cell? ⟨b', o + k * 4 + 1, none⟩ = some (.int .i64 e.server) := hcell k e he 1 (by omega)
      have hc2 : wr.cell? ⟨b', o + k * 4 + 2, none⟩ = some (.int .i64 e.ballot) := hcell k e he 2 (by omega)
      obtain ⟨hs0, hsm⟩ := HSV.out e (List.mem_of_getElem? he)
      have HSUC : Hid (repTo m l b (k + 1) = repTo m l b k ++ if e.kind = 1 ∧ e.ballot = b then [⟨e.server, (atS (repA m (l.take k)) e.server).bal, (atS (repA m (l.take k)) e.server).val⟩] else []) := Lib.hid (by rw [repTo_succ]; congr 1; unfold repE; rw [he])
      obtain ⟨kd, sv, eb, x⟩ := e
      simp only at hc0 hc1 hc2 hs0 hsm
      obtain ⟨s, rfl⟩ := Int.eq_ofNat_of_zero_le hs0
      have hsm2 : s < m := by omega
      subst ha
      have HB0 : Hid (b' < w.heap.size) := Lib.hid (by obtain ⟨b2, o2, ha2, hc2'⟩ := RdK.cells HR2.out evC_len (by omega); have h9 := hc2' k _ he 0 (by omega); cases ha2; exact World.block_lt_of_cell? _ _ h9)
      clear hcell he hs0 hsm hb hown hrd
      by_cases hkd : kd = 1 ∧ eb = b
      · obtain ⟨rfl, rfl⟩ := hkd
        obtain ⟨p, q, v, hat⟩ : ∃ p q v, atS (repA m (l.take k)) (s : Int) = ⟨p, q, v⟩ := ⟨_, _, _, rfl⟩
        have HAT := Lib.hid hat
        have HLEN : Hid (s < (repA m (l.take k)).length) := Lib.hid (by rw [repA_len]; exact hsm2)
        have HSUC2 : Hid (repTo m l eb (k + 1) = repTo m l eb k ++ [⟨s, q, v⟩]) := Lib.hid (by rw [HSUC.out, HAT.out]; simp)
        have i0 : (0 : Int) ≤ (s : Int) := by omega
        have i1 : (s : Int) < (m : Int) := by omega
        have j0 : (0 : Int) ≤ (k : Int) := by omega
        have j1 : (k : Int) ≤ (n2 : Int) := by omega
        have j2 : (k : Int) ≤ (c2 : Int) := by omega
        have HP : Hid (∀ y : World, Below wr.heap.size wr y → Calls Tryd.prog 70 #[.int .i64 m, .slice (some ⟨b', o, none⟩) k c2] y fun e w3 => e = .returned (.slice (some ⟨y.heap.size, 0, none⟩) m m) ∧ Hid (w3.heap[y.heap.size]? = some (.cells ((repA m (l.take k)).flatMap accC).toArray 96 (0, 0))) ∧ Hid (Below y.heap.size y w3)) :=
          Lib.hid (fun y hy => (replay_c m (l.take k) _ k c2 y (HTK.out.below hy) (fun e he => HSV.out e (List.mem_of_mem_take he)) (by rw [List.length_take]; have := HL0.out; omega) hm).mono fun e w3 ⟨h1, h2, h3⟩ => ⟨h1, Lib.hid h2, Lib.hid h3⟩)
        have KS : Hid (∀ y : World, Below wr.heap.size wr y → y.cell? ⟨b', o + k * 4 + 1, none⟩ = some (.int .i64 s)) := Lib.hid (fun y hy => (hy.cell (p := ⟨b', o + k * 4 + 1, none⟩) (cell_lt hc1)).trans hc1)
        clear hat
        go_wp2_with fail
        refine wp_region_noPanic ?_
        refine wp_region_takes (fun y => Below wr.heap.size wr y) [0, 1, 2, 3, 5, 6, 7, 8, 9] 5 (by kernel_rfl) (by kernel_rfl) (by kernel_rfl) (fun _ _ _ _ _ h => h) (below_drew (Below.refl _ _)) ?_
        repeat (refine wpTk_cons rfl (fun K hK => ?_); go_simp; apply Exists.intro; refine ⟨fun y hy => ?_, hK _ ?_⟩; (first | exact rfl | (have q1 := KS.out y hy; go_simp; done) | (have q1 := KS.out y hy; go_simp; exact rfl)); clear hK K)
        refine wpTk_nil ?_
        refine held_ready (rs := [4, 12]) (by kernel_rfl) (by simp) ?_
        refine AllReadyH.cons rfl (fun K hK => ?_) (AllReadyH.cons rfl (fun K hK => ?_) AllReadyH.nil)
        go_simp
        refine (HP.out _ (below_drew (Below.refl _ _))).mono ?_
        rintro e w3 ⟨rfl, hA, hB3⟩
        have hY3 : Below wr.heap.size wr w3 := Below.next (below_drew (Below.refl _ _)) hB3.out
        have hA3 : w3.heap[wr.heap.size]? = some (.cells ((repA m (l.take k)).flatMap accC).toArray 96 (0, 0)) := hA.out
        obtain ⟨⟨c0, c1, c2'⟩, -⟩ := acc_cells hA3 HLEN.out
        rw [HAT.out] at c0 c1 c2'
        have l2 : wr.heap.size < w3.heap.size := (Array.getElem?_eq_some_iff.1 hA3).1
        have a0 : ∀ ob, (w3.alloc ob).cell? ⟨wr.heap.size, s * 3, none⟩ = some (.int .i64 p) := fun ob => (World.cell?_alloc_lt _ _ _ l2).trans c0
        have a1 : ∀ ob, (w3.alloc ob).cell? ⟨wr.heap.size, s * 3 + 1, none⟩ = some (.int .i64 q) := fun ob => (World.cell?_alloc_lt _ _ _ l2).trans c1
        have a2' : ∀ ob, (w3.alloc ob).cell? ⟨wr.heap.size, s * 3 + 2, none⟩ = some (.string v) := fun ob => (World.cell?_alloc_lt _ _ _ l2).trans c2'
        have HY3 := Lib.hid hY3
        have HA3 := Lib.hid hA3
        clear hA hB3 hY3 hA3
        go_simp
        refine hK.out _ _ HY3.out (fun hh => ?_)
        clear hh hK K; try simp only [Act.put, List.setIfInBounds_toArray, List.set_cons_zero, List.set_cons_succ]
        refine held_takes (f := 3) (by kernel_rfl) (fun _ _ _ _ _ h => h) HY3.out [10] _ _ (by kernel_rfl) ?_
        refine wpTk_cons rfl (fun K hK => ?_)
        go_simp
        apply Exists.intro
        refine ⟨fun y hy => rfl, hK _ ?_⟩
        clear hK K
        refine wpTk_nil ?_
        refine held_ready (rs := [11, 12]) (by kernel_rfl) (by simp) ?_
        refine AllReadyH.cons rfl (fun K hK => ?_) (AllReadyH.cons rfl (fun K hK => ?_) AllReadyH.nil)
        go_simp
        refine hK.out _ _ HY3.out (fun hh => ?_)
        clear hh hK K; try simp only [Act.put, List.setIfInBounds_toArray, List.set_cons_zero, List.set_cons_succ]
        refine held_ready (rs := [12]) (by kernel_rfl) (by simp) ?_
        refine AllReadyH.cons rfl (fun K hK => ?_) AllReadyH.nil
        go_simp
        refine hK.out _ _ (HY3.out.alloc HY3.out.size _) (fun hh => ?_)
        clear hh hK K; try simp only [Act.put, List.setIfInBounds_toArray, List.set_cons_zero, List.set_cons_succ]
        refine held_ready (rs := [13]) (by kernel_rfl) (by simp) ?_
        refine AllReadyH.cons rfl (fun K hK => ?_) AllReadyH.nil
        go_simp
        refine hK.out _ _ (HY3.out.alloc HY3.out.size _) (fun hh => ?_)
        clear hh hK K; try simp only [Act.put, List.setIfInBounds_toArray, List.set_cons_zero, List.set_cons_succ]
        refine wpAnyH_done (by kernel_rfl) (NoPanic.normal ?_) _
        have hWb := HY3.out.alloc HY3.out.size (.cells #[.int .i64 p, .int .i64 q, .string v] 96)
        have hWn := heap_alloc_new w3 (.cells #[.int .i64 p, .int .i64 q, .string v] 96)
        have hBx : wr.heap.size ≤ w3.heap.size := HY3.out.size
        clear HY3 HA3 a0 a1 a2' c0 c1 c2' l2
        generalize World.alloc w3 (.cells #[.int .i64 p, .int .i64 q, .string v] 96) = W1 at hWb hWn ⊢
        generalize w3.heap.size = Bx at hWn hBx ⊢
        try clear w3
        rotate_left 1
        go_simp
        refine hK.out _ _ (HY3.out.alloc HY3.out.size _) (fun hh => ?_)
        clear hh hK K; try simp only [Act.put, List.setIfInBounds_toArray, List.set_cons_zero, List.set_cons_succ]
        refine held_ready (rs := [11]) (by kernel_rfl) (by simp) ?_
        refine AllReadyH.cons rfl (fun K hK => ?_) AllReadyH.nil
        go_simp
        refine hK.out _ _ (HY3.out.alloc HY3.out.size _) (fun hh => ?_)
        clear hh hK K; try simp only [Act.put, List.setIfInBounds_toArray, List.set_cons_zero, List.set_cons_succ]
        refine held_ready (rs := [13]) (by kernel_rfl) (by simp) ?_
        refine AllReadyH.cons rfl (fun K hK => ?_) AllReadyH.nil
        go_simp
        refine hK.out _ _ (HY3.out.alloc HY3.out.size _) (fun hh => ?_)
        clear hh hK K; try simp only [Act.put, List.setIfInBounds_toArray, List.set_cons_zero, List.set_cons_succ]
        refine wpAnyH_done (by kernel_rfl) (NoPanic.normal ?_) _
        have hWb := HY3.out.alloc HY3.out.size (.cells #[.int .i64 p, .int .i64 q, .string v] 96)
        have hWn := heap_alloc_new w3 (.cells #[.int .i64 p, .int .i64 q, .string v] 96)
        have hBx : wr.heap.size ≤ w3.heap.size := HY3.out.size
        clear HY3 HA3 a0 a1 a2' c0 c1 c2' l2
        generalize World.alloc w3 (.cells #[.int .i64 p, .int .i64 q, .string v] 96) = W1 at hWb hWn ⊢
        generalize w3.heap.size = Bx at hWn hBx ⊢
        try clear w3
        rotate_left 1
        go_simp
        have h4 : Below wr.heap.size wr (wr.alloc (.cells #[.int .i64 0, .int .i64 0, .string ⟨#[]⟩] 96)).drew := below_drew (blA _ _)
        have h4n : (wr.alloc (.cells #[.int .i64 0, .int .i64 0, .string ⟨#[]⟩] 96)).drew.heap[wr.heap.size]? = some (.cells #[.int .i64 0, .int .i64 0, .string ⟨#[]⟩] 96 (0, 0)) := heap_alloc_new _ _
        have h4s : (wr.alloc (.cells #[.int .i64 0, .int .i64 0, .string ⟨#[]⟩] 96)).drew.heap.size = wr.heap.size + 1 := World.size_alloc _ _
        have H4 := Lib.hid h4
        have H4n := Lib.hid h4n
        have H4s := Lib.hid h4s
        clear h4 h4n h4s
        refine hK.out _ _ H4.out (fun hh => ?_)
        clear hh hK K; try simp only [Act.put, List.setIfInBounds_toArray, List.set_cons_zero, List.set_cons_succ]
        refine held_ready (rs := [4]) (by kernel_rfl) (by simp) ?_
        refine AllReadyH.cons rfl (fun K hK => ?_) AllReadyH.nil
        go_simp
        refine (HP.out _ H4.out).mono ?_
        rintro e w3 ⟨rfl, hA, hB3⟩
        have hY3 : Below wr.heap.size wr w3 := Below.next H4.out hB3.out
        have hA3 : w3.heap[wr.heap.size + 1]? = some (.cells ((repA m (l.take k)).flatMap accC).toArray 96 (0, 0)) := by have := hA.out; rw [H4s.out] at this; exact this
        have hX3 : w3.heap[wr.heap.size]? = some (.cells #[.int .i64 0, .int .i64 0, .string ⟨#[]⟩] 96 (0, 0)) := heap_below hB3.out H4n.out
        obtain ⟨⟨c0, c1, c2'⟩, -⟩ := acc_cells hA3 HLEN.out
        rw [HAT.out] at c0 c1 c2'
        obtain ⟨⟨x0, x1, x2⟩, y0, y1, y2⟩ := open3 hX3
        have HY3 := Lib.hid hY3
        have HX3 := Lib.hid hX3
        clear hA hB3 hY3 hA3 hX3
        go_simp
        refine hK.out _ _ HY3.out (fun hh => ?_)
        clear hh hK K; try simp only [Act.put, List.setIfInBounds_toArray, List.set_cons_zero, List.set_cons_succ]
        refine held_takes (f := 2) (by kernel_rfl) (fun _ _ _ _ _ h => h) HY3.out [10] _ _ (by kernel_rfl) ?_
        refine wpTk_cons rfl (fun K hK => ?_)
        go_simp
        apply Exists.intro
        refine ⟨fun y hy => rfl, hK _ ?_⟩
        clear hK K
        refine wpTk_nil ?_
        refine held_ready (rs := [11]) (by kernel_rfl) (by simp) ?_
        refine AllReadyH.cons rfl (fun K hK => ?_) AllReadyH.nil
        go_simp
        refine hK.out _ _ HY3.out (fun hh => ?_)
        clear hh hK K; try simp only [Act.put, List.setIfInBounds_toArray, List.set_cons_zero, List.set_cons_succ]
        refine held_ready (rs := [13]) (by kernel_rfl) (by simp) ?_
        refine AllReadyH.cons rfl (fun K hK => ?_) AllReadyH.nil
        go_simp
        have hWb := ((HY3.out.setCell (p := ⟨wr.heap.size, 0, none⟩) (Nat.le_refl _) (.int .i64 p)).setCell (p := ⟨wr.heap.size, 1, none⟩) (Nat.le_refl _) (.int .i64 q)).setCell (p := ⟨wr.heap.size, 2, none⟩) (Nat.le_refl _) (.string v)
        refine hK.out _ _ hWb (fun hh => ?_)
        clear hh hK K; try simp only [Act.put, List.setIfInBounds_toArray, List.set_cons_zero, List.set_cons_succ]
        refine wpAnyH_done (by kernel_rfl) (NoPanic.normal ?_) _
        have hWn : ((((w3.setCell ⟨wr.heap.size, 0, none⟩ (.int .i64 p)).setCell ⟨wr.heap.size, 1, none⟩ (.int .i64 q)).setCell ⟨wr.heap.size, 2, none⟩ (.string v)).heap[wr.heap.size]? = some (.cells #[.int .i64 p, .int .i64 q, .string v] 96 (0, 0))) := heap_set_at (heap_set_at (heap_set_at HX3.out 0 (.int .i64 p)) 1 (.int .i64 q)) 2 (.string v)
        clear HY3 HX3 x0 x1 x2 y0 y1 y2 c0 c1 c2' H4 H4n H4s
        generalize World.setCell (World.setCell (World.setCell w3 ⟨wr.heap.size, 0, none⟩ (.int .i64 p)) ⟨wr.heap.size, 1, none⟩ (.int .i64 q)) ⟨wr.heap.size, 2, none⟩ (.string v) = W1 at hWb hWn ⊢
        generalize hBe : wr.heap.size = Bx at hWn ⊢
        have hBx : wr.heap.size ≤ Bx := Nat.le_of_eq hBe
        clear hBe
        try clear w3
        rotate_left 1
        all_goals
          obtain ⟨⟨-, E1, E2⟩, -, -, -⟩ := open3 hWn
          have C1 := KS.out W1 hWb
          have hown1 := rowK_below HOWN.out hWb
          have hBx2 : Bx < W1.heap.size := (Array.getElem?_eq_some_iff.1 hWn).1
          have hln := hlen.out
          have hsz1 := hWb.size
          have hb1 : b' < wr.heap.size := World.block_lt_of_cell? _ _ hc1
          have hb0 : b' < w.heap.size := HB0.out
          have hlt1 : ∀ g, u7.ownBlock = some g → w.heap.size ≤ g ∧ g < wr.heap.size := fun g hg => HOWN.out.lt g hg
          have HLT1 := Lib.hid hlt1
          have HWb := Lib.hid hWb
          have HOWN1 := Lib.hid hown1
          have KS2 : Hid (∀ x : World, Below W1.heap.size W1 x → x.cell? ⟨b', o + k * 4 + 1, none⟩ = some (.int .i64 s) ∧ x.cell? ⟨Bx, 1, none⟩ = some (.int .i64 q) ∧ x.cell? ⟨Bx, 2, none⟩ = some (.string v)) := Lib.hid (fun x hx => ⟨(hx.cell (p := ⟨b', o + k * 4 + 1, none⟩) (cell_lt C1)).trans C1, (hx.cell (p := ⟨Bx, 1, none⟩) (cell_lt E1)).trans E1, (hx.cell (p := ⟨Bx, 2, none⟩) (cell_lt E2)).trans E2⟩)
          have KS3 : Hid (∀ x y : World, Below W1.heap.size W1 x → x.grownBy y u7.ownBlock → y.cell? ⟨b', o + k * 4 + 1, none⟩ = some (.int .i64 s) ∧ y.cell? ⟨Bx, 1, none⟩ = some (.int .i64 q) ∧ y.cell? ⟨Bx, 2, none⟩ = some (.string v)) := Lib.hid (fun x y hx hg => by
            have kc : ∀ k i, k < W1.heap.size → (k < w.heap.size ∨ wr.heap.size ≤ k) → y.cell? ⟨k, i, none⟩ = W1.cell? ⟨k, i, none⟩ := fun k i h1 h2 => World.cell?_of_block (by rw [hg.block k (by have := hx.size; omega) (fun e => by have := HLT1.out k e.symm; omega), hx.block k h1])
            exact ⟨(kc _ _ (by omega) (.inl hb0)).trans C1, (kc _ _ hBx2 (.inr hBx)).trans E1, (kc _ _ hBx2 (.inr hBx)).trans E2⟩)
          obtain ⟨i0', hi0, hz0, hz1, hz2⟩ := info_parts Tryd.infoRep
          clear hlt1 hWb hown1 hWn
          go_wp2_with fail
          go_region_held3 (fun w' => w'.cell? ⟨b', o + k * 4 + 1, none⟩ = some (.int .i64 s) ∧ w'.cell? ⟨Bx, 1, none⟩ = some (.int .i64 q) ∧ w'.cell? ⟨Bx, 2, none⟩ = some (.string v))
            (first | exact hSA | (refine KS2.out _ ?_; first | with_reducible exact Below.refl _ _ | with_reducible exact below_drew (Below.refl _ _) | with_reducible exact blA _ _ | with_reducible exact below_drew (blA _ _)))
            (first
              | (refine step_append_lies _ (by rfl) _ _ _ (by rfl) w.heap.size 33 i0' _ 3 32 Tryd.underlying23 hi0 hz0 hz1 hz2 rfl (by omega) u7 (repTo m l eb k).length _ (by rfl) ((HOWN1.out.alloc _).drew) ⟨W1.heap.size, 0, none⟩ 1 1 [.int .i64 s, .int .i64 q, .string v] (by rfl) (by rfl) (World.news_of_block (cs := #[.int .i64 s, .int .i64 q, .string v]) (t := 33) (fr := (0, 0)) (heap_alloc_new W1 _)) (by simp [Value.oneCell']) (by omega) (by unfold maxLen; omega) (by omega) (by simp; omega) (W1.heap.size + 1) (by simp) ?_; intro gg cap wA hownA hgrow hat hlt; have hSA := KS3.out _ _ (below_drew (blA _ _)) hgrow))
          all_goals
            have hfin : wA.ownsRow w.heap.size 33 3 (.slice (some ⟨gg, 0, none⟩) ((repTo m l eb k).length + 1) cap) (repTo m l eb (k + 1)).length ((repTo m l eb (k + 1)).flatMap repC) := by
              rw [HSUC2.out, List.length_append, List.flatMap_append]
              exact hownA
            have hlf : (repTo m l eb (k + 1)).length ≤ k + 1 := by rw [HSUC2.out, List.length_append]; exact Nat.add_le_add_right hln 1
            have HLF := Lib.hid hlf
            have HFIN := Lib.hid hfin
            have HBF := Lib.hid ((below_drew ((Below.next HB.out HWb.out).alloc (Nat.le_trans hsz hsz1) (.cells #[.int .i64 s, .int .i64 q, .string v] 33))).grown hgrow (Nat.le_trans (Nat.le_trans hsz hsz1) (Nat.le_trans (Nat.le_succ _) (Nat.le_of_eq (World.size_alloc _ _).symm))) (fun k hk => (HLT1.out k hk).1))
            clear hfin hlf hgrow hownA hat hlt hSA
            go_wp2_with fail
            go_roundw
            case rel => exact ⟨k + 1, by omega, by go_num, HFIN.out, HLF, HBF.out⟩
            case measure => simp [intOf]; omega
      · have HSUC2 : Hid (repTo m l b (k + 1) = repTo m l b k) := Lib.hid (by rw [HSUC.out, if_neg hkd, List.append_nil])
        by_cases hk1 : kd = 1
        · subst hk1
          have hk2 : (eb == b) = false := by simpa using hkd
          clear hkd
          go_wp2_with fail
          go_roundw
          case rel => exact ⟨k + 1, by omega, by go_num, by rw [HSUC2.out]; exact HOWN.out, Lib.hid (by rw [HSUC2.out]; have := hlen.out; omega), HB.out⟩
          case measure => simp [intOf]; omega
        · have hk2 : (kd == 1) = false := by simpa using hk1
          clear hkd
          go_wp2_with fail
          go_roundw
          case rel => exact ⟨k + 1, by omega, by go_num, by rw [HSUC2.out]; exact HOWN.out, Lib.hid (by rw [HSUC2.out]; have := hlen.out; omega), HB.out⟩
          case measure => simp [intOf]; omega
    · obtain rfl : k = n2 := by omega
      have HE : Hid (repTo m l b k = repS m l b) := Lib.hid (by unfold repS; rw [HN.out])
      go_wp2_with fail
      go_ret
      exact ⟨_, rfl, by rw [← HE.out]; exact HOWN.out, HB.out⟩
end Go.Proofs.YtgfjmplifmbmlaaDoor
namespace Go.Proofs.YtgfjmplifmbmlaaDoor
open Go.RowKit Go.Maps

theorem valF_hit {l : List Ev} {b : Int} {k : Nat} {e : Ev} (he : l[k]? = some e) (h : ∀ (j : Nat) (z : Ev), j < k → l[j]? = some z → isAcc b z = false) (h1 : isAcc b e = true) : valF l b = some e.value := by
  have hk : k < l.length := (List.getElem?_eq_some_iff.1 he).1
  have e1 : l = l.take k ++ e :: l.drop (k + 1) := by
    rw [← (List.getElem?_eq_some_iff.1 he).2, ← List.drop_eq_getElem_cons hk, List.take_append_drop]
  unfold valF
  rw [e1, List.find?_append, List.find?_eq_none.2 (fun z hz => ?_), List.find?_cons, h1]
  · rfl
  · obtain ⟨j, hj⟩ := List.getElem?_of_mem hz
    rw [List.getElem?_take] at hj
    split at hj
    · rename_i hjk; rw [h j z hjk hj]; decide
    · cases hj
theorem valF_non {l : List Ev} {b : Int} (h : ∀ (j : Nat) (z : Ev), j < l.length → l[j]? = some z → isAcc b z = false) : valF l b = none := by
  unfold valF
  rw [List.find?_eq_none.2 (fun z hz => ?_)]
  · rfl
  · obtain ⟨j, hj⟩ := List.getElem?_of_mem hz
    rw [h j z (List.getElem?_eq_some_iff.1 hj).1 hj]; decide

set_option maxRecDepth 100000 in
set_option maxHeartbeats 4000000 in
theorem demanded_c (read : List (BitVec 16)) (a : Option Addr) (n c : Nat) (m : Nat) (l : List Ev) (a2 : Option Addr) (n2 c2 : Nat) (b : Int) (w : World) (h : Rd w a n c (read.map setV2)) (h2 : RdK 4 w a2 n2 c2 (l.flatMap evC)) (hsv : ∀ e ∈ l, 0 ≤ e.server ∧ e.server < m) (hl : l.length ≤ 1000) (hm : m ≤ 12) :
    Calls Tryd.prog 61 #[.slice a n c, .int .i64 m, .slice a2 n2 c2, .int .i64 b] w fun e w' => e = .returned (.tuple #[.string (demS read m l b).1, .int .i64 (demS read m l b).2]) ∧ Below w.heap.size w w' := by
  have hnl : l.length = n2 := by have := h2.len; rw [flat_len 4 evC evC_len] at this; omega
  have HR := Lib.hid h
  have HR2 := Lib.hid h2
  have HN := Lib.hid hnl
  have HSV := Lib.hid hsv
  have hle := h2.le
  have hmx := h2.max
  unfold maxLen at hmx
  have HL0 := Lib.hid hl
  rw [hnl] at hl
  clear h h2 hnl hsv
  go_enter Tryd.func61, Tryd.ntmps61
  go_wp2_with fail
  go_loopw [10] (fun i wr => ∃ k : Nat, k ≤ n2 ∧ i = .int .i64 k ∧ Hid (∀ (j : Nat) (z : Ev), j < k → l[j]? = some z → isAcc b z = false) ∧ wr = w) (fun i _ => n2 - (intOf i).toNat)
  case atStart => exact ⟨0, Nat.zero_le _, rfl, Lib.hid (fun j z hj => absurd hj (by omega)), rfl⟩
  case round =>
    obtain ⟨k, hk, rfl, hinv, rfl⟩ := hrel
    by_cases hlt : k < n2
    · obtain ⟨e, he⟩ : ∃ e, l[k]? = some e := ⟨l[k]'(by have := HN.out; omega), List.getElem?_eq_getElem _⟩
      obtain ⟨b', o, ha, hcell⟩ := RdK.cells HR2.out evC_len (by omega)
      have hc0 := hcell k e he 0 (by omega)
      have hc2 := hcell k e he 2 (by omega)
      have hc3 := hcell k e he 3 (by omega)
      simp only [evC, List.getElem?_cons_zero, List.getElem?_cons_succ, Nat.add_zero] at hc0 hc2 hc3
      have HE := Lib.hid he
      obtain ⟨kd, sv, eb, x⟩ := e
      simp only at hc0 hc2 hc3
      subst ha
      clear hcell he
      have hnext : isAcc b ⟨kd, sv, eb, x⟩ = false → Hid (∀ (j : Nat) (z : Ev), j < k + 1 → l[j]? = some z → isAcc b z = false) := fun h0 => Lib.hid (fun j z hj hz => by
        by_cases hjk : j < k
        · exact hinv.out j z hjk hz
        · obtain rfl : j = k := by omega
          rw [HE.out] at hz; cases hz; exact h0)
      by_cases hkd : kd = 2
      · subst hkd
        by_cases heb : eb = b
        · subst heb
          have HV : Hid (demS read m l eb = (x, 0)) := Lib.hid (by unfold demS; rw [valF_hit HE.out hinv.out (by simp [isAcc])])
          clear hnext
          go_wp2_with fail
          go_ret2
          rw [HV.out]
          exact ⟨rfl, Below.refl _ _⟩
        · have hk2 : (eb == b) = false := by simpa using heb
          have HNX := hnext (by simp [isAcc, heb])
          clear hnext heb
          go_wp2_with fail
          go_roundw
          case rel => exact ⟨k + 1, by omega, by go_num, HNX, trivial⟩
          case measure => simp [intOf]; omega
      · have hk2 : (kd == 2) = false := by simpa using hkd
        have HNX := hnext (by simp [isAcc, hkd])
        clear hnext hkd
        go_wp2_with fail
        go_roundw
        case rel => exact ⟨k + 1, by omega, by go_num, HNX, trivial⟩
        case measure => simp [intOf]; omega
    · obtain rfl : k = n2 := by omega
      have HV : Hid (demS read m l b = pickS read b (repS m l b)) := Lib.hid (by unfold demS; rw [valF_non (by rw [HN.out]; exact hinv.out)])
      go_wp2_with (first
        | (go_at_call 78; (refine (reports_c m l a2 k c2 b _ HR2.out HSV.out HL0.out hm).mono ?_); (rintro e w3 ⟨v, rfl, hown, hb3⟩; obtain ⟨ar, cr, rfl, hrd⟩ := rdK_of_row hown))
        | (go_at_call 14; (refine (rPick_c read b (repS m l b) a n c ar _ cr _ (HR.out.below hb3) hrd).mono ?_); (rintro e w4 ⟨rfl, hb4⟩)))
      go_ret2
      rw [HV.out]
      exact ⟨rfl, Below.next hb3 hb4⟩
end Go.Proofs.YtgfjmplifmbmlaaDoor
