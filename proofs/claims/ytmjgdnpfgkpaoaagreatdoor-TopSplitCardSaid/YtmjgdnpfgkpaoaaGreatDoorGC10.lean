/- Texts laid together. A region that draws its order and ends in one store that changes what some of its loads read: one walk in the order of the text. Over any program. The reference's Made of layer 10. Layer 10, plain: sizes of trees, cut at a bound. No program. expr.size: the number of nodes of a tidy expression, at most 61. expr.write: the nodes of a tree in postorder. expr.Substitute, Tidy. expr.Tidy. Two expressions made into boxes of their own, in whatever order. Plain lemmas over the model. A call, a box made and filled, in whatever order. Plain lemmas over the model, no program. expr.plant: the tree of a node. Trees: constant, anyOf, allOf, part, as they answer. slices.Min and slices.Max of ints; light. The kids of a tree that reads by a set of blocks. Plain lemmas over the model. merged: kids of a form replaced by their kids. Simplifying, plain: the fold step by step, light. simplified: the simplified tree. fell: the nodes of a tree in postorder. Layer 10, plain: what satisfies an expression with substituted servers. No program. expr.Simplify. expr.servers. set.choose under a range over a function: its contract over whatever loop body keeps what it must. set.choose: the walk. set.Subsets and set.Choose as iterators; slices.Collect of sets. expr.Family. transversal.Hits, transversal.Dual. The examples of the top statements about runs, plain part. The examples of the top statements about runs. -/
import Derived.Test.YtmjgdnpfgkpaoaaGreatDoorGC2
import Derived.Test.YtmjgdnpfgkpaoaaGreatDoorGC3
import Derived.Test.YtmjgdnpfgkpaoaaGreatDoorGC6
import Derived.Test.YtmjgdnpfgkpaoaaGreatDoorGC7
import Derived.Test.YtmjgdnpfgkpaoaaGreatDoorGC8
import Derived.Test.YtmjgdnpfgkpaoaaGreatDoorGC9
import Derived.Test.YtmjgdnpfgkpaoaaGreatDoorProg
import Derived.Deep.RegionHeld3
import Derived.Deep.AppendLies
import Derived.Deep.RegionLaw
import Derived.Laws.EntriesVeiled
import Derived.Deep.DeepCutAuto
import Derived.RangeFuncRecord
import Derived.RangeFuncNested
import Derived.RangeFuncBound
import Derived.RangeFuncCalls
import Derived.RangeFuncLeaves
import Derived.RangeFuncWrites
import Derived.Shelf.Abstract
import Derived.Shelf.RegionOpen
import Derived.OwnWalkIn
import Derived.TacticsInMore
import Derived.LoopNIn
import Derived.LoopIn
import Derived.RangeFuncBox
import Derived.Maps.AppendAt
import Derived.Sort.QuietIn
namespace Go.Proofs.YtmjgdnpfgkpaoaaGreatDoor
open Go.RowKit
section
variable {P : Program} {ops : Array Oper} {md : Region.Mode} {C D : World → Prop}

def inC (C D : World → Prop) (b : Bool) (w : World) : Prop := match b with
  | true => D w
  | false => C w
def StoreAt (P : Program) (o : Oper) (a : Act) (C D : World → Prop) : Prop := ∀ w, C w → ∃ w', (execOp a.eval o).run P w = .ok .skip w' ∧ D w'
def walkT (P : Program) (md : Region.Mode) (ops : Array Oper) (C D : World → Prop) (t : Nat) (Q : Act → Prop) : Nat → Array Bool → Act → Prop
  | 0, listed, a => Region.ready md ops listed = [] ∧ listed.getD t true = true ∧ Q a
  | f + 1, listed, a => (Region.ready md ops listed = [] → listed.getD t true = true ∧ Q a) ∧ ∀ i ∈ Region.ready md ops listed,
      (i ≠ t → qOp P ops (inC C D (listed.getD t true)) i (walkT P md ops C D t Q f (listed.setIfInBounds i true)) a) ∧
      (i = t → ∃ o, ops[t]? = some o ∧ Region.wanted o (yielded ops a.tmps) = true ∧ StoreAt P o a C D ∧ walkT P md ops C D t Q f (listed.setIfInBounds t true) (a.put o.dst undef))

theorem getD_set_same (listed : Array Bool) (t : Nat) : (listed.setIfInBounds t true).getD t true = true := by
  rw [Array.getD_eq_getD_getElem?, Array.getElem?_setIfInBounds, if_pos rfl]
  split <;> rfl
theorem any_of_walkT {t : Nat} {Q : Act → Prop} {Q' : Exit → Act → World → Prop} (hQ : ∀ a w, D w → Q a → Q' .normal a w) :
    ∀ (f : Nat) (listed : Array Bool) (a : Act) (w : World), inC C D (listed.getD t true) w → walkT P md ops C D t Q f listed a → wpAny P md ops Q' f listed a w
  | 0, listed, a, w, hw, h => ⟨h.1, hQ _ _ (by have := h.2.1; rw [this] at hw; exact hw) h.2.2⟩
  | f + 1, listed, a, w, hw, h => by
    refine ⟨fun h0 => ?_, fun i hi => ?_⟩
    · obtain ⟨h1, h2⟩ := h.1 h0
      exact hQ _ _ (by rw [h1] at hw; exact hw) h2
    · by_cases hit : i = t
      · subst hit
        obtain ⟨o, ho, hwd, hst, hn⟩ := (h.2 i hi).2 rfl
        have hun := (mem_ready.1 hi).1
        rw [hun] at hw
        obtain ⟨w', hr, hD⟩ := hst w hw
        unfold wpOp
        simp only [ho]
        rw [if_pos hwd]
        left
        unfold Oper.wp
        rw [hr]
        exact any_of_walkT hQ f _ _ _ (by rw [getD_set_same]; exact hD) hn
      · exact wpOp_of_qOp hw (fun a' w' hw' h' => any_of_walkT hQ f _ a' w' (by rw [getD_set_ne true hit]; exact hw') h') ((h.2 i hi).1 hit)

theorem qOp_put2 {C' : World → Prop} {j : Nat} {oi oj : Oper} {v : Value} (hj : ops[j]? = some oj) (hap : oi.apart ops oj = true)
    (hsj : ∀ cs b, oj.op ≠ .select cs b) {K : Act → Prop} {a : Act} (h : qOp P ops C' j K (a.put oi.dst v)) :
    qOp P ops C' j (fun a' => (∃ u, a' = a.put oj.dst u) ∧ K (a'.put oi.dst v)) a := by
  obtain ⟨h1, h2, h3⟩ := Oper.apart_spec hap
  unfold qOp at *
  simp only [hj] at *
  rw [wanted_put oj a oi.dst v h1] at h
  split
  · rename_i hw
    simp only [hw, if_true] at h
    obtain ⟨u, hu, hn⟩ := h
    refine ⟨u, fun w hw' => ?_, ⟨u, rfl⟩, by rw [← Act.put_comm a v u h2]; exact hn⟩
    have := hu w hw'
    unfold Oper.quietAt at *
    rwa [execOp_put oj hsj a oi.dst v h1] at this
  · rename_i hw
    simp only [hw] at h
    exact ⟨⟨undef, rfl⟩, by rw [← Act.put_comm a v undef h2]; exact h⟩

theorem walkT_first {t i : Nat} {oi : Oper} {v : Value} {Q : Act → Prop} (hi : ops[i]? = some oi) (hit : i ≠ t) (hsel : ∀ (j : Nat) (o : Oper) cs b, ops[j]? = some o → o.op ≠ .select cs b)
    (late : Bool) (hlate : late = false → Region.waitsFor md ops t i = true) :
    ∀ (f : Nat) (listed : Array Bool) (a : Act),
      (∀ j oj, ops[j]? = some oj → j ≠ i → listed.getD j true = false → (∀ e ∈ oj.after, Region.binds md e = true → e.on ≠ i) → oi.apart ops oj = true) →
      i ∈ Region.ready md ops listed → (listed.getD t true = false → YieldsIn P ops C oi v a) → ((late = true ∨ listed.getD t true = true) → YieldsIn P ops D oi v a) →
      walkT P md ops C D t Q f (listed.setIfInBounds i true) (a.put oi.dst v) → walkT P md ops C D t Q (f + 1) listed a := by
  have yin : ∀ (listed : Array Bool) (a : Act), (listed.getD t true = false → YieldsIn P ops C oi v a) → ((late = true ∨ listed.getD t true = true) → YieldsIn P ops D oi v a) → YieldsIn P ops (inC C D (listed.getD t true)) oi v a := by
    intro listed a h1 h2
    cases hb : listed.getD t true
    · exact h1 hb
    · exact h2 (.inr hb)
  intro f
  induction f with
  | zero =>
    intro listed a _ hr hC hD H
    refine ⟨fun h => (by rw [h] at hr; cases hr), fun j hj => ?_⟩
    by_cases hji : j = i
    · subst hji; exact ⟨fun _ => (yin listed a hC hD).qOp hi H, fun h => absurd h hit⟩
    · have := ready_mono hj hji
      rw [H.1] at this
      cases this
  | succ f ih =>
    intro listed a hfree hr hC hD H
    refine ⟨fun h => (by rw [h] at hr; cases hr), fun j hj => ?_⟩
    by_cases hji : j = i
    · subst hji; exact ⟨fun _ => (yin listed a hC hD).qOp hi H, fun h => absurd h hit⟩
    · have hHj := H.2 j (ready_mono hj hji)
      obtain ⟨hjun, oj, hoj, hall⟩ := mem_ready.1 hj
      have hiun := (mem_ready.1 hr).1
      have hnot : ∀ e ∈ oj.after, Region.binds md e = true → e.on ≠ i := fun e he hb heq => by
        have h1 := hall e he hb
        rw [heq, getD_both hiun] at h1
        cases h1
      have hap := hfree j oj hoj hji hjun hnot
      obtain ⟨p1, p2, p3⟩ := Oper.apart_spec hap
      have hsi := fun cs b => hsel i oi cs b hi
      have keep : ∀ (E : World → Prop), YieldsIn P ops E oi v a → ∀ u, YieldsIn P ops E oi v (a.put oj.dst u) := fun E hy u =>
        hy.of_same (execOp_put oi hsi a oj.dst u p3) (wanted_put oi a oj.dst u p3)
      have hfree' : ∀ k ok, ops[k]? = some ok → k ≠ i → (listed.setIfInBounds j true).getD k true = false →
          (∀ e ∈ ok.after, Region.binds md e = true → e.on ≠ i) → oi.apart ops ok = true := fun k ok hk hki hun hno => by
        refine hfree k ok hk hki ?_ hno
        by_cases hjk : j = k
        · subst hjk; exact hjun
        · rw [getD_set_ne true hjk] at hun; exact hun
      by_cases hjt : j = t
      · subst hjt
        refine ⟨fun h => absurd rfl h, fun _ => ?_⟩
        have hl : late = true := by
          cases hl : late
          · exfalso
            obtain ⟨oj', hoj', e, he, hb, hon⟩ := Region.waitsFor_spec (hlate hl)
            rw [hoj] at hoj'
            cases hoj'
            exact hnot e he hb hon
          · rfl
        obtain ⟨o, ho, hwd, hst, hn⟩ := hHj.2 rfl
        rw [hoj] at ho
        cases ho
        refine ⟨oj, hoj, by rw [wanted_put oj a oi.dst v p1] at hwd; exact hwd, fun w hw => ?_, ?_⟩
        · obtain ⟨w', hr', hD'⟩ := hst w hw
          rw [execOp_put oj (fun cs b => hsel j oj cs b hoj) a oi.dst v p1] at hr'
          exact ⟨w', hr', hD'⟩
        · refine ih (listed.setIfInBounds j true) _ hfree' (ready_mono hr (Ne.symm hji)) (fun h => by rw [getD_set_same] at h; cases h) (fun _ => keep D (hD (.inl hl)) undef) ?_
          rw [Array.setIfInBounds_comm _ _ hji, ← Act.put_comm a v undef p2]
          exact hn
      · refine ⟨fun _ => ?_, fun h => absurd h hjt⟩
        have e1 : (listed.setIfInBounds i true).getD t true = listed.getD t true := getD_set_ne true hit
        have e2 : (listed.setIfInBounds j true).getD t true = listed.getD t true := getD_set_ne true hjt
        have h1 := hHj.1 hjt
        rw [e1] at h1
        refine qOp_mono (fun a' h3 => ?_) (qOp_put2 hoj hap (fun cs b => hsel j oj cs b hoj) h1)
        obtain ⟨⟨u, hu⟩, h4⟩ := h3
        refine ih (listed.setIfInBounds j true) a' hfree' (ready_mono hr (Ne.symm hji)) (fun h => by rw [hu]; exact keep C (hC (by rw [← e2]; exact h)) u) (fun h => by rw [hu]; exact keep D (hD (h.imp id fun h => by rw [← e2]; exact h)) u) ?_
        rw [Array.setIfInBounds_comm _ _ hji]
        exact h4

/-- a late one yields behind the store, too -/
def LateAt (P : Program) (D : World → Prop) (late : Nat → Bool) (k : Nat) (o : Oper) (a : Act) (v : Value) : Prop := late k = true → ∀ w, D w → o.quietAt P a D w v
theorem late_not {late : Nat → Bool} {k : Nat} {o : Oper} {a : Act} {v : Value} (h : late k = false) : LateAt P D late k o a v := fun h' => by rw [h] at h'; cases h'
/-- the walk in the order of the text; the late ones yield behind the store, too -/
def wpT (P : Program) (ops : Array Oper) (C D : World → Prop) (late : Nat → Bool) (Qt : Act → Prop) : Nat → List Oper → Act → Prop
  | _, [], a => Qt a
  | k, o :: rest, a => if Region.wanted o (yielded ops a.tmps) = true then ∃ v, (∀ w, C w → o.quietAt P a C w v) ∧ LateAt P D late k o a v ∧ wpT P ops C D late Qt (k + 1) rest (a.put o.dst v)
      else wpT P ops C D late Qt (k + 1) rest (a.put o.dst undef)
theorem wpT_nil {late : Nat → Bool} {Qt : Act → Prop} {k : Nat} {a : Act} (h : Qt a) : wpT P ops C D late Qt k [] a := h
theorem wpT_step {late : Nat → Bool} {Qt : Act → Prop} {k : Nat} {o : Oper} {rest : List Oper} {a : Act}
    (h : ∀ K : Act → Prop, (∀ a, wpT P ops C D late Qt (k + 1) rest a → K a) → if Region.wanted o (yielded ops a.tmps) = true then ∃ v, (∀ w, C w → o.quietAt P a C w v) ∧ LateAt P D late k o a v ∧ K (a.put o.dst v) else K (a.put o.dst undef)) :
    wpT P ops C D late Qt k (o :: rest) a := h _ (fun _ h => h)

theorem walkT_lex {t : Nat} {late : Nat → Bool} {Q : Act → Prop} (hsel : Region.noSelect ops = true) (hlate : ∀ i, i < t → late i = false → Region.waitsFor md ops t i = true) :
    ∀ (l : List Oper) (k : Nat) (listed : Array Bool) (a : Act), (∀ j, j < l.length → l[j]? = ops[k + j]?) → k + l.length = t → listed.getD t true = false →
    Region.lexFrom md ops (l.length + 1) k listed = true →
    wpT P ops C D late (fun a' => ∃ o, ops[t]? = some o ∧ Region.wanted o (yielded ops a'.tmps) = true ∧ StoreAt P o a' C D ∧ Q (a'.put o.dst undef)) k l a →
    walkT P md ops C D t Q (l.length + 1) listed a
  | [], k, listed, a, _, hk, hun, hB, h => by
    have hkt : k = t := by simpa using hk
    subst hkt
    simp only [List.length_nil, Region.lexFrom, Bool.and_eq_true] at hB
    have hr : k ∈ Region.ready md ops listed := by simpa using hB.1.1
    have he : Region.ready md ops (listed.setIfInBounds k true) = [] := by simpa using hB.2
    refine ⟨fun h0 => (by rw [h0] at hr; cases hr), fun i hi => ⟨fun hik => ?_, fun hik => ?_⟩⟩
    · have := ready_mono hi hik
      rw [he] at this; cases this
    · obtain ⟨o, ho, hwd, hst, hq⟩ := h
      exact ⟨o, ho, hwd, hst, he, getD_set_same _ _, hq⟩
  | o :: l, k, listed, a, hl, hk, hun, hB, h => by
    have h0 : ops[k]? = some o := by simpa using (hl 0 (by simp)).symm
    have hkt : k < t := by simp only [List.length_cons] at hk; omega
    simp only [List.length_cons] at hB ⊢
    rw [Region.lexFrom] at hB
    simp only [Bool.and_eq_true] at hB
    obtain ⟨⟨hr, hf⟩, hB'⟩ := hB
    have hr' : k ∈ Region.ready md ops listed := by simpa using hr
    have rec' := fun (v : Value) (hK : wpT P ops C D late (fun a' => ∃ o, ops[t]? = some o ∧ Region.wanted o (yielded ops a'.tmps) = true ∧ StoreAt P o a' C D ∧ Q (a'.put o.dst undef)) (k + 1) l (a.put o.dst v)) =>
      walkT_lex hsel hlate l (k + 1) (listed.setIfInBounds k true) (a.put o.dst v) (fun j hj => by have := hl (j + 1) (by simp; omega); simpa [Nat.add_assoc, Nat.add_comm 1 j] using this) (by simp only [List.length_cons] at hk; omega) (by rw [getD_set_ne true (by omega)]; exact hun) hB' hK
    unfold wpT at h
    by_cases hw : Region.wanted o (yielded ops a.tmps) = true
    · rw [if_pos hw] at h
      obtain ⟨v, hC, hD, hK⟩ := h
      exact walkT_first h0 (by omega) (Region.noSelect_spec hsel) (late k) (hlate k hkt) _ listed a (Region.free_spec h0 hf) hr' (fun _ => .inl ⟨hw, hC⟩) (fun hh => .inl ⟨hw, hD (hh.resolve_right (by rw [hun]; decide))⟩) (rec' v hK)
    · rw [if_neg hw] at h
      have hw' : Region.wanted o (yielded ops a.tmps) = false := by simpa using hw
      exact walkT_first h0 (by omega) (Region.noSelect_spec hsel) (late k) (hlate k hkt) _ listed a (Region.free_spec h0 hf) hr' (fun _ => .inr ⟨hw', rfl⟩) (fun _ => .inr ⟨hw', rfl⟩) (rec' undef h)

theorem wp_region_store {id : Nat} {Q : Exit → Act → World → Prop} {a : Act} {w : World} {l : List Oper} (C D : World → Prop) (late : List Nat) (t : Nat) (hm : P.follows .mixedOrders = true) (hB : Region.lexB .any l.toArray = true)
    (hT : (decide (t + 1 = l.length) && (List.range t).all fun i => late.contains i || Region.waitsFor .any l.toArray t i) = true) (hC : C { w with drawn := w.drawn + 1 })
    (h : wpT P l.toArray C D late.contains (fun a' => ∃ o, l.toArray[t]? = some o ∧ Region.wanted o (yielded l.toArray a'.tmps) = true ∧ StoreAt P o a' C D ∧ ∀ w', D w' → Q .normal (a'.put o.dst undef) w') 0 (l.take t) a) :
    (Code.region id l.toArray true).wp P Q a w := by
  simp only [Region.lexB, Bool.and_eq_true] at hB
  simp only [Bool.and_eq_true, decide_eq_true_eq] at hT
  obtain ⟨hlen, hall⟩ := hT
  have htl : (l.take t).length = t := by simp; omega
  refine wp_region_any hm ?_
  have hun : (Array.replicate l.toArray.size false).getD t true = false := getD_in (by simp; omega) (getD_replicate_false _ _)
  have := walkT_lex (md := .any) (C := C) (D := D) (t := t) (late := late.contains) (Q := fun a' => ∀ w', D w' → Q .normal a' w') hB.1 (fun i hi hl => by
    have := List.all_eq_true.1 hall i (List.mem_range.2 hi)
    rw [hl, Bool.false_or] at this
    exact this) (l.take t) 0 (Array.replicate l.toArray.size false) a (fun j hj => by
    have hj' : j < t := by rw [htl] at hj; exact hj
    simp [hj']) (by rw [htl]; omega) hun (by rw [htl, show t + 1 = l.toArray.size by simp; omega]; exact hB.2) h
  have h2 := any_of_walkT (Q' := Q) (fun a' w' hw' h' => h' w' hw') _ _ _ { w with drawn := w.drawn + 1 } (by rw [hun]; exact hC) this
  rw [htl] at h2
  rw [show t + 1 = l.toArray.size by simp; omega] at h2
  exact h2
end
end Go.Proofs.YtmjgdnpfgkpaoaaGreatDoor
namespace Go.Proofs.YtmjgdnpfgkpaoaaGreatDoor
open Go.RowKit Go.Shelf

theorem w4_val (z : Int) (h : 0 ≤ z ∧ z < 256) : IntKind.i64.wrap (1 + IntKind.i64.wrap ((IntKind.u8.wrap (z.tdiv 16)).tmod 4)) = 1 + z / 16 % 4 := by
  obtain ⟨n, rfl⟩ := Int.eq_ofNat_of_zero_le h.1
  have key : ∀ n : Fin 256, IntKind.i64.wrap (1 + IntKind.i64.wrap ((IntKind.u8.wrap ((n.val : Int).tdiv 16)).tmod 4)) = 1 + (n.val : Int) / 16 % 4 := by decide +kernel
  exact key ⟨n, by omega⟩

theorem fin_heap {w : World} {R X : Nat} {p q : Value} {t : TypeId} (hX : R ≠ X) (h : w.heap[R]? = some (.cells #[p, q] t (0, 0))) (x y u : Value) : (((w.setCell ⟨X, 1, none⟩ x).setCell ⟨R, 0, none⟩ y).setCell ⟨R, 1, none⟩ u).heap[R]? = some (.cells #[y, u] t (0, 0)) := by
  have h1 := (Below.heap_setCell w ⟨X, 1, none⟩ x R hX).trans h
  have h2 : ((w.setCell ⟨X, 1, none⟩ x).setCell ⟨R, 0, none⟩ y).heap[R]? = some (.cells #[y, q] t (0, 0)) := by rw [heap_set_at h1]; rfl
  rw [heap_set_at h2]; rfl
theorem fin_other {w : World} {G R X : Nat} {o : Obj} (hX : G ≠ X) (hR : G ≠ R) (h : w.heap[G]? = some o) (x y u : Value) : (((w.setCell ⟨X, 1, none⟩ x).setCell ⟨R, 0, none⟩ y).setCell ⟨R, 1, none⟩ u).heap[G]? = some o :=
  (Below.heap_setCell _ ⟨R, 1, none⟩ _ G hR).trans ((Below.heap_setCell _ ⟨R, 0, none⟩ _ G hR).trans ((Below.heap_setCell _ ⟨X, 1, none⟩ _ G hX).trans h))
theorem srv_xm {w : World} {G : Nat} {t : TypeId} {fr : Nat × Nat} (h : w.heap[G]? = some (.cells #[.int .i64 1, .int .i64 0, .int .i64 0, .slice none 0 0, .slice none 0 0] t fr)) : XM w (some ⟨G, 0, none⟩) 1 1 [srv0] := by
  refine XM.of_rdK (V := [⟨1, 0, 0, .slice none 0 0, .slice none 0 0⟩]) ⟨rfl, Nat.le_refl _, by unfold maxLen; omega, fun h => (by cases h), fun _ => ⟨_, _, rfl, fun i v hv => ?_⟩⟩ rfl ?_
  · rw [Nat.zero_add]
    exact (cell_of_row _ _ i _ _ _ h).trans (by simpa [nodVC] using hv)
  · intro i p nd hp hn
    match i, hp, hn with
    | 0, hp, hn => cases hp; cases hn; exact ⟨rfl, rfl, rfl, ⟨none, 0, 0, rfl, Rd.none_ _⟩, ⟨none, 0, 0, rfl, Rd.none_ _⟩⟩

end Go.Proofs.YtmjgdnpfgkpaoaaGreatDoor
namespace Go.Proofs.YtmjgdnpfgkpaoaaGreatDoor

/-- how much fuel there is does not matter -/
theorem treF_fuel {x : Xpr} (hx : xprE x = 0) (sub : Nat → Option ET) : ∀ (i f : Nat), i < f → treF x.nodes sub f i = treF x.nodes sub (i + 1) i := by
  intro i
  induction i using Nat.strongRecOn with
  | ind i ih =>
    intro f hf
    obtain ⟨g, rfl⟩ : ∃ g, f = g + 1 := ⟨f - 1, by omega⟩
    rw [treF, treF]
    cases hi : x.nodes[i]? with
    | none => rw [List.getD_eq_getElem?_getD, hi]; rfl
    | some nd =>
      have ok := (xprE_ok hx).node i nd hi
      rw [List.getD_eq_getElem?_getD, hi]
      simp only [Option.getD_some]
      split
      · rfl
      · congr 1
        apply List.map_congr_left
        intro k hk
        obtain ⟨h1, h2⟩ := ok.kids k hk
        rw [ih k.toNat (by omega) g (by omega), ih k.toNat (by omega) i (by omega)]
/-- the sizes of the first trees, cut at a bound -/
def szl (M : Nat) (nodes : List Nod) (sub : Nat → Option ET) (k : Nat) : List Nat := (List.range k).map fun i => min M (treF nodes sub (i + 1) i).sz
theorem szl_len (M : Nat) (nodes : List Nod) (sub : Nat → Option ET) (k : Nat) : (szl M nodes sub k).length = k := by simp [szl]
theorem szl_succ (M : Nat) (nodes : List Nod) (sub : Nat → Option ET) (k : Nat) : szl M nodes sub (k + 1) = szl M nodes sub k ++ [min M (treF nodes sub (k + 1) k).sz] := by simp [szl, List.range_succ]
theorem szl_get (M : Nat) (nodes : List Nod) (sub : Nat → Option ET) (k i : Nat) (h : i < k) : (szl M nodes sub k).getD i 0 = min M (treF nodes sub (i + 1) i).sz := by
  unfold szl
  rw [List.getD_eq_getElem?_getD, List.getElem?_map, List.getElem?_range h]; rfl
/-- a server's size -/
def subZ (M : Nat) (sub : Nat → Option ET) (s : Nat) : Nat := match sub s with | some T => min M T.sz | none => 1
theorem sz_leaf {x : Xpr} (M : Nat) (hM : 1 ≤ M) (sub : Nat → Option ET) (i : Nat) (nd : Nod) (hi : x.nodes[i]? = some nd) (hk : nd.kind = 1) : min M (treF x.nodes sub (i + 1) i).sz = subZ M sub nd.server.toNat := by
  have e : x.nodes.getD i nod0 = nd := by rw [List.getD_eq_getElem?_getD, hi]; rfl
  rw [treF, e, if_pos hk]
  unfold subZ
  cases sub nd.server.toNat with
  | none => show min M (ET.srv nd.server).sz = 1; rw [ET.sz]; omega
  | some T => rfl
theorem sz_node {x : Xpr} (hx : xprE x = 0) (_M : Nat) (sub : Nat → Option ET) (i : Nat) (nd : Nod) (hi : x.nodes[i]? = some nd) (hk : nd.kind ≠ 1) : (treF x.nodes sub (i + 1) i).sz = ETs.sz (kidT x.nodes sub i nd.kids) + 1 :=
  (treF_plain hx sub i i nd hi (fun h => absurd h hk) 0).2
/-- a kid more -/
theorem sz_kid {x : Xpr} (hx : xprE x = 0) (M : Nat) (sub : Nat → Option ET) (i : Nat) (nd : Nod) (hi : x.nodes[i]? = some nd) (j kd : Nat) (hj : nd.kids[j]? = some (kd : Int)) :
    min M (1 + ETs.sz ((kidT x.nodes sub i nd.kids).take (j + 1))) = min M (min M (1 + ETs.sz ((kidT x.nodes sub i nd.kids).take j)) + (szl M x.nodes sub i).getD kd 0) := by
  have ok := (xprE_ok hx).node i nd hi
  have hkd := ok.kids _ (List.mem_of_getElem? hj)
  rw [szl_get _ _ _ _ _ (by omega), kidT_take _ _ _ _ _ _ hj, Int.toNat_natCast, (post_step _ _ 0).2.2, treF_fuel hx sub kd i (by omega)]
  omega
end Go.Proofs.YtmjgdnpfgkpaoaaGreatDoor
namespace Go.Proofs.YtmjgdnpfgkpaoaaGreatDoor
open Go.RowKit Go.Shelf

/-- sixty places for numbers, the first ones filled -/
def inA (l : List Nat) : Array Value := ((l ++ List.replicate (60 - l.length) 0).map fun k => Value.int .i64 ((k : Nat) : Int)).toArray
theorem inA_at {l : List Nat} (h : l.length ≤ 60) {i : Nat} (hi : i < 60) : (inA l)[i]? = some (.int .i64 ((l.getD i 0 : Nat) : Int)) := by
  unfold inA
  rw [List.getElem?_toArray, List.getElem?_map, List.getD_eq_getElem?_getD]
  by_cases h1 : i < l.length
  · rw [List.getElem?_append_left h1, List.getElem?_eq_getElem h1]; rfl
  · rw [List.getElem?_append_right (by omega), List.getElem?_replicate, if_pos (by omega), List.getElem?_eq_none (by omega)]; rfl
theorem inA_set {l : List Nat} (h : l.length < 60) (v : Nat) : (inA l).setIfInBounds l.length (.int .i64 (v : Int)) = inA (l ++ [v]) := by
  unfold inA
  rw [List.setIfInBounds_toArray]
  congr 1
  have e : 60 - l.length = (60 - (l ++ [v]).length) + 1 := by simp; omega
  rw [e, List.replicate_succ, List.map_append, List.map_append, List.map_append, List.map_cons, List.set_append_right _ _ (by simp)]
  simp
theorem inA_reset {l : List Nat} (u v : Nat) : (inA (l ++ [u])).setIfInBounds l.length (.int .i64 (v : Int)) = inA (l ++ [v]) := by
  unfold inA
  rw [List.setIfInBounds_toArray]
  congr 1
  rw [List.append_assoc, List.append_assoc, List.map_append, List.map_append, List.set_append_right _ _ (by simp)]
  simp
theorem inA_old {l : List Nat} (u : Nat) {i : Nat} (h : l.length < 60) (hi : i < l.length) : (inA (l ++ [u]))[i]? = some (.int .i64 ((l.getD i 0 : Nat) : Int)) := by
  rw [inA_at (by simp; omega) (by omega), List.getD_eq_getElem?_getD, List.getElem?_append_left hi, ← List.getD_eq_getElem?_getD]
theorem inA_new {l : List Nat} (u : Nat) (h : l.length < 60) : (inA (l ++ [u]))[l.length]? = some (.int .i64 (u : Int)) := by
  rw [inA_at (by simp; omega) h, List.getD_eq_getElem?_getD, List.getElem?_append_right (Nat.le_refl _), Nat.sub_self]; rfl

/-- the tree of the root, with substitutions -/
def treY (x : Xpr) (sub : Nat → Option ET) : ET := treF x.nodes sub (x.root.toNat + 1) x.root.toNat
/-- a function value that answers a server's size -/
def OfAt (w0 : World) (g : Nat) (lb : Array Value) (sz : Nat → Nat) : Prop := ∀ (s : Nat), s < 12 → ∀ (W : World), Below w0.heap.size w0 W → Calls Tryz.prog g (#[.int .i64 (s : Int)] ++ lb) W fun e w' => e = .returned (.int .i64 ((sz s : Nat) : Int)) ∧ Below W.heap.size W w'

end Go.Proofs.YtmjgdnpfgkpaoaaGreatDoor
namespace Go.Proofs.YtmjgdnpfgkpaoaaGreatDoor
open Go.RowKit Go.Shelf

def noE : Nat → Prop := fun _ => False
end Go.Proofs.YtmjgdnpfgkpaoaaGreatDoor
namespace Go.Proofs.YtmjgdnpfgkpaoaaGreatDoor
open Go.RowKit Go.Shelf

/-! plain: what Substitute answers -/
def xprsE : List Xpr → Int
  | [] => 0
  | y :: l => if xprE y ≠ 0 then xprE y else xprsE l
theorem xprsE_ok : ∀ {l : List Xpr}, xprsE l = 0 → ∀ y ∈ l, xprE y = 0
  | [], _, y, hy => by cases hy
  | z :: l, h, y, hy => by
    unfold xprsE at h
    split at h
    · rename_i h1; exact absurd h h1
    · rename_i h1
      rcases List.mem_cons.1 hy with rfl | hy
      · simpa using h1
      · exact xprsE_ok h y hy
theorem xprsE_drop {l : List Xpr} {k : Nat} {y : Xpr} (h : l[k]? = some y) : xprsE (l.drop k) = if xprE y ≠ 0 then xprE y else xprsE (l.drop (k + 1)) := by
  have hk := (List.getElem?_eq_some_iff.1 h).1
  rw [List.drop_eq_getElem_cons hk]
  have : l[k] = y := (List.getElem?_eq_some_iff.1 h).2
  rw [this]; rfl
def subS (x : Xpr) (ys : List Xpr) : Xpr × Int :=
  if xprE x ≠ 0 then (⟨[], 0⟩, xprE x) else if xprsE ys ≠ 0 then (⟨[], 0⟩, xprsE ys) else if 60 < (treY x (subL ys)).sz then (⟨[], 0⟩, 3) else ((treY x (subL ys)).xpr, 0)

theorem subZ_le (sub : Nat → Option ET) (s : Nat) : subZ 61 sub s ≤ 61 := by
  unfold subZ
  split <;> omega

/-- an expression that a call returns, with an error -/
def RetX (x : Xpr) (er : Int) (w : World) (e : Ending) (w' : World) : Prop :=
  ∃ a' c', e = .returned (.tuple #[.agg #[.slice a' x.nodes.length c', .int .i64 x.root], .int .i64 er]) ∧ XMR w.heap.size w'.heap.size w' a' x.nodes.length c' x.nodes ∧ Below w.heap.size w w'
theorem RetX.none_ {er : Int} {w w' : World} {e : Ending} (he : e = .returned (.tuple #[.agg #[.slice none 0 0, .int .i64 0], .int .i64 er])) (hb : Below w.heap.size w w') : RetX ⟨[], 0⟩ er w e w' :=
  ⟨none, 0, he, fun _ _ => XM.none_ _, hb⟩

theorem box3 {w W3 : World} {c0 c1 c2 : Array Value} {t0 t1 t2 : TypeId} (h : ((w.alloc (.cells c0 t0)).alloc (.cells c1 t1)).alloc (.cells c2 t2) = W3) :
    W3.heap[w.heap.size]? = some (.cells c0 t0 (0, 0)) ∧ W3.heap[w.heap.size + 1]? = some (.cells c1 t1 (0, 0)) ∧ W3.heap[w.heap.size + 1 + 1]? = some (.cells c2 t2 (0, 0)) ∧ Below w.heap.size w W3 ∧ W3.heap.size = w.heap.size + 3 := by
  subst h
  have h1 := heap_alloc_new (w.alloc (.cells c0 t0)) (.cells c1 t1)
  have h2 := heap_alloc_new ((w.alloc (.cells c0 t0)).alloc (.cells c1 t1)) (.cells c2 t2)
  rw [World.size_alloc] at h1
  rw [World.size_alloc, World.size_alloc] at h2
  exact ⟨heap_alloc_at (heap_alloc_at (heap_alloc_new _ _) _) _, heap_alloc_at h1 _, h2, (((Below.refl _ w).alloc (Nat.le_refl _) _).alloc (by simp) _).alloc (by simp; omega) _, by simp⟩
theorem fin_box {w w4 WF : World} {R : Nat} {p q u0 u1 : Value} {t : TypeId} (h : w4.heap[R]? = some (.cells #[p, q] t (0, 0))) (hR : w.heap.size ≤ R) (hb : Below w.heap.size w w4) (hW : (w4.setCell ⟨R, 0, none⟩ u0).setCell ⟨R, 1, none⟩ u1 = WF) :
    WF.heap[R]? = some (.cells #[u0, u1] t (0, 0)) ∧ Below w.heap.size w WF := by
  subst hW
  exact ⟨heap_set_at (heap_set_at h 0 _) 1 _, (hb.setCell (p := ⟨R, 0, none⟩) hR _).setCell (p := ⟨R, 1, none⟩) hR _⟩

end Go.Proofs.YtmjgdnpfgkpaoaaGreatDoor
namespace Go.Proofs.YtmjgdnpfgkpaoaaGreatDoor
open Go.RowKit Go.Shelf

/-- what Tidy answers -/
def tidS (x : Xpr) : Xpr × Int := if xprE x ≠ 0 then (⟨[], 0⟩, xprE x) else if 60 < (treX x).sz then (⟨[], 0⟩, 3) else ((treX x).xpr, 0)
theorem subS_nil (x : Xpr) : subS x [] = tidS x := rfl
theorem box2 {w W2 : World} {c0 c1 : Array Value} {t0 t1 : TypeId} (h : (w.alloc (.cells c0 t0)).alloc (.cells c1 t1) = W2) :
    W2.heap[w.heap.size]? = some (.cells c0 t0 (0, 0)) ∧ W2.heap[w.heap.size + 1]? = some (.cells c1 t1 (0, 0)) ∧ Below w.heap.size w W2 ∧ W2.heap.size = w.heap.size + 2 := by
  subst h
  have h1 := heap_alloc_new (w.alloc (.cells c0 t0)) (.cells c1 t1)
  rw [World.size_alloc] at h1
  exact ⟨heap_alloc_at (heap_alloc_new _ _) _, h1, ((Below.refl _ w).alloc (Nat.le_refl _) _).alloc (by simp) _, by simp⟩
/-- an expression that was returned, put into a box: the slice still reads -/
theorem xmr_box {lo R : Nat} {w WF : World} {a : Option Addr} {n c : Nat} {nodes : List Nod} {u0 u1 : Value} (h : XMR lo w.heap.size w a n c nodes) (hR : R < lo) (hW : (w.setCell ⟨R, 0, none⟩ u0).setCell ⟨R, 1, none⟩ u1 = WF) : XMR lo WF.heap.size WF a n c nodes := by
  have hs : WF.heap.size = w.heap.size := by rw [← hW]; simp
  rw [hs]
  refine h.agree fun g g1 g2 => ?_
  rw [← hW, Below.heap_setCell _ ⟨R, 1, none⟩ _ g (by show g ≠ R; omega), Below.heap_setCell _ ⟨R, 0, none⟩ _ g (by show g ≠ R; omega)]

end Go.Proofs.YtmjgdnpfgkpaoaaGreatDoor
namespace Go.Proofs.YtmjgdnpfgkpaoaaGreatDoor
open Go.RowKit

theorem heap_some_lt {w : World} {b : Nat} {o : Obj} (h : w.heap[b]? = some o) : b < w.heap.size := (Array.getElem?_eq_some_iff.1 h).1
section
variable {x y : Xpr} {w0 W W' : World} {o5 o6 : Option Nat} {r1 r2 : Option (Option Addr × Nat)}
theorem alloc_x {nodes : List Nod} {p : Option Addr × Nat} (W : World) (o : Obj) {O Q : Nat → Prop} (h : ∃ lo hi, XMR lo hi W p.1 nodes.length p.2 nodes ∧ hi ≤ W.heap.size ∧ ∀ b, O b → b < lo ∨ hi ≤ b) (hq : ∀ b, Q b → b = W.heap.size ∨ O b) :
    ∃ lo hi, XMR lo hi (W.alloc o) p.1 nodes.length p.2 nodes ∧ hi ≤ (W.alloc o).heap.size ∧ ∀ b, Q b → b < lo ∨ hi ≤ b := by
  obtain ⟨lo, hi, h1, h2, h3⟩ := h
  refine ⟨lo, hi, h1.agree fun g _ hg => Below.heap_alloc W o g (by omega), by rw [World.size_alloc]; omega, fun b hb => ?_⟩
  rcases hq b hb with rfl | h
  · exact .inr h2
  · exact h3 b h
theorem open2 {w : World} {B : Nat} {p q : Value} {t : TypeId} (h : w.heap[B]? = some (.cells #[p, q] t (0, 0))) :
    (w.cell? ⟨B, 0, none⟩ = some p ∧ w.cell? ⟨B, 1, none⟩ = some q) ∧ w.frozen? ⟨B, 0, none⟩ = false ∧ w.frozen? ⟨B, 1, none⟩ = false :=
  ⟨⟨cell_of_row _ _ 0 _ _ _ h, cell_of_row _ _ 1 _ _ _ h⟩, frozen_row h 0, frozen_row h 1⟩
end
end Go.Proofs.YtmjgdnpfgkpaoaaGreatDoor
namespace Go.Proofs.YtmjgdnpfgkpaoaaGreatDoor
open Go.RowKit

/-- on the way: a box made (or not yet), a call's result (or not yet), the latter read by the blocks of S0 and by blocks of its own -/
structure CS (S0 : Nat → Prop) (W0 z : World) (box : Option (Nat × Obj)) (q : Option (World → Prop)) : Prop where
  bel : Below W0.heap.size W0 z
  b : ∀ B ob, box = some (B, ob) → z.heap[B]? = some ob ∧ W0.heap.size ≤ B
  s0 : ∀ g, S0 g → g < W0.heap.size
  r : ∀ Q, q = some Q → ∃ lo hi, (∀ w2 : World, (∀ g, S0 g ∨ (lo ≤ g ∧ g < hi) → w2.heap[g]? = z.heap[g]?) → Q w2) ∧ hi ≤ z.heap.size ∧ W0.heap.size ≤ lo ∧ ∀ B ob, box = some (B, ob) → B < lo ∨ hi ≤ B
section
variable {S0 : Nat → Prop} {W0 z z' : World} {box : Option (Nat × Obj)} {q : Option (World → Prop)}
theorem CS.start (h : ∀ g, S0 g → g < W0.heap.size) : CS S0 W0 W0.drew none none :=
  ⟨below_drew (Below.refl _ _), (fun _ _ h => by cases h), h, (fun _ h => by cases h)⟩
theorem CS.lt (h : CS S0 W0 z box q) {B : Nat} {ob : Obj} (hb : box = some (B, ob)) : B < z.heap.size := heap_some_lt (h.b B ob hb).1
theorem CS.quiet (h : CS S0 W0 z box q) (hb : Below z.heap.size z z') : CS S0 W0 z' box q :=
  { bel := Below.next h.bel hb
    b := fun B ob e => ⟨heap_below hb (h.b B ob e).1, (h.b B ob e).2⟩
    s0 := h.s0
    r := fun Q e => by
      obtain ⟨lo, hi, h1, h2, h3, h4⟩ := h.r Q e
      refine ⟨lo, hi, fun w2 hw => h1 w2 fun g hg => (hw g hg).trans (hb.block g ?_), Nat.le_trans h2 hb.size, h3, h4⟩
      rcases hg with hg | hg
      · have := h.s0 g hg; have := h.bel.size; omega
      · omega }
theorem CS.call {Q : World → Prop} (h : CS S0 W0 z box none) (hb : Below z.heap.size z z') (hq : ∀ w2 : World, (∀ g, S0 g ∨ (z.heap.size ≤ g ∧ g < z'.heap.size) → w2.heap[g]? = z'.heap[g]?) → Q w2) : CS S0 W0 z' box (some Q) :=
  { bel := Below.next h.bel hb
    b := fun B ob e => ⟨heap_below hb (h.b B ob e).1, (h.b B ob e).2⟩
    s0 := h.s0
    r := fun Q' e => by
      cases e
      exact ⟨z.heap.size, z'.heap.size, hq, Nat.le_refl _, h.bel.size, fun B ob e => .inl (h.lt e)⟩ }
theorem CS.alloc (h : CS S0 W0 z none q) (ob : Obj) : CS S0 W0 (z.alloc ob) (some (z.heap.size, ob)) q :=
  { bel := h.bel.alloc h.bel.size _
    b := fun B ob' e => by cases e; exact ⟨heap_alloc_new _ _, h.bel.size⟩
    s0 := h.s0
    r := fun Q e => by
      obtain ⟨lo, hi, h1, h2, h3, h4⟩ := h.r Q e
      refine ⟨lo, hi, fun w2 hw => h1 w2 fun g hg => (hw g hg).trans (Below.heap_alloc z ob g ?_), by rw [World.size_alloc]; omega, h3, fun B ob' e => ?_⟩
      · rcases hg with hg | hg
        · have := h.s0 g hg; have := h.bel.size; omega
        · omega
      · cases e; exact .inr h2 }
/-- the box filled -/
structure CF (S0 : Nat → Prop) (W0 V : World) (B : Nat) (ob : Obj) (Q : World → Prop) : Prop where
  bel : Below W0.heap.size W0 V
  b : V.heap[B]? = some ob
  le : W0.heap.size ≤ B
  r : ∃ S' : Nat → Prop, ¬ S' B ∧ (∀ g, S' g → S0 g ∨ (W0.heap.size ≤ g ∧ g < V.heap.size)) ∧ ∀ w2 : World, Ag S' V w2 → Q w2
theorem CS.fin {B : Nat} {ob ob' : Obj} {Q : World → Prop} {V : World} (h : CS S0 W0 z (some (B, ob)) (some Q)) (h1 : V.heap[B]? = some ob') (h2 : ∀ g, g ≠ B → V.heap[g]? = z.heap[g]?) (h3 : ∀ B', B' ≤ B → Below B' z V) : CF S0 W0 V B ob' Q := by
  obtain ⟨lo, hi, r1, r2, r3, r4⟩ := h.r Q rfl
  have hB := (h.b B ob rfl).2
  have hlt := h.lt rfl
  have hz := (h3 B (Nat.le_refl _)).size
  refine ⟨h.bel.trans (h3 _ hB), h1, hB, fun g => S0 g ∨ (lo ≤ g ∧ g < hi), ?_, fun g hg => ?_, fun w2 hw => r1 w2 fun g hg => (hw g hg).trans (h2 g ?_)⟩
  · rintro (hg | hg)
    · have := h.s0 B hg; omega
    · have := r4 B ob rfl; omega
  · rcases hg with hg | hg
    · exact .inl hg
    · exact .inr ⟨by omega, by omega⟩
  · intro e
    subst e
    rcases hg with hg | hg
    · have := h.s0 g hg; omega
    · have := r4 g ob rfl; omega
end
theorem fin2w {w WF : World} {R : Nat} {v0 v1 u0 u1 : Value} {t : TypeId} (h : w.heap[R]? = some (.cells #[v0, v1] t (0, 0))) (hW : (w.setCell ⟨R, 0, none⟩ u0).setCell ⟨R, 1, none⟩ u1 = WF) :
    WF.heap[R]? = some (.cells #[u0, u1] t (0, 0)) ∧ (∀ g, g ≠ R → WF.heap[g]? = w.heap[g]?) ∧ WF.heap.size = w.heap.size ∧ (∀ B, B ≤ R → Below B w WF) := by
  subst hW
  refine ⟨heap_set_at (heap_set_at h 0 _) 1 _, fun g hg => ?_, by simp, fun B hB => ?_⟩
  · rw [Below.heap_setCell _ ⟨R, 1, none⟩ _ g hg, Below.heap_setCell _ ⟨R, 0, none⟩ _ g hg]
  · exact ((Below.refl B w).setCell (p := ⟨R, 0, none⟩) hB _).setCell (p := ⟨R, 1, none⟩) hB _
/-- five cells of a box stored -/
theorem fin5 {w WF : World} {R : Nat} {v0 v1 v2 v3 v4 u0 u1 u2 u3 u4 : Value} {t : TypeId} (h : w.heap[R]? = some (.cells #[v0, v1, v2, v3, v4] t (0, 0))) (hW : ((((w.setCell ⟨R, 0, none⟩ u0).setCell ⟨R, 1, none⟩ u1).setCell ⟨R, 2, none⟩ u2).setCell ⟨R, 3, none⟩ u3).setCell ⟨R, 4, none⟩ u4 = WF) :
    WF.heap[R]? = some (.cells #[u0, u1, u2, u3, u4] t (0, 0)) ∧ (∀ g, g ≠ R → WF.heap[g]? = w.heap[g]?) ∧ WF.heap.size = w.heap.size ∧ (∀ B, B ≤ R → Below B w WF) := by
  subst hW
  refine ⟨heap_set_at (heap_set_at (heap_set_at (heap_set_at (heap_set_at h 0 _) 1 _) 2 _) 3 _) 4 _, fun g hg => ?_, by simp, fun B hB => ?_⟩
  · rw [Below.heap_setCell _ ⟨R, 4, none⟩ _ g hg, Below.heap_setCell _ ⟨R, 3, none⟩ _ g hg, Below.heap_setCell _ ⟨R, 2, none⟩ _ g hg, Below.heap_setCell _ ⟨R, 1, none⟩ _ g hg, Below.heap_setCell _ ⟨R, 0, none⟩ _ g hg]
  · exact (((((Below.refl B w).setCell (p := ⟨R, 0, none⟩) hB _).setCell (p := ⟨R, 1, none⟩) hB _).setCell (p := ⟨R, 2, none⟩) hB _).setCell (p := ⟨R, 3, none⟩) hB _).setCell (p := ⟨R, 4, none⟩) hB _
theorem open5 {w : World} {B : Nat} {v0 v1 v2 v3 v4 : Value} {t : TypeId} (h : w.heap[B]? = some (.cells #[v0, v1, v2, v3, v4] t (0, 0))) :
    w.cell? ⟨B, 0, none⟩ = some v0 ∧ w.cell? ⟨B, 1, none⟩ = some v1 ∧ w.cell? ⟨B, 2, none⟩ = some v2 ∧ w.cell? ⟨B, 3, none⟩ = some v3 ∧ w.cell? ⟨B, 4, none⟩ = some v4 :=
  ⟨cell_of_row _ _ 0 _ _ _ h, cell_of_row _ _ 1 _ _ _ h, cell_of_row _ _ 2 _ _ _ h, cell_of_row _ _ 3 _ _ _ h, cell_of_row _ _ 4 _ _ _ h⟩
theorem frz5 {w : World} {B : Nat} {v0 v1 v2 v3 v4 : Value} {t : TypeId} (h : w.heap[B]? = some (.cells #[v0, v1, v2, v3, v4] t (0, 0))) :
    w.frozen? ⟨B, 0, none⟩ = false ∧ w.frozen? ⟨B, 1, none⟩ = false ∧ w.frozen? ⟨B, 2, none⟩ = false ∧ w.frozen? ⟨B, 3, none⟩ = false ∧ w.frozen? ⟨B, 4, none⟩ = false :=
  ⟨frozen_row h 0, frozen_row h 1, frozen_row h 2, frozen_row h 3, frozen_row h 4⟩
end Go.Proofs.YtmjgdnpfgkpaoaaGreatDoor
namespace Go.Proofs.YtmjgdnpfgkpaoaaGreatDoor
open Go.RowKit Go.Shelf

/-- a tree comes back: what it reads by lies in a set or is the call's own -/
def RetT (S : Nat → Prop) (t : ET) (w : World) (e : Ending) (w' : World) : Prop :=
  ∃ lf sv nd aw nw cw ak nk ck, e = .returned (.agg #[.bool lf, .int .i64 sv, .int .i64 nd, .slice aw nw cw, .slice ak nk ck]) ∧ TrS (fun g => S g ∨ (w.heap.size ≤ g ∧ g < w'.heap.size)) w' ⟨lf, sv, nd, .slice aw nw cw, .slice ak nk ck⟩ t ∧ Below w.heap.size w w'
abbrev zTre : Array Value := #[.bool false, .int .i64 0, .int .i64 0, .slice none 0 0, .slice none 0 0]
end Go.Proofs.YtmjgdnpfgkpaoaaGreatDoor
namespace Go.Proofs.YtmjgdnpfgkpaoaaGreatDoor
open Go.RowKit Go.Shelf

/-- a tree's value, opened -/
theorem TrM.shape {w : World} {p : TrV} {t : ET} (h : TrM w p t) : ∃ nw aw cw ak nk ck, p = ⟨p.leaf, p.server, p.need, .slice aw nw cw, .slice ak nk ck⟩ ∧ t.kidsOf.length = nk := by
  cases h with
  | srv s => exact ⟨0, none, 0, none, 0, 0, rfl, rfl⟩
  | thr n ws ks aw nw cw ak nk ck V hw hl hk hr =>
    refine ⟨nw, aw, cw, ak, nk, ck, rfl, ?_⟩
    have h1 := hk.len
    rw [flat_len 5 trVC trVC_len] at h1
    show ks.length = nk
    omega
/-- what the methods of a tree are told -/
def trA (p : TrV) : Value := .agg #[.bool p.leaf, .int .i64 p.server, .int .i64 p.need, p.wv, p.kv]
theorem nil_emp {α : Type} {l : List α} {n : Nat} (h : n = l.length) : ((n : Int) == 0) = l.isEmpty := by
  subst h; cases l <;> simp <;> omega

end Go.Proofs.YtmjgdnpfgkpaoaaGreatDoor
namespace Go.Proofs.YtmjgdnpfgkpaoaaGreatDoor
open Go.RowKit Go.Shelf

theorem least_step {l : List Int} {k : Nat} {z : Int} (h : l[k]? = some z) (hk : 1 ≤ k) : leastL (l.take (k + 1)) = min (leastL (l.take k)) z := by
  cases l with
  | nil => simp at h
  | cons a l =>
    obtain ⟨j, rfl⟩ : ∃ j, k = j + 1 := ⟨k - 1, by omega⟩
    rw [List.take_add_one, h]
    show (l.take j ++ [z]).foldl min a = min ((l.take j).foldl min a) z
    rw [List.foldl_append]; rfl
theorem great_step {l : List Int} {k : Nat} {z : Int} (h : l[k]? = some z) (hk : 1 ≤ k) : greatL (l.take (k + 1)) = max (greatL (l.take k)) z := by
  cases l with
  | nil => simp at h
  | cons a l =>
    obtain ⟨j, rfl⟩ : ∃ j, k = j + 1 := ⟨k - 1, by omega⟩
    rw [List.take_add_one, h]
    show (l.take j ++ [z]).foldl max a = max ((l.take j).foldl max a) z
    rw [List.foldl_append]; rfl

/-- the need and the weights of a light threshold -/
def lgtV (need sum : Int) (ws : List Int) (nk : Nat) (wv : Value) : Int × Value :=
  if need ≤ leastL ws then (1, .slice none 0 0) else if sum - leastL ws < need then ((nk : Int), .slice none 0 0)
  else if leastL ws = greatL ws then ((need + leastL ws - 1) / leastL ws, .slice none 0 0) else (need, wv)
end Go.Proofs.YtmjgdnpfgkpaoaaGreatDoor
namespace Go.Proofs.YtmjgdnpfgkpaoaaGreatDoor
open Go.RowKit

theorem trVC_inj {p q : TrV} (h : ∀ j, j < 5 → (trVC p)[j]? = (trVC q)[j]?) : p = q := by
  obtain ⟨a0, a1, a2, a3, a4⟩ := p
  obtain ⟨b0, b1, b2, b3, b4⟩ := q
  have h0 := h 0 (by omega)
  have h1 := h 1 (by omega)
  have h2 := h 2 (by omega)
  have h3 := h 3 (by omega)
  have h4 := h 4 (by omega)
  simp [trVC] at h0 h1 h2 h3 h4
  subst h0 h1 h2 h3 h4
  rfl
theorem TrS.kids {S : Nat → Prop} {w : World} {lf : Bool} {sv nd n : Int} {wv : Value} {ak : Option Addr} {nk ck : Nat} {ws : List Int} {ks : List ET} (h : TrS S w ⟨lf, sv, nd, wv, .slice ak nk ck⟩ (.thr n ws ks)) :
    ∃ V : List TrV, V.length = ks.length ∧ nk = ks.length ∧ RdK 5 w ak nk ck (V.flatMap trVC) ∧ (∀ (i : Nat) p t, V[i]? = some p → ks[i]? = some t → TrS S w p t) ∧ SlS S w wv ws ∧ lf = false ∧ sv = 0 ∧ nd = n ∧ ∃ a m c, wv = .slice a m c := by
  have hw : SlS S w wv ws := fun w2 ha => by
    cases h w2 ha with
    | thr n ws ks aw nw cw ak nk ck V hw hl hk hr =>
      have := hw.len
      rw [List.length_map] at this
      subst this
      exact ⟨aw, cw, rfl, hw⟩
  cases h.r with
  | thr n ws ks aw nw cw ak nk ck V hw1 hl hk hr =>
    have hn : nk = ks.length := by
      have h1 := hk.len
      rw [flat_len 5 trVC trVC_len] at h1; omega
    refine ⟨V, hl, hn, hk, fun i p t hp ht w2 ha => ?_, hw, rfl, rfl, rfl, aw, nw, cw, rfl⟩
    have hi := (List.getElem?_eq_some_iff.1 ht).1
    obtain ⟨b, o, hak, hc⟩ := RdK.cells hk trVC_len (by omega)
    subst hak
    have hS : S b := Classical.byContradiction fun hb => by
      have h2 := h (w.putObj b (.deferred none)) (fun g hg => World.putObj_heap_other (fun e => hb (e ▸ hg)))
      cases h2 with
      | thr n ws ks aw nw cw ak nk ck V2 hw2 hl2 hk2 hr2 =>
        obtain ⟨b', o', e, hc2⟩ := RdK.cells hk2 trVC_len (by omega)
        cases e
        obtain ⟨q, hq⟩ : ∃ q, V2[i]? = some q := ⟨_, List.getElem?_eq_getElem (by omega)⟩
        have h3 := hc2 i q hq 0 (by omega)
        have h4 : (w.putObj b (.deferred none)).cell? ⟨b, o + i * 5 + 0, none⟩ = none := by
          unfold World.putObj World.cell?
          simp
          by_cases hlt : b < w.heap.size
          · simp [hlt]
          · simp [hlt]
        rw [h4] at h3
        simp [trVC] at h3
    cases h w2 ha with
    | thr n ws ks aw nw cw ak nk ck V2 hw2 hl2 hk2 hr2 =>
      obtain ⟨b', o', e, hc2⟩ := RdK.cells hk2 trVC_len (by omega)
      cases e
      obtain ⟨q, hq⟩ : ∃ q, V2[i]? = some q := ⟨_, List.getElem?_eq_getElem (by omega)⟩
      have e : p = q := trVC_inj fun j hj => by
        rw [← hc i p hp j hj, ← hc2 i q hq j hj]
        exact (World.cell?_of_block (w := w) (w' := w2) (a := ⟨b, o + i * 5 + j, none⟩) (ha b hS)).symm
      subst e
      exact hr2 i p t hq ht
/-- the block of the kids -/
theorem TrS.blk {S : Nat → Prop} {w : World} {lf : Bool} {sv nd : Int} {wv : Value} {ak : Option Addr} {nk ck : Nat} {t : ET} (h : TrS S w ⟨lf, sv, nd, wv, .slice ak nk ck⟩ t) : ∀ b o, ak = some ⟨b, o, none⟩ → 0 < t.kidsOf.length → S b := by
  intro b o hab hpos
  subst hab
  refine Classical.byContradiction fun hb => ?_
  have h2 := h (w.putObj b (.deferred none)) (fun g hg => World.putObj_heap_other (fun e => hb (e ▸ hg)))
  cases h2 with
  | thr n ws ks aw nw cw ak nk ck V2 hw2 hl2 hk2 hr2 =>
    have hpos2 : 0 < ks.length := hpos
    have h5 := hk2.len
    rw [flat_len 5 trVC trVC_len] at h5
    obtain ⟨b', o', e, hc2⟩ := RdK.cells hk2 trVC_len (by omega)
    cases e
    obtain ⟨q, hq⟩ : ∃ q, V2[0]? = some q := ⟨_, List.getElem?_eq_getElem (by omega)⟩
    have h3 := hc2 0 q hq 0 (by omega)
    have h4 : (w.putObj b (.deferred none)).cell? ⟨b, o + 0 * 5 + 0, none⟩ = none := by
      unfold World.putObj World.cell?
      simp
      by_cases hlt : b < w.heap.size
      · simp [hlt]
      · simp [hlt]
    rw [h4] at h3
    simp [trVC] at h3
theorem TrS.leaf {S : Nat → Prop} {w : World} {p : TrV} {s : Int} (h : TrS S w p (.srv s)) : p = ⟨true, s, 0, .slice none 0 0, .slice none 0 0⟩ := by
  cases h.r; rfl
theorem mergT_step {form : ET → Bool} {ks : List ET} {j : Nat} {k : ET} (h : ks[j]? = some k) : mergT form (ks.take (j + 1)) = mergT form (ks.take j) ++ (if form k = true then k.kidsOf else [k]) := by
  unfold mergT
  rw [List.take_add_one, h, List.flatMap_append]
  simp
theorem mergT_len {form : ET → Bool} (ks : List ET) (j : Nat) : (mergT form (ks.take j)).length ≤ ETs.sz ks := by
  have h1 := ETs.sz_ge (mergT form (ks.take j))
  have h2 := ETs.sz_flat form (ks.take j)
  have h3 := sz_take ks j
  omega
/-- 'out = append(out, xs...)', elements of k cells, and where the new row lies. -/
theorem wpList_appsK2 {P : Program} {ops : Array Oper} {rest : List Oper} {o : Oper} {a : Act} {Q : Exit → Act → World → Prop} {B : Nat} {w0 wr : World} {e : TypeId} {v : Value} {l : List Value} {n : Nat}
    (k : Nat) (s xo : Operand) (t : TypeId) (bytes : Nat) (z : Value) (ao : Option Addr) (m c : Nat) (news : List Value)
    (ht : P.underlying t = some (.slice e)) (hi : (P.info? e).map (fun i => (i.zero, i.size, i.bytes)) = some (some z, k, bytes)) (hz : z.cells.size = k) (hk : 0 < k)
    (hown : wr.ownsRow B e k v n l) (hb : Below B w0 wr) (hB : B ≤ w0.heap.size) (hr : RdK k wr ao m c news) (h1 : ∀ u ∈ news, u.oneCell' = true)
    (hg : o.guard = none) (hop : o.op = Op.call { callee := Callee.builtin Builtin.append, args := #[s, xo], argTypes := #[t, t] })
    (hs : a.eval s = v) (hx : a.eval xo = .slice ao m c)
    (hlen : n + m ≤ maxLen) (hby : (n + m) * bytes ≤ 140737488355328)
    (hK : ∀ v' w1, w1.ownsRow B e k v' (n + m) (l ++ news) → Below B w0 w1 → wr.grownBy w1 v.ownBlock → (∀ g, v'.ownBlock = some g → v.ownBlock = some g ∨ wr.heap.size ≤ g) → wpList P ops Q rest (a.put o.dst v') w1) :
    wpList P ops Q (o :: rest) a wr := by
  obtain ⟨i, hi1, hi2, hi3, hi4⟩ := info_parts hi
  have hsz := hb.size
  cases ao with
  | none =>
    have hc := hr.nil rfl
    have hm : m = 0 := by have := hr.le; omega
    subst hc hm
    have hnil : news = [] := List.eq_nil_of_length_eq_zero (by rw [← hr.len, Nat.zero_mul])
    subst hnil
    exact wpList_append_own_none hg s xo t hop B e i k ht hi1 v n l hs hown hx (hK v wr (by simpa using hown) hb (World.grownBy.refl _ _) fun g hg => .inl hg)
  | some ad =>
    refine wpList_append_own_at _ hg s xo t hop B e i z k bytes ht hi1 hi2 hi3 hi4 hz hk v n l hs hown ad m c news hx hr.len.symm ?_ h1 hlen hby (by omega) ?_
    · intro j u hj
      have hj' := (List.getElem?_eq_some_iff.1 hj).1
      have hm0 : 0 < m := by
        apply Nat.pos_of_ne_zero
        intro h0
        have := hr.len
        rw [h0, Nat.zero_mul] at this; omega
      obtain ⟨b, of, ha, hcell⟩ := hr.at' hm0
      cases ha
      rw [Addr.add_lit]
      exact hcell j u hj
    · intro v' w1 h2 h3 _ h5
      refine hK v' w1 h2 (hb.grown h3 (by omega) fun k hk => (hown.lt k hk).1) h3 fun g hg => ?_
      rcases h5 with h5 | h5
      · exact .inl (h5 ▸ hg)
      · rw [h5] at hg; injection hg with hg; exact .inr (by omega)
/-- cells of trees are single -/
theorem TrS.one {S : Nat → Prop} {w : World} {p : TrV} {t : ET} (h : TrS S w p t) : ∀ u ∈ trVC p, u.oneCell' = true := by
  cases h.r <;> (intro u hu; simp [trVC] at hu; rcases hu with rfl | rfl | rfl | rfl | rfl <;> rfl)
theorem one_flat {U : List TrV} {ts : List ET} {S : Nat → Prop} {w : World} (hl : U.length = ts.length) (h : ∀ (i : Nat) p s, U[i]? = some p → ts[i]? = some s → TrS S w p s) : ∀ u ∈ U.flatMap trVC, u.oneCell' = true := by
  intro u hu
  obtain ⟨p, hp, hup⟩ := List.mem_flatMap.1 hu
  obtain ⟨i, hi⟩ := List.getElem?_of_mem hp
  have hlt := (List.getElem?_eq_some_iff.1 hi).1
  exact (h i p _ hi (List.getElem?_eq_getElem (by omega))).one u hup
end Go.Proofs.YtmjgdnpfgkpaoaaGreatDoor
namespace Go.Proofs.YtmjgdnpfgkpaoaaGreatDoor
open Go.RowKit Go.Shelf

theorem TrS.shape {S : Nat → Prop} {w : World} {p : TrV} {t : ET} (h : TrS S w p t) : ∃ nw aw cw ak ck, p = ⟨p.leaf, p.server, p.need, .slice aw nw cw, .slice ak t.kidsOf.length ck⟩ := by
  obtain ⟨nw, aw, cw, ak, nk, ck, e, h1⟩ := TrM.shape h.r
  subst h1
  exact ⟨nw, aw, cw, ak, ck, e⟩
/-- the row of a tree's kids -/
theorem TrS.kids' {S : Nat → Prop} {w : World} {lf : Bool} {sv nd : Int} {wv : Value} {ak : Option Addr} {nk ck : Nat} {t : ET} (h : TrS S w ⟨lf, sv, nd, wv, .slice ak nk ck⟩ t) :
    ∃ U : List TrV, U.length = t.kidsOf.length ∧ nk = t.kidsOf.length ∧ RdK 5 w ak nk ck (U.flatMap trVC) ∧ ∀ (i : Nat) p s, U[i]? = some p → t.kidsOf[i]? = some s → TrS S w p s := by
  cases t with
  | srv s =>
    have := h.leaf
    cases this
    exact ⟨[], rfl, rfl, RdK.none_ _ _, fun i p s hp => by simp at hp⟩
  | thr n ws ks =>
    obtain ⟨U, h1, h2, h3, h4, _⟩ := h.kids
    exact ⟨U, h1, h2, h3, h4⟩

end Go.Proofs.YtmjgdnpfgkpaoaaGreatDoor
namespace Go.Proofs.YtmjgdnpfgkpaoaaGreatDoor
open Go.RowKit

theorem simpF_snoc (k : ET) (ws : List Int) : ∀ (ts : List ET) (a : Nat) (st : SS), ETs.simpF (ts ++ [k]) ws a st = stepS (ETs.simpF ts ws a st) k.simp (wgtW ws (a + ts.length))
  | [], a, st => by simp [ETs.simpF]
  | t :: ts, a, st => by
    rw [List.cons_append, ETs.simpF, simpF_snoc k ws ts (a + 1), ETs.simpF, List.length_cons, show a + 1 + ts.length = a + (ts.length + 1) by omega]
/-- the state behind some kids -/
def stT (n : Int) (ws : List Int) (ks : List ET) (j : Nat) : SS := ETs.simpF (ks.take j) ws 0 ⟨n, [], [], 0⟩
theorem stT_zero (n : Int) (ws : List Int) (ks : List ET) : stT n ws ks 0 = ⟨n, [], [], 0⟩ := by unfold stT; rw [List.take_zero, ETs.simpF]
theorem stT_succ (n : Int) (ws : List Int) {ks : List ET} {j : Nat} {k : ET} (h : ks[j]? = some k) : stT n ws ks (j + 1) = stepS (stT n ws ks j) k.simp (wgtW ws j) := by
  unfold stT
  rw [List.take_add_one, h]
  show ETs.simpF (ks.take j ++ [k]) ws 0 _ = _
  rw [simpF_snoc, List.length_take]
  have := (List.getElem?_eq_some_iff.1 h).1
  rw [show 0 + min j ks.length = j by omega]
theorem stT_all (n : Int) (ws : List Int) (ks : List ET) {j : Nat} (h : ks.length ≤ j) : ET.simp (.thr n ws ks) = finS (stT n ws ks j) := by
  unfold stT
  rw [List.take_of_length_le h, ET.simp]
theorem stT_ok {n : Int} {ws : List Int} {ks : List ET} (h : (ET.thr n ws ks).ok) (hz : ETs.sz ks ≤ 1000) (j : Nat) : SOk2 (stT n ws ks j) n (ETs.sz ks) := by
  rw [ET.ok] at h
  obtain ⟨h1, h2, h3, h4⟩ := h
  have hj := sz_take ks j
  have hs := simpF_ok (ks.take j) ws 0 ⟨n, [], [], 0⟩ n 0 h2 (h3.imp id (by intro e; rw [e, List.length_take]; omega)) ((ETs.ok_iff _).2 fun t ht => (ETs.ok_iff _).1 h4 t (List.mem_of_mem_take ht)) (by omega) ⟨⟨h1.1, rfl, (fun w h => by cases h), rfl⟩, Int.le_refl _, trivial, Nat.le_refl _⟩
  rw [Nat.zero_add] at hs
  exact ⟨hs.toSOk, hs.top, hs.ok, Nat.le_trans hs.sz hj⟩
theorem sumL_le {l : List Int} (h : ∀ w ∈ l, 1 ≤ w ∧ w ≤ 1000) : 0 ≤ sumL l ∧ sumL l ≤ 1000 * (l.length : Int) := by
  induction l with
  | nil => simp [sumL]
  | cons a l ih =>
    have := ih fun w hw => h w (List.mem_cons_of_mem _ hw)
    have := h a (by simp)
    unfold sumL at *
    rw [List.foldr_cons, List.length_cons]
    omega
/-- the fold's numbers are small -/
theorem st_small {st : SS} {n : Int} {Z : Nat} (h : SOk2 st n Z) (hn : n ≤ 100000) (hZ : Z ≤ 1000) : (0 ≤ st.need ∧ st.need ≤ 100000) ∧ (0 ≤ st.sum ∧ st.sum ≤ 1000000) ∧ st.ks.length ≤ 1000 ∧ st.ws.length = st.ks.length := by
  have h1 := ETs.sz_ge st.ks
  have h2 := h.sz
  have h3 := h.top
  have h4 := sumL_le h.toSOk.wts
  rw [h.toSOk.len, ← h.toSOk.sum] at h4
  exact ⟨⟨h.toSOk.need, by omega⟩, ⟨h4.1, by omega⟩, by omega, h.toSOk.len⟩
/-- the light tree, with the weights that it has -/
theorem light_v (need sum : Int) (ws : List Int) (ks : List ET) (wv : Value) : ∃ ws', lightT need sum ws ks = .thr (lgtV need sum ws ks.length wv).1 ws' ks ∧ ((ws' = [] ∧ (lgtV need sum ws ks.length wv).2 = .slice none 0 0) ∨ (ws' = ws ∧ (lgtV need sum ws ks.length wv).2 = wv)) := by
  unfold lightT lgtV
  split
  · exact ⟨[], rfl, .inl ⟨rfl, rfl⟩⟩
  · split
    · exact ⟨[], rfl, .inl ⟨rfl, rfl⟩⟩
    · split
      · exact ⟨[], rfl, .inl ⟨rfl, rfl⟩⟩
      · exact ⟨ws, rfl, .inr ⟨rfl, rfl⟩⟩
end Go.Proofs.YtmjgdnpfgkpaoaaGreatDoor
namespace Go.Proofs.YtmjgdnpfgkpaoaaGreatDoor
open Go.RowKit Go.Shelf

/-- the tree of a state, with what it reads by -/
theorem box2' {w W2 : World} {c0 c1 : Array Value} {t0 t1 : TypeId} (h : (w.alloc (.cells c0 t0)).alloc (.cells c1 t1) = W2) :
    W2.heap[w.heap.size]? = some (.cells c0 t0 (0, 0)) ∧ W2.heap[w.heap.size + 1]? = some (.cells c1 t1 (0, 0)) ∧ Below w.heap.size w W2 ∧ W2.heap.size = w.heap.size + 2 := by
  subst h
  have h1 := heap_alloc_new (w.alloc (.cells c0 t0)) (.cells c1 t1)
  rw [World.size_alloc] at h1
  exact ⟨heap_alloc_at (heap_alloc_new _ _) _, h1, ((Below.refl _ _).alloc (Nat.le_refl _) _).alloc (by simp) _, by simp⟩

theorem TrS.need {S : Nat → Prop} {w : World} {lf : Bool} {sv nd n : Int} {wv kv : Value} {ws : List Int} {ks : List ET} (h : TrS S w ⟨lf, sv, nd, wv, kv⟩ (.thr n ws ks)) (m : Int) : TrS S w ⟨lf, sv, m, wv, kv⟩ (.thr m ws ks) := by
  intro w2 ha
  cases h w2 ha with
  | thr n ws ks aw nw cw ak nk ck V hw hl hk hr => exact .thr m ws ks aw nw cw ak nk ck V hw hl hk hr
end Go.Proofs.YtmjgdnpfgkpaoaaGreatDoor
namespace Go.Proofs.YtmjgdnpfgkpaoaaGreatDoor
open Go.RowKit Go.Shelf

/-- the kids, the weights and the node of a tree -/
structure TrP (t : ET) (KT : List ET) (kind server need : Int) (ws : List Int) : Prop where
  post : ∀ b, t.post b = ETs.post KT b ++ [⟨kind, server, need, ws, ETs.idx KT b⟩]
  sz : t.sz = ETs.sz KT + 1
end Go.Proofs.YtmjgdnpfgkpaoaaGreatDoor
namespace Go.Proofs.YtmjgdnpfgkpaoaaGreatDoor

theorem got_eq {g g' : Int → ET} {S t : BitVec 16} (ws : List Int) : ∀ (ks : List Int) (a : Nat), (∀ k ∈ ks, (g k).hold S = (g' k).hold t) → ETs.got (ks.map g) S ws a = ETs.got (ks.map g') t ws a
  | [], _, _ => rfl
  | k :: ks, a, h => by
    rw [List.map_cons, List.map_cons, ETs.got, ETs.got, h k (by simp), got_eq ws ks (a + 1) fun k' hk => h k' (List.mem_cons_of_mem _ hk)]
/-- a server's answer under a substitution -/
def subH (sub : Nat → Option ET) (S : BitVec 16) (sv : Nat) : Bool := match sub sv with | some U => U.hold S | none => hasB S sv
theorem sub_hold {x : Xpr} (hx : xprE x = 0) (sub : Nat → Option ET) (S t : BitVec 16) (h : ∀ sv, sv < 12 → subH sub S sv = hasB t sv) : ∀ (f i : Nat), i < f → (treF x.nodes sub f i).hold S = (treF x.nodes noSub f i).hold t := by
  intro f
  induction f with
  | zero => intro i hi; omega
  | succ f ih =>
    intro i hi
    rw [treF, treF]
    cases hn : x.nodes[i]? with
    | none =>
      rw [List.getD_eq_getElem?_getD, hn]
      rfl
    | some nd =>
      have ok := (xprE_ok hx).node i nd hn
      rw [List.getD_eq_getElem?_getD, hn]
      simp only [Option.getD_some]
      by_cases hk : nd.kind = 1
      · rw [if_pos hk, if_pos hk]
        have hs := ok.server
        have h2 := h nd.server.toNat (by omega)
        show ((sub nd.server.toNat).getD (.srv nd.server)).hold S = (ET.srv nd.server).hold t
        unfold subH at h2
        cases hq : sub nd.server.toNat with
        | none => rw [hq] at h2; exact h2
        | some U => rw [hq] at h2; exact h2
      · rw [if_neg hk, if_neg hk]
        show decide (nd.need ≤ ETs.got _ S nd.weights 0) = decide (nd.need ≤ ETs.got _ t nd.weights 0)
        rw [got_eq nd.weights nd.kids 0 fun k hkk => ih k.toNat (by have := ok.kids k hkk; omega)]
/-- .. and the tree is valid -/
theorem tre_ok_sub {x : Xpr} (h : XprOk x) (sub : Nat → Option ET) (hsub : ∀ s U, sub s = some U → U.ok) : ∀ (f i : Nat), i < f → i < x.nodes.length → (treF x.nodes sub f i).ok := by
  intro f
  induction f with
  | zero => intro i hi; omega
  | succ f ih =>
    intro i hi hl
    obtain ⟨nd, hnd⟩ : ∃ nd, x.nodes[i]? = some nd := ⟨_, List.getElem?_eq_getElem hl⟩
    have e : x.nodes.getD i nod0 = nd := by rw [List.getD_eq_getElem?_getD, hnd]; rfl
    have ok := h.node i nd hnd
    rw [treF, e]
    by_cases hk : nd.kind = 1
    · rw [if_pos hk]
      cases hq : sub nd.server.toNat with
      | none => show (ET.srv nd.server).ok; rw [ET.ok]; exact ok.server
      | some U => exact hsub _ U hq
    · rw [if_neg hk, ET.ok]
      refine ⟨ok.need, ok.weights, by rw [List.length_map]; exact ok.arity, (ETs.ok_iff _).2 fun t ht => ?_⟩
      obtain ⟨k, hkk, rfl⟩ := List.mem_map.1 ht
      have hr := ok.kids k hkk
      exact ih k.toNat (by omega) (by omega)
/-- the tree of the root, with substitutions (treY of the walks) -/
theorem treR_ok {x : Xpr} (h : XprOk x) (ys : List Xpr) (hys : ∀ y ∈ ys, XprOk y) : (treF x.nodes (fun s => (ys[s]?).map treX) (x.root.toNat + 1) x.root.toNat).ok := by
  have h1 := h.root
  refine tre_ok_sub h _ (fun s U hU => ?_) _ _ (Nat.lt_succ_self _) (by omega)
  obtain ⟨y, hy, rfl⟩ := Option.map_eq_some_iff.1 hU
  exact treX_ok (hys y (List.mem_of_getElem? hy))
/-- a tree's expression holds as the tree does -/
theorem xpr_hold {T : ET} (hT : T.ok) (hs : T.sz ≤ 60) (S : BitVec 16) : holdX T.xpr S = T.hold S := by
  rw [← treX_hold (xprE_ok (xpr_ok hT hs)) S, treX_xpr]
/-- the law of Substitute -/
theorem subst_law {x : Xpr} (hx : xprE x = 0) (ys : List Xpr) (hys : ∀ y ∈ ys, XprOk y) (S t : BitVec 16) (ht : ∀ sv, sv < 12 → hasB t sv = match ys[sv]? with | some y => holdX y S | none => hasB S sv) (hs : (treF x.nodes (fun s => (ys[s]?).map treX) (x.root.toNat + 1) x.root.toNat).sz ≤ 60) :
    holdX (treF x.nodes (fun s => (ys[s]?).map treX) (x.root.toNat + 1) x.root.toNat).xpr S = holdX x t := by
  have ok := xprE_ok hx
  rw [xpr_hold (treR_ok ok ys hys) hs, ← treX_hold ok t]
  refine sub_hold hx _ S t (fun sv hsv => ?_) _ _ (Nat.lt_succ_self _)
  rw [ht sv hsv]
  unfold subH
  simp only
  cases hq : ys[sv]? with
  | none => rfl
  | some y => exact treX_hold (hys y (List.mem_of_getElem? hq)) S
end Go.Proofs.YtmjgdnpfgkpaoaaGreatDoor
namespace Go.Proofs.YtmjgdnpfgkpaoaaGreatDoor
open Go.RowKit Go.Shelf

/-- what Simplify answers -/
def smpS (x : Xpr) : Xpr × Int := if (tidS x).2 ≠ 0 then (⟨[], 0⟩, (tidS x).2) else ((treX x).simp.xpr, 0)
theorem tidS_ok {x : Xpr} (h : (tidS x).2 = 0) : xprE x = 0 ∧ (treX x).sz ≤ 60 ∧ (tidS x).1 = (treX x).xpr := by
  unfold tidS at h ⊢
  by_cases h1 : xprE x ≠ 0
  · rw [if_pos h1] at h; exact absurd h h1
  · rw [if_neg h1] at h ⊢
    by_cases h2 : 60 < (treX x).sz
    · rw [if_pos h2] at h; cases h
    · rw [if_neg h2]
      exact ⟨by simpa using h1, by omega, rfl⟩

end Go.Proofs.YtmjgdnpfgkpaoaaGreatDoor
namespace Go.Proofs.YtmjgdnpfgkpaoaaGreatDoor
open Go.RowKit Go.Shelf

end Go.Proofs.YtmjgdnpfgkpaoaaGreatDoor
namespace Go.Proofs.YtmjgdnpfgkpaoaaGreatDoor
open Go.RowKit Go.Shelf
attribute [local go_sem] Oper.semAt_some

/-- What a round keeps: the blocks of cells that C protects (by their number and their type). -/
structure KeepC (C : Nat → TypeId → Prop) (W W' : World) : Prop where
  size : W.heap.size ≤ W'.heap.size
  keep : ∀ k cur t f, W.heap[k]? = some (.cells cur t f) → C k t → W'.heap[k]? = some (.cells cur t f)

theorem KeepC.refl (C : Nat → TypeId → Prop) (W : World) : KeepC C W W := ⟨Nat.le_refl _, fun _ _ _ _ h _ => h⟩
theorem KeepC.trans {C : Nat → TypeId → Prop} {A B D : World} (h : KeepC C A B) (g : KeepC C B D) : KeepC C A D :=
  ⟨Nat.le_trans h.size g.size, fun k cur t f hk hc => g.keep k cur t f (h.keep k cur t f hk hc) hc⟩
theorem KeepC.of_below (C : Nat → TypeId → Prop) {W W' : World} (hb : Below W.heap.size W W') : KeepC C W W' :=
  ⟨hb.size, fun k _cur _t _f hk _ => (hb.block k (Array.getElem?_eq_some_iff.1 hk).1).trans hk⟩
theorem KeepC.putObj (C : Nat → TypeId → Prop) (W : World) (l : Nat) (o o' : Obj) (h : W.heap[l]? = some o) (ho : o.isCells = false) : KeepC C W (W.putObj l o') := by
  have hlt := (Array.getElem?_eq_some_iff.1 h).1
  have hg := grownBy_putObj' W l o'
  refine ⟨hg.size, fun k cur t f hk _ => ?_⟩
  by_cases e : k = l
  · subst e; rw [h] at hk; cases hk; cases ho
  · exact (World.putObj_heap_other (by omega)).trans hk
theorem cells_of_cell {w : World} {b o : Nat} {v : Value} (h : w.cell? ⟨b, o, none⟩ = some v) : ∃ cur t f, w.heap[b]? = some (.cells cur t f) := by
  unfold World.cell? at h
  cases hb : w.heap[b]? with
  | none => simp [hb] at h
  | some ob =>
    cases ob with
    | cells cs t f => exact ⟨_, _, _, rfl⟩
    | _ => simp [hb] at h
theorem KeepC.cell {C : Nat → TypeId → Prop} {w W : World} (h : KeepC C w W) {b o : Nat} {v : Value} (hc : w.cell? ⟨b, o, none⟩ = some v) (hx : ∀ cur t f, w.heap[b]? = some (.cells cur t f) → C b t) : W.cell? ⟨b, o, none⟩ = some v := by
  obtain ⟨cur, t, f, hb⟩ := cells_of_cell hc
  have := h.keep b cur t f hb (hx _ _ _ hb)
  rw [World.cell?_of_block (a := ⟨b, o, none⟩) (w := w) (w' := W) (this.trans hb.symm)]
  exact hc
theorem HasTab.keepC {C : Nat → TypeId → Prop} {w W : World} (ht : HasTab w) (h : KeepC C w W) (hg : ∀ t, C 0 t) : HasTab W := fun i hi => h.cell (ht i hi) (fun _ t _ _ => hg t)

theorem Rd.keepC {C : Nat → TypeId → Prop} {w W : World} {a : Option Addr} {n c : Nat} {l : List Value} (h : Rd w a n c l) (hk : KeepC C w W) (hx : ∀ b o cur t f, a = some ⟨b, o, none⟩ → w.heap[b]? = some (.cells cur t f) → C b t) : Rd W a n c l := by
  refine ⟨h.len, h.le, h.max, h.nil, fun hn => ?_⟩
  obtain ⟨b, o, ha, hc⟩ := h.at' hn
  exact ⟨b, o, ha, fun i v hv => hk.cell (hc i v hv) (fun cur t f hb => hx b o cur t f ha hb)⟩
theorem Own.type {w w' : World} {e : TypeId} {v : Value} {l : List Value} (h : Own w w' e v l) {b o n c : Nat} (hv : v = .slice (some ⟨b, o, none⟩) n c) {cur : Array Value} {t : TypeId} {f : Nat × Nat} (hb : w'.heap[b]? = some (.cells cur t f)) : t = e := by
  rcases h.2 with ⟨h2, _⟩ | ⟨g, cap, cur', h2, _, hg, _⟩
  · rw [h2] at hv; cases hv
  · rw [h2] at hv; cases hv; rw [hg] at hb; cases hb; rfl

theorem room_of_none {F : Fence} (hd : F.depth = none) (k : Nat) : F.room k := fun d h => by rw [hd] at h; cases h
theorem YieldAt.any {m : Nat} (m' : Nat) {P : Program} {l : Nat} {args : Array Value} {W : World} {R : Ending → World → Prop} (h : YieldAt Fence.wide m P l args W R) : YieldAt Fence.wide m' P l args W R := by
  obtain ⟨fn, tmps, assign, body, hy, hR⟩ := h
  exact ⟨fn, tmps, assign, body, hy, hR.1, fun c cs _ => hR.2 c cs (room_of_none rfl _)⟩
theorem CallsIn.any {n : Nat} (n' : Nat) {P : Program} {f : FuncId} {args : Array Value} {w : World} {R : Ending → World → Prop} (h : CallsIn Fence.wide n P f args w R) : CallsIn Fence.wide n' P f args w R :=
  callsIn_wide.2 (callsIn_wide.1 h)

/-- no subsets with too few or too many members -/
theorem chooseS_out (x : BitVec 16) (k : Int) (h : k < 0 ∨ (cnt x : Int) < k) : chooseS x k = [] := by
  rw [chooseS_dep, List.map_eq_nil_iff]
  unfold numsTo
  rw [List.filter_eq_nil_iff]
  intro n hn
  have hlt := List.mem_range.1 hn
  rw [popR_32 x n hlt, beq_iff_eq]
  have := popR_le (cnt x) n
  omega

theorem dep_take {l : List Nat} {k i : Nat} (h : l[k]? = some i) (n : Nat) : dep (l.take (k + 1)) n = dep (l.take k) n ||| (if n.testBit k then bitS i else 0#16) := by
  have hk := (List.getElem?_eq_some_iff.1 h).1
  rw [List.take_add_one, h]
  show dep (l.take k ++ [i]) n = _
  rw [dep_snoc, List.length_take, show min k l.length = k by omega]

theorem V_pow (c : Nat) (h : c ≤ 16) : V (bitV c) = 2 ^ c := by
  have : 2 ^ c < 2 ^ 32 := Nat.pow_lt_pow_right (by decide) (by omega)
  unfold V bitV
  rw [BitVec.toNat_shiftLeft]
  simp only [BitVec.toNat_ofNat, Nat.shiftLeft_eq]
  rw [show 1 % 2 ^ 32 = 1 by decide, Nat.one_mul, Nat.mod_eq_of_lt this]
  simp
theorem V_first (k : Nat) (h : k ≤ 16) : (bitV k - 1#32).toNat = 2 ^ k - 1 := by
  have h1 := V_pow k h
  have h2 : (bitV k).toNat = 2 ^ k := by unfold V at h1; have : ((2 : Int) ^ k) = ((2 ^ k : Nat) : Int) := by simp
                                         omega
  have hp : 0 < 2 ^ k := Nat.two_pow_pos k
  rw [BitVec.toNat_sub, h2]
  have : 2 ^ k ≤ 2 ^ 16 := Nat.pow_le_pow_right (by decide) h
  simp; omega
@[go_sem] theorem bv32_quo (a b : BitVec 32) : IntKind.u32.wrap ((V a).tdiv (V b)) = V (a / b) := by
  have h : (V a).tdiv (V b) = V (a / b) := by
    unfold V; rw [BitVec.toNat_udiv, Int.tdiv_eq_ediv_of_nonneg (by omega)]; simp
  rw [h, V_wrap]
@[go_sem] theorem bv32_quo' (a b : BitVec 32) : (V a).tdiv (V b) = V (a / b) := by
  unfold V; rw [BitVec.toNat_udiv, Int.tdiv_eq_ediv_of_nonneg (by omega)]; simp
@[go_sem] theorem bv32_quo'' (a b : BitVec 32) : (V a) / (V b) = V (a / b) := by
  unfold V; rw [BitVec.toNat_udiv]; simp
end Go.Proofs.YtmjgdnpfgkpaoaaGreatDoor
namespace Go.Proofs.YtmjgdnpfgkpaoaaGreatDoor
open Go.RowKit Go.Shelf
attribute [local go_sem] Oper.semAt_some

@[go_sem] theorem bv32_shr2 (x : BitVec 32) : (V x) / 4 = V (shrV x 2) := by have := bv32_shr x 2; simpa using this

@[go_sem] theorem V_mod (x : BitVec 32) : V x % 4294967296 = V x := by have := V_bd x; omega
@[go_sem] theorem U_mod (x : BitVec 16) : U x % 65536 = U x := by have := U_bd x; omega

theorem grown_of_below {W W' : World} (h : Below W.heap.size W W') : W.grownBy W' none := ⟨h.os, h.tape, h.output, h.size, fun k hk _ => h.block k hk⟩
theorem abides_below {β : Type} {B : Nat} {J : β → World → Prop} (h : AbidesFrom B J) {s : β} {W W' : World} (hs : J s W) (hb : Below W.heap.size W W') : J s W' :=
  h s W W' none hs (grown_of_below hb) (fun r e => by cases e)

theorem numsTo_lt (k : Int) (n N : Nat) (h : n < N) (hk : (popR 32 n : Int) = k) : (numsTo k n).length < (numsTo k N).length := by
  obtain ⟨d, rfl⟩ : ∃ d, N = n + (1 + d) := ⟨N - n - 1, by omega⟩
  unfold numsTo
  rw [List.range_add, List.filter_append, List.range_add, List.map_append, List.filter_append, List.length_append, List.length_append]
  have e1 : List.filter (fun n => (popR 32 n : Int) == k) (List.map (fun x => n + x) (List.range 1)) = [n] := by simp [List.range_succ, hk]
  rw [e1]
  simp; omega
theorem numsTo_zero (k : Int) (c : Nat) (hk : (popR 32 0 : Int) = k) (hc : c ≤ 16) : numsTo k (2 ^ c) = [0] := by
  have hp : 0 < 2 ^ c := Nat.two_pow_pos c
  have h1 : numsTo k (0 + 1) = [0] := by unfold numsTo; simp [List.range_succ, hk]
  rw [numsTo_cut k (0 + 1) (2 ^ c) (by omega), h1]
  intro m h1 h2
  rw [popR_zero] at hk
  have hm : m < 2 ^ 32 := Nat.lt_of_lt_of_le h2 (Nat.pow_le_pow_right (by decide) (by omega))
  have := popR_pos 32 m hm (by omega)
  omega

set_option maxRecDepth 100000 in
set_option maxHeartbeats 4000000 in
theorem choose_in (l N B : Nat) (C : Nat → TypeId → Prop) (hCi : ∀ k, C k 3) (x : BitVec 16) (J Jx : List (BitVec 16) → World → Prop) (hJ : AbidesFrom B J)
    (hY : ∀ m pre y W, J pre W → pre.length < N → YieldAt Fence.wide m Tryz.prog l #[.int .u16 (U y)] W fun e W' =>
      (e = .returned (.bool true) ∧ J (pre ++ [y]) W' ∧ KeepC C W W') ∨ (e = .returned (.bool false) ∧ Jx (pre ++ [y]) W'))
    (n : Nat) (k : Int) (pre : List (BitVec 16)) (W : World) (ht : HasTab W) (h0 : J pre W) (hN : pre.length + (chooseS x k).length ≤ N) :
    CallsIn Fence.wide n Tryz.prog 90 #[.int .u16 (U x), .int .i64 k, .func (.yield l) #[] #[]] W fun e W' =>
      (e = .returned (.bool true) ∧ J (pre ++ chooseS x k) W' ∧ KeepC C W W') ∨ (e = .returned (.bool false) ∧ ∃ q, q <+: chooseS x k ∧ Jx (pre ++ q) W') := by
  have hcl := cnt_le x
  by_cases hk : 0 ≤ k ∧ k ≤ cnt x
  · obtain ⟨kk, rfl⟩ := Int.eq_ofNat_of_zero_le hk.1
    have hkc : kk ≤ cnt x := by omega
    have hf1 := numsTo_first kk (by omega)
    have hvf := V_first kk (by omega)
    have hpc := Nat.pow_le_pow_right (show 0 < 2 by decide) hkc
    have hp2 := Nat.two_pow_pos kk
    have hc16 : 2 ^ cnt x ≤ 2 ^ 16 := Nat.pow_le_pow_right (by decide) hcl
    have hvc := V_pow (cnt x) hcl
    have hcs := chooseS_dep x kk
    have hd1 : decide ((kk : Int) < 0) = false := by simp
    have hd2 : decide (cnt x < kk) = false := by simp; omega
    have HF := Lib.hid hf1; have HV := Lib.hid hvf; have HPC := Lib.hid hpc; have HP2 := Lib.hid hp2; have HC := Lib.hid hc16; have HVC := Lib.hid hvc; have HCS := Lib.hid hcs
    have HN := Lib.hid hN
    clear hf1 hvf hpc hp2 hc16 hvc hcs hk hN
    have HY := Lib.hid hY
    have HJ := Lib.hid hJ
    have HX := Lib.hid hCi
    clear hY hJ hCi
    refine callsIn_of_wp Tryz.func90 rfl trivial ?_ rfl
    simp only [Tryz.ntmps90, List.size_toArray, List.length_cons, List.length_nil, Nat.reduceAdd, Nat.reduceSub, Array.replicate_succ, Array.replicate_zero, List.push_toArray, List.append_toArray, List.nil_append, List.cons_append]
    have HT := Lib.hid ht
    clear ht
    gi_wp2_with fail
    refine ⟨trivial, fun h => (by cases h), ?_⟩
    refine (callsIn_wide.2 (members_c x _ _ rfl HT.out)).mono ?_
    rintro e W1 ⟨v, rfl, hown, hb⟩
    obtain ⟨la, lc, rfl, hr⟩ := hown.rdn (cnt x) (by simp [cnt])
    have h1 : J pre W1 := abides_below HJ.out h0 hb
    have hkx : KeepC C W W1 := KeepC.of_below C hb
    have hsafe : Hid (∀ b o cur t f, la = some ⟨b, o, none⟩ → W1.heap[b]? = some (.cells cur t f) → C b t) := by
      intro b o cur t f e hbk
      subst e
      rw [hown.type rfl hbk]
      exact HX.out b
    have hrl := hr.le
    have hrm := hr.max
    unfold maxLen at hrm
    clear hown hb h0
    gi_wp2_with fail
    gi_loopw [8] (fun nv wr => ∃ nn : BitVec 32, nv = .int .u32 (V nn) ∧ Hid ((popR 32 nn.toNat : Int) = kk) ∧ J (pre ++ (numsTo kk nn.toNat).map (dep (memS x))) wr ∧ KeepC C W1 wr ∧ Hid (2 ^ cnt x ≤ nn.toNat → numsTo kk nn.toNat = numsTo kk (2 ^ cnt x))) (fun nv _ => 2 ^ cnt x - (intOf nv).toNat)
    case atStart =>
      refine ⟨bitV kk - 1#32, rfl, ?_, ?_, KeepC.refl _ _, ?_⟩
      · rw [HV.out]; exact HF.out.1
      · rw [HV.out, HF.out.2]; simpa using h1
      · intro h; rw [HV.out] at h; have := HPC.out; have := HP2.out; omega
    case round =>
      obtain ⟨nn, rfl, hpop, hj, hkw, hcut⟩ := hrel
      by_cases hlt0 : nn.toNat < 2 ^ cnt x
      · have hdt : decide (V nn < V (bitV (cnt x))) = true := by
          rw [decide_eq_true_eq, HVC.out]; unfold V
          have : ((2 : Int) ^ cnt x) = ((2 ^ cnt x : Nat) : Int) := by simp
          omega
        have hlt := Lib.hid hlt0
        clear hlt0
        have hrw := hr.keepC hkw hsafe.out
        have hlen : Hid ((pre ++ (numsTo kk nn.toNat).map (dep (memS x))).length < N) := by
          have h2 := numsTo_lt kk nn.toNat (2 ^ cnt x) hlt.out hpop.out
          have h3 := HN.out
          rw [HCS.out, List.length_map] at h3
          show _ < N
          rw [List.length_append, List.length_map]
          omega
        gi_wp2_with fail
        gi_loop [9, 34] (fun out i => ∃ j : Nat, j ≤ cnt x ∧ i = .int .i64 j ∧ out = .int .u16 (U (dep ((memS x).take j) nn.toNat))) (fun _ i => cnt x - (intOf i).toNat)
        case atStart => exact ⟨0, Nat.zero_le _, rfl, rfl⟩
        case round =>
          obtain ⟨j, hjc, rfl, rfl⟩ := hrel
          by_cases hjl : j < cnt x
          · obtain ⟨m, hm⟩ : ∃ m, (memS x)[j]? = some m := ⟨_, List.getElem?_eq_getElem (show j < (memS x).length from hjl)⟩
            have hm16 := memS_lt hm
            have hd := Lib.hid (dep_take hm nn.toNat)
            obtain ⟨b, o, rfl, hcell⟩ := hrw.at' (by omega)
            have hc := hcell j (intV m) (by simp [hm])
            unfold intV at hc
            clear hcell hm hrw hr
            cases hb : hasV nn j
            · have hb' : nn.toNat.testBit j = false := hb
              have HB := Lib.hid hb'
              clear hb'
              gi_wp2_with fail
              go_round
              case rel => exact ⟨j + 1, by omega, by go_num, by rw [hd.out, HB.out]; simp⟩
              case measure => simp [intOf]; omega
            · have hb' : nn.toNat.testBit j = true := hb
              have HB := Lib.hid hb'
              clear hb'
              gi_wp2_with fail
              go_round
              case rel => exact ⟨j + 1, by omega, by go_num, by rw [hd.out, HB.out]; simp⟩
              case measure => simp [intOf]; omega
          · have hjE : Hid (List.take j (memS x) = memS x) := by
              show List.take j (memS x) = memS x
              rw [List.take_of_length_le]; unfold cnt at hjl; omega
            rw [hjE.out]
            clear hrw
            obtain ⟨fn, tmps, assign, body, hy, hR⟩ := HY.out n (pre ++ (numsTo kk nn.toNat).map (dep (memS x))) (dep (memS x) nn.toNat) wr hj hlen.out
            have hR' : RoundIn Fence.wide (n - 1) Tryz.prog l fn tmps assign body wr _ := ⟨hR.1, fun c cs _ => hR.2 c cs (room_of_none rfl _)⟩
            clear hR
            by_cases hz : nn = 0#32
            · subst hz
              change (Instr.yield l #[.int .u16 (U (dep (memS x) 0))]).run Tryz.prog wr = _ at hy
              have hE : Hid (chooseS x kk = (numsTo kk 0).map (dep (memS x)) ++ [dep (memS x) 0]) := by
                show chooseS x kk = _
                rw [HCS.out, numsTo_zero kk (cnt x) hpop.out hcl]
                rfl
              gi_wp2_with fail
              refine ⟨fun h => (by cases h), ?_⟩
              refine hR'.mono ?_
              clear hR' hy
              rintro e W3 (⟨rfl, hj3, hk3⟩ | ⟨rfl, hj3⟩)
              · gi_wp2_with fail
                go_ret
                refine .inl ⟨rfl, ?_, hkx.trans (hkw.trans hk3)⟩
                rw [hE.out, ← List.append_assoc]; exact hj3
              · gi_wp2_with fail
                go_ret
                refine .inr ⟨rfl, _, (by rw [hE.out]; exact List.prefix_refl _), ?_⟩
                rw [← List.append_assoc]; exact hj3
            · have hz1 : (nn == 0#32) = false := by simpa using hz
              have hn16 : nn.toNat < 2 ^ 16 := Nat.lt_of_lt_of_le hlt.out HC.out
              obtain ⟨i, jj, A, hrf⟩ := run_form nn.toNat (fun e => hz (BitVec.eq_of_toNat_eq (by simpa using e)))
              obtain ⟨hlow, hi16, _⟩ := next_nat nn hn16 i jj A hrf
              have hl0 : (nn &&& -nn == 0#32) = false := by
                rw [hlow]
                have h5 : 2 ^ i < 2 ^ 16 := Nat.pow_lt_pow_right (by decide) hi16
                have h6 := Nat.two_pow_pos i
                rw [beq_eq_false_iff_ne]
                intro e
                have := congrArg BitVec.toNat e
                simp only [BitVec.toNat_ofNat] at this
                omega
              have hl1 : ¬ V (nn &&& -nn) = 0 := by
                intro e
                rw [← V_zero] at e
                have := V_inj e
                rw [this] at hl0
                exact absurd hl0 (by decide)
              have hnx := numsTo_next kk nn hz hn16 hpop.out
              have hsp := next_spec nn hz hn16
              have HNX := Lib.hid hnx
              have HSP := Lib.hid hsp
              have hpre : Hid ((numsTo kk nn.toNat).map (dep (memS x)) ++ [dep (memS x) nn.toNat] <+: chooseS x kk) := by
                show _ <+: _
                rw [HCS.out]
                obtain ⟨d, hd⟩ : ∃ d, 2 ^ cnt x = nn.toNat + 1 + d := ⟨2 ^ cnt x - nn.toNat - 1, by have := hlt.out; omega⟩
                refine ⟨((List.range' (nn.toNat + 1) d).filter (fun n => (popR 32 n : Int) == kk)).map (dep (memS x)), ?_⟩
                unfold numsTo
                rw [hd, List.range_eq_range' (n := nn.toNat + 1 + d), ← List.range'_append_1, Nat.zero_add, List.filter_append, List.map_append]
                congr 1
                rw [← List.range_eq_range', List.range_succ, List.filter_append, List.map_append]
                congr 1
                simp [hpop.out]
              clear hz hrf hlow hnx hsp
              gi_wp2_with fail
              refine ⟨fun h => (by cases h), ?_⟩
              refine hR'.mono ?_
              clear hR' hy
              rintro e W3 (⟨rfl, hj3, hk3⟩ | ⟨rfl, hj3⟩)
              · gi_wp2_with fail
                go_roundw
                case rel =>
                  refine ⟨nextV nn, rfl, HNX.out.2.1, ?_, hkw.trans hk3, ?_⟩
                  · rw [HNX.out.2.2, List.map_append, ← List.append_assoc]; exact hj3
                  · intro hge
                    refine numsTo_cut _ _ _ hge fun m h1 h2 => ?_
                    have h3 := HSP.out.2.2 m (Nat.lt_of_lt_of_le hlt.out h1) h2
                    have h4 := hpop.out
                    omega
                case measure =>
                  have h1 := HNX.out.1
                  have h2 := hlt.out
                  show 2 ^ cnt x - (V (nextV nn)).toNat < 2 ^ cnt x - (V nn).toNat
                  unfold V
                  rw [Int.toNat_natCast, Int.toNat_natCast]
                  omega
              · gi_wp2_with fail
                go_ret
                refine .inr ⟨rfl, _, hpre.out, ?_⟩
                rw [← List.append_assoc]; exact hj3
      · have hdt : decide (V nn < V (bitV (cnt x))) = false := by
          rw [decide_eq_false_iff_not, HVC.out]; unfold V
          have : ((2 : Int) ^ cnt x) = ((2 ^ cnt x : Nat) : Int) := by simp
          omega
        have hE : Hid (numsTo kk nn.toNat = numsTo kk (2 ^ cnt x)) := hcut.out (by omega)
        clear hlt0
        gi_wp2_with fail
        go_ret
        refine .inl ⟨rfl, ?_, hkx.trans hkw⟩
        rw [HCS.out, ← hE.out]; exact hj
  · have hE : Hid (chooseS x k = []) := chooseS_out x k (by omega)
    have HT := Lib.hid ht
    have HJ := Lib.hid hJ
    clear ht hCi hJ hY hN
    refine callsIn_of_wp Tryz.func90 rfl trivial ?_ rfl
    simp only [Tryz.ntmps90, List.size_toArray, List.length_cons, List.length_nil, Nat.reduceAdd, Nat.reduceSub, Array.replicate_succ, Array.replicate_zero, List.push_toArray, List.append_toArray, List.nil_append, List.cons_append]
    gi_wp2_with fail
    refine ⟨trivial, fun h => (by cases h), ?_⟩
    refine (callsIn_wide.2 (members_c x _ _ rfl HT.out)).mono ?_
    rintro e W1 ⟨v, rfl, hown, hb⟩
    obtain ⟨la, lc, rfl, hr⟩ := hown.rdn (cnt x) (by simp [cnt])
    have h1 : J pre W1 := abides_below HJ.out h0 hb
    have hkx : KeepC C W W1 := KeepC.of_below C hb
    clear hown hr h0
    by_cases hk0 : k < 0
    · gi_wp2_with fail
      go_ret
      exact .inl ⟨rfl, by rw [hE.out, List.append_nil]; exact h1, hkx⟩
    · have hk1 : (cnt x : Int) < k := by omega
      gi_wp2_with fail
      go_ret
      exact .inl ⟨rfl, by rw [hE.out, List.append_nil]; exact h1, hkx⟩
end Go.Proofs.YtmjgdnpfgkpaoaaGreatDoor
namespace Go.Proofs.YtmjgdnpfgkpaoaaGreatDoor
open Go.RowKit Go.Shelf
attribute [local go_sem] Oper.semAt_some

theorem subsTo_prefix (x : BitVec 16) (k : Nat) (h : k ≤ cnt x) (q : List (BitVec 16)) (hq : q <+: chooseS x k) : subsTo x k ++ q <+: subsS x := by
  obtain ⟨d, hd⟩ : ∃ d, cnt x + 1 = (k + 1) + d := ⟨cnt x - k, by omega⟩
  obtain ⟨r, hr⟩ := hq
  unfold subsS
  rw [hd]
  refine ⟨r ++ ((List.range d).map (fun i => k + 1 + i)).flatMap (fun (k : Nat) => chooseS x (k : Int)), ?_⟩
  have e : subsTo x (k + 1 + d) = subsTo x (k + 1) ++ ((List.range d).map (fun i => k + 1 + i)).flatMap (fun (k : Nat) => chooseS x (k : Int)) := by
    unfold subsTo; rw [List.range_add, List.flatMap_append]
  rw [e, subsTo_succ, ← hr]
  simp [List.append_assoc]

set_option maxRecDepth 100000 in
set_option maxHeartbeats 2000000 in
theorem subsets1_stops (n Bs : Nat) (C : Nat → TypeId → Prop) (hCi : ∀ k, C k 3) (hCg : ∀ t, C 0 t) (hCs : ∀ t, C Bs t) (x : BitVec 16) (w : World) (ht : HasTab w)
    (hs : w.cell? ⟨Bs, 0, none⟩ = some (.int .u16 (U x))) :
    SeqStopsK Fence.wide n Tryz.prog 89 #[.pointer (some ⟨Bs, 0, none⟩)] (fun y : BitVec 16 => #[Value.int .u16 (U y)]) (KeepC C) (fun ys => ys = subsS x) (fun pre => pre <+: subsS x) (subsS x).length w := by
  intro l J Jx W hW hJ hJx hY h0
  have hs' : W.cell? ⟨Bs, 0, none⟩ = some (.int .u16 (U x)) := (hW.cell (p := ⟨Bs, 0, none⟩) (cell_lt hs)).trans hs
  have hc := fun k => choose_in l (subsS x).length W.heap.size C hCi x J Jx hJ (fun m pre y W hj hl => YieldAt.any m (hY pre y W hj hl)) (n - 1) k
  have HC := Lib.hid hc
  have HT := Lib.hid (ht.below hW)
  have HJ := Lib.hid hJ
  have HCS := Lib.hid hCs
  have HCG := Lib.hid hCg
  have HS := Lib.hid hs'
  have hcl := cnt_le x
  clear hc hY hJ hJx hW hCi hCg hCs hs ht hs'
  refine callsIn_of_wp Tryz.func89 rfl trivial ?_ rfl
  simp only [Tryz.ntmps89, List.size_toArray, List.length_cons, List.length_nil, Nat.reduceAdd, Nat.reduceSub, Array.replicate_succ, Array.replicate_zero, List.push_toArray, List.append_toArray, List.nil_append, List.cons_append]
  gi_wp2_with fail
  gi_loopw [3] (fun i wr => ∃ k : Nat, k ≤ cnt x + 1 ∧ i = .int .i64 k ∧ J (subsTo x k) wr ∧ KeepC C W wr) (fun i _ => cnt x + 1 - (intOf i).toNat)
  case atStart => exact ⟨0, Nat.zero_le _, rfl, h0, KeepC.refl _ _⟩
  case round =>
    obtain ⟨k, hk, rfl, hj, hkw⟩ := hrel
    have hsw : wr.cell? ⟨Bs, 0, none⟩ = some (.int .u16 (U x)) := hkw.cell HS.out (fun _ t _ _ => HCS.out t)
    gi_wp2_with fail
    refine ⟨trivial, fun h => (by cases h), ?_⟩
    refine (callsIn_wide.2 (count_c x _ _ rfl)).mono ?_
    rintro e W1 ⟨rfl, q, rfl⟩
    have hb1 : Below wr.heap.size wr (wr.drewN q) := below_drewN (Below.refl _ _)
    have hj1 := abides_below HJ.out hj hb1
    have hk1 := hkw.trans (KeepC.of_below C hb1)
    clear hj hkw
    by_cases hlt : k ≤ cnt x
    · have HT1 := Lib.hid (HT.out.keepC hk1 HCG.out)
      have hlen : (subsTo x k).length + (chooseS x k).length ≤ (subsS x).length := by
        obtain ⟨r, hr⟩ := subsTo_prefix x k hlt _ (List.prefix_refl _)
        rw [← hr]; simp
      have hpr := fun q hq => subsTo_prefix x k hlt q hq
      have HP := Lib.hid hpr
      have hss := Lib.hid (subsTo_succ x k)
      clear hpr
      gi_wp2_with fail
      refine ⟨trivial, fun h => (by cases h), ?_⟩
      refine (HC.out k _ _ HT1.out hj1 hlen).mono ?_
      clear hlen hj1
      rintro e W2 (⟨rfl, hj2, hk2⟩ | ⟨rfl, q, hq, hx⟩)
      · gi_wp2_with fail
        go_roundw
        case rel => exact ⟨k + 1, by omega, by go_num, by rw [hss.out]; exact hj2, hk1.trans hk2⟩
        case measure => simp [intOf]; omega
      · gi_wp2_with fail
        go_end0
        exact ⟨⟨_, rfl⟩, .inr ⟨_, HP.out q hq, hx⟩⟩
    · have hE : Hid (subsTo x k = subsS x) := by
        have : k = cnt x + 1 := by omega
        show subsTo x k = subsTo x (cnt x + 1)
        rw [this]
      gi_wp2_with fail
      refine ⟨trivial, ?_⟩
      gi_wp2_with fail
      go_end0
      exact ⟨⟨_, rfl⟩, .inl ⟨_, rfl, by rw [← hE.out]; exact hj1⟩⟩

/-- what a loop that collects sets protects: all that lay when it began, and all that is neither a slice's box nor a row of sets -/
def CCol (base : Nat) (k : Nat) (t : TypeId) : Prop := k < base ∨ (t ≠ 25 ∧ t ≠ 27)

theorem keepC_append {base B : Nat} {W w1 : World} {v v' : Value} {k : Nat} {xs : List Value} {tmp : Obj} (hBb : base ≤ B)
    (hv : Boxed W B 25 v) (hrow : W.ownsRow base 27 1 v k xs)
    (hgrow : (W.alloc tmp).grownBy w1 v.ownBlock) (hv1 : Boxed w1 B 25 v) : KeepC (CCol base) W (w1.setCell ⟨B, 0, none⟩ v') := by
  have h1 := hgrow.size
  simp only [World.size_alloc] at h1
  refine ⟨by have := (grownBy_setCell' w1 B v').size; omega, fun j cur t f hj hc => ?_⟩
  have hlt := (Array.getElem?_eq_some_iff.1 hj).1
  have hjB : j ≠ B := by
    intro e; subst e
    have := (show W.heap[j]? = _ from hv).symm.trans hj
    simp only [Option.some.injEq, Obj.cells.injEq] at this
    rcases hc with hc | hc
    · omega
    · exact hc.1 this.2.1.symm
  have hjv : some j ≠ v.ownBlock := by
    intro e
    have h2 := hrow.lt j e.symm
    rcases hc with hc | hc
    · omega
    · rcases hrow.2 with ⟨rfl, _⟩ | ⟨g, cap, cur', rfl, _, hg, _⟩
      · simp [Value.ownBlock] at e
      · obtain rfl : j = g := by simpa [Value.ownBlock] using e
        rw [hg] at hj; cases hj; exact hc.2 rfl
  rw [Below.heap_setCell _ _ _ _ hjB, hgrow.block j (by simp; omega) hjv, Below.heap_alloc _ _ _ hlt]
  exact hj

theorem kT_b {C : Nat → TypeId → Prop} {w : World} (W : World) (l : Nat) (o o' : Obj) (_ : w.heap.size ≤ l) (h : W.heap[l]? = some o) (ho : o.isCells = false) (_ : o.isWalk = false) : KeepC C W (W.putObj l o') := KeepC.putObj C W l o o' h ho

set_option maxHeartbeats 400000 in
theorem subsets_c (x : BitVec 16) (s : Int) (w : World) (hs : s = U x) :
    Calls Tryz.prog 57 #[.int .u16 s] w fun e w' => e = .returned (.func (.func 89) #[] #[.pointer (some ⟨w.heap.size, 0, none⟩)]) ∧ w' = w.alloc (.cells #[.int .u16 (U x)] 27) := by
  subst hs
  go_enter Tryz.func57, Tryz.ntmps57
  go_wp2
  go_ret
  exact ⟨rfl, rfl⟩

end Go.Proofs.YtmjgdnpfgkpaoaaGreatDoor
namespace Go.Proofs.YtmjgdnpfgkpaoaaGreatDoor
open Go.RowKit Go.Shelf
attribute [local go_sem] Oper.semAt_some
theorem wide_fnx (f : FuncId) : Fence.wide.fn f = True := rfl
attribute [local simp] wide_fnx

def markE (D : Nat) : Deferred := { target := .collected D, args := #[] }
theorem rangeFunc_x {α : Type} {F : Fence} {n : Nat} {P : Program} {g : Operand} {ps : Array Tmp} {assign body : Code} {Q : Exit → Act → World → Prop} {a : Act} {w : World}
    (hro : F.round = none) (h1 : 1 ≤ n) {gf : Nat} {lb : Array Value} (hg : a.eval g = .func (.func gf) #[] lb) (hFg : F.fn gf) (eg : ∀ args w, (callFunc gf args).run P w = .ok (.enter gf args) w)
    {encs : α → Array Value} {Kp : World → World → Prop} {S Sp : List α → Prop} {N : Nat} {w0 : World} (hseq : SeqStopsK F (n - 1) P gf lb encs Kp S Sp N w0)
    (hKt : ∀ {A B C : World}, Kp A B → Kp B C → Kp A C) (hKb : ∀ (W : World) (l : Nat) (o o' : Obj), w.heap.size ≤ l → W.heap[l]? = some o → o.isCells = false → o.isWalk = false → Kp W (W.putObj l o')) (hb0 : Below w0.heap.size w0 w) (hps : ∀ x, (encs x).size = ps.size)
    (I : List α → World → Prop) (Ix : Code → List α → World → Prop) (hI : OwnFrom w.heap.size I) (hIx : ∀ c, OwnFrom w.heap.size (Ix c)) (h0 : I [] w)
    (hdone : ∀ (D : Nat) (xs : List α) (W : World), w.heap.size ≤ D → S xs → I xs W → W.heap[D]? = some (.deferred (some [])) → Q .normal { a with defers := { target := .collected D, args := #[] } :: a.defers } W)
    (hstop : ∀ (D : Nat) (c : Code) (pre : List α) (W : World), w.heap.size ≤ D → Sp pre → Ix c pre W → W.heap[D]? = some (.deferred (some [])) → c.wpIn F n P Q { a with defers := { target := .collected D, args := #[] } :: a.defers } W)
    (hA : ∃ a₁ : α → Act, (∀ (l : Nat) (x : α) (W : World) (K : Act → World → Prop), K (a₁ x) W →
      assign.wpIn (F.inRound l) (n - 1 - 1) P (Exit.then K (fun _ _ _ => False)) { tmps := (ps.zip (encs x)).foldl (fun t (p, v) => t.setIfInBounds p v) a.tmps, defers := [] } W) ∧
      ∀ (l : Nat) (pre : List α) (x : α) (W : World), I pre W → pre.length < N → body.wpIn (F.inRound l) (n - 1 - 1) P (ownPostG w.heap.size Kp I Ix (pre ++ [x]) W) (a₁ x) W) :
    (Code.rangeFunc g ps assign body).wpIn F n P Q a w := by
  obtain ⟨a₁, h2, h3⟩ := hA
  exact wpIn_rangeFunc_ownG hro h1 hg hFg eg hseq (fun h k => hKt h k) hKb hb0 hps I Ix hI hIx h0 a₁ h2 h3 hdone hstop

theorem results_cell_cell {fn : Func} {p q : Tmp} {ty ty' : TypeId} (h : fn.results = #[.cell p ty, .cell q ty']) (tmps : Array Value) (P : Program) (w : World) :
    (results fn tmps).run P w =
      ((asAddr (tmps.getD p undef)).run P w).andThen fun a w₁ => ((loadVar ty a).run P w₁).andThen fun v w₂ => ((asAddr (tmps.getD q undef)).run P w₂).andThen fun a' w₃ => ((loadVar ty' a').run P w₃).andThen fun v' w₄ => .ok (.tuple #[v, v']) w₄ := by
  simp only [results, h]
  simp [Sem.run_bind, Result.andThen]
/-- all that lay when a loop began is kept, but for one box -/
def CBox (base Bo : Nat) (k : Nat) (t : TypeId) : Prop := (k < base ∧ k ≠ Bo) ∨ (t ≠ 25 ∧ t ≠ 27)
theorem keepC_box {base B : Nat} {W w1 : World} {v v' : Value} {k : Nat} {xs : List Value} {tmp : Obj}
    (hv : Boxed W B 25 v) (hrow : W.ownsRow base 27 1 v k xs)
    (hgrow : (W.alloc tmp).grownBy w1 v.ownBlock) : KeepC (CBox base B) W (w1.setCell ⟨B, 0, none⟩ v') := by
  have h1 := hgrow.size
  simp only [World.size_alloc] at h1
  refine ⟨by have := (grownBy_setCell' w1 B v').size; omega, fun j cur t f hj hc => ?_⟩
  have hlt := (Array.getElem?_eq_some_iff.1 hj).1
  have hjB : j ≠ B := by
    intro e; subst e
    have := (show W.heap[j]? = _ from hv).symm.trans hj
    simp only [Option.some.injEq, Obj.cells.injEq] at this
    rcases hc with hc | hc
    · exact hc.2 rfl
    · exact hc.1 this.2.1.symm
  have hjv : some j ≠ v.ownBlock := by
    intro e
    have h2 := hrow.lt j e.symm
    rcases hc with hc | hc
    · omega
    · rcases hrow.2 with ⟨rfl, _⟩ | ⟨g, cap, cur', rfl, _, hg, _⟩
      · simp [Value.ownBlock] at e
      · obtain rfl : j = g := by simpa [Value.ownBlock] using e
        rw [hg] at hj; cases hj; exact hc.2 rfl
  rw [Below.heap_setCell _ _ _ _ hjB, hgrow.block j (by simp; omega) hjv, Below.heap_alloc _ _ _ hlt]
  exact hj
def FillsX (B0 Ba : Nat) (W : World) (l : List (BitVec 16)) : Prop := ∃ v, Boxed W Ba 25 v ∧ W.ownsRow B0 27 1 v l.length (l.map setV) ∧ True
theorem fillsx_own (B0 Ba B : Nat) : OwnFrom B (fun (l : List (BitVec 16)) W => FillsX B0 Ba W l) :=
  Own.from (holdsRow_own B0 Ba 25 27 1 (fun l : List (BitVec 16) => l.length) (fun l => l.map setV) (fun _ _ => True)) B
def BelX (B : Nat) (W : World) (s : Nat) (Wr : World) : Prop := Below B W Wr ∧ s ≤ Wr.heap.size
theorem belx_own {B0 B s : Nat} {W : World} (hn : B0 ≤ W.heap.size) (hB : B0 ≤ B) : OwnFrom B (fun (_ : List (BitVec 16)) Wr => BelX B0 W s Wr) :=
  OwnFrom.and (ownFrom_below hn hB) (fun _ _ _ _ h hg _ => Nat.le_trans h hg.size)
theorem blkx_own {D B : Nat} {ob : Obj} (h : D < B) : OwnFrom B (fun (_ : List (BitVec 16)) W => W.heap[D]? = some ob) := fun _ W W' row hm hg hr =>
  (hg.block D (Array.getElem?_eq_some_iff.1 hm).1 (fun e => by have := (hr D e.symm).1; omega)).trans hm
theorem purex_own {p : List (BitVec 16) → Prop} (B : Nat) : OwnFrom B (fun l (_ : World) => p l) := fun _ _ _ _ h _ _ => h
theorem keepsFrom_below {B : Nat} {W W' : World} (h : Below W.heap.size W W') : KeepsFrom B W W' := ⟨h.size, fun k _o _ hk _ => (h.block k (Array.getElem?_eq_some_iff.1 hk).1).trans hk⟩

/-- what has been found behind some subsets -/
def famP (x : Xpr) (pre : List (BitVec 16)) : List (BitVec 16) := pre.foldl (famStep x) []
theorem famP_snoc (x : Xpr) (pre : List (BitVec 16)) (s : BitVec 16) : famP x (pre ++ [s]) = famStep x (famP x pre) s := by unfold famP; rw [List.foldl_append]; rfl
theorem famP_all (x : Xpr) : famP x (subsS (srvX x)) = famS x := rfl
theorem famP_grow (x : Xpr) : ∀ (l o : List (BitVec 16)), o.length ≤ (l.foldl (famStep x) o).length
  | [], o => Nat.le_refl _
  | s :: l, o => by
    rw [List.foldl_cons]
    refine Nat.le_trans ?_ (famP_grow x l _)
    unfold famStep
    split
    · exact Nat.le_refl _
    · split <;> simp
theorem famP_prefix (x : Xpr) {pre l : List (BitVec 16)} (h : pre <+: l) : (famP x pre).length ≤ (famP x l).length := by
  obtain ⟨r, rfl⟩ := h
  unfold famP
  rw [List.foldl_append]
  exact famP_grow x r _
def FamR (x : Xpr) (w : World) (e : Ending) (w' : World) : Prop :=
  ∃ a' c', e = .returned (.tuple #[.slice a' (famE x).1.length c', .int .i64 (famE x).2]) ∧ Rd w' a' (famE x).1.length c' ((famE x).1.map setV) ∧ Below w.heap.size w w'

end Go.Proofs.YtmjgdnpfgkpaoaaGreatDoor
namespace Go.Proofs.YtmjgdnpfgkpaoaaGreatDoor
open Go.RowKit Go.Shelf
attribute [local go_sem] Oper.semAt_some
attribute [local simp] wide_fnx

/-- a set meets all sets of a list -/
def hitU (f : List (BitVec 16)) (s : BitVec 16) : Bool := !f.any fun x => x &&& s == 0#16
def dualSt (f o : List (BitVec 16)) (s : BitVec 16) : List (BitVec 16) := if accS o s = true then o else if hitU f s = true then o ++ [s] else o
/-- what has been found behind some subsets -/
def dualP (f pre : List (BitVec 16)) : List (BitVec 16) := pre.foldl (dualSt f) []
def dualU (f : List (BitVec 16)) : List (BitVec 16) := dualP f (subsS (supS f))
def dualE (f : List (BitVec 16)) : List (BitVec 16) × Int := if valS f ≠ 0 then ([], valS f) else if 400 < (dualU f).length then ([], 3) else (dualU f, 0)
theorem dualP_snoc (f pre : List (BitVec 16)) (s : BitVec 16) : dualP f (pre ++ [s]) = dualSt f (dualP f pre) s := by unfold dualP; rw [List.foldl_append]; rfl
theorem dualP_grow (f : List (BitVec 16)) : ∀ (l o : List (BitVec 16)), o.length ≤ (l.foldl (dualSt f) o).length
  | [], o => Nat.le_refl _
  | s :: l, o => by
    rw [List.foldl_cons]
    refine Nat.le_trans ?_ (dualP_grow f l _)
    unfold dualSt
    split
    · exact Nat.le_refl _
    · split <;> simp
theorem dualP_prefix (f : List (BitVec 16)) {pre l : List (BitVec 16)} (h : pre <+: l) : (dualP f pre).length ≤ (dualP f l).length := by
  obtain ⟨r, rfl⟩ := h
  unfold dualP
  rw [List.foldl_append]
  exact dualP_grow f r _
theorem hits1_at (w : World) (B : Nat) (s : BitVec 16) (hc : w.cell? ⟨B, 0, none⟩ = some (.int .u16 (U s))) :
    PredAt Tryz.prog 83 #[.pointer (some ⟨B, 0, none⟩)] setV2 (fun x => x &&& s == 0#16) w := fun W x hb => by
  have hc' : W.cell? ⟨B, 0, none⟩ = some (.int .u16 (U s)) := (hb.cell (p := ⟨B, 0, none⟩) (cell_lt hc)).trans hc
  unfold FnGives setV2
  clear hb hc
  go_enter Tryz.func83, Tryz.ntmps83
  go_wp2_with fail
  go_ret
  refine ⟨?_, 0, rfl⟩
  have hbA : bits BinOp.and IntKind.u16 (U x) (U s) = U (x &&& s) := bv16_and x s
  first
  | rfl
  | (rw [hbA]; congr 2; rw [Bool.eq_iff_iff]; simp [U]; constructor <;> intro h <;> first | exact h | (apply BitVec.eq_of_toNat_eq; simpa using h) | (rw [h]; rfl))
set_option maxRecDepth 100000 in
set_option maxHeartbeats 1000000 in
theorem hits_c (l : List (BitVec 16)) (s : BitVec 16) (a : Option Addr) (n c : Nat) (w : World) (h : Rd w a n c (l.map setV2)) :
    Calls Tryz.prog 48 #[.slice a n c, .int .u16 (U s)] w fun e w' => e = .returned (.bool (hitU l s)) ∧ Below w.heap.size w w' := by
  have hb0 : Below w.heap.size w (w.alloc (.cells #[.int .u16 (U s)] 27)) := (Below.refl _ w).alloc (Nat.le_refl _) _
  have HC := Lib.hid (containsF_c 83 #[.pointer (some ⟨w.heap.size, 0, none⟩)] (enters_of Tryz.func83 (by kernel_rfl) rfl) (fun x => x &&& s == 0#16) l a n c _ (h.below hb0) (hits1_at _ w.heap.size s (cell_new _ _ _ 0 _ rfl)))
  have HB := Lib.hid hb0
  clear h hb0
  go_enter Tryz.func48, Tryz.ntmps48
  go_wp2_with fail
  refine HC.out.mono ?_
  rintro e w1 ⟨rfl, hb⟩
  go_wp2_with fail
  go_ret
  exact ⟨rfl, Below.next HB.out hb⟩

def DuR (f : List (BitVec 16)) (w : World) (e : Ending) (w' : World) : Prop :=
  ∃ a' c', e = .returned (.tuple #[.slice a' (dualE f).1.length c', .int .i64 (dualE f).2]) ∧ Rd w' a' (dualE f).1.length c' ((dualE f).1.map setV) ∧ Below w.heap.size w w'

set_option maxRecDepth 100000 in
set_option maxHeartbeats 8000000 in
theorem tdual_in (f : List (BitVec 16)) (hE0 : valS f = 0) (a : Option Addr) (n c : Nat) (w : World) (ht : HasTab w) (h : Rd w a n c (f.map setV2)) :
    CallsIn Fence.wide 5 Tryz.prog 20 #[.slice a n c] w fun e w' => DuR f w e w' := by
  obtain ⟨i0, hi0, hz0, hz1, hz2⟩ := info_parts Tryz.infoSet
  have HT := Lib.hid ht
  have H1 := Lib.hid (fun (u : World) (hb : Below w.heap.size w u) => valid_c f a n c u (h.below hb))
  rw [hE0] at H1
  have H2 : Hid (∀ u : World, Below w.heap.size w u → Calls Tryz.prog 50 #[.slice a n c] u fun e w' => e = .returned (.int .u16 (U (supS f))) ∧ Below u.heap.size u w') := Lib.hid (fun u hb => (support_c f a n c u (h.below hb)).mono (by rintro e w' ⟨h1, h2⟩; exact ⟨h1, by rw [h2]; exact Below.refl _ _⟩))
  have H4 := Lib.hid (fun (s : BitVec 16) (u : World) (hb : Below w.heap.size w u) => hits_c f s a n c u (h.below hb))
  have HE : Hid (dualE f = if 400 < (dualU f).length then ([], 3) else (dualU f, 0)) := Lib.hid (by unfold dualE; rw [if_neg (by rw [hE0]; simp)])
  have HN3 : Hid (True) := Lib.hid trivial
  clear ht h hE0
  refine callsIn_of_wp_marks Tryz.func20 rfl trivial ?_ rfl
  simp only [Tryz.ntmps20, List.size_toArray, List.length_cons, List.length_nil, Nat.reduceAdd, Nat.reduceSub, Array.replicate_succ, Array.replicate_zero, List.push_toArray, List.append_toArray, List.nil_append, List.cons_append]
  gi_wp2_with fail
  generalize hW3 : ((w.alloc _).alloc _).alloc _ = w3
  obtain ⟨gX, gR, gE, hb3, hs3⟩ := box3 hW3
  have GX := Lib.hid gX
  have GR := Lib.hid gR
  have GE := Lib.hid gE
  have HB3 := Lib.hid hb3
  clear hW3 gX gR gE hb3
  refine (callsIn_wide.2 (H1.out w3 HB3.out)).mono ?_
  rintro e w4 ⟨rfl, hb4⟩
  obtain ⟨wB, hwB⟩ : ∃ wB, wB = w4.alloc (.cells #[.slice none 0 0] 25) := ⟨_, rfl⟩
  have hbB : Below w4.heap.size w4 wB := by rw [hwB]; exact (Below.refl _ _).alloc (Nat.le_refl _) _
  have gB : wB.heap[w4.heap.size]? = some (.cells #[.slice none 0 0] 25 (0, 0)) := by rw [hwB]; exact heap_alloc_new _ _
  have hsB : wB.heap.size = w4.heap.size + 1 := by rw [hwB]; simp
  have GXB := Lib.hid (heap_below (Below.next hb4 hbB) GX.out)
  have GRB := Lib.hid (heap_below (Below.next hb4 hbB) GR.out)
  have GEB := Lib.hid (heap_below (Below.next hb4 hbB) GE.out)
  have HBB := Lib.hid (Below.next HB3.out (Below.next hb4 hbB))
  have GB := Lib.hid gB
  have hs4 := hb4.size
  have HH2 := Lib.hid (H2.out wB HBB.out)
  have x0 := cell_of_row _ _ 0 _ _ _ GXB.out
  rw [hwB] at x0
  clear hb4 hbB gB GX GR GE
  gi_wp2_with fail
  rw [← hwB]
  clear x0 hwB
  refine (callsIn_wide.2 HH2.out).mono ?_
  rintro e w5 ⟨rfl, hb5⟩
  have HB5 := Lib.hid hb5
  have hs5 := hb5.size
  clear hb5
  gi_wp2_with fail
  refine (callsIn_wide.2 (subsets_c (supS f) _ _ rfl)).mono ?_
  rintro e w6 ⟨rfl, hw6⟩
  have hb6 : Below w5.heap.size w5 w6 := by rw [hw6]; exact (Below.refl _ _).alloc (Nat.le_refl _) _
  have gS6 : w6.cell? ⟨w5.heap.size, 0, none⟩ = some (.int .u16 (U (supS f))) := by rw [hw6]; exact cell_new _ _ _ 0 _ rfl
  have hs6 : w6.heap.size = w5.heap.size + 1 := by rw [hw6]; simp
  have HB6 := Lib.hid (Below.next HBB.out (Below.next HB5.out hb6))
  have G6 := Lib.hid (heap_below (Below.next HB5.out hb6) GB.out)
  have GX6 := Lib.hid (heap_below (Below.next HB5.out hb6) GXB.out)
  have GR6 := Lib.hid (heap_below (Below.next HB5.out hb6) GRB.out)
  have GE6 := Lib.hid (heap_below (Below.next HB5.out hb6) GEB.out)
  obtain ⟨Bo, hBo⟩ : ∃ Bo, w4.heap.size = Bo := ⟨_, rfl⟩
  rw [hBo] at G6 hs4 hsB ⊢
  have hBw : w.heap.size + 3 ≤ Bo := by omega
  have hB6 : Bo + 1 ≤ w6.heap.size := by omega
  have hBs : w5.heap.size < w6.heap.size := by omega
  have hBne : w5.heap.size ≠ Bo := by omega
  have HSQ := Lib.hid (fun m => subsets1_stops m w5.heap.size (CBox w6.heap.size Bo) (fun k => .inr ⟨by decide, by decide⟩) (fun t => .inl ⟨Nat.lt_of_lt_of_le (cell_lt (HT.out 0 (by decide))) HB6.out.size, by have := cell_lt (HT.out 0 (by decide)); omega⟩) (fun t => .inl ⟨hBs, hBne⟩) (supS f) w6 (HT.out.below HB6.out) gS6)
  clear hb6 gS6 hw6 HB5 HBB GB GXB GRB GEB hs5 hs6 hsB hs4 hs3 hBo
  gi_wp2_with fail
  refine rangeFunc_x rfl (by decide) rfl trivial (enters_of Tryz.func89 (by kernel_rfl) rfl) (HSQ.out _) KeepC.trans kT_b (Below.refl _ _) (fun _ => rfl)
      (fun pre Wr => FillsX w6.heap.size Bo Wr (dualP f pre) ∧ (dualP f pre).length ≤ 400 ∧ BelX Bo w6 w6.heap.size Wr)
      (fun c ys Wr => c = .ret ∧ 400 < (dualP f ys).length ∧ BelX w.heap.size w6 w6.heap.size Wr ∧ Wr.heap[w.heap.size + 1]? = some (.cells #[.slice none 0 0] 25 (0, 0)) ∧ Wr.heap[w.heap.size + 1 + 1]? = some (.cells #[.int .i64 3] 35 (0, 0)))
      ?hI ?hIx ?h0 ?done ?stop ?A
  case hI => exact OwnFrom.and (fun pre W W' row h hg hr => fillsx_own _ _ _ (dualP f pre) W W' row h hg hr) (OwnFrom.and (purex_own (p := fun pre => (dualP f pre).length ≤ 400) _) (belx_own (by omega) (by omega)))
  case hIx =>
    intro c
    exact OwnFrom.and (purex_own (p := fun _ => c = .ret) _) (OwnFrom.and (purex_own (p := fun ys => 400 < (dualP f ys).length) _) (OwnFrom.and (belx_own (by omega) (by omega)) (OwnFrom.and (blkx_own (by omega)) (blkx_own (by omega)))))
  case h0 => exact ⟨⟨_, G6.out, World.ownsRow_nil _ _ _ _, trivial⟩, Nat.zero_le _, Below.refl _ _, Nat.le_refl _⟩
  case done =>
    rintro D ys W hD rfl ⟨⟨v, hv, hrow, _⟩, hlen, hB⟩ hK
    rw [show dualP f (subsS (supS f)) = dualU f from rfl] at hrow hlen
    have HR : Hid (dualE f = (dualU f, 0)) := Lib.hid (by rw [HE.out, if_neg (by omega)])
    obtain ⟨nn, hnn⟩ : ∃ nn, (dualU f).length = nn := ⟨_, rfl⟩
    rw [hnn] at hrow
    obtain ⟨av, cv, rfl, hrd⟩ := rd_of_row hrow
    have hc := hv.cell
    have gR := (hB.1.block (w.heap.size + 1) (by omega)).trans GR6.out
    have gE := (hB.1.block (w.heap.size + 1 + 1) (by omega)).trans GE6.out
    have r0 := cell_of_row _ _ 0 _ _ _ gR
    have r1 := cell_of_row _ _ 0 _ _ _ gE
    have z0 := frozen_row gR 0
    have z1 := frozen_row gE 0
    have HGR := Lib.hid gR
    have HGE := Lib.hid gE
    have HB := Lib.hid hB
    have HV := Lib.hid hv
    have HROW := Lib.hid hrow
    clear hv hrow hB gR gE hrd
    gi_wp2_with fail
    clear r0 r1 z0 z1 hc
    generalize hWA : W.setCell _ _ = WA
    have gRA : WA.heap[w.heap.size + 1]? = some (.cells #[.slice av nn cv] 25 (0, 0)) := by rw [← hWA, heap_set_at HGR.out]; rfl
    have gEA : WA.heap[w.heap.size + 1 + 1]? = some (.cells #[.int .i64 0] 35 (0, 0)) := by rw [← hWA]; exact heap_set_other (by omega) _ _ HGE.out
    have hoA : ∀ g, g ≠ w.heap.size + 1 → WA.heap[g]? = W.heap[g]? := fun g hg => by rw [← hWA]; exact Below.heap_setCell _ ⟨w.heap.size + 1, 0, none⟩ _ g hg
    have hsA : WA.heap.size = W.heap.size := by rw [← hWA]; simp
    have hbA : Below w.heap.size W WA := by rw [← hWA]; exact (Below.refl _ _).setCell (p := ⟨w.heap.size + 1, 0, none⟩) (by show w.heap.size ≤ w.heap.size + 1; omega) _
    generalize hWZ : WA.setCell _ _ = WZ
    have gRZ : WZ.heap[w.heap.size + 1]? = some (.cells #[.slice av nn cv] 25 (0, 0)) := by rw [← hWZ]; exact heap_set_other (by omega) _ _ gRA
    have gEZ : WZ.heap[w.heap.size + 1 + 1]? = some (.cells #[.int .i64 0] 35 (0, 0)) := by rw [← hWZ, heap_set_at gEA]; rfl
    have hoZ : ∀ g, g ≠ w.heap.size + 1 → g ≠ w.heap.size + 1 + 1 → WZ.heap[g]? = W.heap[g]? := fun g h1 h2 => by rw [← hWZ]; exact (Below.heap_setCell _ ⟨w.heap.size + 1 + 1, 0, none⟩ _ g h2).trans (hoA g h1)
    have hsZ : WZ.heap.size = W.heap.size := by rw [← hWZ]; simpa using hsA
    have hbZ : Below w.heap.size W WZ := by rw [← hWZ]; exact hbA.setCell (p := ⟨w.heap.size + 1 + 1, 0, none⟩) (by show w.heap.size ≤ w.heap.size + 1 + 1; omega) _
    have hKZ : WZ.heap[D]? = some (.deferred (some [])) := (hoZ D (by omega) (by omega)).trans hK
    have hlt := HROW.out.lt
    have hBs := HB.out.2
    refine ⟨by simp, .inl ⟨_, _, rfl, run_takeDeferred hKZ, ?_⟩⟩
    have gR2 : (WZ.putObj D (.deferred none)).heap[w.heap.size + 1]? = some (.cells #[.slice av nn cv] 25 (0, 0)) := (World.putObj_heap_other (by omega)).trans gRZ
    have gE2 : (WZ.putObj D (.deferred none)).heap[w.heap.size + 1 + 1]? = some (.cells #[.int .i64 0] 35 (0, 0)) := (World.putObj_heap_other (by omega)).trans gEZ
    have f0 := cell_of_row _ _ 0 _ _ _ gR2
    have f1 := cell_of_row _ _ 0 _ _ _ gE2
    have hrow2 : WZ.ownsRow w6.heap.size 27 1 (.slice av nn cv) nn ((dualU f).map setV) := rowK_at HROW.out fun g hg => hoZ g (by have := hlt g hg; omega) (by have := hlt g hg; omega)
    have hrow3 := ownsRow_putObj hrow2 (.deferred none) hKZ rfl
    have hbF : Below w.heap.size w (WZ.putObj D (.deferred none)) := (HB6.out.trans ((HB.out.1.mono (by omega)).trans hbZ)).grown (grownBy_putObj' WZ D _) (by omega) (fun k hk => by injection hk with hk; omega)
    obtain ⟨_, _, e9, hrd⟩ := rd_of_row hrow3
    cases e9
    have HRD := Lib.hid hrd
    have HBF := Lib.hid hbF
    clear gR2 gE2 hrow2 hrow3 hbF hrd
    refine ⟨.tuple #[.slice av nn cv, .int .i64 0], ?_, ⟨av, cv, ?_, ?_, HBF.out⟩⟩
    · rw [results_cell_cell rfl]
      go_simp
    · rw [HR.out]; show _ = Ending.returned (.tuple #[.slice av (dualU f).length cv, .int .i64 0]); rw [hnn]
    · rw [HR.out]; show Rd _ av (dualU f).length cv ((dualU f).map setV); rw [hnn]; exact HRD.out
  case stop =>
    rintro D c ys W hD hp ⟨rfl, hl, hB, hr2, hr3⟩ hK
    have hgt : 400 < (dualU f).length := Nat.lt_of_lt_of_le hl (dualP_prefix f hp)
    have HR : Hid (dualE f = ([], 3)) := Lib.hid (by rw [HE.out, if_pos hgt])
    have r0 := cell_of_row _ _ 0 _ _ _ hr2
    have r1 := cell_of_row _ _ 0 _ _ _ hr3
    have hDr := hB.2
    gi_wp2_with fail
    refine ⟨by simp, .inl ⟨_, _, rfl, run_takeDeferred hK, ?_⟩⟩
    have gR2 : (W.putObj D (.deferred none)).heap[w.heap.size + 1]? = some (.cells #[.slice none 0 0] 25 (0, 0)) := (World.putObj_heap_other (by omega)).trans hr2
    have gE2 : (W.putObj D (.deferred none)).heap[w.heap.size + 1 + 1]? = some (.cells #[.int .i64 3] 35 (0, 0)) := (World.putObj_heap_other (by omega)).trans hr3
    have f0 := cell_of_row _ _ 0 _ _ _ gR2
    have f1 := cell_of_row _ _ 0 _ _ _ gE2
    have hbF : Below w.heap.size w (W.putObj D (.deferred none)) := (HB6.out.trans hB.1).grown (grownBy_putObj' W D _) (by have := HB6.out.size; omega) (fun k hk => by injection hk with hk; omega)
    have HBF := Lib.hid hbF
    clear gR2 gE2 hbF r0 r1
    refine ⟨.tuple #[.slice none 0 0, .int .i64 3], ?_, ⟨none, 0, ?_, ?_, HBF.out⟩⟩
    · rw [results_cell_cell rfl]
      go_simp
    · rw [HR.out]; rfl
    · rw [HR.out]; exact Rd.none_ _
  case A =>
    refine ⟨fun y => { tmps := #[.slice a n c, .pointer (some ⟨w.heap.size, 0, none⟩), .pointer (some ⟨w.heap.size + 1, 0, none⟩), .pointer (some ⟨w.heap.size + 1 + 1, 0, none⟩), .int .i64 0, .pointer (some ⟨Bo, 0, none⟩), .int .u16 (U y), .slice a n c, .int .i64 0, .int .i64 0, .bool false, undef, .slice a n c, .int .u16 (U (supS f)), .func (.func 89) #[] #[.pointer (some ⟨w5.heap.size, 0, none⟩)], .int .u16 (U y), undef, undef, undef, undef, undef, undef, undef, undef, undef, undef, undef, undef, undef, undef, undef, undef, undef], defers := [] }, ?_, ?_⟩
    · intro l y Wr K hK
      gi_wp2_with fail
      exact hK
    · rintro l pre y Wr ⟨⟨v, hv, hrow, _⟩, hlen, hB⟩ hlt
      have hbw : Below w.heap.size w Wr := HB6.out.trans (hB.1.mono (by omega))
      have gX := (hB.1.block w.heap.size (by omega)).trans GX6.out
      have x0 := cell_of_row _ _ 0 _ _ _ gX
      have HB := Lib.hid hB
      have HBW := Lib.hid hbw
      have HFS := Lib.hid (dualP_snoc f pre y)
      obtain ⟨O, hO⟩ : ∃ O, dualP f pre = O := ⟨_, rfl⟩
      rw [hO] at hrow hlen HFS
      obtain ⟨nn, hnn⟩ : ∃ nn, O.length = nn := ⟨_, rfl⟩
      rw [hnn] at hrow hlen
      have HV := Lib.hid hv
      have HROW := Lib.hid hrow
      have HNN := Lib.hid hnn
      obtain ⟨av, cv, rfl, hrd⟩ := rd_of_row hrow
      have HA := Lib.hid (accepts_c O y av nn cv Wr hrd)
      have hc := hv.cell
      clear hv hrow hB hbw gX hO hlt hnn hrd x0
      gi_wp2_with fail
      refine (CallsIn.inRound l (callsIn_wide.2 HA.out)).mono ?_
      rintro e W1 ⟨rfl, hb1⟩
      have hv1 : Boxed W1 Bo 25 (.slice av nn cv) := heap_below hb1 HV.out
      have hrow1 := row_below HROW.out hb1
      have HB1 : Hid (BelX Bo w6 w6.heap.size W1) := Lib.hid ⟨HB.out.1.trans (hb1.mono (by have := HB.out.2; omega)), Nat.le_trans HB.out.2 hb1.size⟩
      have HKF := Lib.hid (keepsFrom_below (B := w6.heap.size) hb1)
      have HKC := Lib.hid (KeepC.of_below (CBox w6.heap.size Bo) hb1)
      have HBW1 := Lib.hid (Below.next HBW.out hb1)
      clear hb1 HA hc
      cases hacc : accS O y
      · have gX1 := (HB1.out.1.block w.heap.size (by omega)).trans GX6.out
        have x0 := cell_of_row _ _ 0 _ _ _ gX1
        have HH := Lib.hid (H4.out y W1 HBW1.out)
        have HV1 := Lib.hid hv1
        have HR1 := Lib.hid hrow1
        clear hv1 hrow1 gX1
        gi_wp2_with fail
        refine (CallsIn.inRound l (callsIn_wide.2 HH.out)).mono ?_
        rintro e W2 ⟨rfl, hb2⟩
        have hv2 : Boxed W2 Bo 25 (.slice av nn cv) := heap_below hb2 HV1.out
        have hrow2 := row_below HR1.out hb2
        have HB2 : Hid (BelX Bo w6 w6.heap.size W2) := Lib.hid ⟨HB1.out.1.trans (hb2.mono (by have := HB1.out.2; omega)), Nat.le_trans HB1.out.2 hb2.size⟩
        have HKF2 := Lib.hid (HKF.out.trans (keepsFrom_below (B := w6.heap.size) hb2))
        have HKC2 := Lib.hid (HKC.out.trans (KeepC.of_below (CBox w6.heap.size Bo) hb2))
        have HBW2 := Lib.hid (Below.next HBW1.out hb2)
        clear hb2 HKF HKC HV1 HR1 HH x0
        cases hh : hitU f y
        · have HF2 : Hid (dualP f (pre ++ [y]) = O) := Lib.hid (by rw [HFS.out]; unfold dualSt; rw [hacc, hh]; simp)
          clear hh hacc
          have HV2 := Lib.hid hv2
          have HR2 := Lib.hid hrow2
          clear hv2 hrow2
          gi_wp2_with fail
          exact ⟨HKF2.out, HKC2.out, by rw [HF2.out]; exact ⟨_, HV2.out, by rw [HNN.out]; exact HR2.out, trivial⟩, by rw [HF2.out, HNN.out]; exact hlen, HB2.out⟩
        · have HF2 : Hid (dualP f (pre ++ [y]) = O ++ [y]) := Lib.hid (by rw [HFS.out]; unfold dualSt; rw [hacc, hh]; simp)
          clear hacc hh
          have hc := hv2.cell
          have hHB2 := HB2.out.2
          have gR := (HB2.out.1.block (w.heap.size + 1) (by omega)).trans GR6.out
          have gE := (HB2.out.1.block (w.heap.size + 1 + 1) (by omega)).trans GE6.out
          have HGR := Lib.hid gR
          have HGE := Lib.hid gE
          have hrlt := hrow2.lt
          clear gR gE
          by_cases h400 : 400 ≤ nn
          · have d4 : decide ((400 : Int) < (nn : Int) + 1) = true := decide_eq_true (by omega)
            gi_wp2_with (gi_at_builtin; refine wpListIn_append_own _ rfl _ _ 25 rfl w6.heap.size 27 i0 (.int .u16 0) 1 2 Tryz.underlying25 hi0 hz0 hz1 hz2 rfl (by decide) _ _ _ rfl (hrow2.alloc _) ⟨W2.heap.size, 0, none⟩ 1 1 [.int .u16 (U y)] rfl rfl (cell_one_new _ _ _) (by simp [Value.oneCell']) (by unfold maxLen; omega) (by omega) (by simp; omega) ?_; intro v' w1 hown' hgrow _; obtain ⟨g', cap', rfl⟩ := ownsRow_succ hown'; obtain ⟨hv1, hv2', hr2, hk2, hb2⟩ := hv2.appended (by decide) (rowK_mono hrow2 (show Bo ≤ w6.heap.size by omega)) (by omega) (Nat.le_refl Bo) (rowK_mono hown' (show Bo ≤ w6.heap.size by omega)) hgrow; have hc1 := hv1.cell; have hf1 := hv1.frozen; have gR1 := (hgrow.block (w.heap.size + 1) (by simp; omega) (fun e => by have := hrlt _ e.symm; omega)).trans ((Below.heap_alloc W2 _ _ (by omega)).trans HGR.out); have gE1 := (hgrow.block (w.heap.size + 1 + 1) (by simp; omega) (fun e => by have := hrlt _ e.symm; omega)).trans ((Below.heap_alloc W2 _ _ (by omega)).trans HGE.out); have r0 := cell_of_row _ _ 0 _ _ _ gR1; have r1 := cell_of_row _ _ 0 _ _ _ gE1; have z0 := frozen_row gR1 0; have z1 := frozen_row gE1 0; have HGR1 := Lib.hid gR1; have HGE1 := Lib.hid gE1; have HG := Lib.hid hgrow; clear gR1 gE1)
            have hB2 := HB2.out
            have hsg := HG.out.size
            generalize hWB : w1.setCell _ _ = WB at *
            generalize hWA : WB.setCell _ _ = WA
            have hkB := grownBy_setCell' w1 Bo (.slice (some ⟨g', 0, none⟩) (nn + 1) cap')
            rw [hWB] at hkB
            have hkA := grownBy_setCell' WB (w.heap.size + 1) (.slice none 0 0)
            rw [hWA] at hkA
            have hkZ := grownBy_setCell' WA (w.heap.size + 1 + 1) (.int .i64 3)
            have gRB : WB.heap[w.heap.size + 1]? = some (.cells #[.slice none 0 0] 25 (0, 0)) := by rw [← hWB]; exact heap_set_other (by omega) _ _ HGR1.out
            have gEB : WB.heap[w.heap.size + 1 + 1]? = some (.cells #[.int .i64 0] 35 (0, 0)) := by rw [← hWB]; exact heap_set_other (by omega) _ _ HGE1.out
            have gRA : WA.heap[w.heap.size + 1]? = some (.cells #[.slice none 0 0] 25 (0, 0)) := by rw [← hWA, heap_set_at gRB]; rfl
            have gEA : WA.heap[w.heap.size + 1 + 1]? = some (.cells #[.int .i64 0] 35 (0, 0)) := by rw [← hWA]; exact heap_set_other (by omega) _ _ gEB
            refine ⟨HKF2.out.trans ((hk2.from _).trans ((KeepsFrom.of_grownBy hkA (fun j hj => by injection hj with hj; omega)).trans (KeepsFrom.of_grownBy hkZ (fun j hj => by injection hj with hj; omega)))), rfl, by rw [HF2.out, List.length_append, HNN.out, List.length_singleton]; omega, ⟨?_, ?_⟩, ?_, ?_⟩
            · have hbA : Below w.heap.size WB WA := by rw [← hWA]; exact (Below.refl _ _).setCell (p := ⟨w.heap.size + 1, 0, none⟩) (by show w.heap.size ≤ w.heap.size + 1; omega) _
              exact ((hB2.1.trans hb2).mono (by omega)).trans (hbA.setCell (p := ⟨w.heap.size + 1 + 1, 0, none⟩) (by show w.heap.size ≤ w.heap.size + 1 + 1; omega) _)
            · have h9 := hb2.size
              have h8 := hkA.size
              have h7 := hkZ.size
              omega
            · exact heap_set_other (by omega) _ _ gRA
            · rw [heap_set_at gEA]; rfl
          · have d4 : decide ((400 : Int) < (nn : Int) + 1) = false := decide_eq_false (by omega)
            gi_wp2_with (gi_at_builtin; refine wpListIn_append_own _ rfl _ _ 25 rfl w6.heap.size 27 i0 (.int .u16 0) 1 2 Tryz.underlying25 hi0 hz0 hz1 hz2 rfl (by decide) _ _ _ rfl (hrow2.alloc _) ⟨W2.heap.size, 0, none⟩ 1 1 [.int .u16 (U y)] rfl rfl (cell_one_new _ _ _) (by simp [Value.oneCell']) (by unfold maxLen; omega) (by omega) (by simp; omega) ?_; intro v' w1 hown' hgrow _; obtain ⟨g', cap', rfl⟩ := ownsRow_succ hown'; obtain ⟨hv1, hv2', hr2, hk2, hb2⟩ := hv2.appended (by decide) (rowK_mono hrow2 (show Bo ≤ w6.heap.size by omega)) (by omega) (Nat.le_refl Bo) (rowK_mono hown' (show Bo ≤ w6.heap.size by omega)) hgrow; have hkk := keepC_box (v' := .slice (some ⟨g', 0, none⟩) (nn + 1) cap') hv2 hrow2 hgrow; have hr3 := hown'.kept (grownBy_setCell' w1 Bo (.slice (some ⟨g', 0, none⟩) (nn + 1) cap')) (.inr (hv1.not_row (by decide) hown').symm); have hc1 := hv1.cell; have hf1 := hv1.frozen)
            refine ⟨HKF2.out.trans (hk2.from _), HKC2.out.trans hkk, ?_, ?_, HB2.out.1.trans hb2, Nat.le_trans HB2.out.2 hb2.size⟩
            · rw [HF2.out]
              refine ⟨_, hv2', ?_, trivial⟩
              rw [List.length_append, HNN.out, List.map_append]
              exact hr3
            · rw [HF2.out, List.length_append, HNN.out, List.length_singleton]; omega
      · have HF2 : Hid (dualP f (pre ++ [y]) = O) := Lib.hid (by rw [HFS.out]; unfold dualSt; rw [hacc, if_pos rfl])
        clear hacc
        have HV1 := Lib.hid hv1
        have HR1 := Lib.hid hrow1
        clear hv1 hrow1
        gi_wp2_with fail
        exact ⟨HKF.out, HKC.out, by rw [HF2.out]; exact ⟨_, HV1.out, by rw [HNN.out]; exact HR1.out, trivial⟩, by rw [HF2.out, HNN.out]; exact hlen, HB1.out⟩
theorem tdual_c (f : List (BitVec 16)) (hE0 : valS f = 0) (a : Option Addr) (n c : Nat) (w : World) (ht : HasTab w) (h : Rd w a n c (f.map setV2)) :
    Calls Tryz.prog 20 #[.slice a n c] w fun e w' => DuR f w e w' := callsIn_wide.1 (tdual_in f hE0 a n c w ht h)
end Go.Proofs.YtmjgdnpfgkpaoaaGreatDoor
namespace Go.Proofs.YtmjgdnpfgkpaoaaGreatDoor
open Go.RowKit Go.Shelf

def dlvX (byz : BitVec 16) (xs : List CasT) : List ByteArray := ((xs.filter fun x => !hasB byz x.id.toNat).filter fun x => x.hasD).map fun x => x.delivered
theorem dlvS_eq (byz : BitVec 16) (ns : List NodQ) : dlvS byz ns = dlvX byz (ns.map (·.1)) := by
  unfold dlvS dlvX byzB
  induction ns with
  | nil => rfl
  | cons p l ih =>
    simp only [List.map_cons, List.filter_cons]
    cases hasB byz p.1.id.toNat <;> cases hd : p.1.hasD <;> simp_all
def two39 : List (BitVec 16) := [3#16, 5#16, 6#16]
def one39 : List (BitVec 16) := [1#16, 2#16, 4#16]
theorem e39_val : valS two39 = 0 := by decide +kernel
theorem e39_dual : dualE two39 = (two39, 0) := by decide +kernel
theorem e39_att1 : (attS two39 two39 3).2 = 13 := by decide +kernel
theorem e39_att2 : (attS [3#16] [12#16] 4).2 = 0 := by decide +kernel
theorem e39_att3 : (attS [3#16] [12#16] 4).1.length = 8 := by decide +kernel
theorem e39_bch : bchS two39 one39 3 = 0 := by decide +kernel
theorem e39_sp : spF 3 one39 two39 = some (3#16, 5#16, 1#16) := by decide +kernel
theorem e39_safe : ((claT [7#16, 11#16, 13#16, 14#16] [7#16, 11#16, 13#16, 14#16]).2.2.2 == 13) = true := by decide +kernel
theorem e39_con : conS (dlvX 1#16 (attB two39 one39 3 3#16 5#16 1#16).1) = false := by decide +kernel
end Go.Proofs.YtmjgdnpfgkpaoaaGreatDoor
namespace Go.Proofs.YtmjgdnpfgkpaoaaGreatDoor
open Go.RowKit Go.Shelf

theorem init_ids {ns : List NodQ} {xs : List CasT} {n : Nat} (h : ns.map (·.1) = xs) (hx : ∀ (i : Nat) (x : CasT), xs[i]? = some x → x.id = i) (hn : xs.length = n) (h16 : n ≤ 16) : ∀ p ∈ ns, ∃ i : Nat, p.1.id = i ∧ i < 16 := fun p hp => by
  obtain ⟨i, hi, rfl⟩ := List.getElem_of_mem hp
  have hl : ns.length = n := by rw [← hn, ← h, List.length_map]
  exact ⟨i, hx i _ (by rw [← h, List.getElem?_map, List.getElem?_eq_getElem hi]; rfl), by omega⟩
/-- the nodes behind an attack are numbered -/
theorem att_inv (f b : List (BitVec 16)) {m : Nat} (hm8 : m ≤ 8) {q p bad : BitVec 16} (h : SplB m q p bad) : InvB m 480 (attB f b m q p bad) := by
  have hk := head_lt h.ne h.bl
  have h0 := add_inv (init_inv m hm8) (says_mem (s := sideK m q p bad 0) hk (sideK_lt hm8 h 0) h.bl) (says_len hm8 (sideK_lt hm8 h 0) h.bl)
  have h1 := goS_inv (f := f) (b := b) (bad := bad) (sn := (sideK m q p bad 0).1) (by omega) (muS (((List.range m).map casI, ([] : List MsgT)).1, ((List.range m).map casI, ([] : List MsgT)).2 ++ saysS bad (((memS bad).headD 0 : Nat) : Int) (sideK m q p bad 0))) h0
  have h2 := add_inv h1 (says_mem (s := sideK m q p bad 1) hk (sideK_lt hm8 h 1) h.bl) (says_len hm8 (sideK_lt hm8 h 1) h.bl)
  exact goS_inv (f := f) (b := b) (bad := bad) (sn := (sideK m q p bad 1).1) (by omega) _ h2

set_option maxRecDepth 100000 in
set_option maxHeartbeats 4000000 in
theorem awake39_c (w : World) (ht : HasTab w) :
    Calls Tryz.prog 7 #[] w fun e w' => e = .returned (.bool true) ∧ Below w.heap.size w w' := by
  have HT := Lib.hid ht
  clear ht
  have hb0 := Below.refl w.heap.size w
  go_enter Tryz.func7, Tryz.ntmps7
  go_wp2_with fail
  obtain ⟨w1, hw1⟩ : ∃ w1, w.alloc (.cells #[.int .u16 3, .int .u16 5, .int .u16 6] 27) = w1 := ⟨_, rfl⟩
  have r1 : Rd w1 (some ⟨w.heap.size, 0, none⟩) 3 3 (two39.map setV2) := by rw [← hw1]; exact Rd.lit w _ _ 3 _ rfl rfl (by decide)
  have b1 : Below w.heap.size w w1 := by rw [← hw1]; exact hb0.alloc (Nat.le_refl _) _
  have R1 := Lib.hid r1
  rw [hw1]
  clear hw1 r1 hb0
  refine (clones_c two39 _ 3 3 w1 R1.out (by decide)).mono ?_
  rintro e w2 ⟨a2, c2, rfl, r2, b2⟩
  have b3 := Below.next b1 b2
  have R1b := Lib.hid (R1.out.below b2)
  have HD := Lib.hid (tdual_c two39 e39_val a2 3 c2 w2 (HT.out.below b3) r2)
  unfold DuR at HD
  rw [e39_dual] at HD
  clear r2 b1 b2 R1
  go_wp2_with fail
  refine HD.out.mono ?_
  rintro e w3 ⟨a3, c3, rfl, r3, b4⟩
  have b5 := Below.next b3 b4
  have R3 := Lib.hid r3
  have R1c := Lib.hid (R1b.out.below b4)
  clear r3 b3 b4 HD R1b
  go_wp2_with fail
  refine (clones_c two39 _ 3 3 w3 R1c.out (by decide)).mono ?_
  rintro e w4 ⟨a4, c4, rfl, r4, b6⟩
  have b7 := Below.next b5 b6
  have R4 := Lib.hid r4
  have R3b := Lib.hid (R3.out.below b6)
  have R1d := Lib.hid (R1c.out.below b6)
  clear r4 b5 b6 R3 R1c
  go_wp2_with fail
  refine (clones_c two39 _ 3 3 w4 R1d.out (by decide)).mono ?_
  rintro e w5 ⟨a5, c5, rfl, r5, b8⟩
  have b9 := Below.next b7 b8
  have R3c := Lib.hid (R3b.out.below b8)
  have R1e := Lib.hid (R1d.out.below b8)
  have HA := Lib.hid (attack_c two39 two39 3 a4 3 c4 a5 3 c5 w5 (R4.out.below b8) r5 (HT.out.below b9))
  rw [e39_att1] at HA
  obtain ⟨L1, hL1⟩ : ∃ L, (attS two39 two39 3).1 = L := ⟨_, rfl⟩
  rw [hL1] at HA
  clear r5 b7 b8 R3b R1d R4 hL1
  go_wp2_with fail
  refine HA.out.mono ?_
  rintro e w6 ⟨a6, c6, rfl, _, b10⟩
  have b11 := Below.next b9 b10
  have R3d := Lib.hid (R3c.out.below b10)
  have R1f := Lib.hid (R1e.out.below b10)
  clear b9 b10 HA R3c R1e
  go_wp2_with fail
  obtain ⟨w7, hw7⟩ : ∃ w7, (w6.alloc (.cells #[.int .u16 3] 27)).alloc (.cells #[.int .u16 12] 27) = w7 := ⟨_, rfl⟩
  have r7 : Rd w7 (some ⟨w6.heap.size, 0, none⟩) 1 1 ([3#16].map setV2) := by
    rw [← hw7]; exact (Rd.lit w6 #[.int .u16 3] 27 1 _ rfl rfl (by decide)).below ((Below.refl _ _).alloc (Nat.le_refl _) _)
  have r7' : Rd w7 (some ⟨w6.heap.size + 1, 0, none⟩) 1 1 ([12#16].map setV2) := by
    rw [← hw7]; exact Rd.lit' _ #[.int .u16 12] 27 1 _ rfl rfl (by decide) (by simp)
  have b67 : Below w6.heap.size w6 w7 := by rw [← hw7]; exact ((Below.refl _ _).alloc (Nat.le_refl _) _).alloc (by simp) _
  have b12 := Below.next b11 b67
  have R3e := Lib.hid (R3d.out.below b67)
  have R1g := Lib.hid (R1f.out.below b67)
  have HA := Lib.hid (attack_c [3#16] [12#16] 4 _ 1 1 _ 1 1 w7 r7 r7' (HT.out.below b12))
  rw [e39_att2, e39_att3] at HA
  obtain ⟨L2, hL2⟩ : ∃ L, (attS [3#16] [12#16] 4).1 = L := ⟨_, rfl⟩
  rw [hL2] at HA
  rw [hw7]
  clear hw7 r7 r7' b11 b67 R3d R1f hL2
  refine HA.out.mono ?_
  rintro e w8 ⟨a8, c8, rfl, _, b13⟩
  have b14 := Below.next b12 b13
  have R3f := Lib.hid (R3e.out.below b13)
  have R1h := Lib.hid (R1g.out.below b13)
  clear b12 b13 HA R3e R1g
  go_wp2_with fail
  obtain ⟨w9, hw9⟩ : ∃ w9, (w8.alloc (.cells #[.int .u16 3, .int .u16 5, .int .u16 6] 27)).alloc (.cells #[.int .u16 1, .int .u16 2, .int .u16 4] 27) = w9 := ⟨_, rfl⟩
  have r9 : Rd w9 (some ⟨w8.heap.size, 0, none⟩) 3 3 (two39.map setV2) := by
    rw [← hw9]; exact (Rd.lit w8 #[.int .u16 3, .int .u16 5, .int .u16 6] 27 3 _ rfl rfl (by decide)).below ((Below.refl _ _).alloc (Nat.le_refl _) _)
  have r9' : Rd w9 (some ⟨w8.heap.size + 1, 0, none⟩) 3 3 (one39.map setV2) := by
    rw [← hw9]; exact Rd.lit' _ #[.int .u16 1, .int .u16 2, .int .u16 4] 27 3 _ rfl rfl (by decide) (by simp)
  have b89 : Below w8.heap.size w8 w9 := by rw [← hw9]; exact ((Below.refl _ _).alloc (Nat.le_refl _) _).alloc (by simp) _
  have b15 := Below.next b14 b89
  have R3g := Lib.hid (R3f.out.below b89)
  have R1i := Lib.hid (R1h.out.below b89)
  have HB := Lib.hid (attack_some two39 one39 3 _ 3 3 _ 3 3 w9 (HT.out.below b15) r9 r9' (by decide) (by decide) e39_bch 3#16 5#16 1#16 e39_sp)
  rw [hw9]
  clear hw9 r9 r9' b14 b89 R3f R1h
  refine HB.out.mono ?_
  rintro e wA ⟨vN, vF, ns, rfl, b16, hrow, hns, fa, fn, fc, rfl⟩
  have b17 := Below.next b15 b16
  have R3h := Lib.hid (R3g.out.below b16)
  have R1j := Lib.hid (R1i.out.below b16)
  obtain ⟨aN, cN, rfl, hrdN⟩ := rdK_of_row hrow
  have hsp := spl_of (n := 3) (by decide) e39_bch e39_sp
  have hin := att_inv two39 one39 (m := 3) (by decide) hsp
  have hids := init_ids hns hin.id hin.len (by decide)
  have hlen : ns.length ≤ 1000 := by have := congrArg List.length hns; rw [List.length_map, hin.len] at this; omega
  have hcon : conS (dlvS 1#16 ns) = false := by rw [dlvS_eq, hns]; exact e39_con
  obtain ⟨hd, hhd⟩ : ∃ hd : Int, (((memS 1#16).headD 0 : Nat) : Int) = hd := ⟨_, rfl⟩
  obtain ⟨ln, hln⟩ : ∃ ln, ns.length = ln := ⟨_, rfl⟩
  obtain ⟨m3, hm3⟩ : ∃ m3 : Int, ((3 : Nat) : Int) = m3 := ⟨_, rfl⟩
  rw [hhd, hm3]
  rw [hln] at hrdN hlen ⊢
  obtain ⟨wB, hwB⟩ : ∃ wB, wB = wA.alloc (.cells #[.int .i64 m3, .int .u16 (U 1#16), .int .i64 hd, .slice aN ln cN, .slice fa fn fc] 34) := ⟨_, rfl⟩
  have bAB : Below wA.heap.size wA wB := by rw [hwB]; exact (Below.refl _ _).alloc (Nat.le_refl _) _
  have gB : wB.heap[wA.heap.size]? = some (.cells #[.int .i64 m3, .int .u16 (U 1#16), .int .i64 hd, .slice aN ln cN, .slice fa fn fc] 34 (0, 0)) := by rw [hwB]; exact heap_alloc_new _ _
  have GB := Lib.hid gB
  have BB := Lib.hid (Below.next b17 bAB)
  have R3i := Lib.hid (R3h.out.below bAB)
  have R1k := Lib.hid (R1j.out.below bAB)
  have RN := Lib.hid (hrdN.below bAB)
  have HIDS := Lib.hid hids
  have HCON := Lib.hid hcon
  clear b16 hrow hns hrdN hsp hin hids hcon hhd hln hm3 b15 b17 bAB gB HB R3g R1i R3h R1j
  have HSM := Lib.hid (rsame9_c two39 two39 a3 (some ⟨w.heap.size, 0, none⟩) two39.length c3 3 3 wB R3i.out R1k.out)
  rw [show decide (two39 = two39) = true by simp] at HSM
  go_upto_region 6 with fail
  rw [← hwB]
  clear hwB
  go_wp2_with fail
  refine HSM.out.mono ?_
  rintro e wC ⟨rfl, bC⟩
  have GC := Lib.hid (heap_below bC GB.out)
  have BC := Lib.hid (Below.next BB.out bC)
  have HCN := Lib.hid (consistent_c 1#16 m3 hd aN ln cN (.slice fa fn fc) ⟨_, _, _, rfl⟩ ns HIDS.out wC (RN.out.below bC) hlen)
  rw [HCON.out] at HCN
  have x0 := cell_of_row _ _ 0 _ _ _ GC.out
  have x1 := cell_of_row _ _ 1 _ _ _ GC.out
  have x2 := cell_of_row _ _ 2 _ _ _ GC.out
  have x3 := cell_of_row _ _ 3 _ _ _ GC.out
  have x4 := cell_of_row _ _ 4 _ _ _ GC.out
  clear bC HSM GB RN
  go_wp2_with fail
  refine HCN.out.mono ?_
  rintro e wD ⟨rfl, bD⟩
  have BD := Lib.hid (Below.next BC.out bD)
  clear bD HCN x0 x1 x2 x3 x4
  go_wp2_with fail
  obtain ⟨wE, hwE⟩ : ∃ wE, (wD.alloc (.cells #[.int .u16 7, .int .u16 11, .int .u16 13, .int .u16 14] 27)).alloc (.cells #[.int .u16 7, .int .u16 11, .int .u16 13, .int .u16 14] 27) = wE := ⟨_, rfl⟩
  have rE : Rd wE (some ⟨wD.heap.size, 0, none⟩) 4 4 ([7#16, 11#16, 13#16, 14#16].map setV2) := by
    rw [← hwE]; exact (Rd.lit wD #[.int .u16 7, .int .u16 11, .int .u16 13, .int .u16 14] 27 4 _ rfl rfl (by decide)).below ((Below.refl _ _).alloc (Nat.le_refl _) _)
  have rE' : Rd wE (some ⟨wD.heap.size + 1, 0, none⟩) 4 4 ([7#16, 11#16, 13#16, 14#16].map setV2) := by
    rw [← hwE]; exact Rd.lit' _ #[.int .u16 7, .int .u16 11, .int .u16 13, .int .u16 14] 27 4 _ rfl rfl (by decide) (by simp)
  have bDE : Below wD.heap.size wD wE := by rw [← hwE]; exact ((Below.refl _ _).alloc (Nat.le_refl _) _).alloc (by simp) _
  have BE := Lib.hid (Below.next BD.out bDE)
  have HSF := Lib.hid (safe_c [7#16, 11#16, 13#16, 14#16] [7#16, 11#16, 13#16, 14#16] _ 4 4 _ 4 4 wE rE rE')
  rw [e39_safe] at HSF
  rw [hwE]
  clear hwE rE rE' bDE
  refine HSF.out.mono ?_
  rintro e wF ⟨rfl, bF⟩
  have BF := Lib.hid (Below.next BE.out bF)
  clear bF HSF
  go_wp2_with fail
  go_ret
  exact ⟨rfl, BF.out⟩
end Go.Proofs.YtmjgdnpfgkpaoaaGreatDoor
