/- Texts laid together. Layer 37: what a promise and an acceptance do to a run in memory. Layer 37: run.add, a promise. Layer 37: run.add, an acceptance. Layer 37: run.add refuses. Layer 37, plain: if all read sets meet all write sets, at most one value is chosen by events that follow the rules. No program. -/
import Derived.Test.YtgfjmplifmbmlaaDoorGSingleCheck3
import Derived.Test.YtgfjmplifmbmlaaDoorGSingleCheck4
namespace Go.Proofs.YtgfjmplifmbmlaaDoor
open Go.RowKit Go.Maps

/-- what a lookup in the map behind block B gives -/
noncomputable def lkW (B : Nat) (b : Int) (w : World) : Value := match (Instr.lookup 91 (.map (some (B + 1))) (.int .i64 b) false).run Tryd.prog w with
  | .ok v _ => v
  | _ => undef
theorem lkW_eq {w : World} {B n : Nat} {f : Lit → Option Value} (h : FM w Tryd.prog 3 (B + 1) n f) {b : Int} (hw : (Lit.int .i64 b).wf = true) : lkW B b w = (f (keyI b)).getD (.slice none 0 0) := by
  unfold lkW; rw [fm_repLook h hw]
theorem lkW_run {w : World} {B n : Nat} {f : Lit → Option Value} (h : FM w Tryd.prog 3 (B + 1) n f) {b : Int} (hw : (Lit.int .i64 b).wf = true) :
    (Instr.lookup 91 (.map (some (B + 1))) (.int .i64 b) false).run Tryd.prog w = .ok (lkW B b w) w := by
  rw [lkW_eq h hw]; exact fm_repLook h hw
theorem set3 (x0 x1 x2 : Value) (a' : Acc) (ha : accC a' = [x0, x1, x2]) : ∀ (l : List Acc) (s : Nat), s < l.length → ((((l.flatMap accC).set (s * 3) x0).set (s * 3 + 1) x1).set (s * 3 + 2) x2) = (l.set s a').flatMap accC := by
  intro l
  induction l with
  | nil => intro s hs; simp at hs
  | cons y l ih =>
    intro s hs
    cases s with
    | zero =>
      have h := ha
      simp only [accC, List.cons.injEq, and_true] at h
      obtain ⟨rfl, rfl, rfl⟩ := h
      simp [List.flatMap_cons, accC]
    | succ s =>
      have := ih s (by simpa using hs)
      rw [List.flatMap_cons, List.set_cons_succ, List.flatMap_cons, ← this]
      have e : (s + 1) * 3 = (accC y).length + s * 3 := by rw [accC_len]; omega
      rw [e, Nat.add_assoc, Nat.add_assoc, List.set_append_right _ _ (by omega), List.set_append_right _ _ (by omega), List.set_append_right _ _ (by omega)]
      simp [Nat.add_sub_cancel_left]
theorem set3A (x0 x1 x2 : Value) (a' : Acc) (ha : accC a' = [x0, x1, x2]) (l : List Acc) (s : Nat) (hs : s < l.length) : ((((l.flatMap accC).toArray.setIfInBounds (s * 3) x0).setIfInBounds (s * 3 + 1) x1).setIfInBounds (s * 3 + 2) x2) = ((l.set s a').flatMap accC).toArray := by
  rw [← set3 x0 x1 x2 a' ha l s hs]
  simp
theorem rowK_at {k : Nat} {w w' : World} {B n : Nat} {e : TypeId} {v : Value} {l : List Value} (h : w.ownsRow B e k v n l) (hb : ∀ g, v.ownBlock = some g → w'.heap[g]? = w.heap[g]?) : w'.ownsRow B e k v n l := by
  obtain ⟨h1, h2⟩ := h
  refine ⟨h1, ?_⟩
  rcases h2 with h2 | ⟨g, cap, cur, hv, hb', hg, r⟩
  · exact .inl h2
  · exact .inr ⟨g, cap, cur, hv, hb', by rw [hb g (by rw [hv]; rfl)]; exact hg, r⟩
theorem keyI_ne {b b' : Int} (h : b' ≠ b) : (keyI b').sameKey (keyI b) = false := sameKey_ne (fun e => h (by unfold keyI at e; injection e))
theorem updF_same {f : Lit → Option Value} {b : Int} {v : Value} (hw : (Lit.int .i64 b).wf = true) : updF f (keyI b) v (keyI b) = some v := by
  unfold updF; rw [if_pos (WideAt.sameKey_self (kI.key (kOf hw)))]
theorem updF_other {f : Lit → Option Value} {b b' : Int} {v : Value} (h : b' ≠ b) : updF f (keyI b) v (keyI b') = f (keyI b') := by
  unfold updF; rw [if_neg (by rw [keyI_ne h]; decide)]
/-- the own block of a ballot's reports -/
theorem StM.rowLt {w : World} {B m cnt : Nat} {sl : Value} {st : St} {f : Lit → Option Value} (h : StM w B m cnt sl st f) {b : Int} {v : Value} (hf : f (keyI b) = some v) {g : Nat} (hg : v.ownBlock = some g) : B + 4 ≤ g ∧ g < w.heap.size := by
  have := h.rows b
  rw [hf] at this
  exact World.ownsRow.lt this g hg
theorem StM.rowRd {w : World} {B m cnt : Nat} {sl : Value} {st : St} {f : Lit → Option Value} (h : StM w B m cnt sl st f) (b : Int) : ∃ a c, (f (keyI b)).getD (.slice none 0 0) = .slice a (st.rep b).length c ∧ w.ownsRow (B + 4) 33 3 (.slice a (st.rep b).length c) (st.rep b).length ((st.rep b).flatMap repC) ∧ ∀ g, (Value.slice a (st.rep b).length c).ownBlock = some g → B + 4 ≤ g ∧ g < w.heap.size := by
  have := h.rows b
  cases hf : f (keyI b) with
  | none =>
    rw [hf] at this
    have e : st.rep b = [] := this
    rw [e]
    exact ⟨none, 0, rfl, World.ownsRow_nil _ _ _ _, fun g hg => by simp [Value.ownBlock] at hg⟩
  | some v =>
    rw [hf] at this
    have h2 : w.ownsRow (B + 4) 33 3 v (st.rep b).length ((st.rep b).flatMap repC) := this
    obtain ⟨a, c, rfl, _⟩ := rdK_of_row h2
    exact ⟨a, c, rfl, h2, fun g hg => World.ownsRow.lt h2 g hg⟩
theorem valL_upd {st : St} {b : Int} {x : ByteArray} {acc : List Acc} {rep : Int → List Rep} (hw : (Lit.int .i64 b).wf = true) : ∀ y : Int, valL ⟨acc, rep, setF st.vals b (some x)⟩ (keyI y) = updF (valL st) (keyI b) (.string x) (keyI y) := by
  intro y
  by_cases h : y = b
  · subst h; rw [updF_same hw]; unfold valL keyI setF; simp
  · rw [updF_other h]; unfold valL keyI setF; simp [h]
theorem FM.congr {w : World} {b n : Nat} {f f' : Lit → Option Value} (h : FM w Tryd.prog 3 b n f) (he : ∀ y, f (keyI y) = f' (keyI y)) : FM w Tryd.prog 3 b n f' := by
  obtain ⟨D, h1, h2⟩ := h
  refine ⟨D, h1, fun key kl hk z => ?_⟩
  obtain ⟨x, rfl, rfl, _⟩ := Maps.keyOf_int_inv Tryd.underlying3 hk
  rw [h2 _ _ hk]
  have := he x
  unfold keyI at this
  rw [this]

/-- what an event of a run leaves as it was: blocks that are neither the run's three nor a row's; and whose the rows are behind it -/
structure Frm (B : Nat) (f f' : Lit → Option Value) (w w' : World) : Prop where
  keep : ∀ k, k < w.heap.size → k ≠ B → k ≠ B + 1 → k ≠ B + 2 → (∀ (b : Int) v, f (keyI b) = some v → v.ownBlock ≠ some k) → w'.heap[k]? = w.heap[k]?
  own : ∀ (b : Int) v', f' (keyI b) = some v' → ∀ g, v'.ownBlock = some g → w.heap.size ≤ g ∨ ∃ (b0 : Int) (v : Value), f (keyI b0) = some v ∧ v.ownBlock = some g
theorem Frm.pre {B : Nat} {f f' : Lit → Option Value} {w W1 w2 : World} (hb : Below w.heap.size w W1) (h : Frm B f f' W1 w2) : Frm B f f' w w2 :=
  ⟨fun k h1 h2 h3 h4 h5 => (h.keep k (by have := hb.size; omega) h2 h3 h4 h5).trans (hb.block k h1), fun b v hv g hg => (h.own b v hv g hg).imp (fun h9 => by have := hb.size; omega) id⟩

theorem add1_fin {B m cnt : Nat} {sl : Value} {st : St} {f : Lit → Option Value} {s : Nat} {b p q : Int} {v : ByteArray} (hs : s < m) (hm : m ≤ 12) (hw : (Lit.int .i64 b).wf = true) (hacc : atS st.acc s = ⟨p, q, v⟩)
    {W1 X wA wB : World} (h : StM W1 B m cnt sl st f) (hX : Below W1.heap.size W1 X) {gg cap : Nat} {hlt : gg < wA.heap.size}
    (hown : wA.ownsRow (B + 4) 33 3 (.slice (some ⟨gg, 0, none⟩) ((st.rep b).length + 1) cap) ((st.rep b).length + 1) ((st.rep b).flatMap repC ++ [.int .i64 s, .int .i64 q, .string v]))
    (hgA : X.grownBy wA ((f (keyI b)).getD (.slice none 0 0)).ownBlock) (hat : ((f (keyI b)).getD (.slice none 0 0)).ownBlock = some gg ∨ W1.heap.size ≤ gg)
    (hfm : FM wB Tryd.prog 3 (B + 1) (cnt + 1) (updF f (keyI b) (.slice (some ⟨gg, 0, none⟩) ((st.rep b).length + 1) cap))) (hgB : wA.grownBy wB (some (B + 1))) :
    StM (((wB.setCell ⟨B, s * 3, none⟩ (.int .i64 b)).setCell ⟨B, s * 3 + 1, none⟩ (.int .i64 q)).setCell ⟨B, s * 3 + 2, none⟩ (.string v)) B m (cnt + 1) sl (addP1 st ⟨1, s, b, ⟨#[]⟩⟩) (updF f (keyI b) (.slice (some ⟨gg, 0, none⟩) ((st.rep b).length + 1) cap)) ∧ Below B W1 (((wB.setCell ⟨B, s * 3, none⟩ (.int .i64 b)).setCell ⟨B, s * 3 + 1, none⟩ (.int .i64 q)).setCell ⟨B, s * 3 + 2, none⟩ (.string v))  ∧ Frm B f (updF f (keyI b) (.slice (some ⟨gg, 0, none⟩) ((st.rep b).length + 1) cap)) W1 (((wB.setCell ⟨B, s * 3, none⟩ (.int .i64 b)).setCell ⟨B, s * 3 + 1, none⟩ (.int .i64 q)).setCell ⟨B, s * 3 + 2, none⟩ (.string v)) := by
  have hB : B < W1.heap.size := (Array.getElem?_eq_some_iff.1 h.acc).1
  have hB3 : B + 3 < W1.heap.size := (Array.getElem?_eq_some_iff.1 h.run).1
  have hB1 := h.reps.lt
  have hB2 := h.vals.lt
  have hov : ∀ g, ((f (keyI b)).getD (.slice none 0 0)).ownBlock = some g → B + 4 ≤ g ∧ g < W1.heap.size := by
    intro g hg
    cases hf : f (keyI b) with
    | none => rw [hf] at hg; simp [Value.ownBlock] at hg
    | some u => rw [hf] at hg; exact h.rowLt hf hg
  have hgg : B + 4 ≤ gg := by
    rcases hat with h1 | h1
    · exact (hov gg h1).1
    · omega
  have hXs := hX.size
  -- a block below W1's size that is neither the row nor one of the maps is as it was
  have key : ∀ k, k < W1.heap.size → ((f (keyI b)).getD (.slice none 0 0)).ownBlock ≠ some k → k ≠ B + 1 → wB.heap[k]? = W1.heap[k]? := by
    intro k hk h1 h2
    rw [hgB.block k (by have := hgA.size; omega) (by simpa using h2), hgA.block k (by omega) (fun e => h1 e.symm), hX.block k hk]
  have kA : wB.heap[B]? = W1.heap[B]? := key B hB (fun e => by have := (hov B e).1; omega) (by omega)
  have kR : wB.heap[B + 3]? = W1.heap[B + 3]? := key (B + 3) hB3 (fun e => by have := (hov _ e).1; omega) (by omega)
  have kV : wB.heap[B + 2]? = W1.heap[B + 2]? := key (B + 2) hB2 (fun e => by have := (hov _ e).1; omega) (by omega)
  have hset : ∀ k, k ≠ B → (((wB.setCell ⟨B, s * 3, none⟩ (.int .i64 b)).setCell ⟨B, s * 3 + 1, none⟩ (.int .i64 q)).setCell ⟨B, s * 3 + 2, none⟩ (.string v)).heap[k]? = wB.heap[k]? := by
    intro k hk
    rw [Below.heap_setCell _ _ _ _ hk, Below.heap_setCell _ _ _ _ hk, Below.heap_setCell _ _ _ _ hk]
  constructor
  · refine ⟨?_, ?_, ?_, ?_, ?_, ?_, ?_, ?_⟩
    · have := heap_set_at (heap_set_at (heap_set_at (kA.trans h.acc) (s * 3) (.int .i64 b)) (s * 3 + 1) (.int .i64 q)) (s * 3 + 2) (.string v)
      rw [this]
      congr 2
      rw [set3A _ _ _ ⟨b, q, v⟩ rfl st.acc s (by rw [h.len]; exact hs)]
      unfold addP1
      simp only [Int.toNat_natCast, hacc]
    · show (st.acc.set _ _).length = m
      rw [List.length_set]; exact h.len
    · rw [hset _ (by omega), kR]; exact h.run
    · exact hfm.at (hset _ (by omega))
    · have e : valL (addP1 st ⟨1, s, b, ⟨#[]⟩⟩) = valL st := by funext y; cases y <;> rfl
      rw [e]
      exact (h.vals.at (by rw [hset _ (by omega), kV])).mono (by omega)
    · intro b'
      by_cases hbb : b' = b
      · subst hbb
        rw [updF_same hw]
        simp only
        have er : (addP1 st ⟨1, s, b', ⟨#[]⟩⟩).rep b' = st.rep b' ++ [⟨s, q, v⟩] := by
          unfold addP1 setF repOf; simp only [if_true, hacc]
        rw [er]
        have hown' : wA.ownsRow (B + 4) 33 3 (.slice (some ⟨gg, 0, none⟩) ((st.rep b').length + 1) cap) ((st.rep b' ++ [(⟨s, q, v⟩ : Rep)]).length) ((st.rep b' ++ [(⟨s, q, v⟩ : Rep)]).flatMap repC) := by
          have e1 : (st.rep b' ++ [(⟨s, q, v⟩ : Rep)]).length = (st.rep b').length + 1 := by simp
          have e2 : (st.rep b' ++ [(⟨s, q, v⟩ : Rep)]).flatMap repC = (st.rep b').flatMap repC ++ [.int .i64 s, .int .i64 q, .string v] := by simp [repC]
          rw [e1, e2]; exact hown
        refine rowK_at hown' fun g hg => ?_
        have : g = gg := by simp [Value.ownBlock] at hg; exact hg.symm
        subst this
        rw [hset _ (by omega), hgB.block _ hlt (by simp; omega)]
      · rw [updF_other hbb]
        have er : (addP1 st ⟨1, s, b, ⟨#[]⟩⟩).rep b' = st.rep b' := by
          unfold addP1 setF; simp only [if_neg hbb]
        rw [er]
        have h1 := h.rows b'
        cases hf : f (keyI b') with
        | none => rw [hf] at h1; exact h1
        | some u =>
          rw [hf] at h1
          refine rowK_at h1 fun g hg => ?_
          have h2 := h.rowLt hf hg
          rw [hset _ (by omega)]
          refine key g h2.2 (fun e => ?_) (by omega)
          cases hf2 : f (keyI b) with
          | none => rw [hf2] at e; simp [Value.ownBlock] at e
          | some u2 =>
            rw [hf2] at e
            exact h.apart b' b u u2 hbb hf hf2 g hg e
    · intro b1 b2 v1 v2 hne h1 h2 g hg1 hg2
      have fresh : ∀ b' u, b' ≠ b → f (keyI b') = some u → u.ownBlock ≠ some gg := by
        intro b' u hb' hu e
        have h3 := h.rowLt hu e
        rcases hat with h4 | h4
        · cases hf2 : f (keyI b) with
          | none => rw [hf2] at h4; simp [Value.ownBlock] at h4
          | some u2 => rw [hf2] at h4; exact h.apart b' b u u2 hb' hu hf2 gg e h4
        · omega
      by_cases e1 : b1 = b
      · subst e1
        rw [updF_same hw] at h1
        rw [updF_other (fun e => hne e.symm)] at h2
        cases h1
        have : g = gg := by simp [Value.ownBlock] at hg1; exact hg1.symm
        subst this
        exact fresh b2 v2 (fun e => hne e.symm) h2 hg2
      · rw [updF_other e1] at h1
        by_cases e2 : b2 = b
        · subst e2
          rw [updF_same hw] at h2
          cases h2
          have : g = gg := by simp [Value.ownBlock] at hg2; exact hg2.symm
          subst this
          exact fresh b1 v1 e1 h1 hg1
        · rw [updF_other e2] at h2
          exact h.apart b1 b2 v1 v2 hne h1 h2 g hg1 hg2
    · intro b' r hr
      unfold addP1 setF at hr
      simp only at hr
      split at hr
      · rename_i hbb
        rcases List.mem_append.1 hr with hr | hr
        · exact h.srv b r hr
        · rw [List.mem_singleton] at hr; subst hr; unfold repOf; simp only; omega
      · exact h.srv b' r hr
  · refine ⟨⟨?_, ?_, ?_, ?_, ?_⟩, ⟨fun k h1 h2 h3 h4 h5 => ?_, fun b' v' hv g hg => ?_⟩⟩
    · show wB.os = _; rw [hgB.os, hgA.os, hX.os]
    · show wB.tape = _; rw [hgB.tape, hgA.tape, hX.tape]
    · show wB.output = _; rw [hgB.output, hgA.output, hX.output]
    · have := hgA.size; have := hgB.size; simp [World.setCell]; omega
    · intro k hk
      rw [hset k (by omega)]
      exact key k (by omega) (fun e => by have := (hov k e).1; omega) (by omega)
    · rw [hset k h2]
      refine key k h1 (fun e => ?_) h3
      cases hf2 : f (keyI b) with
      | none => rw [hf2] at e; simp [Value.ownBlock] at e
      | some u2 => rw [hf2] at e; exact h5 b u2 hf2 e
    · by_cases hbb : b' = b
      · subst hbb
        rw [updF_same hw] at hv
        cases hv
        have : g = gg := by simp [Value.ownBlock] at hg; exact hg.symm
        subst this
        rcases hat with h1 | h1
        · cases hf2 : f (keyI b') with
          | none => rw [hf2] at h1; simp [Value.ownBlock] at h1
          | some u2 => rw [hf2] at h1; exact .inr ⟨b', u2, hf2, h1⟩
        · exact .inl h1
      · rw [updF_other hbb] at hv
        exact .inr ⟨b', v', hv, hg⟩

theorem add2_fin {B m cnt : Nat} {sl : Value} {st : St} {f : Lit → Option Value} {s : Nat} {b k : Int} {x : ByteArray} (hs : s < m) (hw : (Lit.int .i64 b).wf = true)
    {W1 wF : World} (h : StM W1 B m cnt sl st f)
    (hA : wF.heap[B]? = some (.cells ((((st.acc.flatMap accC).toArray.setIfInBounds (s * 3) (.int .i64 b)).setIfInBounds (s * 3 + 1) (.int .i64 b)).setIfInBounds (s * 3 + 2) (.string x)) 96 (0, 0)))
    (hV : FM wF Tryd.prog 3 (B + 2) (cnt + 1) (updF (valL st) (keyI b) (.string x)))
    (hk : ∀ j, j < W1.heap.size → j ≠ B → j ≠ B + 2 → wF.heap[j]? = W1.heap[j]?) (hsz : W1.heap.size ≤ wF.heap.size) (h1 : wF.os = W1.os) (h2 : wF.tape = W1.tape) (h3 : wF.output = W1.output) :
    StM wF B m (cnt + 1) sl (addP2 st ⟨k, s, b, x⟩) f ∧ Below B W1 wF ∧ Frm B f f W1 wF := by
  have hB : B < W1.heap.size := (Array.getElem?_eq_some_iff.1 h.acc).1
  have hB3 : B + 3 < W1.heap.size := (Array.getElem?_eq_some_iff.1 h.run).1
  have hB1 := h.reps.lt
  refine ⟨⟨?_, ?_, ?_, ?_, ?_, ?_, h.apart, h.srv⟩, ⟨h1, h2, h3, hsz, fun j hj => hk j (by omega) (by omega) (by omega)⟩, ⟨fun k h1 h2 _ h4 _ => hk k h1 h2 h4, fun b v hv g hg => .inr ⟨b, v, hv, hg⟩⟩⟩
  · rw [hA]
    congr 2
    rw [set3A _ _ _ ⟨b, b, x⟩ rfl st.acc s (by rw [h.len]; exact hs)]
    unfold addP2
    simp only [Int.toNat_natCast]
  · show (st.acc.set _ _).length = m
    rw [List.length_set]; exact h.len
  · rw [hk _ hB3 (by omega) (by omega)]; exact h.run
  · exact (h.reps.at (hk _ hB1 (by omega) (by omega))).mono (by omega)
  · exact hV.congr fun y => (valL_upd hw y).symm
  · intro b'
    have h4 := h.rows b'
    show match f (keyI b') with
      | none => st.rep b' = []
      | some v => wF.ownsRow (B + 4) 33 3 v (st.rep b').length ((st.rep b').flatMap repC)
    cases hf : f (keyI b') with
    | none => rw [hf] at h4; exact h4
    | some u =>
      rw [hf] at h4
      exact rowK_at h4 fun g hg => by
        have h5 := h.rowLt hf hg
        exact hk g h5.2 (by omega) (by omega)
/-- the cells of an acceptor -/
theorem acc_cells {w : World} {B : Nat} {l : List Acc} {s : Nat} (h : w.heap[B]? = some (.cells (l.flatMap accC).toArray 96 (0, 0))) (hs : s < l.length) :
    (w.cell? ⟨B, s * 3, none⟩ = some (.int .i64 (atS l s).prom) ∧ w.cell? ⟨B, s * 3 + 1, none⟩ = some (.int .i64 (atS l s).bal) ∧ w.cell? ⟨B, s * 3 + 2, none⟩ = some (.string (atS l s).val)) ∧ ∀ i, w.frozen? ⟨B, i, none⟩ = false := by
  have hx : l[s]? = some (atS l s) := by unfold atS; rw [Int.toNat_natCast, List.getD, List.getElem?_eq_getElem hs]; rfl
  have key : ∀ j, j < 3 → w.cell? ⟨B, s * 3 + j, none⟩ = (accC (atS l s))[j]? := by
    intro j hj
    rw [cell_of_row _ _ _ _ _ _ h]
    have := flat_at 3 accC accC_len l s j _ hx hj
    simpa using this
  refine ⟨⟨key 0 (by decide), key 1 (by decide), key 2 (by decide)⟩, fun i => by simp [World.frozen?, h]⟩

end Go.Proofs.YtgfjmplifmbmlaaDoor
namespace Go.Proofs.YtgfjmplifmbmlaaDoor
open Go.RowKit Go.Maps

set_option maxRecDepth 100000 in
set_option maxHeartbeats 4000000 in
theorem add1_c (B m cnt : Nat) (sl : Value) (st : St) (f : Lit → Option Value) (s : Nat) (b : Int) (hs : s < m) (hb : 1 ≤ b) (hw : (Lit.int .i64 b).wf = true) (hm : m ≤ 12) (hcnt : cnt ≤ 1000) (hrn : (st.rep b).length ≤ 1000) (hp : (atS st.acc s).prom < b) (w : World) (h : StM w B m cnt sl st f) :
    Calls Tryd.prog 38 #[.pointer (some ⟨B + 3, 0, none⟩), .agg #[.int .i64 1, .int .i64 s, .int .i64 b, .string ⟨#[]⟩]] w fun e w' => e = .returned (.bool true) ∧ Below B w w' ∧ ∃ f', StM w' B m (cnt + 1) sl (addP1 st ⟨1, s, b, ⟨#[]⟩⟩) f' ∧ Frm B f f' w w' := by
  obtain ⟨r0, r1, r2, r3⟩ := open4 h.run
  obtain ⟨⟨a0, a1, a2⟩, hfr⟩ := acc_cells h.acc (s := s) (by rw [h.len]; exact hs)
  obtain ⟨⟨p, q, v⟩, hacc⟩ : ∃ a, atS st.acc s = a := ⟨_, rfl⟩
  rw [hacc] at a0 a1 a2 hp
  obtain ⟨ar, cr, hrv, hrow, hblk⟩ := h.rowRd b
  have H := Lib.hid h
  have hB0 := blA w (.cells #[.int .i64 1, .int .i64 s, .int .i64 b, .string ⟨#[]⟩] 48)
  have r0' := (hB0.cell (p := ⟨B + 3, 0, none⟩) (cell_lt r0)).trans r0
  have r1' := (hB0.cell (p := ⟨B + 3, 1, none⟩) (cell_lt r1)).trans r1
  have r2' := (hB0.cell (p := ⟨B + 3, 2, none⟩) (cell_lt r2)).trans r2
  have a0' := (hB0.cell (p := ⟨B, s * 3, none⟩) (cell_lt a0)).trans a0
  have a1' := (hB0.cell (p := ⟨B, s * 3 + 1, none⟩) (cell_lt a1)).trans a1
  have a2' := (hB0.cell (p := ⟨B, s * 3 + 2, none⟩) (cell_lt a2)).trans a2
  have g1 : decide ((s : Int) < 0) = false := by simp
  have g2 : decide ((m : Int) ≤ (s : Int)) = false := by simp; omega
  have g3 : decide (b < 1) = false := by simp; omega
  have i0 : (0 : Int) ≤ (s : Int) := by omega
  have i1 : (s : Int) < (m : Int) := by omega
  have HACC := Lib.hid hacc
  have HFR := Lib.hid hfr
  have HW := Lib.hid hw
  obtain ⟨nl, hnl⟩ : ∃ L, (st.rep b).length = L := ⟨_, rfl⟩
  rw [hnl] at hrv hrow hblk hrn
  have HRV := Lib.hid hrv
  have HROW := Lib.hid hrow
  have HBLK := Lib.hid hblk
  have HNL := Lib.hid hnl
  clear h hacc hfr hw hrv hrow hblk hnl
  go_enter Tryd.func38, Tryd.ntmps38
  go_wp2_with fail
  go_quiet (fail)
  go_wp2_with fail
  go_quiet (fail)
  go_wp2_with fail
  generalize hW : World.drewN (w.alloc (.cells #[.int .i64 1, .int .i64 s, .int .i64 b, .string ⟨#[]⟩] 48)) _ = W0
  have hW1 : Below w.heap.size w W0 := by rw [← hW]; exact below_drewN hB0
  have hW2 : W0.heap.size = w.heap.size + 1 := by rw [← hW]; simp
  have hW3 : W0.heap[w.heap.size]? = some (.cells #[.int .i64 1, .int .i64 s, .int .i64 b, .string ⟨#[]⟩] 48 (0, 0)) := by rw [← hW]; exact heap_alloc_new w _
  obtain ⟨e0, e1, e2, e3⟩ := open4 hW3
  have A0 := (hW1.cell (p := ⟨B, s * 3, none⟩) (cell_lt a0)).trans a0
  have A1 := (hW1.cell (p := ⟨B, s * 3 + 1, none⟩) (cell_lt a1)).trans a1
  have A2 := (hW1.cell (p := ⟨B, s * 3 + 2, none⟩) (cell_lt a2)).trans a2
  have KS : Hid (∀ x : World, Below W0.heap.size W0 x → x.cell? ⟨B, s * 3, none⟩ = some (.int .i64 p) ∧ x.cell? ⟨B, s * 3 + 1, none⟩ = some (.int .i64 q) ∧ x.cell? ⟨B, s * 3 + 2, none⟩ = some (.string v) ∧ x.cell? ⟨w.heap.size, 2, none⟩ = some (.int .i64 b)) := Lib.hid (fun x hx => ⟨(hx.cell (p := ⟨B, s * 3, none⟩) (cell_lt A0)).trans A0, (hx.cell (p := ⟨B, s * 3 + 1, none⟩) (cell_lt A1)).trans A1, (hx.cell (p := ⟨B, s * 3 + 2, none⟩) (cell_lt A2)).trans A2, (hx.cell (p := ⟨w.heap.size, 2, none⟩) (cell_lt e2)).trans e2⟩)
  have HP2 : Hid (∀ x : World, Below W0.heap.size W0 x → Calls Tryd.prog 58 #[.agg #[.int .i64 p, .int .i64 q, .string v], .int .i64 b] x fun e w3 => e = .returned (.tuple #[.agg #[.int .i64 b, .int .i64 q, .string v], .bool true]) ∧ Below W0.heap.size W0 w3 ∧ ∀ ob, x.heap[W0.heap.size]? = some ob → w3.heap[W0.heap.size]? = some ob) := Lib.hid (fun x hx => (promise_c p q v b x).mono fun e w3 ⟨h1, h2⟩ => ⟨by rw [h1, if_pos hp, decide_eq_true hp], Below.next hx h2, fun ob ho => heap_below h2 ho⟩)
  have HW1 := Lib.hid hW1
  have HW2 := Lib.hid hW2
  have HE := Lib.hid hW3
  clear hW hW1 hW2 hW3 hB0 r0' r1' r2' a0' a1' a2' r0 r1 r2 r3 a0 a1 a2 g1 g2 g3 i0 i1 e0 e1 e3
  go_region_held3 (fun w' => w'.cell? ⟨B, s * 3, none⟩ = some (.int .i64 p) ∧ w'.cell? ⟨B, s * 3 + 1, none⟩ = some (.int .i64 q) ∧ w'.cell? ⟨B, s * 3 + 2, none⟩ = some (.string v) ∧ w'.cell? ⟨w.heap.size, 2, none⟩ = some (.int .i64 b))
    (exact KS.out _ (by (repeat (first | with_reducible exact Below.refl _ _ | with_reducible exact hb3 | with_reducible refine below_drew ?_ | with_reducible refine Below.alloc ?_ ?_ _ | with_reducible refine Below.setCell ?_ ?_ _ | exact Nat.le_refl _ | exact hb3.size))))
    ((go_at_call 58; (refine (HP2.out _ (by (first | with_reducible exact below_drew (Below.refl _ _) | with_reducible exact below_drew (blA _ _)))).mono ?_); (rintro e w3 ⟨rfl, hb3, hx⟩; first | (have hx2 := hx _ (heap_alloc_new W0 _); obtain ⟨⟨x0, x1, x2⟩, y0, y1, y2⟩ := open3 hx2; clear hx) | (clear hx))))
  all_goals
    have hN : ∃ (W1 : World) (Bx : Nat), True := ⟨w3, 0, trivial⟩
    first
    | (have hWb := ((hb3.setCell (p := ⟨W0.heap.size, 0, none⟩) (Nat.le_refl _) (.int .i64 b)).setCell (p := ⟨W0.heap.size, 1, none⟩) (Nat.le_refl _) (.int .i64 q)).setCell (p := ⟨W0.heap.size, 2, none⟩) (Nat.le_refl _) (.string v)
       have hWn : ((((w3.setCell ⟨W0.heap.size, 0, none⟩ (.int .i64 b)).setCell ⟨W0.heap.size, 1, none⟩ (.int .i64 q)).setCell ⟨W0.heap.size, 2, none⟩ (.string v)).heap[W0.heap.size]? = some (.cells #[.int .i64 b, .int .i64 q, .string v] 96 (0, 0))) := heap_set_at (heap_set_at (heap_set_at hx2 0 (.int .i64 b)) 1 (.int .i64 q)) 2 (.string v)
       have hBx : W0.heap.size ≤ W0.heap.size := Nat.le_refl _
       generalize World.setCell (World.setCell (World.setCell w3 ⟨W0.heap.size, 0, none⟩ (.int .i64 b)) ⟨W0.heap.size, 1, none⟩ (.int .i64 q)) ⟨W0.heap.size, 2, none⟩ (.string v) = W1 at hWb hWn ⊢
       generalize hBe : W0.heap.size = Bx at hWn ⊢
       have hBx : W0.heap.size ≤ Bx := Nat.le_of_eq hBe
       clear hBe)
    | (have hWb := hb3.alloc hb3.size (.cells #[.int .i64 b, .int .i64 q, .string v] 96)
       have hWn := heap_alloc_new w3 (.cells #[.int .i64 b, .int .i64 q, .string v] 96)
       have hBx : W0.heap.size ≤ w3.heap.size := hb3.size
       generalize World.alloc w3 (.cells #[.int .i64 b, .int .i64 q, .string v] 96) = W1 at hWb hWn ⊢
       generalize w3.heap.size = Bx at hWn hBx ⊢)
    have hSt := (H.out.below HW1.out).below hWb
    have hbox := heap_below hWb HE.out
    obtain ⟨E0, E1, E2, E3⟩ := open4 hbox
    obtain ⟨R0, R1, R2, R3⟩ := open4 hSt.run
    obtain ⟨⟨C0, C1, C2⟩, hfr2⟩ := acc_cells hSt.acc (s := s) (by rw [hSt.len]; exact hs)
    rw [HACC.out] at C0 C1 C2
    have HSt := Lib.hid hSt
    have HWb := Lib.hid hWb
    have HWn := Lib.hid hWn
    clear hSt hWb hWn hbox
    go_wp2_with fail
    have HF1 := Lib.hid HSt.out.reps
    have k1 : lkW B b W1 = .slice ar nl cr := by rw [lkW_eq HF1.out HW.out, HRV.out]
    have k2 : lkW B b W1.drew = .slice ar nl cr := by rw [lkW_eq (w := W1.drew) (HF1.out.at rfl) HW.out, HRV.out]
    have k3 : lkW B b (W1.alloc (.cells #[.int .i64 s, .int .i64 q, .string v] 33)) = .slice ar nl cr := by rw [lkW_eq (fmA1 HF1.out) HW.out, HRV.out]
    have k4 : lkW B b (W1.alloc (.cells #[.int .i64 s, .int .i64 q, .string v] 33)).drew = .slice ar nl cr := by rw [lkW_eq (fmA HF1.out) HW.out, HRV.out]
    have hsz0 : w.heap.size < W1.heap.size := by have := HWb.out.size; have := HW2.out; omega
    have hBH : B + 3 < w.heap.size := (Array.getElem?_eq_some_iff.1 H.out.run).1
    have hrow1 := rowK_below (rowK_below HROW.out HW1.out) HWb.out
    have KS2 : Hid (∀ x : World, Below W1.heap.size W1 x → x.cell? ⟨w.heap.size, 1, none⟩ = some (.int .i64 s) ∧ x.cell? ⟨w.heap.size, 2, none⟩ = some (.int .i64 b) ∧ x.cell? ⟨B + 3, 2, none⟩ = some (.map (some (B + 1))) ∧ x.cell? ⟨B, s * 3 + 1, none⟩ = some (.int .i64 q) ∧ x.cell? ⟨B, s * 3 + 2, none⟩ = some (.string v) ∧ (Instr.lookup 91 (.map (some (B + 1))) (.int .i64 b) false).run Tryd.prog x = .ok (lkW B b x) x) := Lib.hid (fun x hx => ⟨(hx.cell (p := ⟨w.heap.size, 1, none⟩) (cell_lt E1)).trans E1, (hx.cell (p := ⟨w.heap.size, 2, none⟩) (cell_lt E2)).trans E2, (hx.cell (p := ⟨B + 3, 2, none⟩) (cell_lt R2)).trans R2, (hx.cell (p := ⟨B, s * 3 + 1, none⟩) (cell_lt C1)).trans C1, (hx.cell (p := ⟨B, s * 3 + 2, none⟩) (cell_lt C2)).trans C2, lkW_run (HF1.out.below hx) HW.out⟩)
    have KS3 : Hid (∀ x y : World, Below W1.heap.size W1 x → x.grownBy y (Value.slice ar nl cr).ownBlock → (y.cell? ⟨w.heap.size, 1, none⟩ = some (.int .i64 s) ∧ y.cell? ⟨w.heap.size, 2, none⟩ = some (.int .i64 b) ∧ y.cell? ⟨B + 3, 2, none⟩ = some (.map (some (B + 1))) ∧ y.cell? ⟨B, s * 3 + 1, none⟩ = some (.int .i64 q) ∧ y.cell? ⟨B, s * 3 + 2, none⟩ = some (.string v) ∧ (Instr.lookup 91 (.map (some (B + 1))) (.int .i64 b) false).run Tryd.prog y = .ok (lkW B b y) y) ∧ FM y Tryd.prog 3 (B + 1) cnt f) := Lib.hid (fun x y hx hg => by
      have kb : ∀ k, k < W1.heap.size → (k < B + 4 ∨ w.heap.size ≤ k) → y.heap[k]? = W1.heap[k]? := by
        intro k h1 h2
        rw [hg.block k (by have := hx.size; omega) (fun e => by have := HBLK.out k e.symm; omega), hx.block k h1]
      have kc : ∀ k i, k < W1.heap.size → (k < B + 4 ∨ w.heap.size ≤ k) → y.cell? ⟨k, i, none⟩ = W1.cell? ⟨k, i, none⟩ := fun k i h1 h2 => World.cell?_of_block (kb k h1 h2)
      have hfm : FM y Tryd.prog 3 (B + 1) cnt f := HF1.out.at (kb (B + 1) HF1.out.lt (by omega))
      refine ⟨⟨(kc _ 1 hsz0 (by omega)).trans E1, (kc _ 2 hsz0 (by omega)).trans E2, (kc _ 2 (by omega) (by omega)).trans R2, (kc _ _ (by omega) (by omega)).trans C1, (kc _ _ (by omega) (by omega)).trans C2, lkW_run hfm HW.out⟩, hfm⟩)
    have KS4 : Hid (∀ x y : World, x.grownBy y (some (B + 1)) → y.heap.size = x.heap.size → w.heap.size < x.heap.size → (x.cell? ⟨w.heap.size, 1, none⟩ = some (.int .i64 s) ∧ x.cell? ⟨w.heap.size, 2, none⟩ = some (.int .i64 b) ∧ x.cell? ⟨B + 3, 2, none⟩ = some (.map (some (B + 1))) ∧ x.cell? ⟨B, s * 3 + 1, none⟩ = some (.int .i64 q) ∧ x.cell? ⟨B, s * 3 + 2, none⟩ = some (.string v) ∧ (Instr.lookup 91 (.map (some (B + 1))) (.int .i64 b) false).run Tryd.prog x = .ok (lkW B b x) x) → (∃ n f, FM y Tryd.prog 3 (B + 1) n f) → (y.cell? ⟨w.heap.size, 1, none⟩ = some (.int .i64 s) ∧ y.cell? ⟨w.heap.size, 2, none⟩ = some (.int .i64 b) ∧ y.cell? ⟨B + 3, 2, none⟩ = some (.map (some (B + 1))) ∧ y.cell? ⟨B, s * 3 + 1, none⟩ = some (.int .i64 q) ∧ y.cell? ⟨B, s * 3 + 2, none⟩ = some (.string v) ∧ (Instr.lookup 91 (.map (some (B + 1))) (.int .i64 b) false).run Tryd.prog y = .ok (lkW B b y) y)) := Lib.hid (fun x y hg hs2 hlt ⟨p1, p2, p3, p4, p5, _⟩ ⟨n', f', hfm⟩ => by
      have kc : ∀ k i, k < x.heap.size → k ≠ B + 1 → y.cell? ⟨k, i, none⟩ = x.cell? ⟨k, i, none⟩ := fun k i h1 h2 => World.cell?_of_block (hg.block k h1 (by simpa using h2))
      exact ⟨(kc _ 1 hlt (by omega)).trans p1, (kc _ 2 hlt (by omega)).trans p2, (kc _ 2 (by omega) (by omega)).trans p3, (kc _ _ (by omega) (by omega)).trans p4, (kc _ _ (by omega) (by omega)).trans p5, lkW_run hfm HW.out⟩)
    obtain ⟨i0, hi0, hz0, hz1, hz2⟩ := info_parts Tryd.infoRep
    have HROW1 := Lib.hid hrow1
    have HSZ0 := Lib.hid hsz0
    clear hrow1 E0 E3 R0 R1 R3 C0
    go_region_held3 (fun w' => w'.cell? ⟨w.heap.size, 1, none⟩ = some (.int .i64 s) ∧ w'.cell? ⟨w.heap.size, 2, none⟩ = some (.int .i64 b) ∧ w'.cell? ⟨B + 3, 2, none⟩ = some (.map (some (B + 1))) ∧ w'.cell? ⟨B, s * 3 + 1, none⟩ = some (.int .i64 q) ∧ w'.cell? ⟨B, s * 3 + 2, none⟩ = some (.string v) ∧ (Instr.lookup 91 (.map (some (B + 1))) (.int .i64 b) false).run Tryd.prog w' = .ok (lkW B b w') w')
      (first | exact hSB | exact hSA | (refine KS2.out _ ?_; first | with_reducible exact Below.refl _ _ | with_reducible exact below_drew (Below.refl _ _) | with_reducible exact blA _ _ | with_reducible exact below_drew (blA _ _)))
      (first
        | (refine step_append_lies _ (by rfl) _ _ _ (by rfl) (B + 4) 33 i0 _ 3 32 Tryd.underlying23 hi0 hz0 hz1 hz2 rfl (by omega) (.slice ar nl cr) nl _ (by rfl) ((HROW1.out.alloc _).drew) ⟨W1.heap.size, 0, none⟩ 1 1 [.int .i64 s, .int .i64 q, .string v] (by rfl) (by rfl) (World.news_of_block (cs := #[.int .i64 s, .int .i64 q, .string v]) (t := 33) (fr := (0, 0)) (heap_alloc_new W1 _)) (by simp [Value.oneCell']) (by omega) (by unfold maxLen; omega) (by omega) (by simp; omega) (W1.heap.size + 1) (by simp) ?_; intro gg cap wA hownA hgrow hat hlt; have hSA := (KS3.out _ _ (below_drew (blA _ _)) hgrow).1; have hFA := Lib.hid (KS3.out _ _ (below_drew (blA _ _)) hgrow).2; obtain ⟨wB, hrunB, hfmB, hgB, hsB⟩ := hFA.out.put kI Tryd.underlying91 (by unfold maxLen; omega) (kOf HW.out) (.slice (some ⟨gg, 0, none⟩) (nl + 1) cap); have HFMB := Lib.hid hfmB; have hSB := KS4.out wA wB hgB hsB (by have := HSZ0.out; have := hgrow.size; simp at this; omega) hSA ⟨_, _, hfmB⟩; clear hfmB))
    all_goals
      have hgA2 := hgrow
      rw [← HRV.out] at hgA2 hat
      have hhB : wB.heap[B]? = W1.heap[B]? := by
        rw [hgB.block B (by have := hgrow.size; simp at this; omega) (by simp), hgrow.block B (by simp; omega) (fun e => by have := HBLK.out B e.symm; omega)]
        exact Below.heap_alloc W1 _ B (by omega)
      obtain ⟨⟨D0, D1, D2⟩, hfrB⟩ := acc_cells (hhB.trans HSt.out.acc) (s := s) (by rw [HSt.out.len]; exact hs)
      rw [HACC.out] at D0 D1 D2
      have F0 := hfrB (s * 3)
      have F1 := hfrB (s * 3 + 1)
      have F2 := hfrB (s * 3 + 2)
      have hBx2 : Bx < W1.heap.size := (Array.getElem?_eq_some_iff.1 HWn.out).1
      have hhX : wB.heap[Bx]? = some (.cells #[.int .i64 b, .int .i64 q, .string v] 96 (0, 0)) := by
        rw [hgB.block Bx (by have := hgrow.size; simp at this; omega) (by have := HW2.out; simp; omega), hgrow.block Bx (by simp; omega) (fun e => by have := HBLK.out Bx e.symm; have := HW2.out; omega)]
        exact (Below.heap_alloc W1 _ Bx (by omega)).trans HWn.out
      obtain ⟨⟨X0, X1, X2⟩, _⟩ := open3 hhX
      have HG1 := Lib.hid hgA2
      have HG2 := Lib.hid hgB
      have HAT := Lib.hid hat
      have HOWN := Lib.hid hownA
      clear hgA2 hgB hat hownA hgrow hhX hhB hSA hSB k1 k2 k3 k4 hsB hrunB hfrB hFA
      go_wp2_with fail
      go_ret
      have hfin := add1_fin hs hm HW.out HACC.out HSt.out (below_drew (blA _ _)) (hlt := hlt) (by rw [HNL.out]; exact HOWN.out) HG1.out (HAT.out.imp id (fun h => by omega)) (by rw [HNL.out]; exact HFMB.out) HG2.out
      exact ⟨rfl, ((Below.next HW1.out HWb.out).mono (by omega)).trans hfin.2.1, _, hfin.1, hfin.2.2.pre (Below.next HW1.out HWb.out)⟩
end Go.Proofs.YtgfjmplifmbmlaaDoor
namespace Go.Proofs.YtgfjmplifmbmlaaDoor
open Go.RowKit Go.Maps

set_option maxRecDepth 100000 in
set_option maxHeartbeats 8000000 in
theorem add2_c (read : List (BitVec 16)) (ra : Option Addr) (rn rc : Nat) (B m cnt : Nat) (st : St) (f : Lit → Option Value) (s : Nat) (b : Int) (x : ByteArray) (hs : s < m) (hb : 1 ≤ b) (hw : (Lit.int .i64 b).wf = true) (hm : m ≤ 12) (hcnt : cnt ≤ 1000) (hp : (atS st.acc s).prom ≤ b) (hx : emB x = false) (hok : okP (valP read st b) x = true) (w : World) (hr : Rd w ra rn rc (read.map setV2)) (h : StM w B m cnt (.slice ra rn rc) st f) :
    Calls Tryd.prog 38 #[.pointer (some ⟨B + 3, 0, none⟩), .agg #[.int .i64 2, .int .i64 s, .int .i64 b, .string x]] w fun e w' => e = .returned (.bool true) ∧ Below B w w' ∧ ∃ f', StM w' B m (cnt + 1) (.slice ra rn rc) (addP2 st ⟨2, s, b, x⟩) f' ∧ Frm B f f' w w' := by
  obtain ⟨r0, r1, r2, r3⟩ := open4 h.run
  obtain ⟨⟨a0, a1, a2⟩, hfr⟩ := acc_cells h.acc (s := s) (by rw [h.len]; exact hs)
  obtain ⟨⟨p, q, v⟩, hacc⟩ : ∃ a, atS st.acc s = a := ⟨_, rfl⟩
  rw [hacc] at a0 a1 a2 hp
  obtain ⟨fr, u, hvp, hfu⟩ : ∃ (fr : Bool) (u : ByteArray), valP read st b = (u, fr, true) ∧ (fr = true ∨ (fr = false ∧ u = x)) := by
    obtain ⟨⟨u, fr, ok⟩, hv⟩ : ∃ y, valP read st b = y := ⟨_, rfl⟩
    rw [hv] at hok
    unfold okP at hok
    simp only [Bool.and_eq_true, Bool.or_eq_true] at hok
    obtain ⟨rfl, h2⟩ := hok
    refine ⟨fr, u, hv, ?_⟩
    cases fr
    · right; refine ⟨rfl, bs_ext (eq_of_beq (by simpa using h2))⟩
    · left; rfl
  have HV : Hid (∀ w' : World, Below w.heap.size w w' → Calls Tryd.prog 59 #[.pointer (some ⟨B + 3, 0, none⟩), .int .i64 b] w' fun e w2 => e = Ending.returned (.tuple #[.string u, .bool fr, .bool true]) ∧ Below w'.heap.size w' w2) := Lib.hid (fun w' h1 => (value_c read ra rn rc B m cnt st f b hw w' (hr.below h1) (h.below h1)).mono fun e w2 ⟨h2, h3⟩ => ⟨by rw [h2, hvp], h3⟩)
  have H := Lib.hid h
  have hB0 := blA w (.cells #[.int .i64 2, .int .i64 s, .int .i64 b, .string x] 48)
  have r1' := (hB0.cell (p := ⟨B + 3, 1, none⟩) (cell_lt r1)).trans r1
  have g1 : decide ((s : Int) < 0) = false := by simp
  have g2 : decide ((m : Int) ≤ (s : Int)) = false := by simp; omega
  have g3 : decide (b < 1) = false := by simp; omega
  have i0 : (0 : Int) ≤ (s : Int) := by omega
  have i1 : (s : Int) < (m : Int) := by omega
  have HACC := Lib.hid hacc
  have HW := Lib.hid hw
  have hxl : (x.toList == []) = false := hx
  clear h hacc hfr hw hvp hok hx hr
  go_enter Tryd.func38, Tryd.ntmps38
  go_wp2_with fail
  go_quiet (fail)
  go_wp2_with fail
  go_quiet (fail)
  go_wp2_with fail
  generalize hW : World.drewN (w.alloc (.cells #[.int .i64 2, .int .i64 s, .int .i64 b, .string x] 48)) _ = W0
  have hW1 : Below w.heap.size w W0 := by rw [← hW]; exact below_drewN hB0
  have hW2 : W0.heap.size = w.heap.size + 1 := by rw [← hW]; simp
  have hW3 : W0.heap[w.heap.size]? = some (.cells #[.int .i64 2, .int .i64 s, .int .i64 b, .string x] 48 (0, 0)) := by rw [← hW]; exact heap_alloc_new w _
  obtain ⟨e0, e1, e2, e3⟩ := open4 hW3
  have HW1 := Lib.hid hW1
  have HW2 := Lib.hid hW2
  have HE := Lib.hid hW3
  clear hW hW1 hW2 hW3 hB0 r1' r0 r1 r2 r3 g1 g2 g3 i0 i1
  refine (HV.out _ HW1.out).mono ?_
  rintro e W2 ⟨rfl, hb2⟩
  have HB2 := Lib.hid hb2
  have A0 := (hb2.cell (p := ⟨B, s * 3, none⟩) (cell_lt ((HW1.out.cell (p := ⟨B, s * 3, none⟩) (cell_lt a0)).trans a0))).trans ((HW1.out.cell (p := ⟨B, s * 3, none⟩) (cell_lt a0)).trans a0)
  have A1 := (hb2.cell (p := ⟨B, s * 3 + 1, none⟩) (cell_lt ((HW1.out.cell (p := ⟨B, s * 3 + 1, none⟩) (cell_lt a1)).trans a1))).trans ((HW1.out.cell (p := ⟨B, s * 3 + 1, none⟩) (cell_lt a1)).trans a1)
  have A2 := (hb2.cell (p := ⟨B, s * 3 + 2, none⟩) (cell_lt ((HW1.out.cell (p := ⟨B, s * 3 + 2, none⟩) (cell_lt a2)).trans a2))).trans ((HW1.out.cell (p := ⟨B, s * 3 + 2, none⟩) (cell_lt a2)).trans a2)
  have HE2 := Lib.hid (heap_below hb2 HE.out)
  obtain ⟨_, _, E2, E3⟩ := open4 HE2.out
  have HW12 := Lib.hid (Below.next HW1.out hb2)
  have HSZ2 : Hid (w.heap.size < W2.heap.size) := Lib.hid (by have := hb2.size; have := HW2.out; omega)
  clear hb2 e0 e1 e2 e3 a0 a1 a2 HV
  go_wp2_with fail
  have KS : Hid (∀ y : World, Below W2.heap.size W2 y → y.cell? ⟨B, s * 3, none⟩ = some (.int .i64 p) ∧ y.cell? ⟨B, s * 3 + 1, none⟩ = some (.int .i64 q) ∧ y.cell? ⟨B, s * 3 + 2, none⟩ = some (.string v) ∧ y.cell? ⟨w.heap.size, 2, none⟩ = some (.int .i64 b) ∧ y.cell? ⟨w.heap.size, 3, none⟩ = some (.string x)) := Lib.hid (fun y hy => ⟨(hy.cell (p := ⟨B, s * 3, none⟩) (cell_lt A0)).trans A0, (hy.cell (p := ⟨B, s * 3 + 1, none⟩) (cell_lt A1)).trans A1, (hy.cell (p := ⟨B, s * 3 + 2, none⟩) (cell_lt A2)).trans A2, (hy.cell (p := ⟨w.heap.size, 2, none⟩) (cell_lt E2)).trans E2, (hy.cell (p := ⟨w.heap.size, 3, none⟩) (cell_lt E3)).trans E3⟩)
  have HP2 : Hid (∀ y : World, Below W2.heap.size W2 y → Calls Tryd.prog 60 #[.agg #[.int .i64 p, .int .i64 q, .string v], .int .i64 b, .string x] y fun e w3 => e = .returned (.tuple #[.agg #[.int .i64 b, .int .i64 b, .string x], .bool true]) ∧ Below W2.heap.size W2 w3 ∧ ∀ ob, y.heap[W2.heap.size]? = some ob → w3.heap[W2.heap.size]? = some ob) := Lib.hid (fun y hy => (accept_c p q v b x y).mono fun e w3 ⟨h1, h2⟩ => ⟨by rw [h1, if_pos ⟨hb, hp⟩, decide_eq_true ⟨hb, hp⟩], Below.next hy h2, fun ob ho => heap_below h2 ho⟩)
  go_region_held3 (fun w' => w'.cell? ⟨B, s * 3, none⟩ = some (.int .i64 p) ∧ w'.cell? ⟨B, s * 3 + 1, none⟩ = some (.int .i64 q) ∧ w'.cell? ⟨B, s * 3 + 2, none⟩ = some (.string v) ∧ w'.cell? ⟨w.heap.size, 2, none⟩ = some (.int .i64 b) ∧ w'.cell? ⟨w.heap.size, 3, none⟩ = some (.string x))
    (exact KS.out _ (by (repeat (first | with_reducible exact Below.refl _ _ | with_reducible exact hb3 | with_reducible refine below_drew ?_ | with_reducible refine Below.alloc ?_ ?_ _ | with_reducible refine Below.setCell ?_ ?_ _ | exact Nat.le_refl _ | exact hb3.size))))
    ((go_at_call 60; (refine (HP2.out _ (by (first | with_reducible exact below_drew (Below.refl _ _) | with_reducible exact below_drew (blA _ _)))).mono ?_); (rintro e w3 ⟨rfl, hb3, hx⟩; first | (have hx2 := hx _ (heap_alloc_new W2 _); obtain ⟨⟨x0, x1, x2⟩, y0, y1, y2⟩ := open3 hx2; clear hx) | (clear hx))))
  all_goals
    first
    | (have hWb := ((hb3.setCell (p := ⟨W2.heap.size, 0, none⟩) (Nat.le_refl _) (.int .i64 b)).setCell (p := ⟨W2.heap.size, 1, none⟩) (Nat.le_refl _) (.int .i64 b)).setCell (p := ⟨W2.heap.size, 2, none⟩) (Nat.le_refl _) (.string x)
       have hWn : ((((w3.setCell ⟨W2.heap.size, 0, none⟩ (.int .i64 b)).setCell ⟨W2.heap.size, 1, none⟩ (.int .i64 b)).setCell ⟨W2.heap.size, 2, none⟩ (.string x)).heap[W2.heap.size]? = some (.cells #[.int .i64 b, .int .i64 b, .string x] 96 (0, 0))) := heap_set_at (heap_set_at (heap_set_at hx2 0 (.int .i64 b)) 1 (.int .i64 b)) 2 (.string x)
       have hBx : W2.heap.size ≤ W2.heap.size := Nat.le_refl _
       generalize World.setCell (World.setCell (World.setCell w3 ⟨W2.heap.size, 0, none⟩ (.int .i64 b)) ⟨W2.heap.size, 1, none⟩ (.int .i64 b)) ⟨W2.heap.size, 2, none⟩ (.string x) = W1 at hWb hWn ⊢
       generalize hBe : W2.heap.size = Bx at hWn ⊢
       have hBx : W2.heap.size ≤ Bx := Nat.le_of_eq hBe
       clear hBe)
    | (have hWb := hb3.alloc hb3.size (.cells #[.int .i64 b, .int .i64 b, .string x] 96)
       have hWn := heap_alloc_new w3 (.cells #[.int .i64 b, .int .i64 b, .string x] 96)
       have hBx : W2.heap.size ≤ w3.heap.size := hb3.size
       generalize World.alloc w3 (.cells #[.int .i64 b, .int .i64 b, .string x] 96) = W1 at hWb hWn ⊢
       generalize w3.heap.size = Bx at hWn hBx ⊢)
    have hSt := (H.out.below HW12.out).below hWb
    have hbox := heap_below hWb HE2.out
    obtain ⟨E0, E1, E2, E3⟩ := open4 hbox
    obtain ⟨R0, R1, R2, R3⟩ := open4 hSt.run
    have HSt := Lib.hid hSt
    have HWb := Lib.hid hWb
    have HWn := Lib.hid hWn
    clear hSt hWb hWn hbox
    rcases hfu with hfr | ⟨hfr, hux⟩
    all_goals
      subst hfr
      try (have h9 := hux.symm; clear hux; subst h9)
      go_wp2_with fail
      have HFV := Lib.hid HSt.out.vals
      have hsz0 : w.heap.size < W1.heap.size := by have := HWb.out.size; have := HSZ2.out; omega
      have hBH : B + 3 < w.heap.size := (Array.getElem?_eq_some_iff.1 H.out.run).1
      have hBx2 : Bx < W1.heap.size := (Array.getElem?_eq_some_iff.1 HWn.out).1
      have hBx3 : w.heap.size < Bx := by have := HSZ2.out; omega
      obtain ⟨⟨X0, X1, X2⟩, _⟩ := open3 HWn.out
      obtain ⟨⟨C0, C1, C2⟩, hfr2⟩ := acc_cells HSt.out.acc (s := s) (by rw [HSt.out.len]; exact hs)
      have F0 := hfr2 (s * 3)
      have F1 := hfr2 (s * 3 + 1)
      have F2 := hfr2 (s * 3 + 2)
      have KS5 : Hid (∀ y : World, (∀ j, j < W1.heap.size → j ≠ B → j ≠ B + 2 → y.heap[j]? = W1.heap[j]?) → y.cell? ⟨B + 3, 3, none⟩ = some (.map (some (B + 2))) ∧ y.cell? ⟨w.heap.size, 2, none⟩ = some (.int .i64 b) ∧ y.cell? ⟨w.heap.size, 3, none⟩ = some (.string x) ∧ y.cell? ⟨Bx, 0, none⟩ = some (.int .i64 b) ∧ y.cell? ⟨Bx, 1, none⟩ = some (.int .i64 b) ∧ y.cell? ⟨Bx, 2, none⟩ = some (.string x)) := Lib.hid (fun y hy => by
        have kc : ∀ k i, k < W1.heap.size → k ≠ B → k ≠ B + 2 → y.cell? ⟨k, i, none⟩ = W1.cell? ⟨k, i, none⟩ := fun k i h1 h2 h3 => World.cell?_of_block (hy k h1 h2 h3)
        exact ⟨(kc _ 3 (by omega) (by omega) (by omega)).trans R3, (kc _ 2 hsz0 (by omega) (by omega)).trans E2, (kc _ 3 hsz0 (by omega) (by omega)).trans E3, (kc _ 0 hBx2 (by omega) (by omega)).trans X0, (kc _ 1 hBx2 (by omega) (by omega)).trans X1, (kc _ 2 hBx2 (by omega) (by omega)).trans X2⟩)
      have HZ : Hid (∀ j, j ≠ B → (((W1.setCell ⟨B, s * 3, none⟩ (.int .i64 b)).setCell ⟨B, s * 3 + 1, none⟩ (.int .i64 b)).setCell ⟨B, s * 3 + 2, none⟩ (.string x)).heap[j]? = W1.heap[j]?) := Lib.hid (fun j hj => by rw [Below.heap_setCell _ _ _ _ hj, Below.heap_setCell _ _ _ _ hj, Below.heap_setCell _ _ _ _ hj])
      clear hfr2 E0 E1 R0 R1 R2
      go_region_held3 (fun w' => w'.cell? ⟨B + 3, 3, none⟩ = some (.map (some (B + 2))) ∧ w'.cell? ⟨w.heap.size, 2, none⟩ = some (.int .i64 b) ∧ w'.cell? ⟨w.heap.size, 3, none⟩ = some (.string x) ∧ w'.cell? ⟨Bx, 0, none⟩ = some (.int .i64 b) ∧ w'.cell? ⟨Bx, 1, none⟩ = some (.int .i64 b) ∧ w'.cell? ⟨Bx, 2, none⟩ = some (.string x))
        (first | exact hSF | exact hSE | (refine KS5.out _ ?_; intro j _ hj _; first | exact HZ.out j hj | rfl))
        (first
          | (refine upon_entry_fm 92 3 9 kI Tryd.underlying92 (B + 2) cnt (valL st) (.string ⟨#[]⟩) zStr (HFV.out.at (by exact HZ.out _ (by omega))) (by unfold maxLen; omega) (.int .i64 b) (keyI b) (kOf HW.out) ?_; intro v0 sE wE hentE hgE hsE; have hszE : wE.heap.size = W1.heap.size := by { rw [hsE]; simp [World.setCell] }; have HFE : Hid (∀ j, j < W1.heap.size → j ≠ B + 2 → wE.heap[j]? = (((W1.setCell ⟨B, s * 3, none⟩ (.int .i64 b)).setCell ⟨B, s * 3 + 1, none⟩ (.int .i64 b)).setCell ⟨B, s * 3 + 2, none⟩ (.string x)).heap[j]?) := Lib.hid (fun j h1 h3 => hgE.block j (by simpa [World.setCell] using h1) (by simpa using h3)); have hSE := KS5.out wE (fun j h1 h2 h3 => (HFE.out j h1 h3).trans (HZ.out j h2)); have HEN := Lib.hid hentE; have HGE := Lib.hid hgE; clear hentE hgE hsE)
          | (refine upon_estore_fm 92 3 (B + 2) (cnt + 1) sE (valL st) (keyI b) (HEN.out.at rfl) (.string x) ?_; intro wF hfmF hgF hsF; have hSF := KS5.out wF (fun j h1 h2 h3 => (hgF.block j (by omega) (by simpa using h3)).trans ((HFE.out j h1 h3).trans (HZ.out j h2))); have HFF := Lib.hid hfmF; have HGF := Lib.hid hgF; clear hfmF hgF))
      all_goals
        go_wp2_with fail
        go_ret
        have hB1 : B < W1.heap.size := by omega
        have hfin := add2_fin (k := 2) hs HW.out HSt.out ((HGF.out.block B (by omega) (by simp)).trans ((HFE.out B hB1 (by omega)).trans (heap_set_at (heap_set_at (heap_set_at HSt.out.acc (s * 3) (.int .i64 b)) (s * 3 + 1) (.int .i64 b)) (s * 3 + 2) (.string x)))) HFF.out (fun j h1 h2 h3 => (HGF.out.block j (by omega) (by simpa using h3)).trans ((HFE.out j h1 h3).trans (HZ.out j h2))) (by have := HGF.out.size; omega) (HGF.out.os.trans (HGE.out.os.trans rfl)) (HGF.out.tape.trans (HGE.out.tape.trans rfl)) (HGF.out.output.trans (HGE.out.output.trans rfl))
        exact ⟨rfl, ((Below.next HW12.out HWb.out).mono (by omega)).trans hfin.2.1, _, hfin.1, hfin.2.2.pre (Below.next HW12.out HWb.out)⟩
end Go.Proofs.YtgfjmplifmbmlaaDoor
namespace Go.Proofs.YtgfjmplifmbmlaaDoor
open Go.RowKit Go.Maps

/- the first test fails -/
set_option maxRecDepth 100000 in
set_option maxHeartbeats 4000000 in
theorem addn0_c (B m cnt : Nat) (sl : Value) (st : St) (f : Lit → Option Value) (k s b : Int) (x : ByteArray) (hm : m ≤ 12) (hbad : s < 0 ∨ (m : Int) ≤ s ∨ b < 1) (w : World) (h : StM w B m cnt sl st f) :
    Calls Tryd.prog 38 #[.pointer (some ⟨B + 3, 0, none⟩), .agg #[.int .i64 k, .int .i64 s, .int .i64 b, .string x]] w fun e w' => e = .returned (.bool false) ∧ Below w.heap.size w w' := by
  obtain ⟨r0, r1, r2, r3⟩ := open4 h.run
  have hB0 := blA w (.cells #[.int .i64 k, .int .i64 s, .int .i64 b, .string x] 48)
  have r1' := (hB0.cell (p := ⟨B + 3, 1, none⟩) (cell_lt r1)).trans r1
  have HB0 := Lib.hid hB0
  clear h r0 r1 r2 r3 hB0
  by_cases h1 : s < 0
  · have g1 : decide (s < 0) = true := decide_eq_true h1
    clear hbad
    go_enter Tryd.func38, Tryd.ntmps38
    go_wp2_with fail
    go_quiet (fail)
    go_wp2_with fail
    go_ret
    exact ⟨rfl, below_drewN HB0.out⟩
  · have g1 : decide (s < 0) = false := decide_eq_false h1
    by_cases h2 : (m : Int) ≤ s
    · have g2 : decide ((m : Int) ≤ s) = true := decide_eq_true h2
      clear hbad
      go_enter Tryd.func38, Tryd.ntmps38
      go_wp2_with fail
      go_quiet (fail)
      go_wp2_with fail
      go_ret
      exact ⟨rfl, below_drewN HB0.out⟩
    · have g2 : decide ((m : Int) ≤ s) = false := decide_eq_false h2
      have g3 : decide (b < 1) = true := decide_eq_true (by omega)
      clear hbad
      go_enter Tryd.func38, Tryd.ntmps38
      go_wp2_with fail
      go_quiet (fail)
      go_wp2_with fail
      go_ret
      exact ⟨rfl, below_drewN HB0.out⟩

/- another kind -/
set_option maxRecDepth 100000 in
set_option maxHeartbeats 4000000 in
theorem addn9_c (B m cnt : Nat) (sl : Value) (st : St) (f : Lit → Option Value) (k : Int) (s : Nat) (b : Int) (x : ByteArray) (hm : m ≤ 12) (hs : s < m) (hb : 1 ≤ b) (hk1 : k ≠ 1) (hk2 : k ≠ 2) (w : World) (h : StM w B m cnt sl st f) :
    Calls Tryd.prog 38 #[.pointer (some ⟨B + 3, 0, none⟩), .agg #[.int .i64 k, .int .i64 s, .int .i64 b, .string x]] w fun e w' => e = .returned (.bool false) ∧ Below w.heap.size w w' := by
  obtain ⟨r0, r1, r2, r3⟩ := open4 h.run
  have hB0 := blA w (.cells #[.int .i64 k, .int .i64 s, .int .i64 b, .string x] 48)
  have r1' := (hB0.cell (p := ⟨B + 3, 1, none⟩) (cell_lt r1)).trans r1
  have HB0 := Lib.hid hB0
  have g1 : decide ((s : Int) < 0) = false := by simp
  have g2 : decide ((m : Int) ≤ (s : Int)) = false := by simp; omega
  have g3 : decide (b < 1) = false := by simp; omega
  have i0 : (0 : Int) ≤ (s : Int) := by omega
  have i1 : (s : Int) < (m : Int) := by omega
  have j1 : (k == 1) = false := by simpa using hk1
  have j2 : (k == 2) = false := by simpa using hk2
  clear h r0 r1 r2 r3 hB0
  go_enter Tryd.func38, Tryd.ntmps38
  go_wp2_with fail
  go_quiet (fail)
  go_wp2_with fail
  go_quiet (fail)
  go_wp2_with fail
  go_ret
  exact ⟨rfl, below_drewN HB0.out⟩

/- a promise that is refused -/
set_option maxRecDepth 100000 in
set_option maxHeartbeats 4000000 in
theorem addn1_c (B m cnt : Nat) (sl : Value) (st : St) (f : Lit → Option Value) (s : Nat) (b : Int) (x : ByteArray) (hs : s < m) (hb : 1 ≤ b) (hm : m ≤ 12) (hno : b ≤ (atS st.acc s).prom ∨ emB x = false) (w : World) (h : StM w B m cnt sl st f) :
    Calls Tryd.prog 38 #[.pointer (some ⟨B + 3, 0, none⟩), .agg #[.int .i64 1, .int .i64 s, .int .i64 b, .string x]] w fun e w' => e = .returned (.bool false) ∧ Below w.heap.size w w' := by
  obtain ⟨r0, r1, r2, r3⟩ := open4 h.run
  obtain ⟨⟨a0, a1, a2⟩, hfr⟩ := acc_cells h.acc (s := s) (by rw [h.len]; exact hs)
  obtain ⟨⟨p, q, v⟩, hacc⟩ : ∃ a, atS st.acc s = a := ⟨_, rfl⟩
  rw [hacc] at a0 a1 a2 hno
  have H := Lib.hid h
  have hB0 := blA w (.cells #[.int .i64 1, .int .i64 s, .int .i64 b, .string x] 48)
  have r0' := (hB0.cell (p := ⟨B + 3, 0, none⟩) (cell_lt r0)).trans r0
  have r1' := (hB0.cell (p := ⟨B + 3, 1, none⟩) (cell_lt r1)).trans r1
  have r2' := (hB0.cell (p := ⟨B + 3, 2, none⟩) (cell_lt r2)).trans r2
  have a0' := (hB0.cell (p := ⟨B, s * 3, none⟩) (cell_lt a0)).trans a0
  have a1' := (hB0.cell (p := ⟨B, s * 3 + 1, none⟩) (cell_lt a1)).trans a1
  have a2' := (hB0.cell (p := ⟨B, s * 3 + 2, none⟩) (cell_lt a2)).trans a2
  have g1 : decide ((s : Int) < 0) = false := by simp
  have g2 : decide ((m : Int) ≤ (s : Int)) = false := by simp; omega
  have g3 : decide (b < 1) = false := by simp; omega
  have i0 : (0 : Int) ≤ (s : Int) := by omega
  have i1 : (s : Int) < (m : Int) := by omega
  have HACC := Lib.hid hacc
  have HFR := Lib.hid hfr
  obtain ⟨pr, p', hpr⟩ : ∃ (pr : Bool) (p' : Int), decide (p < b) = pr ∧ (if p < b then b else p) = p' := ⟨_, _, rfl, rfl⟩
  have hno2 : pr = false ∨ (pr = true ∧ (x.toList == []) = false) := by
    rw [← hpr.1]
    by_cases h9 : p < b
    · rcases hno with h8 | h8
      · exact absurd h9 (by show ¬ p < b; have : b ≤ p := h8; omega)
      · exact .inr ⟨decide_eq_true h9, h8⟩
    · exact .inl (decide_eq_false h9)
  have HPR := Lib.hid hpr
  clear h hacc hfr hpr hno
  go_enter Tryd.func38, Tryd.ntmps38
  go_wp2_with fail
  go_quiet (fail)
  go_wp2_with fail
  go_quiet (fail)
  go_wp2_with fail
  generalize hW : World.drewN (w.alloc (.cells #[.int .i64 1, .int .i64 s, .int .i64 b, .string x] 48)) _ = W0
  have hW1 : Below w.heap.size w W0 := by rw [← hW]; exact below_drewN hB0
  have hW2 : W0.heap.size = w.heap.size + 1 := by rw [← hW]; simp
  have hW3 : W0.heap[w.heap.size]? = some (.cells #[.int .i64 1, .int .i64 s, .int .i64 b, .string x] 48 (0, 0)) := by rw [← hW]; exact heap_alloc_new w _
  obtain ⟨e0, e1, e2, e3⟩ := open4 hW3
  have A0 := (hW1.cell (p := ⟨B, s * 3, none⟩) (cell_lt a0)).trans a0
  have A1 := (hW1.cell (p := ⟨B, s * 3 + 1, none⟩) (cell_lt a1)).trans a1
  have A2 := (hW1.cell (p := ⟨B, s * 3 + 2, none⟩) (cell_lt a2)).trans a2
  have KS : Hid (∀ x : World, Below W0.heap.size W0 x → x.cell? ⟨B, s * 3, none⟩ = some (.int .i64 p) ∧ x.cell? ⟨B, s * 3 + 1, none⟩ = some (.int .i64 q) ∧ x.cell? ⟨B, s * 3 + 2, none⟩ = some (.string v) ∧ x.cell? ⟨w.heap.size, 2, none⟩ = some (.int .i64 b)) := Lib.hid (fun x hx => ⟨(hx.cell (p := ⟨B, s * 3, none⟩) (cell_lt A0)).trans A0, (hx.cell (p := ⟨B, s * 3 + 1, none⟩) (cell_lt A1)).trans A1, (hx.cell (p := ⟨B, s * 3 + 2, none⟩) (cell_lt A2)).trans A2, (hx.cell (p := ⟨w.heap.size, 2, none⟩) (cell_lt e2)).trans e2⟩)
  have HP2 : Hid (∀ x : World, Below W0.heap.size W0 x → Calls Tryd.prog 58 #[.agg #[.int .i64 p, .int .i64 q, .string v], .int .i64 b] x fun e w3 => e = .returned (.tuple #[.agg #[.int .i64 p', .int .i64 q, .string v], .bool pr]) ∧ Below W0.heap.size W0 w3 ∧ ∀ ob, x.heap[W0.heap.size]? = some ob → w3.heap[W0.heap.size]? = some ob) := Lib.hid (fun x hx => (promise_c p q v b x).mono fun e w3 ⟨h1, h2⟩ => ⟨by rw [h1, HPR.out.1, HPR.out.2], Below.next hx h2, fun ob ho => heap_below h2 ho⟩)
  have HW1 := Lib.hid hW1
  have HW2 := Lib.hid hW2
  have HE := Lib.hid hW3
  clear hW hW1 hW2 hW3 hB0 r0' r1' r2' a0' a1' a2' r0 r1 r2 r3 a0 a1 a2 g1 g2 g3 i0 i1 e0 e1 e3
  go_region_held3 (fun w' => w'.cell? ⟨B, s * 3, none⟩ = some (.int .i64 p) ∧ w'.cell? ⟨B, s * 3 + 1, none⟩ = some (.int .i64 q) ∧ w'.cell? ⟨B, s * 3 + 2, none⟩ = some (.string v) ∧ w'.cell? ⟨w.heap.size, 2, none⟩ = some (.int .i64 b))
    (exact KS.out _ (by (repeat (first | with_reducible exact Below.refl _ _ | with_reducible exact hb3 | with_reducible refine below_drew ?_ | with_reducible refine Below.alloc ?_ ?_ _ | with_reducible refine Below.setCell ?_ ?_ _ | exact Nat.le_refl _ | exact hb3.size))))
    ((go_at_call 58; (refine (HP2.out _ (by (first | with_reducible exact below_drew (Below.refl _ _) | with_reducible exact below_drew (blA _ _)))).mono ?_); (rintro e w3 ⟨rfl, hb3, hx⟩; first | (have hx2 := hx _ (heap_alloc_new W0 _); obtain ⟨⟨x0, x1, x2⟩, y0, y1, y2⟩ := open3 hx2; clear hx) | (clear hx))))
  all_goals
    have hN : ∃ (W1 : World) (Bx : Nat), True := ⟨w3, 0, trivial⟩
    first
    | (have hWb := ((hb3.setCell (p := ⟨W0.heap.size, 0, none⟩) (Nat.le_refl _) (.int .i64 p')).setCell (p := ⟨W0.heap.size, 1, none⟩) (Nat.le_refl _) (.int .i64 q)).setCell (p := ⟨W0.heap.size, 2, none⟩) (Nat.le_refl _) (.string v)
       have hWn : ((((w3.setCell ⟨W0.heap.size, 0, none⟩ (.int .i64 p')).setCell ⟨W0.heap.size, 1, none⟩ (.int .i64 q)).setCell ⟨W0.heap.size, 2, none⟩ (.string v)).heap[W0.heap.size]? = some (.cells #[.int .i64 p', .int .i64 q, .string v] 96 (0, 0))) := heap_set_at (heap_set_at (heap_set_at hx2 0 (.int .i64 p')) 1 (.int .i64 q)) 2 (.string v)
       have hBx : W0.heap.size ≤ W0.heap.size := Nat.le_refl _
       generalize World.setCell (World.setCell (World.setCell w3 ⟨W0.heap.size, 0, none⟩ (.int .i64 p')) ⟨W0.heap.size, 1, none⟩ (.int .i64 q)) ⟨W0.heap.size, 2, none⟩ (.string v) = W1 at hWb hWn ⊢
       generalize hBe : W0.heap.size = Bx at hWn ⊢
       have hBx : W0.heap.size ≤ Bx := Nat.le_of_eq hBe
       clear hBe)
    | (have hWb := hb3.alloc hb3.size (.cells #[.int .i64 p', .int .i64 q, .string v] 96)
       have hWn := heap_alloc_new w3 (.cells #[.int .i64 p', .int .i64 q, .string v] 96)
       have hBx : W0.heap.size ≤ w3.heap.size := hb3.size
       generalize World.alloc w3 (.cells #[.int .i64 p', .int .i64 q, .string v] 96) = W1 at hWb hWn ⊢
       generalize w3.heap.size = Bx at hWn hBx ⊢)
    have hbox := heap_below hWb HE.out
    obtain ⟨E0, E1, E2, E3⟩ := open4 hbox
    have HWb := Lib.hid hWb
    clear hWb hWn hbox E0 E1 E2
    rcases hno2 with hq | ⟨hq, hq2⟩
    all_goals
      subst hq
      go_wp2_with fail
      go_ret
      exact ⟨rfl, Below.next HW1.out HWb.out⟩

/- an acceptance that is refused -/
set_option maxRecDepth 100000 in
set_option maxHeartbeats 8000000 in
theorem addn2_c (read : List (BitVec 16)) (ra : Option Addr) (rn rc : Nat) (B m cnt : Nat) (st : St) (f : Lit → Option Value) (s : Nat) (b : Int) (x : ByteArray) (hs : s < m) (hb : 1 ≤ b) (hw : (Lit.int .i64 b).wf = true) (hm : m ≤ 12) (hno : ((accpB (atS st.acc s) b && !emB x) && okP (valP read st b) x) = false) (w : World) (hr : Rd w ra rn rc (read.map setV2)) (h : StM w B m cnt (.slice ra rn rc) st f) :
    Calls Tryd.prog 38 #[.pointer (some ⟨B + 3, 0, none⟩), .agg #[.int .i64 2, .int .i64 s, .int .i64 b, .string x]] w fun e w' => e = .returned (.bool false) ∧ Below w.heap.size w w' := by
  obtain ⟨r0, r1, r2, r3⟩ := open4 h.run
  obtain ⟨⟨a0, a1, a2⟩, hfr⟩ := acc_cells h.acc (s := s) (by rw [h.len]; exact hs)
  obtain ⟨⟨p, q, v⟩, hacc⟩ : ∃ a, atS st.acc s = a := ⟨_, rfl⟩
  rw [hacc] at a0 a1 a2 hno
  obtain ⟨⟨u, fr, ok⟩, hvp⟩ : ∃ y, valP read st b = y := ⟨_, rfl⟩
  rw [hvp] at hno
  obtain ⟨is, p', q', v', his⟩ : ∃ (is : Bool) (p' q' : Int) (v' : ByteArray), decide (1 ≤ b ∧ p ≤ b) = is ∧ (if 1 ≤ b ∧ p ≤ b then Value.agg #[.int .i64 b, .int .i64 b, .string x] else .agg #[.int .i64 p, .int .i64 q, .string v]) = .agg #[.int .i64 p', .int .i64 q', .string v'] := by
    by_cases h9 : 1 ≤ b ∧ p ≤ b
    · exact ⟨_, _, _, _, rfl, if_pos h9⟩
    · exact ⟨_, _, _, _, rfl, if_neg h9⟩
  have hno2 : ok = false ∨ (ok = true ∧ (is = false ∨ (is = true ∧ ((x.toList == []) = true ∨ ((x.toList == []) = false ∧ fr = false ∧ (u.toList == x.toList) = false))))) := by
    rw [← his.1]
    unfold okP accpB emB at hno
    cases ok
    · exact .inl rfl
    · refine .inr ⟨rfl, ?_⟩
      by_cases h9 : 1 ≤ b ∧ p ≤ b
      · refine .inr ⟨decide_eq_true h9, ?_⟩
        cases hq : (x.toList == [])
        · refine .inr ⟨rfl, ?_⟩
          rw [hq] at hno
          have e1 : decide (1 ≤ b) = true := decide_eq_true h9.1
          have e2 : decide (p ≤ b) = true := decide_eq_true h9.2
          simp only [e1, e2] at hno
          cases fr
          · exact ⟨rfl, by simpa using hno⟩
          · simp at hno
        · exact .inl rfl
      · exact .inl (decide_eq_false h9)
  have HV : Hid (∀ w' : World, Below w.heap.size w w' → Calls Tryd.prog 59 #[.pointer (some ⟨B + 3, 0, none⟩), .int .i64 b] w' fun e w2 => e = Ending.returned (.tuple #[.string u, .bool fr, .bool ok]) ∧ Below w'.heap.size w' w2) := Lib.hid (fun w' h1 => (value_c read ra rn rc B m cnt st f b hw w' (hr.below h1) (h.below h1)).mono fun e w2 ⟨h2, h3⟩ => ⟨by rw [h2, hvp], h3⟩)
  have H := Lib.hid h
  have hB0 := blA w (.cells #[.int .i64 2, .int .i64 s, .int .i64 b, .string x] 48)
  have r1' := (hB0.cell (p := ⟨B + 3, 1, none⟩) (cell_lt r1)).trans r1
  have g1 : decide ((s : Int) < 0) = false := by simp
  have g2 : decide ((m : Int) ≤ (s : Int)) = false := by simp; omega
  have g3 : decide (b < 1) = false := by simp; omega
  have i0 : (0 : Int) ≤ (s : Int) := by omega
  have i1 : (s : Int) < (m : Int) := by omega
  have HACC := Lib.hid hacc
  have HW := Lib.hid hw
  have HIS := Lib.hid his
  clear h hacc hfr hw hvp hno hr his
  go_enter Tryd.func38, Tryd.ntmps38
  go_wp2_with fail
  go_quiet (fail)
  go_wp2_with fail
  go_quiet (fail)
  go_wp2_with fail
  generalize hW : World.drewN (w.alloc (.cells #[.int .i64 2, .int .i64 s, .int .i64 b, .string x] 48)) _ = W0
  have hW1 : Below w.heap.size w W0 := by rw [← hW]; exact below_drewN hB0
  have hW2 : W0.heap.size = w.heap.size + 1 := by rw [← hW]; simp
  have hW3 : W0.heap[w.heap.size]? = some (.cells #[.int .i64 2, .int .i64 s, .int .i64 b, .string x] 48 (0, 0)) := by rw [← hW]; exact heap_alloc_new w _
  obtain ⟨e0, e1, e2, e3⟩ := open4 hW3
  have HW1 := Lib.hid hW1
  have HW2 := Lib.hid hW2
  have HE := Lib.hid hW3
  clear hW hW1 hW2 hW3 hB0 r1' r0 r1 r2 r3 g1 g2 g3 i0 i1
  refine (HV.out _ HW1.out).mono ?_
  rintro e W2 ⟨rfl, hb2⟩
  have HB2 := Lib.hid hb2
  have A0 := (hb2.cell (p := ⟨B, s * 3, none⟩) (cell_lt ((HW1.out.cell (p := ⟨B, s * 3, none⟩) (cell_lt a0)).trans a0))).trans ((HW1.out.cell (p := ⟨B, s * 3, none⟩) (cell_lt a0)).trans a0)
  have A1 := (hb2.cell (p := ⟨B, s * 3 + 1, none⟩) (cell_lt ((HW1.out.cell (p := ⟨B, s * 3 + 1, none⟩) (cell_lt a1)).trans a1))).trans ((HW1.out.cell (p := ⟨B, s * 3 + 1, none⟩) (cell_lt a1)).trans a1)
  have A2 := (hb2.cell (p := ⟨B, s * 3 + 2, none⟩) (cell_lt ((HW1.out.cell (p := ⟨B, s * 3 + 2, none⟩) (cell_lt a2)).trans a2))).trans ((HW1.out.cell (p := ⟨B, s * 3 + 2, none⟩) (cell_lt a2)).trans a2)
  have HE2 := Lib.hid (heap_below hb2 HE.out)
  obtain ⟨_, _, E2, E3⟩ := open4 HE2.out
  have HW12 := Lib.hid (Below.next HW1.out hb2)
  have HSZ2 : Hid (w.heap.size < W2.heap.size) := Lib.hid (by have := hb2.size; have := HW2.out; omega)
  clear hb2 e0 e1 e2 e3 a0 a1 a2 HV
  go_wp2_with fail
  have KS : Hid (∀ y : World, Below W2.heap.size W2 y → y.cell? ⟨B, s * 3, none⟩ = some (.int .i64 p) ∧ y.cell? ⟨B, s * 3 + 1, none⟩ = some (.int .i64 q) ∧ y.cell? ⟨B, s * 3 + 2, none⟩ = some (.string v) ∧ y.cell? ⟨w.heap.size, 2, none⟩ = some (.int .i64 b) ∧ y.cell? ⟨w.heap.size, 3, none⟩ = some (.string x)) := Lib.hid (fun y hy => ⟨(hy.cell (p := ⟨B, s * 3, none⟩) (cell_lt A0)).trans A0, (hy.cell (p := ⟨B, s * 3 + 1, none⟩) (cell_lt A1)).trans A1, (hy.cell (p := ⟨B, s * 3 + 2, none⟩) (cell_lt A2)).trans A2, (hy.cell (p := ⟨w.heap.size, 2, none⟩) (cell_lt E2)).trans E2, (hy.cell (p := ⟨w.heap.size, 3, none⟩) (cell_lt E3)).trans E3⟩)
  have HP2 : Hid (∀ y : World, Below W2.heap.size W2 y → Calls Tryd.prog 60 #[.agg #[.int .i64 p, .int .i64 q, .string v], .int .i64 b, .string x] y fun e w3 => e = .returned (.tuple #[.agg #[.int .i64 p', .int .i64 q', .string v'], .bool is]) ∧ Below W2.heap.size W2 w3 ∧ ∀ ob, y.heap[W2.heap.size]? = some ob → w3.heap[W2.heap.size]? = some ob) := Lib.hid (fun y hy => (accept_c p q v b x y).mono fun e w3 ⟨h1, h2⟩ => ⟨by rw [h1, HIS.out.1, HIS.out.2], Below.next hy h2, fun ob ho => heap_below h2 ho⟩)
  go_region_held3 (fun w' => w'.cell? ⟨B, s * 3, none⟩ = some (.int .i64 p) ∧ w'.cell? ⟨B, s * 3 + 1, none⟩ = some (.int .i64 q) ∧ w'.cell? ⟨B, s * 3 + 2, none⟩ = some (.string v) ∧ w'.cell? ⟨w.heap.size, 2, none⟩ = some (.int .i64 b) ∧ w'.cell? ⟨w.heap.size, 3, none⟩ = some (.string x))
    (exact KS.out _ (by (repeat (first | with_reducible exact Below.refl _ _ | with_reducible exact hb3 | with_reducible refine below_drew ?_ | with_reducible refine Below.alloc ?_ ?_ _ | with_reducible refine Below.setCell ?_ ?_ _ | exact Nat.le_refl _ | exact hb3.size))))
    ((go_at_call 60; (refine (HP2.out _ (by (first | with_reducible exact below_drew (Below.refl _ _) | with_reducible exact below_drew (blA _ _)))).mono ?_); (rintro e w3 ⟨rfl, hb3, hx⟩; first | (have hx2 := hx _ (heap_alloc_new W2 _); obtain ⟨⟨x0, x1, x2⟩, y0, y1, y2⟩ := open3 hx2; clear hx) | (clear hx))))
  all_goals
    first
    | (have hWb := ((hb3.setCell (p := ⟨W2.heap.size, 0, none⟩) (Nat.le_refl _) (.int .i64 p')).setCell (p := ⟨W2.heap.size, 1, none⟩) (Nat.le_refl _) (.int .i64 q')).setCell (p := ⟨W2.heap.size, 2, none⟩) (Nat.le_refl _) (.string v')
       have hWn : ((((w3.setCell ⟨W2.heap.size, 0, none⟩ (.int .i64 p')).setCell ⟨W2.heap.size, 1, none⟩ (.int .i64 q')).setCell ⟨W2.heap.size, 2, none⟩ (.string v')).heap[W2.heap.size]? = some (.cells #[.int .i64 p', .int .i64 q', .string v'] 96 (0, 0))) := heap_set_at (heap_set_at (heap_set_at hx2 0 (.int .i64 p')) 1 (.int .i64 q')) 2 (.string v')
       have hBx : W2.heap.size ≤ W2.heap.size := Nat.le_refl _
       generalize World.setCell (World.setCell (World.setCell w3 ⟨W2.heap.size, 0, none⟩ (.int .i64 p')) ⟨W2.heap.size, 1, none⟩ (.int .i64 q')) ⟨W2.heap.size, 2, none⟩ (.string v') = W1 at hWb hWn ⊢
       generalize hBe : W2.heap.size = Bx at hWn ⊢
       have hBx : W2.heap.size ≤ Bx := Nat.le_of_eq hBe
       clear hBe)
    | (have hWb := hb3.alloc hb3.size (.cells #[.int .i64 p', .int .i64 q', .string v'] 96)
       have hWn := heap_alloc_new w3 (.cells #[.int .i64 p', .int .i64 q', .string v'] 96)
       have hBx : W2.heap.size ≤ w3.heap.size := hb3.size
       generalize World.alloc w3 (.cells #[.int .i64 p', .int .i64 q', .string v'] 96) = W1 at hWb hWn ⊢
       generalize w3.heap.size = Bx at hWn hBx ⊢)
    have hbox := heap_below hWb HE2.out
    obtain ⟨E0, E1, E2, E3⟩ := open4 hbox
    have HWb := Lib.hid hWb
    clear hWb hWn hbox E0 E1 E2
    rcases hno2 with hq | ⟨hq, hq2 | ⟨hq2, hq3 | ⟨hq3, hq4, hq5⟩⟩⟩
    all_goals
      subst hq
      try subst hq2
      try subst hq4
      go_wp2_with fail
      go_ret
      exact ⟨rfl, Below.next HW12.out HWb.out⟩
end Go.Proofs.YtgfjmplifmbmlaaDoor
namespace Go.Proofs.YtgfjmplifmbmlaaDoor

theorem best_fold : ∀ (l : List Rep) (o : Int × ByteArray), o.1 ≤ (l.foldl stepR o).1 ∧ (∀ r ∈ l, r.ballot ≤ (l.foldl stepR o).1) ∧ (l.foldl stepR o = o ∨ ∃ r ∈ l, (l.foldl stepR o) = (r.ballot, r.value)) := by
  intro l
  induction l with
  | nil => intro o; exact ⟨Int.le_refl _, fun r hr => (by cases hr), .inl rfl⟩
  | cons x l ih =>
    intro o
    rw [List.foldl_cons]
    obtain ⟨h1, h2, h3⟩ := ih (stepR o x)
    have hx : o.1 ≤ (stepR o x).1 ∧ x.ballot ≤ (stepR o x).1 ∧ (stepR o x = o ∨ stepR o x = (x.ballot, x.value)) := by
      unfold stepR
      split
      · exact ⟨by show o.1 ≤ x.ballot; omega, Int.le_refl _, .inr rfl⟩
      · exact ⟨Int.le_refl _, by omega, .inl rfl⟩
    refine ⟨by omega, fun r hr => ?_, ?_⟩
    · rcases List.mem_cons.1 hr with rfl | hr
      · omega
      · exact h2 r hr
    · rcases h3 with h3 | ⟨r, hr, h3⟩
      · rcases hx.2.2 with h | h
        · exact .inl (h3.trans h)
        · exact .inr ⟨x, List.mem_cons_self .., h3.trans h⟩
      · exact .inr ⟨r, List.mem_cons_of_mem _ hr, h3⟩
theorem best_all (l : List Rep) : (∀ r ∈ l, r.ballot ≤ (bestR l).1) ∧ (0 < (bestR l).1 → ∃ r ∈ l, r.ballot = (bestR l).1 ∧ r.value = (bestR l).2) := by
  obtain ⟨_, h2, h3⟩ := best_fold l (0, ⟨#[]⟩)
  refine ⟨h2, fun h0 => ?_⟩
  unfold bestR at h0 ⊢
  rcases h3 with h3 | ⟨r, hr, h3⟩
  · rw [h3] at h0; exact absurd h0 (by decide)
  · exact ⟨r, hr, by rw [h3], by rw [h3]⟩

/-- an acceptance -/
def AccE (l : List Ev) (s b : Int) (v : ByteArray) : Prop := ∃ e ∈ l, e.kind = 2 ∧ e.server = s ∧ e.ballot = b ∧ e.value = v
structure Saf (read : List (BitVec 16)) (n : Nat) (l : List Ev) : Prop where
  s1 : ∀ s b v, AccE l s b v → b ≤ (atS (repA n l) s).bal
  s2 : ∀ (b' : Int) (r : Rep), r ∈ repS n l b' → ∀ b v, AccE l r.server b v → b < b' → b ≤ r.ballot
  s3a : ∀ s : Int, 0 ≤ s → s < n → 0 < (atS (repA n l) s).bal → AccE l s (atS (repA n l) s).bal (atS (repA n l) s).val
  s3 : ∀ (b' : Int) (r : Rep), r ∈ repS n l b' → 0 < r.ballot → AccE l r.server r.ballot r.value
  s4 : ∀ s s' b v v', AccE l s b v → AccE l s' b v' → v = v'
  s5 : ∀ s b v, AccE l s b v → ∃ L : List Rep, (∀ r ∈ L, r ∈ repS n l b) ∧ accS read (seenR L) = true ∧ ((bestR L).1 = 0 ∨ (bestR L).2 = v)
theorem accE_app {l : List Ev} {e : Ev} {s b : Int} {v : ByteArray} : AccE (l ++ [e]) s b v ↔ AccE l s b v ∨ (e.kind = 2 ∧ e.server = s ∧ e.ballot = b ∧ e.value = v) := by
  constructor
  · rintro ⟨x, hx, h⟩
    rcases List.mem_append.1 hx with hx | hx
    · exact .inl ⟨x, hx, h⟩
    · rw [List.mem_singleton] at hx; subst hx; exact .inr h
  · rintro (⟨x, hx, h⟩ | h)
    · exact ⟨x, List.mem_append_left _ hx, h⟩
    · exact ⟨e, List.mem_append_right _ (List.mem_singleton_self _), h⟩
theorem valF_accE {l : List Ev} {b : Int} {v : ByteArray} (h : valF l b = some v) : ∃ s, AccE l s b v := by
  unfold valF at h
  rw [Option.map_eq_some_iff] at h
  obtain ⟨e, he, hv⟩ := h
  have h1 := List.mem_of_find?_eq_some he
  have h2 := List.find?_some he
  unfold isAcc at h2
  simp at h2
  exact ⟨e.server, e, h1, h2.1, rfl, h2.2, hv⟩
theorem valF_none {l : List Ev} {b : Int} (h : valF l b = none) : ∀ s v, ¬ AccE l s b v := by
  rintro s v ⟨e, he, h1, _, h3, _⟩
  unfold valF at h
  rw [Option.map_eq_none_iff, List.find?_eq_none] at h
  have := h e he
  unfold isAcc at this
  simp [h1, h3] at this
theorem saf_nil (read : List (BitVec 16)) (n : Nat) : Saf read n [] := by
  have hn : ∀ s b v, ¬ AccE [] s b v := by rintro s b v ⟨e, he, _⟩; cases he
  have h0 : ∀ s : Int, atS (repA n []) s = acc0 := by
    intro s
    unfold atS repA
    simp only [List.foldl_nil]
    rw [List.getD, List.getElem?_replicate]
    split <;> rfl
  refine ⟨fun s b v h => absurd h (hn s b v), fun b' r hr => ?_, fun s _ _ h => ?_, fun b' r hr => ?_, fun s s' b v v' h => absurd h (hn _ _ _), fun s b v h => absurd h (hn s b v)⟩
  · simp [repS, repTo] at hr
  · rw [h0] at h; exact absurd h (by decide)
  · simp [repS, repTo] at hr
theorem saf_step {read : List (BitVec 16)} {n : Nat} {l : List Ev} {e : Ev} (hn : n ≤ 12) (hi : Inv n l) (hs : Saf read n l) (hf : folS read n l e = true) : Saf read n (l ++ [e]) := by
  unfold folS at hf
  split at hf
  · cases hf
  · rename_i hr
    have hs0 : 0 ≤ e.server := by omega
    have hsn : e.server < n := by omega
    have hb1 : 1 ≤ e.ballot := by omega
    split at hf
    · rename_i hk
      rw [Bool.and_eq_true] at hf
      obtain ⟨hp, hem⟩ := hf
      have hlt : (atS (repA n l) e.server).prom < e.ballot := by unfold promB at hp; simpa using hp
      have hst : stepA (repA n l) e = (repA n l).set e.server.toNat { atS (repA n l) e.server with prom := e.ballot } := by unfold stepA; rw [if_pos hk, if_pos hp]
      have hat := fun t ht => atS_repA (n := n) (l := l) (e := e) hs0 hsn hst (t := t) ht
      have hacc : ∀ s b v, AccE (l ++ [e]) s b v → AccE l s b v := by
        intro s b v h
        rcases accE_app.1 h with h | h
        · exact h
        · rw [hk] at h; exact absurd h.1 (by decide)
      have hsrv : ∀ s b v, AccE l s b v → 0 ≤ s ∧ s < n := by
        rintro s b v ⟨x, hx, _, rfl, _⟩; exact ⟨(hi.srv x hx).1, (hi.srv x hx).2.1⟩
      have hatb : ∀ s : Int, 0 ≤ s → (atS (repA n (l ++ [e])) s).bal = (atS (repA n l) s).bal ∧ (atS (repA n (l ++ [e])) s).val = (atS (repA n l) s).val := by
        intro s h0
        rw [hat s h0]
        split
        · rename_i h; subst h; exact ⟨rfl, rfl⟩
        · exact ⟨rfl, rfl⟩
      have hrep : ∀ b r, r ∈ repS n (l ++ [e]) b → r ∈ repS n l b ∨ (b = e.ballot ∧ r = repOf e.server (atS (repA n l) e.server)) := by
        intro b r h
        rw [repS_snoc] at h
        rcases List.mem_append.1 h with h | h
        · exact .inl h
        · split at h
          · rename_i hc; rw [List.mem_singleton] at h; exact .inr ⟨hc.2.symm, h⟩
          · cases h
      refine ⟨?_, ?_, ?_, ?_, ?_, ?_⟩
      · intro s b v h
        have h' := hacc s b v h
        rw [(hatb s (hsrv s b v h').1).1]; exact hs.s1 s b v h'
      · intro b' r h b v ha hlt2
        have ha' := hacc _ _ _ ha
        rcases hrep b' r h with h | ⟨_, rfl⟩
        · exact hs.s2 b' r h b v ha' hlt2
        · exact hs.s1 e.server b v ha'
      · intro s h0 h1 hb
        obtain ⟨e1, e2⟩ := hatb s h0
        rw [e1] at hb ⊢
        rw [e2]
        exact accE_app.2 (.inl (hs.s3a s h0 h1 hb))
      · intro b' r h hb
        rcases hrep b' r h with h | ⟨_, rfl⟩
        · exact accE_app.2 (.inl (hs.s3 b' r h hb))
        · exact accE_app.2 (.inl (hs.s3a e.server hs0 hsn hb))
      · intro s s' b v v' h1 h2
        exact hs.s4 s s' b v v' (hacc _ _ _ h1) (hacc _ _ _ h2)
      · intro s b v h
        obtain ⟨L, h1, h2⟩ := hs.s5 s b v (hacc _ _ _ h)
        exact ⟨L, fun r hr => by rw [repS_snoc]; exact List.mem_append_left _ (h1 r hr), h2⟩
    · rename_i hk1
      split at hf
      · rename_i hk
        rw [Bool.and_eq_true, Bool.and_eq_true, Bool.not_eq_true'] at hf
        obtain ⟨⟨hp, hem⟩, hd⟩ := hf
        have hle : (atS (repA n l) e.server).prom ≤ e.ballot := by unfold accpB at hp; simp at hp; exact hp.2
        have hst : stepA (repA n l) e = (repA n l).set e.server.toNat ⟨e.ballot, e.ballot, e.value⟩ := by unfold stepA; rw [if_neg hk1, if_pos hp]
        have hat := fun t ht => atS_repA (n := n) (l := l) (e := e) hs0 hsn hst (t := t) ht
        have hrepS : ∀ b, repS n (l ++ [e]) b = repS n l b := by
          intro b; rw [repS_snoc, if_neg (fun h => hk1 h.1), List.append_nil]
        have hsrv : ∀ s b v, AccE l s b v → 0 ≤ s ∧ s < n := by
          rintro s b v ⟨x, hx, _, rfl, _⟩; exact ⟨(hi.srv x hx).1, (hi.srv x hx).2.1⟩
        have hsame : ∀ s v, AccE l s e.ballot v → v = e.value := by
          intro s v h
          cases hv : valF l e.ballot with
          | none => exact absurd h (valF_none hv s v)
          | some x =>
            obtain ⟨s', h'⟩ := valF_accE hv
            have hx : x = e.value := by
              unfold demS at hd
              rw [hv] at hd
              unfold okD at hd
              simp at hd
              exact bs_ext hd
            rw [← hx]
            exact hs.s4 _ _ _ _ _ h h'
        refine ⟨?_, ?_, ?_, ?_, ?_, ?_⟩
        · intro s b v h
          rcases accE_app.1 h with h' | ⟨_, rfl, rfl, rfl⟩
          · have h0 := (hsrv s b v h').1
            rw [hat s h0]
            split
            · rename_i he
              have := hs.s1 s b v h'
              rw [he] at this
              have h2 := (hi.bal e.server hs0 hsn).2
              show b ≤ e.ballot
              omega
            · exact hs.s1 s b v h'
          · rw [hat _ hs0, if_pos rfl]; exact Int.le_refl _
        · intro b' r h b v ha hlt2
          rw [hrepS] at h
          rcases accE_app.1 ha with ha | ⟨_, h1, h2, _⟩
          · exact hs.s2 b' r h b v ha hlt2
          · exfalso
            have := (hi.rep b' r h).2.2.2.2.1
            rw [← h1] at this
            omega
        · intro s h0 h1 hb
          rw [hat s h0] at hb ⊢
          split
          · rename_i he; exact accE_app.2 (.inr ⟨hk, he.symm, rfl, rfl⟩)
          · rename_i he; rw [if_neg he] at hb; exact accE_app.2 (.inl (hs.s3a s h0 h1 hb))
        · intro b' r h hb
          rw [hrepS] at h
          exact accE_app.2 (.inl (hs.s3 b' r h hb))
        · intro s s' b v v' h1 h2
          rcases accE_app.1 h1 with h1 | ⟨_, _, rfl, rfl⟩ <;> rcases accE_app.1 h2 with h2 | ⟨_, _, h3, h4⟩
          · exact hs.s4 _ _ _ _ _ h1 h2
          · subst h3 h4; exact hsame _ _ h1
          · exact (hsame _ _ h2).symm
          · exact h4
        · intro s b v h
          have hold : ∀ s v, AccE l s b v → ∃ L : List Rep, (∀ r ∈ L, r ∈ repS n (l ++ [e]) b) ∧ accS read (seenR L) = true ∧ ((bestR L).1 = 0 ∨ (bestR L).2 = v) := by
            intro s v h
            obtain ⟨L, h1, h2⟩ := hs.s5 s b v h
            exact ⟨L, fun r hr => by rw [hrepS]; exact h1 r hr, h2⟩
          rcases accE_app.1 h with h | ⟨_, _, rfl, rfl⟩
          · exact hold s v h
          · cases hv : valF l e.ballot with
            | some x =>
              obtain ⟨s', h'⟩ := valF_accE hv
              have := hsame _ _ h'
              subst this
              exact hold s' _ h'
            | none =>
              refine ⟨repS n l e.ballot, fun r hr => by rw [hrepS]; exact hr, ?_⟩
              unfold demS at hd
              rw [hv] at hd
              simp only at hd
              unfold pickS at hd
              rw [if_neg (by omega), hi.seen] at hd
              simp only [Bool.false_eq_true, if_false] at hd
              cases ha : accS read (seenR (repS n l e.ballot))
              · rw [ha] at hd; simp [okD] at hd
              · rw [ha] at hd
                simp only [Bool.true_eq_false, if_false] at hd
                refine ⟨rfl, ?_⟩
                by_cases h0 : (bestR (repS n l e.ballot)).1 = 0
                · exact .inl h0
                · rw [if_neg h0] at hd
                  simp [okD] at hd
                  exact .inr (bs_ext hd)
      · cases hf
theorem good_saf {read : List (BitVec 16)} {n : Nat} (hn : n ≤ 12) {l : List Ev} (h : Good read n l) : Saf read n l := by
  induction h with
  | nil => exact saf_nil read n
  | snoc hg hf ih => exact saf_step hn (good_inv hn hg) ih hf

/-- a value that a write set accepted in a ballot is the value of all acceptances from that ballot on -/
theorem safe_from {read write : List (BitVec 16)} {n : Nat} (hn : n ≤ 12) {l : List Ev} (h : Good read n l) (hc : ∀ r ∈ read, ∀ w ∈ write, (r &&& w == 0#16) = false)
    {b : Int} {v : ByteArray} {W : BitVec 16} (hW : W ∈ write) (hb : 1 ≤ b) (hex : ∃ s, AccE l s b v) (hall : ∀ i, hasB W i = true → AccE l (i : Int) b v) :
    ∀ (d : Nat) (s b' : Int) (v' : ByteArray), b ≤ b' → b' - b ≤ d → AccE l s b' v' → v' = v := by
  have hi := good_inv hn h
  have hs := good_saf hn h
  intro d
  induction d with
  | zero =>
    intro s b' v' h1 h2 ha
    have : b' = b := by omega
    subst this
    obtain ⟨s0, h0⟩ := hex
    exact hs.s4 _ _ _ _ _ ha h0
  | succ d ih =>
    intro s b' v' h1 h2 ha
    by_cases he : b' = b
    · subst he
      obtain ⟨s0, h0⟩ := hex
      exact hs.s4 _ _ _ _ _ ha h0
    · obtain ⟨L, hL, hacc, hbest⟩ := hs.s5 s b' v' ha
      unfold accS at hacc
      obtain ⟨R, hR, hsub⟩ := List.any_eq_true.1 hacc
      obtain ⟨i, hi1⟩ : ∃ i, hasB (R &&& W) i = true := by
        apply Classical.byContradiction
        intro hno
        have : R &&& W = 0#16 := by
          apply BitVec.eq_of_getLsbD_eq
          intro i _
          cases hx : (R &&& W).getLsbD i
          · simp
          · exact absurd ⟨i, hx⟩ hno
        have := hc R hR W hW
        simp_all
      rw [hasB_and, Bool.and_eq_true] at hi1
      have hseen := (subB_iff _ _).1 hsub i hi1.1
      rcases seen_mem L 0#16 i (fun r hr => ⟨(hi.rep b' r (hL r hr)).1, by have := (hi.rep b' r (hL r hr)).2.1; omega⟩) hseen with hz | ⟨r, hr, her⟩
      · rw [hasB_zero] at hz; cases hz
      · have hacc2 := hall i hi1.2
        rw [← her] at hacc2
        have h3 := hs.s2 b' r (hL r hr) b v hacc2 (by omega)
        have h4 := (best_all L).1 r hr
        obtain ⟨r', hr', e1, e2⟩ := (best_all L).2 (by omega)
        have h5 : (bestR L).2 = v' := by
          rcases hbest with h | h
          · omega
          · exact h
        have h6 := (hi.rep b' r' (hL r' hr')).2.2.2.1
        have h7 := hs.s3 b' r' (hL r' hr') (by omega)
        have := ih r'.server r'.ballot r'.value (by omega) (by omega) h7
        rw [← h5, ← e2, this]
end Go.Proofs.YtgfjmplifmbmlaaDoor
