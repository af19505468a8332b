/- Texts laid together. Reading slices of elements of k cells. Plain lemmas over the model, no program. Layer 37, plain: reports, what they demand. single.check; transversal.Disjoint. Layer 38: families of quorums, the first clash. Minimal families are valid. Plain Lean, no program. slices.Clone of sets. slices.Clone of reports and of events. Layer 37, plain: events, the attack. Contracts of Go's library over this seat's dump: laid by the kit's shelf tools (plain mode), cut down to those that are used. single.Attack. Layer 37, plain: runs. What a list of events has done, as the program keeps it and as the reference reads it off. No program. -/
import Derived.Test.YtgfjmplifmbmlaaDoorGSingleAttack1
import Derived.Test.YtgfjmplifmbmlaaDoorGSingleAttack2
import Derived.Test.YtgfjmplifmbmlaaDoorProg
import Derived.Maps.AppendAt
import Derived.Lib.SliceRun
import Derived.Deep.OwnRows
import Derived.Lib.ItoaNum
import Derived.Shelf.Small.Bits
import Derived.Shelf.Strconv.Itoa0
import Derived.Shelf.Strconv.Itoa1
import Derived.Shelf.LaysM
import Derived.Shelf.Strconv.Itoa2
import Derived.Shelf.Strconv.Itoa3
import Derived.Shelf.Slices.CompactS
namespace Go.Proofs.YtgfjmplifmbmlaaDoor
open Go.RowKit

/-- The slice value '.slice a n c' reads, in w, as n elements of k cells, these the list l of all cells. -/
structure RdK (k : Nat) (w : World) (a : Option Addr) (n c : Nat) (l : List Value) : Prop where
  len : n * k = l.length
  le : n ≤ c
  max : c ≤ maxLen
  nil : a = none → c = 0
  at' : 0 < n → ∃ b o, a = some ⟨b, o, none⟩ ∧ ∀ i v, l[i]? = some v → w.cell? ⟨b, o + i, none⟩ = some v

theorem RdK.none_ (k : Nat) (w : World) : RdK k w none 0 0 [] := ⟨by simp, Nat.le_refl _, by simp [maxLen], fun _ => rfl, fun h => absurd h (by decide)⟩
theorem RdK.below {k : Nat} {w w' : World} {a : Option Addr} {n c : Nat} {l : List Value} (h : RdK k w a n c l) (hb : Below w.heap.size w w') : RdK k w' a n c l := by
  refine ⟨h.len, h.le, h.max, h.nil, fun hn => ?_⟩
  obtain ⟨b, o, ha, hc⟩ := h.at' hn
  refine ⟨b, o, ha, fun i v hv => ?_⟩
  have := hc i v hv
  exact (hb.cell (p := ⟨b, o + i, none⟩) (cell_lt this)).trans this
/-- a row of the call's own, elements of k cells, read -/
theorem rdK_of_row {k : Nat} {w : World} {B n : Nat} {e : TypeId} {v : Value} {l : List Value} (h : w.ownsRow B e k v n l) : ∃ a c, v = .slice a n c ∧ RdK k w a n c l := by
  have hl := h.1
  obtain ⟨h1, h2⟩ := h
  rcases h2 with ⟨rfl, h0⟩ | ⟨g, cap, cur, rfl, hb, hg, hle, hm, hs, ht⟩
  · subst h0
    obtain rfl := List.eq_nil_of_length_eq_zero (by simpa using h1)
    exact ⟨none, 0, rfl, RdK.none_ _ _⟩
  · refine ⟨some ⟨g, 0, none⟩, cap, rfl, hl.symm, hle, hm, fun h => (by cases h), fun _ => ⟨g, 0, rfl, fun i v hv => ?_⟩⟩
    have := World.ownsRow.cells (w := w) (base := B) (e := e) (size := k) (v := .slice (some ⟨g, 0, none⟩) n cap) (n := n) (xs := l) ⟨h1, .inr ⟨g, cap, cur, rfl, hb, hg, hle, hm, hs, ht⟩⟩ (g := g) rfl i v hv
    rw [Addr.add_lit] at this; simpa using this
theorem rowK_below {k : Nat} {w w' : World} {B n : Nat} {e : TypeId} {v : Value} {l : List Value} (h : w.ownsRow B e k v n l) (hb : Below w.heap.size w w') : w'.ownsRow B e k v n l := by
  obtain ⟨h1, h2⟩ := h
  refine ⟨h1, ?_⟩
  rcases h2 with h2 | ⟨g, cap, cur, hv, hb', hg, r⟩
  · exact .inl h2
  · exact .inr ⟨g, cap, cur, hv, hb', by rw [hb.block g (Array.getElem?_eq_some_iff.1 hg).1]; exact hg, r⟩
theorem rowK_mono {k : Nat} {w : World} {B B' n : Nat} {e : TypeId} {v : Value} {l : List Value} (h : w.ownsRow B e k v n l) (hs : B' ≤ B) : w.ownsRow B' e k v n l := by
  obtain ⟨h1, h2⟩ := h
  refine ⟨h1, ?_⟩
  rcases h2 with h2 | ⟨g, cap, cur, hv, hb', r⟩
  · exact .inl h2
  · exact .inr ⟨g, cap, cur, hv, Nat.le_trans hs hb', r⟩
/-- a slice literal of elements of k cells -/
theorem RdK.lit' (k : Nat) (w : World) (cs : Array Value) (e : TypeId) (n : Nat) (l : List Value) (hl : cs.toList = l) (hn : n * k = l.length) (hm : n ≤ 1000000) {b : Nat} (hb : b = w.heap.size) : RdK k (w.alloc (.cells cs e)) (some ⟨b, 0, none⟩) n n l := by
  subst hl hb
  refine ⟨hn, Nat.le_refl _, by unfold maxLen; omega, fun h => (by cases h), fun _ => ⟨_, _, rfl, fun i v hv => ?_⟩⟩
  rw [Nat.zero_add]
  exact cell_new w cs e i v (by simpa using hv)

/-- the cells of elements, one behind another -/
theorem flat_at {α : Type} (k : Nat) (enc : α → List Value) (hk : ∀ x, (enc x).length = k) : ∀ (L : List α) (i j : Nat) (x : α), L[i]? = some x → j < k → (L.flatMap enc)[i * k + j]? = (enc x)[j]? := by
  intro L
  induction L with
  | nil => intro i j x h; simp at h
  | cons y L ih =>
    intro i j x h hj
    rw [List.flatMap_cons]
    cases i with
    | zero =>
      simp at h; subst h
      rw [Nat.zero_mul, Nat.zero_add, List.getElem?_append_left (by rw [hk]; exact hj)]
    | succ i =>
      have h' : L[i]? = some x := by simpa using h
      rw [List.getElem?_append_right (by rw [hk, Nat.succ_mul]; omega), hk, show (i + 1) * k + j - k = i * k + j by rw [Nat.succ_mul]; omega]
      exact ih i j x h' hj
theorem flat_len {α : Type} (k : Nat) (enc : α → List Value) (hk : ∀ x, (enc x).length = k) (L : List α) : (L.flatMap enc).length = L.length * k := by
  induction L with
  | nil => simp
  | cons y L ih => rw [List.flatMap_cons, List.length_append, ih, hk, List.length_cons, Nat.succ_mul, Nat.add_comm]
/-- the cells of one element -/
theorem RdK.cells {k : Nat} {w : World} {a : Option Addr} {n c : Nat} {α : Type} {enc : α → List Value} {L : List α} (h : RdK k w a n c (L.flatMap enc)) (hk : ∀ x, (enc x).length = k) (hn : 0 < n) :
    ∃ b o, a = some ⟨b, o, none⟩ ∧ ∀ i x, L[i]? = some x → ∀ j, j < k → w.cell? ⟨b, o + i * k + j, none⟩ = (enc x)[j]? := by
  obtain ⟨b, o, ha, hc⟩ := h.at' hn
  refine ⟨b, o, ha, fun i x hx j hj => ?_⟩
  have h1 := flat_at k enc hk L i j x hx hj
  have h2 : (enc x)[j]? = some ((enc x)[j]'(by rw [hk]; exact hj)) := List.getElem?_eq_getElem _
  rw [h2] at h1
  rw [Nat.add_assoc, hc _ _ h1, h2]

theorem heap_set_at {w : World} {B : Nat} {cs : Array Value} {t : TypeId} {f : Nat × Nat} (h : w.heap[B]? = some (.cells cs t f)) (i : Nat) (v : Value) :
    (w.setCell ⟨B, i, none⟩ v).heap[B]? = some (.cells (cs.setIfInBounds i v) t f) := by
  unfold World.setCell; simp [Array.getElem?_modify, h]
theorem heap_alloc_at {w : World} {B : Nat} {ob : Obj} (h : w.heap[B]? = some ob) (o : Obj) : (w.alloc o).heap[B]? = some ob :=
  (Below.heap_alloc w o B (Array.getElem?_eq_some_iff.1 h).1).trans h
theorem heap_set_other {w : World} {B B' : Nat} (hne : B ≠ B') (i : Nat) (v : Value) {ob : Obj} (h : w.heap[B]? = some ob) : (w.setCell ⟨B', i, none⟩ v).heap[B]? = some ob :=
  (Below.heap_setCell _ _ _ _ hne).trans h
theorem heap_below {w w' : World} {B : Nat} {ob : Obj} (hb : Below w.heap.size w w') (h : w.heap[B]? = some ob) : w'.heap[B]? = some ob :=
  (hb.block B (Array.getElem?_eq_some_iff.1 h).1).trans h

theorem below_drew {B : Nat} {a w : World} (h : Below B a w) : Below B a w.drew := ⟨h.os, h.tape, h.output, h.size, h.block⟩
theorem below_undrew {w w' : World} (h : Below w.drew.heap.size w.drew w') : Below w.heap.size w w' := ⟨h.os, h.tape, h.output, h.size, h.block⟩
/-- three cells of an old block, kept -/
theorem keep3 {w w' : World} {B : Nat} {x y z : Value} (hb : Below w.heap.size w w') (h0 : w.cell? ⟨B, 0, none⟩ = some x) (h1 : w.cell? ⟨B, 1, none⟩ = some y) (h2 : w.cell? ⟨B, 2, none⟩ = some z) :
    w'.cell? ⟨B, 0, none⟩ = some x ∧ w'.cell? ⟨B, 1, none⟩ = some y ∧ w'.cell? ⟨B, 2, none⟩ = some z :=
  ⟨(hb.cell (p := ⟨B, 0, none⟩) (cell_lt h0)).trans h0, (hb.cell (p := ⟨B, 1, none⟩) (cell_lt h1)).trans h1, (hb.cell (p := ⟨B, 2, none⟩) (cell_lt h2)).trans h2⟩
theorem open3 {w : World} {B : Nat} {x y z : Value} {t : TypeId} (h : w.heap[B]? = some (.cells #[x, y, z] t (0, 0))) :
    (w.cell? ⟨B, 0, none⟩ = some x ∧ w.cell? ⟨B, 1, none⟩ = some y ∧ w.cell? ⟨B, 2, none⟩ = some z) ∧ w.frozen? ⟨B, 0, none⟩ = false ∧ w.frozen? ⟨B, 1, none⟩ = false ∧ w.frozen? ⟨B, 2, none⟩ = false :=
  ⟨⟨cell_of_row _ _ 0 _ _ _ h, cell_of_row _ _ 1 _ _ _ h, cell_of_row _ _ 2 _ _ _ h⟩, by simp [World.frozen?, h], by simp [World.frozen?, h], by simp [World.frozen?, h]⟩

/-- 'out = append(out, x)' on a slice of the call's own, elements of k cells: the element stands in the last block. -/
theorem wpList_appK {P : Program} {ops : Array Oper} {rest : List Oper} {o : Oper} {a : Act} {Q : Exit → Act → World → Prop} {B : Nat} {w0 wr : World} {e : TypeId} {v : Value} {l : List Value} {n : Nat}
    (k : Nat) (s xo : Operand) (t : TypeId) (bytes : Nat) (z : Value) (x : List Value) (ty : TypeId)
    (ht : P.underlying t = some (.slice e)) (hi : (P.info? e).map (fun i => (i.zero, i.size, i.bytes)) = some (some z, k, bytes)) (hz : z.cells.size = k) (hk : 0 < k)
    (hown : wr.ownsRow B e k v n l) (hb : Below B w0 wr) (hB : B ≤ w0.heap.size)
    (hg : o.guard = none) (hop : o.op = Op.call { callee := Callee.builtin Builtin.append, args := #[s, xo], argTypes := #[t, t] })
    (hs : a.eval s = v) (hx : a.eval xo = .slice (some ⟨wr.heap.size, 0, none⟩) 1 1) (hxl : x.length = k) (h1 : ∀ u ∈ x, u.oneCell' = true)
    (hlen : n + 1 ≤ maxLen) (hby : (n + 1) * bytes ≤ 140737488355328)
    (hK : ∀ v' w1, w1.ownsRow B e k v' (n + 1) (l ++ x) → Below B w0 w1 → wr.grownBy w1 v.ownBlock → wr.heap.size < w1.heap.size → wpList P ops Q rest (a.put o.dst v') w1) :
    wpList P ops Q (o :: rest) a (wr.alloc (.cells x.toArray ty)) := by
  obtain ⟨i, hi1, hi2, hi3, hi4⟩ := info_parts hi
  have hsz := hb.size
  refine wpList_append_own _ hg s xo t hop B e i z k bytes ht hi1 hi2 hi3 hi4 hz hk v n l hs (hown.alloc _) ⟨wr.heap.size, 0, none⟩ 1 1 x hx (by rw [Nat.one_mul]; exact hxl) ?_ h1 hlen hby (by simp; omega) ?_
  · intro j u hj
    rw [Addr.add_lit, Nat.zero_add]
    exact cell_new wr x.toArray ty j u (by simpa using hj)
  · intro v' w1 h2 h3 _
    have h4 := h3.size
    simp only [World.size_alloc] at h4
    refine hK v' w1 h2 ((hb.alloc (by omega) _).grown h3 (by simp; omega) fun k hk => (hown.lt k hk).1) ?_ (by omega)
    exact ⟨h3.os, h3.tape, h3.output, by omega, fun k hk hne => (h3.block k (by simp; omega) hne).trans (Below.heap_alloc wr _ k hk)⟩

/-- 'out = append(out, xs...)', elements of k cells. -/
theorem wpList_appsK {P : Program} {ops : Array Oper} {rest : List Oper} {o : Oper} {a : Act} {Q : Exit → Act → World → Prop} {B : Nat} {w0 wr : World} {e : TypeId} {v : Value} {l : List Value} {n : Nat}
    (k : Nat) (s xo : Operand) (t : TypeId) (bytes : Nat) (z : Value) (ao : Option Addr) (m c : Nat) (news : List Value)
    (ht : P.underlying t = some (.slice e)) (hi : (P.info? e).map (fun i => (i.zero, i.size, i.bytes)) = some (some z, k, bytes)) (hz : z.cells.size = k) (hk : 0 < k)
    (hown : wr.ownsRow B e k v n l) (hb : Below B w0 wr) (hB : B ≤ w0.heap.size) (hr : RdK k wr ao m c news) (h1 : ∀ u ∈ news, u.oneCell' = true)
    (hg : o.guard = none) (hop : o.op = Op.call { callee := Callee.builtin Builtin.append, args := #[s, xo], argTypes := #[t, t] })
    (hs : a.eval s = v) (hx : a.eval xo = .slice ao m c)
    (hlen : n + m ≤ maxLen) (hby : (n + m) * bytes ≤ 140737488355328)
    (hK : ∀ v' w1, w1.ownsRow B e k v' (n + m) (l ++ news) → Below B w0 w1 → wr.grownBy w1 v.ownBlock → wpList P ops Q rest (a.put o.dst v') w1) :
    wpList P ops Q (o :: rest) a wr := by
  obtain ⟨i, hi1, hi2, hi3, hi4⟩ := info_parts hi
  have hsz := hb.size
  cases ao with
  | none =>
    have hc := hr.nil rfl
    have hm : m = 0 := by have := hr.le; omega
    subst hc hm
    have hnil : news = [] := List.eq_nil_of_length_eq_zero (by rw [← hr.len, Nat.zero_mul])
    subst hnil
    exact wpList_append_own_none hg s xo t hop B e i k ht hi1 v n l hs hown hx (hK v wr (by simpa using hown) hb (World.grownBy.refl _ _))
  | some ad =>
    refine wpList_append_own _ hg s xo t hop B e i z k bytes ht hi1 hi2 hi3 hi4 hz hk v n l hs hown ad m c news hx hr.len.symm ?_ h1 hlen hby (by omega) ?_
    · intro j u hj
      have hj' := (List.getElem?_eq_some_iff.1 hj).1
      have hm0 : 0 < m := by
        apply Nat.pos_of_ne_zero
        intro h0
        have := hr.len
        rw [h0, Nat.zero_mul] at this; omega
      obtain ⟨b, of, ha, hcell⟩ := hr.at' hm0
      cases ha
      rw [Addr.add_lit]
      exact hcell j u hj
    · intro v' w1 h2 h3 _
      exact hK v' w1 h2 (hb.grown h3 (by omega) fun k hk => (hown.lt k hk).1) h3
/-- the row of a slice being built does not lie where another is read -/
def Clear (n : Nat) (v : Value) (a : Option Addr) : Prop := 0 < n → ∀ b o, a = some ⟨b, o, none⟩ → v.ownBlock ≠ some b
theorem Rd.grown {w w' : World} {a : Option Addr} {n c : Nat} {l : List Value} {v : Value} (h : Rd w a n c l) (hg : w.grownBy w' v.ownBlock) (hc : Clear n v a) : Rd w' a n c l := by
  refine ⟨h.len, h.le, h.max, h.nil, fun hn => ?_⟩
  obtain ⟨b, o, ha, hcell⟩ := h.at' hn
  exact ⟨b, o, ha, fun i x hx => hg.cell (hcell i x hx) (fun e => hc hn b o ha e.symm)⟩
theorem RdK.grown {k : Nat} {w w' : World} {a : Option Addr} {n c : Nat} {l : List Value} {v : Value} (h : RdK k w a n c l) (hg : w.grownBy w' v.ownBlock) (hc : Clear n v a) : RdK k w' a n c l := by
  refine ⟨h.len, h.le, h.max, h.nil, fun hn => ?_⟩
  obtain ⟨b, o, ha, hcell⟩ := h.at' hn
  exact ⟨b, o, ha, fun i x hx => hg.cell (hcell i x hx) (fun e => hc hn b o ha e.symm)⟩
theorem Clear.step {w : World} {a : Option Addr} {n c : Nat} {l : List Value} {v v' : Value} (h : Clear n v a) (hr : Rd w a n c l) (hv : ∀ g, v'.ownBlock = some g → v.ownBlock = some g ∨ w.heap.size ≤ g) : Clear n v' a := by
  intro hn b o ha e
  rcases hv b e with h1 | h1
  · exact h hn b o ha h1
  · obtain ⟨b', o', ha', hcell⟩ := hr.at' hn
    rw [ha] at ha'; cases ha'
    have hl := hr.len
    have := cell_lt (hcell 0 _ (List.getElem?_eq_getElem (show 0 < l.length by omega)))
    omega
theorem Clear.fresh {w : World} {B k n m c : Nat} {e : TypeId} {v : Value} {xs : List Value} {b o : Nat} (h : w.ownsRow B e k v m xs) (hb : w.heap.size ≤ b) : Clear n v (some ⟨b, o, none⟩) := by
  intro _ b' o' ha e
  cases ha
  have := (h.lt b e).2
  omega

theorem Clear.own {w w1 : World} {B k m n c : Nat} {e e' : TypeId} {v : Value} {xs l : List Value} {am : Option Addr} (hmo : Own w w1 e (.slice am n c) l) (h : w.ownsRow B e' k v m xs) : Clear n v am := by
  intro hn b o ha he
  rcases hmo.2 with ⟨h0, _⟩ | ⟨g, cap, cur, h0, hg, _⟩
  · injection h0 with h1; rw [ha] at h1; cases h1
  · injection h0 with h1
    rw [ha] at h1
    injection h1 with h1
    injection h1 with h1
    have := (h.lt _ he).2
    omega

/-- 'out = append(out, x)', and where the new row lies. -/
theorem wpList_appK2 {P : Program} {ops : Array Oper} {rest : List Oper} {o : Oper} {a : Act} {Q : Exit → Act → World → Prop} {B : Nat} {w0 wr : World} {e : TypeId} {v : Value} {l : List Value} {n : Nat}
    (k : Nat) (s xo : Operand) (t : TypeId) (bytes : Nat) (z : Value) (x : List Value) (ty : TypeId)
    (ht : P.underlying t = some (.slice e)) (hi : (P.info? e).map (fun i => (i.zero, i.size, i.bytes)) = some (some z, k, bytes)) (hz : z.cells.size = k) (hk : 0 < k)
    (hown : wr.ownsRow B e k v n l) (hb : Below B w0 wr) (hB : B ≤ w0.heap.size)
    (hg : o.guard = none) (hop : o.op = Op.call { callee := Callee.builtin Builtin.append, args := #[s, xo], argTypes := #[t, t] })
    (hs : a.eval s = v) (hx : a.eval xo = .slice (some ⟨wr.heap.size, 0, none⟩) 1 1) (hxl : x.length = k) (h1 : ∀ u ∈ x, u.oneCell' = true)
    (hlen : n + 1 ≤ maxLen) (hby : (n + 1) * bytes ≤ 140737488355328)
    (hK : ∀ v' w1, w1.ownsRow B e k v' (n + 1) (l ++ x) → Below B w0 w1 → wr.grownBy w1 v.ownBlock → wr.heap.size < w1.heap.size → (∀ g, v'.ownBlock = some g → v.ownBlock = some g ∨ wr.heap.size ≤ g) → wpList P ops Q rest (a.put o.dst v') w1) :
    wpList P ops Q (o :: rest) a (wr.alloc (.cells x.toArray ty)) := by
  obtain ⟨i, hi1, hi2, hi3, hi4⟩ := info_parts hi
  have hsz := hb.size
  refine wpList_append_own_at _ hg s xo t hop B e i z k bytes ht hi1 hi2 hi3 hi4 hz hk v n l hs (hown.alloc _) ⟨wr.heap.size, 0, none⟩ 1 1 x hx (by rw [Nat.one_mul]; exact hxl) ?_ h1 hlen hby (by simp; omega) ?_
  · intro j u hj
    rw [Addr.add_lit, Nat.zero_add]
    exact cell_new wr x.toArray ty j u (by simpa using hj)
  · intro v' w1 h2 h3 _ h5
    have h4 := h3.size
    simp only [World.size_alloc] at h4
    refine hK v' w1 h2 ((hb.alloc (by omega) _).grown h3 (by simp; omega) fun k hk => (hown.lt k hk).1) ?_ (by omega) ?_
    · exact ⟨h3.os, h3.tape, h3.output, by omega, fun k hk hne => (h3.block k (by simp; omega) hne).trans (Below.heap_alloc wr _ k hk)⟩
    · intro g hg
      rcases h5 with h5 | h5
      · exact .inl (h5 ▸ hg)
      · rw [h5] at hg; simp at hg; omega
end Go.Proofs.YtgfjmplifmbmlaaDoor
namespace Go.Proofs.YtgfjmplifmbmlaaDoor

structure Rep where
  server : Int
  ballot : Int
  value : ByteArray
def repC (r : Rep) : List Value := [.int .i64 r.server, .int .i64 r.ballot, .string r.value]
theorem repC_len (r : Rep) : (repC r).length = 3 := rfl

/-- a report that is not allowed behind those of some servers -/
def badR (ballot : Int) (seen : BitVec 16) (r : Rep) : Bool := decide (r.server < 0) || decide (12 ≤ r.server) || decide (r.ballot < 0) || decide (ballot ≤ r.ballot) || hasB seen r.server.toNat
def seeR (seen : BitVec 16) (r : Rep) : BitVec 16 := seen ||| bitS r.server.toNat
/-- some report is not allowed -/
def invR (ballot : Int) : BitVec 16 → List Rep → Bool
  | _, [] => false
  | s, r :: l => badR ballot s r || invR ballot (seeR s r) l
def seenR (l : List Rep) : BitVec 16 := l.foldl seeR 0#16
def stepR (b : Int × ByteArray) (r : Rep) : Int × ByteArray := if b.1 < r.ballot then (r.ballot, r.value) else b
def bestR (l : List Rep) : Int × ByteArray := l.foldl stepR (0, ⟨#[]⟩)

def pickS (read : List (BitVec 16)) (ballot : Int) (l : List Rep) : ByteArray × Int :=
  if ballot < 1 then (⟨#[]⟩, 1) else if invR ballot 0#16 l then (⟨#[]⟩, 1) else if accS read (seenR l) = false then (⟨#[]⟩, 10) else if (bestR l).1 = 0 then (⟨#[]⟩, 4) else ((bestR l).2, 0)

theorem seenR_take {l : List Rep} {k : Nat} {r : Rep} (h : l[k]? = some r) : seenR (l.take (k + 1)) = seeR (seenR (l.take k)) r := by
  unfold seenR; rw [List.take_add_one, h]; simp
theorem bestR_take {l : List Rep} {k : Nat} {r : Rep} (h : l[k]? = some r) : bestR (l.take (k + 1)) = stepR (bestR (l.take k)) r := by
  unfold bestR; rw [List.take_add_one, h]; simp
theorem invR_app (b : Int) : ∀ (p q : List Rep) (s : BitVec 16), invR b s (p ++ q) = (invR b s p || invR b (p.foldl seeR s) q) := by
  intro p
  induction p with
  | nil => intro q s; simp [invR]
  | cons r p ih => intro q s; rw [List.cons_append, invR, invR, ih, List.foldl_cons, Bool.or_assoc]
theorem invR_take {b : Int} {l : List Rep} {k : Nat} {r : Rep} (h : l[k]? = some r) (h0 : invR b 0#16 (l.take k) = false) :
    invR b 0#16 (l.take (k + 1)) = badR b (seenR (l.take k)) r ∧ (badR b (seenR (l.take k)) r = true → invR b 0#16 l = true) := by
  have e : invR b 0#16 (l.take (k + 1)) = badR b (seenR (l.take k)) r := by
    rw [List.take_add_one, h, invR_app, h0]
    simp [invR, seenR]
  refine ⟨e, fun hb => ?_⟩
  rw [← List.take_append_drop (k + 1) l, invR_app, e, hb]; rfl
/-- in an allowed list the servers are in range, and the ballots not negative -/
theorem invR_ok {b : Int} : ∀ {l : List Rep} {s : BitVec 16}, invR b s l = false → ∀ r ∈ l, 0 ≤ r.server ∧ r.server < 12 ∧ 0 ≤ r.ballot ∧ r.ballot < b := by
  intro l
  induction l with
  | nil => intro s _ r hr; cases hr
  | cons x l ih =>
    intro s h r hr
    rw [invR, Bool.or_eq_false_iff] at h
    rcases List.mem_cons.1 hr with rfl | hr
    · have := h.1
      unfold badR at this
      simp only [Bool.or_eq_false_iff, decide_eq_false_iff_not] at this
      omega
    · exact ih h.2 r hr
theorem bestR_ge (l : List Rep) : 0 ≤ (bestR l).1 := by
  unfold bestR
  have : ∀ (l : List Rep) (b : Int × ByteArray), 0 ≤ b.1 → 0 ≤ (l.foldl stepR b).1 := by
    intro l
    induction l with
    | nil => intro b h; exact h
    | cons r l ih =>
      intro b h
      rw [List.foldl_cons]
      apply ih
      unfold stepR
      split
      · show 0 ≤ r.ballot; omega
      · exact h
  exact this l _ (by decide)
end Go.Proofs.YtgfjmplifmbmlaaDoor
namespace Go.Proofs.YtgfjmplifmbmlaaDoor
open Go.RowKit Go.Shelf

/-- a slice of lists of sets -/
def RdSS (w : World) (a : Option Addr) (n c : Nat) (Ls : List (List (BitVec 16))) : Prop :=
  ∃ vs : List Value, Rd w a n c vs ∧ vs.length = Ls.length ∧ ∀ (i : Nat) (L : List (BitVec 16)), Ls[i]? = some L → ∃ a' n' c', vs[i]? = some (Value.slice a' n' c') ∧ Rd w a' n' c' (L.map setV2)
theorem RdSS.below {w w' : World} {a : Option Addr} {n c : Nat} {Ls : List (List (BitVec 16))} (h : RdSS w a n c Ls) (hb : Below w.heap.size w w') : RdSS w' a n c Ls := by
  obtain ⟨vs, h1, h2, h3⟩ := h
  refine ⟨vs, h1.below hb, h2, fun i L hi => ?_⟩
  obtain ⟨a', n', c', e, hr⟩ := h3 i L hi
  exact ⟨a', n', c', e, hr.below hb⟩
theorem RdSS.len {w : World} {a : Option Addr} {n c : Nat} {Ls : List (List (BitVec 16))} (h : RdSS w a n c Ls) : Ls.length = n ∧ n ≤ c ∧ c ≤ 2 ^ 63 - 1 := by
  obtain ⟨vs, h1, h2, _⟩ := h
  have := h1.len; have := h1.le; have h3 := h1.max; unfold maxLen at h3
  omega
theorem RdSS.get {w : World} {a : Option Addr} {n c : Nat} {Ls : List (List (BitVec 16))} (h : RdSS w a n c Ls) {i : Nat} {L : List (BitVec 16)} (hi : Ls[i]? = some L) :
    ∃ b o a' n' c', a = some ⟨b, o, none⟩ ∧ w.cell? ⟨b, o + i, none⟩ = some (.slice a' n' c') ∧ Rd w a' n' c' (L.map setV2) := by
  obtain ⟨vs, h1, h2, h3⟩ := h
  obtain ⟨a', n', c', e, hr⟩ := h3 i L hi
  have hlt := (List.getElem?_eq_some_iff.1 e).1
  obtain ⟨b, o, ha, hc⟩ := h1.at' (by have := h1.len; omega)
  exact ⟨b, o, a', n', c', ha, hc i _ e, hr⟩

/-- what single.check finds -/
def hasZ (f : List (BitVec 16)) : Bool := f.any fun x => 0#16 == x
def offB (m : Nat) (f : List (BitVec 16)) : Bool := shrS (supS f) m != 0#16
def chkS (n : Int) (Ls : List (List (BitVec 16))) : Int :=
  if n < 1 ∨ 12 < n then 7 else if firstE (fun j => valS (Ls.getD j [])) Ls.length ≠ 0 then firstE (fun j => valS (Ls.getD j [])) Ls.length
  else if Ls.any (offB n.toNat) then 7 else if Ls.any hasZ then 9 else 0

theorem anyL_hit {α : Type} {p : α → Bool} {l : List α} {k : Nat} {x : α} (h : l[k]? = some x) (hp : p x = true) : l.any p = true :=
  List.any_eq_true.2 ⟨x, List.mem_of_getElem? h, hp⟩
theorem anyL_none {α : Type} {p : α → Bool} {l : List α} (h : ∀ (j : Nat) (x : α), l[j]? = some x → p x = false) : l.any p = false := by
  rw [Bool.eq_false_iff]
  intro hc
  obtain ⟨x, hx, hp⟩ := List.any_eq_true.1 hc
  obtain ⟨j, hj⟩ := List.mem_iff_getElem?.1 hx
  rw [h j x hj] at hp; cases hp

set_option maxRecDepth 100000 in
set_option maxHeartbeats 2000000 in
theorem check_c (nn : Int) (Ls : List (List (BitVec 16))) (a : Option Addr) (n c : Nat) (w : World) (h : RdSS w a n c Ls) :
    Calls Tryd.prog 35 #[.int .i64 nn, .slice a n c] w fun e w' => e = .returned (.int .i64 (chkS nn Ls)) ∧ Below w.heap.size w w' := by
  obtain ⟨hnl, hle, hm⟩ := h.len
  have HR := Lib.hid h
  have HN := Lib.hid hnl
  clear h hnl
  by_cases h1 : nn < 1
  · have hV : Hid (chkS nn Ls = 7) := by show _ = _; unfold chkS; rw [if_pos (.inl h1)]
    go_enter Tryd.func35, Tryd.ntmps35
    go_wp2_with fail
    go_ret
    exact ⟨by rw [hV.out]; rfl, Below.refl _ _⟩
  · by_cases h2 : 12 < nn
    · have hV : Hid (chkS nn Ls = 7) := by show _ = _; unfold chkS; rw [if_pos (.inr h2)]
      go_enter Tryd.func35, Tryd.ntmps35
      go_wp2_with fail
      go_ret
      exact ⟨by rw [hV.out]; rfl, Below.refl _ _⟩
    · obtain ⟨m, rfl⟩ := Int.eq_ofNat_of_zero_le (by omega : 0 ≤ nn)
      have hC : Hid (chkS m Ls = if firstE (fun j => valS (Ls.getD j [])) Ls.length ≠ 0 then firstE (fun j => valS (Ls.getD j [])) Ls.length
          else if Ls.any (offB m) then 7 else if Ls.any hasZ then 9 else 0) := by
        show _ = _; unfold chkS; rw [if_neg (by omega)]; rfl
      go_enter Tryd.func35, Tryd.ntmps35
      go_wp2_with fail
      go_loopw [20] (fun i wr => ∃ k : Nat, k ≤ n ∧ i = .int .i64 k ∧ Hid (∀ j, j < k → valS (Ls.getD j []) = 0) ∧ Below w.heap.size w wr) (fun i _ => n - (intOf i).toNat)
      case atStart => exact ⟨0, Nat.zero_le _, rfl, Lib.hid (fun j hj => by omega), Below.refl _ _⟩
      case round =>
        obtain ⟨k, hk, rfl, hno, hb⟩ := hrel
        by_cases hlt : k < n
        · obtain ⟨L, hL⟩ : ∃ L, Ls[k]? = some L := ⟨Ls[k]'(by have := HN.out; omega), List.getElem?_eq_getElem _⟩
          have hgd : Ls.getD k [] = L := by simp [List.getD, hL]
          obtain ⟨b, o, a', n', c', ha, hc, hr⟩ := (HR.out.below hb).get hL
          subst ha
          have HV := Lib.hid (valid_c L a' n' c' wr hr)
          by_cases hv : valS L = 0
          · have hno' : Hid (∀ j, j < k + 1 → valS (Ls.getD j []) = 0) := Lib.hid (fun j hj => by
              by_cases h1 : j < k
              · exact hno.out j h1
              · obtain rfl : j = k := by omega
                rw [hgd]; exact hv)
            rw [hv] at HV
            clear hno hL hgd hr hv
            go_wp2_with fail
            refine HV.out.mono ?_
            rintro e w1 ⟨rfl, hb2⟩
            have hb3 := Below.next hb hb2
            clear hb hb2
            go_wp2_with fail
            go_roundw
            case rel => exact ⟨k + 1, by omega, by go_num, hno', hb3⟩
            case measure => simp [intOf]; omega
          · have hE : Hid (chkS m Ls = valS L) := by
              show _ = _
              have := firstE_hit (fun j => valS (Ls.getD j [])) Ls.length k (by have := HN.out; omega) hno.out (by show valS (Ls.getD k []) ≠ 0; rw [hgd]; exact hv)
              rw [hC.out, this, hgd, if_pos hv]
            obtain ⟨v, hvv⟩ : ∃ v, valS L = v := ⟨_, rfl⟩
            rw [hvv] at HV hE hv
            have hv1 : (v != 0) = true := by simpa using hv
            clear hno hL hgd hr hv hvv
            go_wp2_with fail
            refine HV.out.mono ?_
            rintro e w1 ⟨rfl, hb2⟩
            have hb3 := Below.next hb hb2
            clear hb hb2
            go_wp2_with fail
            go_ret
            exact ⟨by rw [hE.out]; rfl, hb3⟩
        · have hF : Hid (firstE (fun j => valS (Ls.getD j [])) Ls.length = 0) := firstE_none _ _ (fun j hj => hno.out j (by have := HN.out; omega))
          have hC2 : Hid (chkS m Ls = if Ls.any (offB m) then 7 else if Ls.any hasZ then 9 else 0) := by
            show _ = _; rw [hC.out, hF.out]; rfl
          clear hno hF hC
          go_wp2_with fail
          go_loopw [32] (fun i wr => ∃ k : Nat, k ≤ n ∧ i = .int .i64 k ∧ Hid (∀ (j : Nat) (L : List (BitVec 16)), j < k → Ls[j]? = some L → offB m L = false) ∧ Below w.heap.size w wr) (fun i _ => n - (intOf i).toNat)
          case atStart => exact ⟨0, Nat.zero_le _, rfl, Lib.hid (fun j L hj => by omega), hb⟩
          case round =>
            clear hb
            obtain ⟨k, hk, rfl, hno, hb⟩ := hrel
            by_cases hlt2 : k < n
            · obtain ⟨L, hL⟩ : ∃ L, Ls[k]? = some L := ⟨Ls[k]'(by have := HN.out; omega), List.getElem?_eq_getElem _⟩
              obtain ⟨b, o, a', n', c', ha, hc, hr⟩ := (HR.out.below hb).get hL
              subst ha
              have HV := Lib.hid (support_c L a' n' c' wr hr)
              cases ho : offB m L
              · have hno' : Hid (∀ (j : Nat) (L : List (BitVec 16)), j < k + 1 → Ls[j]? = some L → offB m L = false) := Lib.hid (fun j L' hj hj' => by
                  by_cases h1 : j < k
                  · exact hno.out j L' h1 hj'
                  · obtain rfl : j = k := by omega
                    rw [hL] at hj'; cases hj'; exact ho)
                unfold offB at ho
                obtain ⟨sv, hsv⟩ : ∃ s, supS L = s := ⟨_, rfl⟩
                rw [hsv] at HV ho
                clear hno hL hr hsv
                go_wp2_with fail
                refine HV.out.mono ?_
                rintro e w1 ⟨rfl, rfl⟩
                go_wp2_with fail
                go_roundw
                case rel => exact ⟨k + 1, by omega, by go_num, hno', hb⟩
                case measure => simp [intOf]; omega
              · have hE : Hid (chkS m Ls = 7) := by show _ = _; rw [hC2.out, if_pos (anyL_hit hL ho)]
                unfold offB at ho
                obtain ⟨sv, hsv⟩ : ∃ s, supS L = s := ⟨_, rfl⟩
                rw [hsv] at HV ho
                clear hno hL hr hsv
                go_wp2_with fail
                refine HV.out.mono ?_
                rintro e w1 ⟨rfl, rfl⟩
                go_wp2_with fail
                go_ret
                exact ⟨by rw [hE.out]; rfl, hb⟩
            · have hC3 : Hid (chkS m Ls = if Ls.any hasZ then 9 else 0) := by
                show _ = _; rw [hC2.out, anyL_none (fun j L hL => hno.out j L (by have := (List.getElem?_eq_some_iff.1 hL).1; have := HN.out; omega) hL)]; rfl
              clear hno hC2
              go_wp2_with fail
              go_loopw [44] (fun i wr => ∃ k : Nat, k ≤ n ∧ i = .int .i64 k ∧ Hid (∀ (j : Nat) (L : List (BitVec 16)), j < k → Ls[j]? = some L → hasZ L = false) ∧ Below w.heap.size w wr) (fun i _ => n - (intOf i).toNat)
              case atStart => exact ⟨0, Nat.zero_le _, rfl, Lib.hid (fun j L hj => by omega), hb⟩
              case round =>
                clear hb
                obtain ⟨k, hk, rfl, hno, hb⟩ := hrel
                by_cases hlt3 : k < n
                · obtain ⟨L, hL⟩ : ∃ L, Ls[k]? = some L := ⟨Ls[k]'(by have := HN.out; omega), List.getElem?_eq_getElem _⟩
                  obtain ⟨b, o, a', n', c', ha, hc, hr⟩ := (HR.out.below hb).get hL
                  subst ha
                  have HV : Hid (Calls Tryd.prog 57 #[.slice a' n' c', .int .u16 0] wr fun e w' => e = .returned (.bool (hasZ L)) ∧ w' = wr) := Lib.hid (containsv_c L 0#16 a' n' c' wr hr)
                  cases ho : hasZ L
                  · have hno' : Hid (∀ (j : Nat) (L : List (BitVec 16)), j < k + 1 → Ls[j]? = some L → hasZ L = false) := Lib.hid (fun j L' hj hj' => by
                      by_cases h1 : j < k
                      · exact hno.out j L' h1 hj'
                      · obtain rfl : j = k := by omega
                        rw [hL] at hj'; cases hj'; exact ho)
                    rw [ho] at HV
                    clear hno hL hr ho
                    go_wp2_with fail
                    refine HV.out.mono ?_
                    rintro e w1 ⟨rfl, rfl⟩
                    go_wp2_with fail
                    go_roundw
                    case rel => exact ⟨k + 1, by omega, by go_num, hno', hb⟩
                    case measure => simp [intOf]; omega
                  · have hE : Hid (chkS m Ls = 9) := by show _ = _; rw [hC3.out, if_pos (anyL_hit hL ho)]
                    rw [ho] at HV
                    clear hno hL hr ho
                    go_wp2_with fail
                    refine HV.out.mono ?_
                    rintro e w1 ⟨rfl, rfl⟩
                    go_wp2_with fail
                    go_ret
                    exact ⟨by rw [hE.out]; rfl, hb⟩
                · have hE : Hid (chkS m Ls = 0) := by
                    show _ = _; rw [hC3.out, anyL_none (fun j L hL => hno.out j L (by have := (List.getElem?_eq_some_iff.1 hL).1; have := HN.out; omega) hL)]; rfl
                  clear hno
                  go_wp2_with fail
                  go_ret
                  exact ⟨by rw [hE.out]; rfl, hb⟩

/-- the first disjoint pair -/
def disS (f g : List (BitVec 16)) : Option (BitVec 16 × BitVec 16) :=
  (f.flatMap fun x => g.map fun y => (x, y)).find? fun p => p.1 &&& p.2 == 0#16
theorem dis_row (x : BitVec 16) (g : List (BitVec 16)) (k : Nat) (h : ∀ j, j < k → (x &&& g.getD j 0#16 == 0#16) = false) (hk : k ≤ g.length) : (g.map fun y => (x, y)).find? (fun p => p.1 &&& p.2 == 0#16) = ((g.drop k).map fun y => (x, y)).find? (fun p => p.1 &&& p.2 == 0#16) := by
  have e : (g.map fun y => (x, y)) = ((g.take k).map fun y => (x, y)) ++ ((g.drop k).map fun y => (x, y)) := by rw [← List.map_append, List.take_append_drop]
  rw [e, List.find?_append]
  rw [List.find?_eq_none.2]
  · rfl
  · intro p hp
    obtain ⟨y, hy, rfl⟩ := List.mem_map.1 hp
    obtain ⟨j, hj, rfl⟩ := List.mem_iff_getElem.1 hy
    rw [List.length_take] at hj
    have := h j (by omega)
    rw [getD_at (by omega)] at this
    rw [List.getElem_take]
    simpa using this
theorem disS_drop (f g : List (BitVec 16)) (k : Nat) (h : ∀ j, j < k → ∀ i, i < g.length → (f.getD j 0#16 &&& g.getD i 0#16 == 0#16) = false) (hk : k ≤ f.length) : disS f g = disS (f.drop k) g := by
  unfold disS
  have e : (f.flatMap fun x => g.map fun y => (x, y)) = ((f.take k).flatMap fun x => g.map fun y => (x, y)) ++ ((f.drop k).flatMap fun x => g.map fun y => (x, y)) := by rw [← List.flatMap_append, List.take_append_drop]
  rw [e, List.find?_append]
  rw [List.find?_eq_none.2]
  · rfl
  · intro p hp
    obtain ⟨x, hx, hp⟩ := List.mem_flatMap.1 hp
    obtain ⟨y, hy, rfl⟩ := List.mem_map.1 hp
    obtain ⟨j, hj, rfl⟩ := List.mem_iff_getElem.1 hx
    obtain ⟨i, hi, rfl⟩ := List.mem_iff_getElem.1 hy
    rw [List.length_take] at hj
    have := h j (by omega) i hi
    rw [getD_at (by omega), getD_at hi] at this
    rw [List.getElem_take]
    simpa using this
theorem disS_none (f g : List (BitVec 16)) (h : ∀ j, j < f.length → ∀ i, i < g.length → (f.getD j 0#16 &&& g.getD i 0#16 == 0#16) = false) : disS f g = none := by
  rw [disS_drop f g f.length h (Nat.le_refl _), List.drop_length]; rfl
theorem disS_hit (f g : List (BitVec 16)) (k i : Nat) (hk : k < f.length) (hi : i < g.length) (h : ∀ j, j < k → ∀ i, i < g.length → (f.getD j 0#16 &&& g.getD i 0#16 == 0#16) = false) (h2 : ∀ j, j < i → (f.getD k 0#16 &&& g.getD j 0#16 == 0#16) = false)
    (h3 : (f.getD k 0#16 &&& g.getD i 0#16 == 0#16) = true) : disS f g = some (f.getD k 0#16, g.getD i 0#16) := by
  rw [disS_drop f g k h (by omega)]
  unfold disS
  rw [List.drop_eq_getElem_cons hk, List.flatMap_cons, List.find?_append, ← getD_at hk, dis_row _ _ i h2 (by omega), List.drop_eq_getElem_cons hi, ← getD_at hi, List.map_cons, List.find?_cons]
  simp only [h3]
  rfl
def disT (f g : List (BitVec 16)) : BitVec 16 × BitVec 16 × Int := match disS f g with | some (x, y) => (x, y, 0) | none => (0#16, 0#16, 13)

set_option maxRecDepth 100000 in
set_option maxHeartbeats 2000000 in
theorem disjoint_c (f g : List (BitVec 16)) (a : Option Addr) (n c : Nat) (a2 : Option Addr) (n2 c2 : Nat) (w : World) (h : Rd w a n c (f.map setV2)) (h2 : Rd w a2 n2 c2 (g.map setV2)) :
    Calls Tryd.prog 41 #[.slice a n c, .slice a2 n2 c2] w fun e w' => e = .returned (.tuple #[.int .u16 (U (disT f g).1), .int .u16 (U (disT f g).2.1), .int .i64 (disT f g).2.2]) ∧ w' = w := by
  have hnl : f.length = n := by have := h.len; simp at this; omega
  have hnl2 : g.length = n2 := by have := h2.len; simp at this; omega
  have hm := h.max
  have hle := h.le
  have hm2 := h2.max
  have hle2 := h2.le
  unfold maxLen at hm hm2
  have HR := Lib.hid h
  have HN := Lib.hid hnl
  have HR2 := Lib.hid h2
  have HN2 := Lib.hid hnl2
  clear h hnl h2 hnl2
  go_enter Tryd.func41, Tryd.ntmps41
  go_wp2_with fail
  go_loop [13] (fun i => ∃ k : Nat, k ≤ n ∧ i = .int .i64 k ∧ Hid (∀ j, j < k → ∀ i, i < g.length → (f.getD j 0#16 &&& g.getD i 0#16 == 0#16) = false)) (fun i => n - (intOf i).toNat)
  case atStart => exact ⟨0, Nat.zero_le _, rfl, Lib.hid (fun j hj => by omega)⟩
  case round =>
    obtain ⟨k, hk, rfl, hno⟩ := hrel
    by_cases hlt : k < n
    · obtain ⟨b, o, ha, hcell⟩ := HR.out.at' (by omega)
      have hc := hcell k _ (at_cell (by have := HN.out; omega))
      obtain ⟨x, hx⟩ : ∃ x, f.getD k 0#16 = x := ⟨_, rfl⟩
      rw [hx] at hc
      have HX := Lib.hid hx
      subst ha
      clear hcell hx
      go_wp2_with fail
      go_loop [19] (fun i => ∃ j : Nat, j ≤ n2 ∧ i = .int .i64 j ∧ Hid (∀ i, i < j → (x &&& g.getD i 0#16 == 0#16) = false)) (fun i => n2 - (intOf i).toNat)
      case atStart => exact ⟨0, Nat.zero_le _, rfl, Lib.hid (fun j hj => by omega)⟩
      case round =>
        obtain ⟨j, hj, rfl, hno2⟩ := hrel
        by_cases hlt2 : j < n2
        · obtain ⟨b2, o2, ha2, hcell2⟩ := HR2.out.at' (by omega)
          have hc2 := hcell2 j _ (at_cell (by have := HN2.out; omega))
          obtain ⟨y, hy⟩ : ∃ y, g.getD j 0#16 = y := ⟨_, rfl⟩
          rw [hy] at hc2
          subst ha2
          cases hq : (x &&& y == 0#16)
          · have hno3 : Hid (∀ i, i < j + 1 → (x &&& g.getD i 0#16 == 0#16) = false) := Lib.hid (fun i hi => by
              by_cases h1 : i < j
              · exact hno2.out i h1
              · obtain rfl : i = j := by omega
                rw [hy]; exact hq)
            clear hcell2 hno2 hy
            go_wp2_with fail
            go_round
            case rel => exact ⟨j + 1, by omega, by go_num, hno3⟩
            case measure => simp [intOf]; omega
          · have hD : Hid (disT f g = (x, y, 0)) := by
              show _ = _
              unfold disT
              rw [disS_hit f g k j (by have := HN.out; omega) (by have := HN2.out; omega) hno.out (by rw [HX.out]; exact hno2.out) (by rw [HX.out, hy]; exact hq), HX.out, hy]
            clear hcell2 hno2 hy hno
            go_wp2_with fail
            exact bodyPost_ret (v := .tuple #[.int .u16 (U x), .int .u16 (U y), .int .i64 0]) (by simp [results, Tryd.results41, go_sem]) rfl ⟨by rw [hD.out], rfl⟩
        · have hno3 : Hid (∀ j, j < k + 1 → ∀ i, i < g.length → (f.getD j 0#16 &&& g.getD i 0#16 == 0#16) = false) := Lib.hid (fun j' hj' i hi => by
            by_cases h1 : j' < k
            · exact hno.out j' h1 i hi
            · obtain rfl : j' = k := by omega
              rw [HX.out]; exact hno2.out i (by have := HN2.out; omega))
          clear hno hno2
          go_wp2_with fail
          go_round
          case rel => exact ⟨k + 1, by omega, by go_num, hno3⟩
          case measure => simp [intOf]; omega
    · have hD : Hid (disT f g = (0#16, 0#16, 13)) := by
        show _ = _
        unfold disT
        rw [disS_none f g (fun j hj => hno.out j (by have := HN.out; omega))]
      clear hno
      go_wp2_with fail
      exact bodyPost_ret (v := .tuple #[.int .u16 0, .int .u16 0, .int .i64 13]) (by simp [results, Tryd.results41, go_sem]) rfl ⟨by rw [hD.out]; rfl, rfl⟩
end Go.Proofs.YtgfjmplifmbmlaaDoor
namespace Go.Proofs.YtgfjmplifmbmlaaDoor
open Go.RowKit Go.Shelf

theorem fs_hit {α β : Type} {f : α → Option β} {l : List α} {k : Nat} {x : α} {y : β} (hx : l[k]? = some x) (h : ∀ (j : Nat) (z : α), j < k → l[j]? = some z → f z = none) (hy : f x = some y) : l.findSome? f = some y := by
  obtain ⟨hk, hxe⟩ := List.getElem?_eq_some_iff.1 hx
  have e : l = l.take k ++ x :: l.drop (k + 1) := by
    rw [← hxe, ← List.drop_eq_getElem_cons hk, List.take_append_drop]
  rw [e, List.findSome?_append, List.findSome?_cons, hy]
  rw [List.findSome?_eq_none_iff.2]
  · rfl
  · intro z hz
    obtain ⟨j, hj⟩ := List.mem_iff_getElem?.1 hz
    have hjl := (List.getElem?_eq_some_iff.1 hj).1
    rw [List.length_take] at hjl
    rw [List.getElem?_take_of_lt (by omega)] at hj
    exact h j z (by omega) hj
theorem fs_none {α β : Type} {f : α → Option β} {l : List α} (h : ∀ (j : Nat) (z : α), l[j]? = some z → f z = none) : l.findSome? f = none := by
  rw [List.findSome?_eq_none_iff]
  intro z hz
  obtain ⟨j, hj⟩ := List.mem_iff_getElem?.1 hz
  exact h j z hj

/-- the error of a family of quorums, of two -/
def quoS (f : List (BitVec 16)) : Int := if valS f ≠ 0 then valS f else if hasZ f then 9 else 0
def botS (f g : List (BitVec 16)) : Int := if quoS f ≠ 0 then quoS f else quoS g
/-- three sets without a common server -/
def tri (a b r : BitVec 16) : Bool := a &&& b &&& r == 0#16
def claB (read : List (BitVec 16)) (a b : BitVec 16) : Option (BitVec 16 × BitVec 16 × BitVec 16) := (read.find? fun r => tri a b r).map fun r => (a, b, r)
def claA (read fast : List (BitVec 16)) (a : BitVec 16) : Option (BitVec 16 × BitVec 16 × BitVec 16) := fast.findSome? fun b => claB read a b
def claS (read fast : List (BitVec 16)) : Option (BitVec 16 × BitVec 16 × BitVec 16) := fast.findSome? fun a => claA read fast a
def claM : Option (BitVec 16 × BitVec 16 × BitVec 16) → BitVec 16 × BitVec 16 × BitVec 16 × Int
  | some (a, b, r) => (a, b, r, 0)
  | none => (0#16, 0#16, 0#16, 13)
def claT (read fast : List (BitVec 16)) : BitVec 16 × BitVec 16 × BitVec 16 × Int :=
  if botS read fast ≠ 0 then (0#16, 0#16, 0#16, botS read fast) else claM (claS read fast)
theorem find_hit {p : BitVec 16 → Bool} {l : List (BitVec 16)} {k : Nat} (hk : k < l.length) (h : ∀ j, j < k → p (l.getD j 0#16) = false) (hp : p (l.getD k 0#16) = true) : l.find? p = some (l.getD k 0#16) := by
  have e : l = l.take k ++ l.getD k 0#16 :: l.drop (k + 1) := by
    rw [getD_at hk, ← List.drop_eq_getElem_cons hk, List.take_append_drop]
  have e2 : l.find? p = (l.take k ++ l.getD k 0#16 :: l.drop (k + 1)).find? p := by rw [← e]
  rw [e2, List.find?_append, List.find?_cons, hp]
  rw [List.find?_eq_none.2]
  · rfl
  · intro z hz
    obtain ⟨j, hj, rfl⟩ := List.mem_iff_getElem.1 hz
    rw [List.length_take] at hj
    have := h j (by omega)
    rw [getD_at (by omega)] at this
    rw [List.getElem_take]
    simpa using this
theorem find_none {p : BitVec 16 → Bool} {l : List (BitVec 16)} (h : ∀ j, j < l.length → p (l.getD j 0#16) = false) : l.find? p = none := by
  rw [List.find?_eq_none]
  intro z hz
  obtain ⟨j, hj, rfl⟩ := List.mem_iff_getElem.1 hz
  have := h j hj
  rw [getD_at hj] at this
  simpa using this
theorem idx_find {p : BitVec 16 → Bool} {l : List (BitVec 16)} : (l.find? p = none ∧ idxS p l = -1) ∨ ∃ k, k < l.length ∧ idxS p l = k ∧ l.find? p = some (l.getD k 0#16) ∧ p (l.getD k 0#16) = true := by
  by_cases ha : l.any p = true
  · right
    have hlt : l.findIdx p < l.length := List.findIdx_lt_length_of_exists (by
      obtain ⟨x, hx, hp⟩ := List.any_eq_true.1 ha
      exact ⟨x, hx, hp⟩)
    have hp : p (l.getD (l.findIdx p) 0#16) = true := by rw [getD_at hlt]; exact List.findIdx_getElem (w := hlt)
    refine ⟨l.findIdx p, hlt, by unfold idxS; rw [if_pos ha], find_hit hlt (fun j hj => ?_) hp, hp⟩
    rw [getD_at (by omega)]
    have := List.not_of_lt_findIdx hj
    simpa using this
  · left
    have hf : ∀ j, j < l.length → p (l.getD j 0#16) = false := fun j hj => by
      cases h : p (l.getD j 0#16)
      · rfl
      · exact absurd (any_hit hj h) ha
    exact ⟨find_none hf, idxS_none hf⟩

end Go.Proofs.YtgfjmplifmbmlaaDoor
namespace Go.Proofs.YtgfjmplifmbmlaaDoor
open Go.RowKit Go.Shelf

theorem subB_self (x : BitVec 16) : subB x x = true := (subB_iff x x).2 fun _ h => h
theorem subB_trans {a b c : BitVec 16} (h1 : subB a b = true) (h2 : subB b c = true) : subB a c = true := (subB_iff a c).2 fun i h => (subB_iff a b).1 h1 i ((subB_iff b c).1 h2 i h)
def Rk (a b : BitVec 16) : Prop := keyS a < keyS b
def Rs (a b : BitVec 16) : Prop := keyS a < keyS b ∧ subB b a = false
theorem pick_mem {s : BitVec 16} {k : Int} {N : Nat} {x : BitVec 16} (h : x ∈ pickTo s k N) : subB s x = true ∧ (cnt x : Int) = k ∧ ∃ n, n < N ∧ x = BitVec.ofNat 16 n := by
  unfold pickTo at h
  obtain ⟨n, hn, rfl⟩ := List.mem_map.1 h
  obtain ⟨h1, h2⟩ := List.mem_filter.1 hn
  unfold pickB at h2
  rw [Bool.and_eq_true] at h2
  exact ⟨h2.1, eq_of_beq h2.2, n, List.mem_range.1 h1, rfl⟩
theorem pick_asc (s : BitVec 16) (k : Int) : ∀ N, N ≤ 65536 → (pickTo s k N).Pairwise Rk := by
  intro N
  induction N with
  | zero => intro _; unfold pickTo; simp
  | succ N ih =>
    intro hN
    rw [pickTo_succ]
    split
    · rename_i hp
      rw [List.pairwise_append]
      refine ⟨ih (by omega), List.pairwise_singleton _ _, fun a ha b hb => ?_⟩
      rw [List.mem_singleton] at hb
      subst hb
      obtain ⟨_, h2, n, hn, rfl⟩ := pick_mem ha
      unfold pickB at hp
      rw [Bool.and_eq_true] at hp
      have h3 := eq_of_beq hp.2
      unfold Rk keyS
      have e1 : (BitVec.ofNat 16 n).toNat = n := by simp; omega
      have e2 : (BitVec.ofNat 16 N).toNat = N := by simp; omega
      rw [e1, e2]
      omega
    · exact ih (by omega)
theorem subsTo_asc (s : BitVec 16) : ∀ K, (subsTo s K).Pairwise Rk ∧ ∀ x ∈ subsTo s K, subB s x = true ∧ cnt x < K := by
  intro K
  induction K with
  | zero => exact ⟨by simp [subsTo], fun x hx => by simp [subsTo] at hx⟩
  | succ K ih =>
    rw [subsTo_succ]
    refine ⟨?_, fun x hx => ?_⟩
    · rw [List.pairwise_append]
      refine ⟨ih.1, pick_asc s K _ (by have := s.isLt; omega), fun a ha b hb => ?_⟩
      have h1 := (ih.2 a ha).2
      have h2 := (pick_mem hb).2.1
      unfold Rk keyS
      have := a.isLt
      have := b.isLt
      omega
    · rcases List.mem_append.1 hx with h | h
      · exact ⟨(ih.2 x h).1, by have := (ih.2 x h).2; omega⟩
      · exact ⟨(pick_mem h).1, by have := (pick_mem h).2.1; omega⟩
theorem fold_good (f : List (BitVec 16)) : ∀ (l o : List (BitVec 16)), l.Pairwise Rk → o.Pairwise Rs → (∀ a ∈ o, ∀ b ∈ l, keyS a < keyS b) → (l.foldl (minSt f) o).Pairwise Rs ∧ ∀ x ∈ l.foldl (minSt f) o, x ∈ o ∨ (x ∈ l ∧ x ∈ f) := by
  intro l
  induction l with
  | nil => intro o _ h2 _; exact ⟨h2, fun x hx => .inl hx⟩
  | cons y l ih =>
    intro o h1 h2 h3
    rw [List.pairwise_cons] at h1
    rw [List.foldl_cons]
    by_cases hc : ((f.any fun z => z == y) && !accS o y) = true
    · have e : minSt f o y = o ++ [y] := by unfold minSt; rw [if_pos hc]
      rw [e]
      rw [Bool.and_eq_true, Bool.not_eq_true'] at hc
      have hyf : y ∈ f := by
        obtain ⟨z, hz, hzy⟩ := List.any_eq_true.1 hc.1
        rw [eq_of_beq hzy] at hz; exact hz
      obtain ⟨g1, g2⟩ := ih (o ++ [y]) h1.2 (by
        rw [List.pairwise_append]
        refine ⟨h2, List.pairwise_singleton _ _, fun a ha b hb => ?_⟩
        rw [List.mem_singleton] at hb; subst hb
        refine ⟨h3 a ha b (List.mem_cons_self ..), ?_⟩
        cases hs : subB b a
        · rfl
        · have : accS o b = true := by unfold accS; exact List.any_eq_true.2 ⟨a, ha, hs⟩
          rw [hc.2] at this; cases this) (by
        intro a ha b hb
        rcases List.mem_append.1 ha with ha | ha
        · exact h3 a ha b (List.mem_cons_of_mem _ hb)
        · rw [List.mem_singleton] at ha; subst ha; exact h1.1 b hb)
      refine ⟨g1, fun x hx => ?_⟩
      rcases g2 x hx with h | ⟨h, h'⟩
      · rcases List.mem_append.1 h with h | h
        · exact .inl h
        · rw [List.mem_singleton] at h; subst h; exact .inr ⟨List.mem_cons_self .., hyf⟩
      · exact .inr ⟨List.mem_cons_of_mem _ h, h'⟩
    · have e : minSt f o y = o := by unfold minSt; rw [if_neg hc]
      rw [e]
      obtain ⟨g1, g2⟩ := ih o h1.2 h2 fun a ha b hb => h3 a ha b (List.mem_cons_of_mem _ hb)
      refine ⟨g1, fun x hx => ?_⟩
      rcases g2 x hx with h | ⟨h, h'⟩
      · exact .inl h
      · exact .inr ⟨List.mem_cons_of_mem _ h, h'⟩
theorem minS_good (f : List (BitVec 16)) : (minS f).Pairwise Rs ∧ ∀ x ∈ minS f, x ∈ f := by
  obtain ⟨h1, h2⟩ := fold_good f (subsS9 (supS f)) [] (subsTo_asc (supS f) _).1 List.Pairwise.nil (fun a ha => by cases ha)
  exact ⟨h1, fun x hx => by
    rcases h2 x hx with h | h
    · cases h
    · exact h.2⟩
theorem nodup_len {α : Type} [DecidableEq α] : ∀ (l m : List α), l.Nodup → (∀ x ∈ l, x ∈ m) → l.length ≤ m.length := by
  intro l
  induction l with
  | nil => intro m _ _; simp
  | cons a l ih =>
    intro m h1 h2
    rw [List.nodup_cons] at h1
    have ha := h2 a (List.mem_cons_self ..)
    have := ih (m.erase a) h1.2 (fun x hx => (List.mem_erase_of_ne (by rintro rfl; exact h1.1 hx)).2 (h2 x (List.mem_cons_of_mem _ hx)))
    rw [List.length_erase_of_mem ha] at this
    have := List.length_pos_of_mem ha
    rw [List.length_cons]
    omega
theorem good_nodup {l : List (BitVec 16)} (h : l.Pairwise Rs) : l.Nodup := h.imp fun {a b} hab he => by
  have := hab.1; rw [he] at this; omega
theorem minS_len (f : List (BitVec 16)) : (minS f).length ≤ f.length := nodup_len _ _ (good_nodup (minS_good f).1) (minS_good f).2
theorem good_valid {l : List (BitVec 16)} (h : l.Pairwise Rs) (hb : ∀ x ∈ l, x.toNat < 4096) (hn : l.length ≤ 400) : valS l = 0 := by
  have h0 : ∀ j, j < l.length → e1 l j = 0 := by
    intro j hj
    unfold e1
    have hx := hb l[j] (List.getElem_mem hj)
    rw [if_neg (by rw [getD_at hj]; unfold U; omega), if_neg]
    rintro ⟨h1, h2⟩
    rw [getD_at hj, getD_at (show j - 1 < l.length by omega)] at h2
    have h3 := (List.pairwise_iff_getElem.1 h (j - 1) j (by omega) hj (by omega)).1
    have := (cmpS_key l[j - 1] l[j]).1.1 h2
    omega
  unfold valS
  rw [if_neg (by omega), firstE_none _ _ h0, if_neg (by decide), if_neg]
  intro ho
  obtain ⟨i, k, hi, hk, hs⟩ := (overB_iff l).1 ho
  rw [getD_at hi, getD_at (show k < l.length by omega)] at hs
  have := (List.pairwise_iff_getElem.1 h k i (by omega) hi hk).2
  rw [hs] at this; cases this
theorem mad_lt (z : Int) : (mad z).toNat < 64 := by
  unfold mad
  rw [BitVec.toNat_ofInt]
  omega
theorem madS_lt (l : List Int) : ∀ x ∈ madS l, x.toNat < 64 := fun x hx => by
  have := (minS_good _).2 x hx
  unfold madL at this
  obtain ⟨z, _, rfl⟩ := List.mem_map.1 this
  exact mad_lt z
theorem madS_le (l : List Int) : (madS l).length ≤ 20 := by
  have := minS_len (madL l (min 20 l.length))
  rw [madL_len (by omega)] at this
  unfold madS
  omega
theorem madS_good (l : List Int) : (madS l).Pairwise Rs := (minS_good _).1
theorem made_valid (l : List Int) : valS (madS l) = 0 := good_valid (madS_good l) (fun x hx => by have := madS_lt l x hx; omega) (by have := madS_le l; omega)
theorem mm_lt (l : List Int) : ∀ x ∈ minS (madS l), x.toNat < 64 := fun x hx => madS_lt l x ((minS_good _).2 x hx)
theorem mm_valid (l : List Int) : valS (minS (madS l)) = 0 := good_valid (minS_good _).1 (fun x hx => by have := mm_lt l x hx; omega) (by have := minS_len (madS l); have := madS_le l; omega)
theorem good_head {l : List (BitVec 16)} (h : l.Pairwise Rs) (h0 : l.length = 0 ∨ (l.getD 0 0#16 == 0#16) = false) : hasZ l = false := by
  cases l with
  | nil => rfl
  | cons y l =>
    have hy : (y == 0#16) = false := by
      rcases h0 with h0 | h0
      · simp at h0
      · exact h0
    rw [List.pairwise_cons] at h
    cases hz : hasZ (y :: l)
    · rfl
    · exfalso
      unfold hasZ at hz
      obtain ⟨x, hx, hx0⟩ := List.any_eq_true.1 hz
      have hx0' := eq_of_beq hx0
      subst hx0'
      rcases List.mem_cons.1 hx with hx | hx
      · rw [← hx] at hy; simp at hy
      · have := (h.1 _ hx).1
        have h0 : keyS 0#16 = 0 := by decide
        omega
theorem mm_quo (l : List Int) (h0 : (minS (madS l)).length = 0 ∨ ((minS (madS l)).getD 0 0#16 == 0#16) = false) : quoS (minS (madS l)) = 0 := by
  unfold quoS
  rw [mm_valid, if_neg (by decide), good_head (minS_good _).1 h0]
  rfl
end Go.Proofs.YtgfjmplifmbmlaaDoor
namespace Go.Proofs.YtgfjmplifmbmlaaDoor
open Go.RowKit Go.Shelf

theorem Tryd.infoSet2 : (Tryd.prog.info? 30).map (fun i => (i.zero, i.size, i.bytes)) = some (some (.int .u16 0), 1, 2) := by kernel_rfl
set_option maxRecDepth 100000 in
set_option maxHeartbeats 1000000 in
theorem clones_c (l : List (BitVec 16)) (a : Option Addr) (n c : Nat) (w : World) (h : Rd w a n c (l.map setV2)) (hb : n ≤ 1000000) :
    Calls Tryd.prog 12 #[.slice a n c] w fun e w' => ∃ a' c', e = .returned (.slice a' n c') ∧ Rd w' a' n c' (l.map setV2) ∧ Below w.heap.size w w' := by
  have hlen : (l.map setV2).length = n := h.len.symm
  cases a with
  | none =>
    have hc := h.nil rfl
    have hn : n = 0 := by have := h.le; omega
    subst hc hn
    have hl : l = [] := by simpa using hlen
    subst hl
    clear h hlen hb
    have q : ∀ (w : World) (a : Option Addr) (n c n' c' : Nat), (binOp .eql 22 (.slice a n c) (.slice none n' c')).run Tryd.prog w = .ok (.bool a.isNone) w := fun w a n c n' c' => Lib.run_eql_slice_nil w _ _ a n c n' c' Tryd.underlying22
    go_enter Tryd.func12, Tryd.ntmps12
    go_wp2
    go_ret
    exact ⟨_, _, rfl, Rd.none_ _, Below.refl _ _⟩
  | some ad =>
    have hh := Lib.hid h
    have hl2 := Lib.hid hlen
    clear h hlen
    have q : ∀ (w : World) (a : Option Addr) (n c n' c' : Nat), (binOp .eql 22 (.slice a n c) (.slice none n' c')).run Tryd.prog w = .ok (.bool a.isNone) w := fun w a n c n' c' => Lib.run_eql_slice_nil w _ _ a n c n' c' Tryd.underlying22
    go_enter Tryd.func12, Tryd.ntmps12
    go_wp2_with (at_builtin; go_must (refine wpList_apps _ _ 22 2 (.int .u16 0) _ _ _ (l.map setV2) Tryd.underlying22 Tryd.infoSet2 rfl (World.ownsRow_made w #[] 0 (Nat.le_refl _) (Nat.zero_le _) rfl) ((Below.refl _ w).alloc (Nat.le_refl _) _) (Nat.le_refl _) (hh.out.below ((Below.refl _ w).alloc (Nat.le_refl _) _)) (by intro u hu; obtain ⟨_, _, rfl⟩ := List.mem_map.1 hu; rfl) rfl rfl rfl rfl (by unfold maxLen; simp; omega) (by simp; omega) ?_))
    intro v' w1 hown1 hb1 _
    have hown2 : w1.ownsRow w.heap.size 30 1 v' n (l.map setV2) := by simpa using hown1
    obtain ⟨a', c', rfl, hr⟩ := rd_of_row hown2
    have HRR := Lib.hid hr
    clear hb hown1 hown2 hr
    go_wp2
    go_ret
    exact ⟨_, _, rfl, HRR.out, hb1⟩
end Go.Proofs.YtgfjmplifmbmlaaDoor
namespace Go.Proofs.YtgfjmplifmbmlaaDoor
open Go.RowKit Go.Shelf

theorem Tryd.infoRep : (Tryd.prog.info? 33).map (fun i => (i.zero, i.size, i.bytes)) = some (some (.agg #[.int .i64 0, .int .i64 0, .string ⟨#[]⟩]), 3, 32) := by kernel_rfl
theorem rep_one (l : List Rep) : ∀ u ∈ l.flatMap repC, u.oneCell' = true := by
  intro u hu
  obtain ⟨r, _, hu⟩ := List.mem_flatMap.1 hu
  simp only [repC, List.mem_cons, List.not_mem_nil, or_false] at hu
  rcases hu with rfl | rfl | rfl <;> rfl

set_option maxRecDepth 100000 in
set_option maxHeartbeats 1000000 in
theorem cloner_c (l : List Rep) (a : Option Addr) (n c : Nat) (w : World) (h : RdK 3 w a n c (l.flatMap repC)) (hb : n ≤ 1000000) :
    Calls Tryd.prog 13 #[.slice a n c] w fun e w' => ∃ a' c', e = .returned (.slice a' n c') ∧ RdK 3 w' a' n c' (l.flatMap repC) ∧ Below w.heap.size w w' := by
  cases a with
  | none =>
    have hc := h.nil rfl
    have hn : n = 0 := by have := h.le; omega
    subst hc hn
    have hl : l.flatMap repC = [] := List.eq_nil_of_length_eq_zero (by rw [← h.len])
    rw [hl]
    clear h hb hl
    have q : ∀ (w : World) (a : Option Addr) (n c n' c' : Nat), (binOp .eql 23 (.slice a n c) (.slice none n' c')).run Tryd.prog w = .ok (.bool a.isNone) w := fun w a n c n' c' => Lib.run_eql_slice_nil w _ _ a n c n' c' Tryd.underlying23
    go_enter Tryd.func13, Tryd.ntmps13
    go_wp2
    go_ret
    exact ⟨_, _, rfl, RdK.none_ _ _, Below.refl _ _⟩
  | some ad =>
    have hh := Lib.hid h
    clear h
    have q : ∀ (w : World) (a : Option Addr) (n c n' c' : Nat), (binOp .eql 23 (.slice a n c) (.slice none n' c')).run Tryd.prog w = .ok (.bool a.isNone) w := fun w a n c n' c' => Lib.run_eql_slice_nil w _ _ a n c n' c' Tryd.underlying23
    go_enter Tryd.func13, Tryd.ntmps13
    go_wp2_with (at_builtin; go_must (refine wpList_appsK 3 _ _ 23 32 (.agg #[.int .i64 0, .int .i64 0, .string ⟨#[]⟩]) _ _ _ (l.flatMap repC) Tryd.underlying23 Tryd.infoRep rfl (by decide) (World.ownsRow_made w #[] 0 (Nat.le_refl _) (Nat.zero_le _) rfl) ((Below.refl _ w).alloc (Nat.le_refl _) _) (Nat.le_refl _) (hh.out.below ((Below.refl _ w).alloc (Nat.le_refl _) _)) (rep_one l) rfl rfl rfl rfl (by unfold maxLen; simp; omega) (by simp; omega) ?_))
    intro v' w1 hown1 hb1 _
    have hown2 : w1.ownsRow w.heap.size 33 3 v' n (l.flatMap repC) := by simpa using hown1
    obtain ⟨a', c', rfl, hr⟩ := rdK_of_row hown2
    have HRR := Lib.hid hr
    clear hb hown1 hown2 hr
    go_wp2
    go_ret
    exact ⟨_, _, rfl, HRR.out, hb1⟩
end Go.Proofs.YtgfjmplifmbmlaaDoor
namespace Go.Proofs.YtgfjmplifmbmlaaDoor

structure Ev where
  kind : Int
  server : Int
  ballot : Int
  value : ByteArray
  deriving DecidableEq
def evC (e : Ev) : List Value := [.int .i64 e.kind, .int .i64 e.server, .int .i64 e.ballot, .string e.value]
theorem evC_len (e : Ev) : (evC e).length = 4 := rfl
theorem ev_one (l : List Ev) : ∀ u ∈ l.flatMap evC, u.oneCell' = true := by
  intro u hu
  obtain ⟨r, _, hu⟩ := List.mem_flatMap.1 hu
  simp only [evC, List.mem_cons, List.not_mem_nil, or_false] at hu
  rcases hu with rfl | rfl | rfl | rfl <;> rfl

/-- the value of a ballot -/
def valB (b : Nat) : ByteArray := ⟨(118 :: Lib.decDigits b).toArray⟩
def evP (b s : Nat) : Ev := ⟨1, s, b, ⟨#[]⟩⟩
def evA (b s : Nat) : Ev := ⟨2, s, b, valB b⟩
def blkS (q w : BitVec 16) (b : Nat) : List Ev := (memS q).map (evP b) ++ (memS w).map (evA b)
/-- the events of the first k ballots -/
def atkTo (q0 r w : BitVec 16) : Nat → List Ev
  | 0 => []
  | 1 => blkS q0 w 1
  | _ => blkS q0 w 1 ++ blkS r w 2
def attS (read write : List (BitVec 16)) (n : Int) : List Ev × Int :=
  if chkS n [read, write] ≠ 0 then ([], chkS n [read, write]) else match disS read write with
  | none => ([], 13)
  | some (r, w) => (atkTo (read.getD 0 0#16) r w 2, 0)
theorem blk_len (q w : BitVec 16) (b : Nat) : (blkS q w b).length = cnt q + cnt w := by unfold blkS cnt; simp
theorem atkTo_succ (q0 r w : BitVec 16) (k : Nat) (hk : k < 2) : atkTo q0 r w (k + 1) = atkTo q0 r w k ++ blkS (if k = 0 then q0 else r) w (k + 1) := by
  match k, hk with
  | 0, _ => simp [atkTo]
  | 1, _ => simp [atkTo]
theorem dis_mem {f g : List (BitVec 16)} {x y : BitVec 16} (h : disS f g = some (x, y)) : x ∈ f ∧ y ∈ g ∧ (x &&& y == 0#16) = true := by
  unfold disS at h
  have h1 := List.mem_of_find?_eq_some h
  have h2 := List.find?_some h
  obtain ⟨x', hx, hp⟩ := List.mem_flatMap.1 h1
  obtain ⟨y', hy, e⟩ := List.mem_map.1 hp
  cases e
  exact ⟨hx, hy, h2⟩
theorem mem_take_succ {α : Type} {f : Nat → α} {q : BitVec 16} {k i : Nat} (h : (memS q)[k]? = some i) : ((memS q).take (k + 1)).map f = ((memS q).take k).map f ++ [f i] := by
  rw [List.take_add_one, h]; simp
end Go.Proofs.YtgfjmplifmbmlaaDoor
namespace Go.Proofs
open Go.Shelf

def Tryd.lays171_ren : Go.Shelf.Ren := ⟨fun | 171 => 43 | 243 => 63 | 246 => 79 | 283 => 97 | 284 => 98 | 285 => 99 | 286 => 100 | 129 => 91 | 317 => 110 | 318 => 111 | 319 => 112 | 320 => 113 | 337 => 115 | 338 => 116 | n => n, fun | 3 => 3 | 9 => 9 | 2 => 2 | 4 => 4 | 171 => 134 | 0 => 0 | 53 => 131 | 37 => 35 | 5 => 5 | 173 => 136 | 212 => 148 | 51 => 117 | 20 => 20 | 213 => 149 | 46 => 109 | 232 => 116 | 233 => 153 | n => n, fun | 17 => 1 | 18 => 0 | 19 => 2 | n => n⟩

theorem Tryd.lays171 : Go.Proofs.Lays.n171 Tryd.prog Tryd.lays171_ren := {
  mixed := by kernel_rfl
  f129 := Tryd.func91.trans (congrArg some (by kernel_rfl))
  f171 := Tryd.func43.trans (congrArg some (by kernel_rfl))
  f243 := Tryd.func63.trans (congrArg some (by kernel_rfl))
  f246 := Tryd.func79.trans (congrArg some (by kernel_rfl))
  f283 := Tryd.func97.trans (congrArg some (by kernel_rfl))
  f284 := Tryd.func98.trans (congrArg some (by kernel_rfl))
  f285 := Tryd.func99.trans (congrArg some (by kernel_rfl))
  f286 := Tryd.func100.trans (congrArg some (by kernel_rfl))
  f317 := Tryd.func110.trans (congrArg some (by kernel_rfl))
  f318 := Tryd.func111.trans (congrArg some (by kernel_rfl))
  f319 := Tryd.func112.trans (congrArg some (by kernel_rfl))
  f320 := Tryd.func113.trans (congrArg some (by kernel_rfl))
  f337 := Tryd.func115.trans (congrArg some (by kernel_rfl))
  f338 := Tryd.func116.trans (congrArg some (by kernel_rfl))
  t0 := Tryd.underlying0
  a0 := Tryd.isAgg0
  z0 := Tryd.sizeOf0
  v0 := Tryd.zeroValue0
  t2 := Tryd.underlying2
  a2 := Tryd.isAgg2
  z2 := Tryd.sizeOf2
  v2 := Tryd.zeroValue2
  t3 := Tryd.underlying3
  a3 := Tryd.isAgg3
  z3 := Tryd.sizeOf3
  v3 := Tryd.zeroValue3
  t4 := Tryd.underlying4
  a4 := Tryd.isAgg4
  z4 := Tryd.sizeOf4
  v4 := Tryd.zeroValue4
  t5 := Tryd.underlying5
  a5 := Tryd.isAgg5
  z5 := Tryd.sizeOf5
  v5 := Tryd.zeroValue5
  t9 := Tryd.underlying9
  a9 := Tryd.isAgg9
  z9 := Tryd.sizeOf9
  v9 := Tryd.zeroValue9
  t20 := Tryd.underlying20
  a20 := Tryd.isAgg20
  z20 := Tryd.sizeOf20
  v20 := Tryd.zeroValue20
  t37 := Tryd.underlying35
  a37 := Tryd.isAgg35
  z37 := Tryd.sizeOf35
  v37 := Tryd.zeroValue35
  t46 := Tryd.underlying109
  a46 := Tryd.isAgg109
  z46 := Tryd.sizeOf109
  v46 := Tryd.zeroValue109
  t51 := Tryd.underlying117
  a51 := Tryd.isAgg117
  z51 := Tryd.sizeOf117
  v51 := Tryd.zeroValue117
  t53 := Tryd.underlying131
  a53 := Tryd.isAgg131
  z53 := Tryd.sizeOf131
  v53 := Tryd.zeroValue131
  t171 := Tryd.underlying134
  a171 := Tryd.isAgg134
  z171 := Tryd.sizeOf134
  v171 := Tryd.zeroValue134
  t173 := Tryd.underlying136
  a173 := Tryd.isAgg136
  z173 := Tryd.sizeOf136
  v173 := Tryd.zeroValue136
  t212 := Tryd.underlying148
  a212 := Tryd.isAgg148
  z212 := Tryd.sizeOf148
  v212 := Tryd.zeroValue148
  t213 := Tryd.underlying149
  a213 := Tryd.isAgg149
  z213 := Tryd.sizeOf149
  t232 := Tryd.underlying116
  a232 := Tryd.isAgg116
  z232 := Tryd.sizeOf116
  v232 := Tryd.zeroValue116
  t233 := Tryd.underlying153
  a233 := Tryd.isAgg153
  z233 := Tryd.sizeOf153
  v233 := Tryd.zeroValue153
  g17 := by kernel_rfl
  g18 := by kernel_rfl
  g19 := by kernel_rfl }

open Go.RowKit Go.Sort Go.Lib in
theorem Tryd.strconv_Itoa_small (i : Nat) (hi : i < 100) (w : World) :
    Calls Tryd.prog 43 #[.int .i64 i] w fun e w' => e = .returned (.string ⟨(Lib.decDigits i).toArray⟩) ∧ w' = w := Any.strconv_Itoa_small Tryd.lays171 i hi w

end Go.Proofs
namespace Go.Proofs.YtgfjmplifmbmlaaDoor
open Go.RowKit Go.Shelf

theorem Tryd.infoEv : (Tryd.prog.info? 48).map (fun i => (i.zero, i.size, i.bytes)) = some (some (.agg #[.int .i64 0, .int .i64 0, .int .i64 0, .string ⟨#[]⟩]), 4, 40) := by kernel_rfl
theorem cat2 (a b : List UInt8) : (⟨a.toArray⟩ : ByteArray) ++ (⟨b.toArray⟩ : ByteArray) = ⟨(a ++ b).toArray⟩ := by
  apply ByteArray.ext
  simp
theorem dec_small (b : Nat) (h : b < 10) : (Lib.decDigits b).length = 1 := by rw [Lib.decDigits_one h]; rfl

set_option maxRecDepth 100000 in
set_option maxHeartbeats 4000000 in
theorem attack_c (read write : List (BitVec 16)) (nn : Int) (a : Option Addr) (n c : Nat) (a2 : Option Addr) (n2 c2 : Nat) (w : World) (h : Rd w a n c (read.map setV2)) (h2 : Rd w a2 n2 c2 (write.map setV2)) (ht : HasTab w) :
    Calls Tryd.prog 23 #[.slice a n c, .slice a2 n2 c2, .int .i64 nn] w fun e w' => ∃ a' c', e = .returned (.tuple #[.slice a' (attS read write nn).1.length c', .int .i64 (attS read write nn).2]) ∧ RdK 4 w' a' (attS read write nn).1.length c' ((attS read write nn).1.flatMap evC) ∧ Below w.heap.size w w' := by
  have hnl : read.length = n := by have := h.len; simp at this; omega
  have HR := Lib.hid h
  have HR2 := Lib.hid h2
  have HN := Lib.hid hnl
  have HT := Lib.hid ht
  have hb0 : Below w.heap.size w (w.alloc (.cells #[.slice a n c, .slice a2 n2 c2] 22)) := (Below.refl _ w).alloc (Nat.le_refl _) _
  have hss : RdSS (w.alloc (.cells #[.slice a n c, .slice a2 n2 c2] 22)) (some ⟨w.heap.size, 0, none⟩) 2 2 [read, write] := by
    refine ⟨[.slice a n c, .slice a2 n2 c2], Rd.lit _ _ _ 2 _ rfl rfl (by decide), rfl, fun i L hi => ?_⟩
    match i, hi with
    | 0, hi => cases hi; exact ⟨a, n, c, rfl, h.below hb0⟩
    | 1, hi => cases hi; exact ⟨a2, n2, c2, rfl, h2.below hb0⟩
    | i + 2, hi => simp at hi
  have HC := Lib.hid (check_c nn [read, write] _ 2 2 _ hss)
  have HB0 := Lib.hid hb0
  clear h h2 hnl ht hss hb0
  by_cases he : chkS nn [read, write] = 0
  · rw [he] at HC
    have HD := Lib.hid (fun w h h2 => disjoint_c read write a n c a2 n2 c2 w h h2)
    cases hd : disS read write with
    | none =>
      have hA : Hid (attS read write nn = ([], 13)) := by show _ = _; unfold attS; rw [if_neg (by rw [he]; decide), hd]
      have hT : disT read write = (0#16, 0#16, 13) := by unfold disT; rw [hd]
      rw [hT] at HD
      clear hT hd he
      go_enter Tryd.func23, Tryd.ntmps23
      go_wp2_with fail
      refine HC.out.mono ?_
      rintro e w1 ⟨rfl, hb1⟩
      have hb2 := Below.next HB0.out (by exact hb1)
      clear hb1
      go_wp2_with fail
      refine (HD.out w1 (HR.out.below hb2) (HR2.out.below hb2)).mono ?_
      rintro e w2 ⟨rfl, rfl⟩
      go_wp2_with fail
      go_ret2
      rw [hA.out]
      exact ⟨_, _, rfl, RdK.none_ _ _, hb2⟩
    | some p =>
      obtain ⟨r, q⟩ := p
      have hA : Hid (attS read write nn = (atkTo (read.getD 0 0#16) r q 2, 0)) := by show _ = _; unfold attS; rw [if_neg (by rw [he]; decide), hd]
      have hT : disT read write = (r, q, 0) := by unfold disT; rw [hd]
      have hn0 : 0 < n := by have := (dis_mem hd).1; have := List.length_pos_of_mem this; have := HN.out; omega
      have hx0 := at_cell (l := read) (k := 0) (by have := HN.out; omega)
      rw [hT] at HD
      obtain ⟨q0, hq0⟩ : ∃ q0, read.getD 0 0#16 = q0 := ⟨_, rfl⟩
      rw [hq0] at hA hx0
      have HX0 := Lib.hid hx0
      clear hT hd he hx0 hq0
      go_enter Tryd.func23, Tryd.ntmps23
      go_wp2_with fail
      refine HC.out.mono ?_
      rintro e w1 ⟨rfl, hb1⟩
      have hb2 := Below.next HB0.out (by exact hb1)
      clear hb1
      go_wp2_with fail
      refine (HD.out w1 (HR.out.below hb2) (HR2.out.below hb2)).mono ?_
      rintro e w2 ⟨rfl, rfl⟩
      obtain ⟨b, o, ha, hcell⟩ := (HR.out.below hb2).at' hn0
      have hc : w2.cell? ⟨b, o, none⟩ = some (.int .u16 (U q0)) := hcell 0 _ HX0.out
      subst ha
      clear hcell HD HC
      go_wp2_with fail
      obtain ⟨W, hW⟩ : ∃ W, w2.alloc (.cells #[.int .u16 (U q0), .int .u16 (U r)] 30) = W := ⟨_, rfl⟩
      obtain ⟨B, hB⟩ : ∃ B, w2.heap.size = B := ⟨_, rfl⟩
      have g0 : W.cell? ⟨B, 0, none⟩ = some (.int .u16 (U q0)) := by rw [← hW, ← hB]; exact cell_new _ _ _ 0 _ rfl
      have g1 : W.cell? ⟨B, 1, none⟩ = some (.int .u16 (U r)) := by rw [← hW, ← hB]; exact cell_new _ _ _ 1 _ rfl
      have hbW : Below w.heap.size w W := by rw [← hW]; exact hb2.alloc hb2.size _
      have G0 := Lib.hid g0
      have G1 := Lib.hid g1
      have HBW := Lib.hid hbW
      rw [hW, hB]
      clear hW hB g0 g1 hbW hc hb2
      go_loopw [12, 43] (fun v i wr => ∃ (k m : Nat), k ≤ 2 ∧ i = .int .i64 k ∧ m ≤ 32 * k ∧ wr.ownsRow W.heap.size 48 4 v m ((atkTo q0 r q k).flatMap evC) ∧ Hid ((atkTo q0 r q k).length = m) ∧ Below W.heap.size W wr) (fun _ i _ => 2 - (intOf i).toNat)
      case atStart => exact ⟨0, 0, by omega, rfl, by omega, World.ownsRow_nil _ _ _ _, rfl, Below.refl _ _⟩
      case round =>
        obtain ⟨k, m, hk, rfl, hm, hown, hml, hb⟩ := hrel
        by_cases hlt : k < 2
        · obtain ⟨x, hx⟩ : ∃ x, (if k = 0 then q0 else r) = x := ⟨_, rfl⟩
          have hc : wr.cell? ⟨B, k, none⟩ = some (.int .u16 (U x)) := by
            rw [← hx]
            match k, hlt with
            | 0, _ => exact (hb.cell (p := ⟨B, 0, none⟩) (cell_lt G0.out)).trans G0.out
            | 1, _ => exact (hb.cell (p := ⟨B, 1, none⟩) (cell_lt G1.out)).trans G1.out
          have hstep := atkTo_succ q0 r q k hlt
          rw [hx] at hstep
          have HST := Lib.hid hstep
          have HTB : Hid (∀ w', Below W.heap.size W w' → HasTab w') := Lib.hid (fun w' h => HT.out.below (Below.next HBW.out h))
          have HM := Lib.hid (members_c x _ wr rfl (HTB.out wr hb))
          have hcx := cnt_le x
          have hcq := cnt_le q
          clear hstep hx
          go_wp2_with fail
          refine HM.out.mono ?_
          rintro e w1 ⟨mv, rfl, hmo, hb1⟩
          obtain ⟨am, cm, rfl, hr⟩ := hmo.rdn (cnt x) (by simp [cnt])
          have hclr := Clear.own (n := cnt x) hmo hown
          have hown1 := rowK_below hown hb1
          have hb3 := Below.next hb hb1
          have hrl := hr.le
          have hrm := hr.max
          unfold maxLen at hrm
          clear hmo hown hb hb1 HM
          go_wp2_with fail
          go_loopw [12, 51] (fun v i wr => ∃ (j : Nat), j ≤ cnt x ∧ i = .int .i64 j ∧ wr.ownsRow W.heap.size 48 4 v (m + j) ((atkTo q0 r q k ++ ((memS x).take j).map (evP (k + 1))).flatMap evC) ∧ Rd wr am (cnt x) cm ((memS x).map intV) ∧ Clear (cnt x) v am ∧ Below W.heap.size W wr) (fun _ i _ => cnt x - (intOf i).toNat)
          case atStart => exact ⟨0, Nat.zero_le _, rfl, by simpa using hown1, hr, hclr, hb3⟩
          case round =>
            clear hown1 hr hclr hb3
            obtain ⟨j, hj, rfl, hown, hr, hclr, hb⟩ := hrel
            by_cases hlt2 : j < cnt x
            · obtain ⟨i, hi⟩ : ∃ i, (memS x)[j]? = some i := ⟨_, List.getElem?_eq_getElem (show j < (memS x).length from hlt2)⟩
              have hi16 := memS_16 _ _ (List.mem_of_getElem? hi)
              obtain ⟨b, o, hab, hcell⟩ := hr.at' (by omega)
              have hci := hcell j (intV i) (by simp [hi])
              unfold intV at hci
              have HTK := Lib.hid (mem_take_succ (f := evP (k + 1)) hi)
              have HRR := Lib.hid hr
              have HCL := Lib.hid hclr
              subst hab
              clear hcell hi hr hclr
              go_wp2_with (at_builtin; go_must (refine wpList_appK2 4 _ _ 40 40 (.agg #[.int .i64 0, .int .i64 0, .int .i64 0, .string ⟨#[]⟩]) (evC (evP (k + 1) i)) _ Tryd.underlying40 Tryd.infoEv rfl (by decide) hown hb (Nat.le_refl _) rfl rfl rfl rfl rfl (by intro u hu; exact ev_one [evP (k + 1) i] u (by simpa using hu)) (by unfold maxLen; omega) (by omega) ?_))
              intro v' w4 hown4 hb4 hg4 hs4 hv4
              clear hown hb hci
              have hr4 := HRR.out.grown hg4 HCL.out
              have hcl4 := HCL.out.step HRR.out hv4
              go_wp2_with fail
              go_roundw
              case rel => exact ⟨j + 1, by omega, by go_num, by rw [HTK.out, ← List.append_assoc, List.flatMap_append, ← Nat.add_assoc]; simpa using hown4, hr4, hcl4, hb4⟩
              case measure => simp [intOf]; omega
            · have hE : Hid ((memS x).take j = memS x) := List.take_of_length_le (by show cnt x ≤ j; omega)
              have hjx : j = cnt x := by omega
              rw [hE.out] at hown
              have HTQ := Lib.hid (HTB.out wr hb)
              have HM := Lib.hid (members_c q _ wr rfl HTQ.out)
              subst hjx
              have hjx2 : m + cnt x ≤ 32 * k + 16 := by omega
              clear hr hclr hE
              go_wp2_with fail
              refine HM.out.mono ?_
              rintro e w5 ⟨mv, rfl, hmo, hb1⟩
              obtain ⟨am2, cm2, rfl, hr⟩ := hmo.rdn (cnt q) (by simp [cnt])
              have hclr := Clear.own (n := cnt q) hmo hown
              have hown1 := rowK_below hown hb1
              have hb3 := Below.next hb hb1
              have hrl2 := hr.le
              have hrm2 := hr.max
              unfold maxLen at hrm2
              clear hmo hown hb hb1 HM
              go_wp2_with fail
              go_loopw [12, 66] (fun v i wr => ∃ (j : Nat), j ≤ cnt q ∧ i = .int .i64 j ∧ wr.ownsRow W.heap.size 48 4 v (m + cnt x + j) ((atkTo q0 r q k ++ (memS x).map (evP (k + 1)) ++ ((memS q).take j).map (evA (k + 1))).flatMap evC) ∧ Rd wr am2 (cnt q) cm2 ((memS q).map intV) ∧ Clear (cnt q) v am2 ∧ Below W.heap.size W wr) (fun _ i _ => cnt q - (intOf i).toNat)
              case atStart => exact ⟨0, Nat.zero_le _, rfl, by simpa using hown1, hr, hclr, hb3⟩
              case round =>
                clear hown1 hr hclr hb3
                obtain ⟨j, hj, rfl, hown, hr, hclr, hb⟩ := hrel
                by_cases hlt3 : j < cnt q
                · obtain ⟨i, hi⟩ : ∃ i, (memS q)[j]? = some i := ⟨_, List.getElem?_eq_getElem (show j < (memS q).length from hlt3)⟩
                  have hi16 := memS_16 _ _ (List.mem_of_getElem? hi)
                  obtain ⟨b, o, hab, hcell⟩ := hr.at' (by omega)
                  have hci := hcell j (intV i) (by simp [hi])
                  unfold intV at hci
                  have HTK := Lib.hid (mem_take_succ (f := evA (k + 1)) hi)
                  have HRR := Lib.hid hr
                  have HCL := Lib.hid hclr
                  have HI := Lib.hid (Tryd.strconv_Itoa_small (k + 1) (by omega))
                  have hdl := dec_small (k + 1) (by omega)
                  have HCAT := Lib.hid (cat2 [118] (Lib.decDigits (k + 1)))
                  have HVB : Hid (valB (k + 1) = (⟨#[118]⟩ : ByteArray) ++ (⟨(Lib.decDigits (k + 1)).toArray⟩ : ByteArray)) := by show _ = _; exact HCAT.out.symm
                  obtain ⟨dd, hdd⟩ : ∃ dd, Lib.decDigits (k + 1) = dd := ⟨_, rfl⟩
                  rw [hdd] at HI hdl HVB
                  subst hab
                  clear hcell hi hr hclr HCAT hdd
                  go_wp2_with fail
                  refine (HI.out _).mono ?_
                  rintro e w6 ⟨rfl, rfl⟩
                  go_wp2_with (at_builtin; go_must (refine wpList_appK2 4 _ _ 40 40 (.agg #[.int .i64 0, .int .i64 0, .int .i64 0, .string ⟨#[]⟩]) [.int .i64 2, .int .i64 i, .int .i64 ((k + 1 : Nat) : Int), .string ((⟨#[118]⟩ : ByteArray) ++ (⟨dd.toArray⟩ : ByteArray))] _ Tryd.underlying40 Tryd.infoEv rfl (by decide) hown hb (Nat.le_refl _) rfl rfl rfl rfl rfl (by intro u hu; simp only [List.mem_cons, List.not_mem_nil, or_false] at hu; rcases hu with rfl | rfl | rfl | rfl <;> rfl) (by unfold maxLen; omega) (by omega) ?_))
                  intro v' w4 hown4 hb4 hg4 hs4 hv4
                  clear hown hb hci
                  have hr4 := HRR.out.grown hg4 HCL.out
                  have hcl4 := HCL.out.step HRR.out hv4
                  go_wp2_with fail
                  go_roundw
                  case rel => exact ⟨j + 1, by omega, by go_num, by rw [HTK.out, ← List.append_assoc, List.flatMap_append, ← Nat.add_assoc]; simpa [evC, evA, HVB.out] using hown4, hr4, hcl4, hb4⟩
                  case measure => simp [intOf]; omega
                · have hE : Hid ((memS q).take j = memS q) := List.take_of_length_le (by show cnt q ≤ j; omega)
                  have hjx : j = cnt q := by omega
                  rw [hE.out] at hown
                  subst hjx
                  have hlen2 : Hid ((atkTo q0 r q (k + 1)).length = m + cnt x + cnt q) := by show _ = _; rw [HST.out, List.length_append, blk_len, hml.out]; omega
                  clear hr hclr hE
                  go_wp2_with fail
                  go_roundw
                  case rel => exact ⟨k + 1, m + cnt x + cnt q, by omega, by go_num, by omega, by rw [HST.out]; unfold blkS; rw [← List.append_assoc]; exact hown, hlen2, hb⟩
                  case measure => simp [intOf]; omega
        · obtain rfl : k = 2 := by omega
          obtain ⟨ar, cr, rfl, hr⟩ := rdK_of_row hown
          have HRR := Lib.hid hr
          clear hown hr
          go_wp2_with fail
          go_ret2
          rw [hA.out]
          show ∃ a' c', _
          exact ⟨ar, cr, by rw [hml.out]; rfl, by show RdK 4 _ _ (atkTo q0 r q 2).length _ _; rw [hml.out]; exact HRR.out, Below.next HBW.out hb⟩
  · have hA : Hid (attS read write nn = ([], chkS nn [read, write])) := by show _ = _; unfold attS; rw [if_pos he]
    obtain ⟨v, hv⟩ : ∃ v, chkS nn [read, write] = v := ⟨_, rfl⟩
    rw [hv] at HC hA he
    have hv1 : (v != 0) = true := by simpa using he
    clear hv he
    go_enter Tryd.func23, Tryd.ntmps23
    go_wp2_with fail
    refine HC.out.mono ?_
    rintro e w1 ⟨rfl, hb1⟩
    have hb2 := Below.next HB0.out (by exact hb1)
    clear hb1
    go_wp2_with fail
    go_ret2
    rw [hA.out]
    exact ⟨_, _, rfl, RdK.none_ _ _, hb2⟩
end Go.Proofs.YtgfjmplifmbmlaaDoor
namespace Go.Proofs.YtgfjmplifmbmlaaDoor

structure Acc where
  prom : Int
  bal : Int
  val : ByteArray
def accC (a : Acc) : List Value := [.int .i64 a.prom, .int .i64 a.bal, .string a.val]
theorem accC_len (a : Acc) : (accC a).length = 3 := rfl
def acc0 : Acc := ⟨0, 0, ⟨#[]⟩⟩
def emB (v : ByteArray) : Bool := v.toList == []
def promB (a : Acc) (b : Int) : Bool := decide (a.prom < b)
def accpB (a : Acc) (b : Int) : Bool := decide (1 ≤ b) && decide (a.prom ≤ b)

/-- the acceptor of a server -/
def atS (l : List Acc) (s : Int) : Acc := l.getD s.toNat acc0
def inB (n : Nat) (s : Int) : Bool := decide (0 ≤ s) && decide (s < n)
/-- the acceptors behind an event -/
def stepA (l : List Acc) (e : Ev) : List Acc :=
  if e.kind = 1 then (if promB (atS l e.server) e.ballot then l.set e.server.toNat { atS l e.server with prom := e.ballot } else l)
  else if accpB (atS l e.server) e.ballot then l.set e.server.toNat ⟨e.ballot, e.ballot, e.value⟩ else l
def repA (n : Nat) (l : List Ev) : List Acc := l.foldl stepA (List.replicate n acc0)
/-- the report that an event makes of ballot b -/
def repE (n : Nat) (l : List Ev) (b : Int) (k : Nat) : List Rep :=
  match l[k]? with
  | some e => if e.kind = 1 ∧ e.ballot = b then [⟨e.server, (atS (repA n (l.take k)) e.server).bal, (atS (repA n (l.take k)) e.server).val⟩] else []
  | none => []
def repTo (n : Nat) (l : List Ev) (b : Int) (k : Nat) : List Rep := (List.range k).flatMap (repE n l b)
def repS (n : Nat) (l : List Ev) (b : Int) : List Rep := repTo n l b l.length
/-- the first acceptance of a ballot -/
def isAcc (b : Int) (e : Ev) : Bool := decide (e.kind = 2) && decide (e.ballot = b)
def valF (l : List Ev) (b : Int) : Option ByteArray := (l.find? (isAcc b)).map Ev.value
def demS (read : List (BitVec 16)) (n : Nat) (l : List Ev) (b : Int) : ByteArray × Int :=
  match valF l b with
  | some v => (v, 0)
  | none => pickS read b (repS n l b)
def okD (p : ByteArray × Int) (v : ByteArray) : Bool := decide (p.2 = 4) || (decide (p.2 = 0) && p.1.toList == v.toList)
def folS (read : List (BitVec 16)) (n : Nat) (l : List Ev) (x : Ev) : Bool :=
  if x.server < 0 ∨ (n : Int) ≤ x.server ∨ x.ballot < 1 then false
  else if x.kind = 1 then promB (atS (repA n l) x.server) x.ballot && emB x.value
  else if x.kind = 2 then (accpB (atS (repA n l) x.server) x.ballot && !emB x.value) && okD (demS read n l x.ballot) x.value
  else false

/-- what the program keeps -/
structure St where
  acc : List Acc
  rep : Int → List Rep
  vals : Int → Option ByteArray
def st0 (n : Nat) : St := ⟨List.replicate n acc0, fun _ => [], fun _ => none⟩
def valP (read : List (BitVec 16)) (st : St) (b : Int) : ByteArray × Bool × Bool :=
  match st.vals b with
  | some v => (v, false, true)
  | none => ((bestR (st.rep b)).2, (bestR (st.rep b)).1 == 0, accS read (seenR (st.rep b)))
def setF {α : Type} (f : Int → α) (b : Int) (v : α) : Int → α := fun x => if x = b then v else f x
def repOf (s : Int) (a : Acc) : Rep := ⟨s, a.bal, a.val⟩
def addP1 (st : St) (e : Ev) : St := ⟨st.acc.set e.server.toNat { atS st.acc e.server with prom := e.ballot }, setF st.rep e.ballot (st.rep e.ballot ++ [repOf e.server (atS st.acc e.server)]), st.vals⟩
def addP2 (st : St) (e : Ev) : St := ⟨st.acc.set e.server.toNat ⟨e.ballot, e.ballot, e.value⟩, st.rep, setF st.vals e.ballot (some e.value)⟩
def okP (p : ByteArray × Bool × Bool) (v : ByteArray) : Bool := p.2.2 && (p.2.1 || p.1.toList == v.toList)
def addP (read : List (BitVec 16)) (st : St) (e : Ev) : Option St :=
  if e.server < 0 ∨ (st.acc.length : Int) ≤ e.server ∨ e.ballot < 1 then none
  else if e.kind = 1 then (if (promB (atS st.acc e.server) e.ballot && emB e.value) = true then some (addP1 st e) else none)
  else if e.kind = 2 then (if ((accpB (atS st.acc e.server) e.ballot && !emB e.value) && okP (valP read st e.ballot) e.value) = true then some (addP2 st e) else none)
  else none

/-- the state of a list of events -/
def stOf (n : Nat) (l : List Ev) : St := ⟨repA n l, repS n l, valF l⟩
inductive Good (read : List (BitVec 16)) (n : Nat) : List Ev → Prop
  | nil : Good read n []
  | snoc {l : List Ev} {e : Ev} : Good read n l → folS read n l e = true → Good read n (l ++ [e])

theorem repA_snoc (n : Nat) (l : List Ev) (e : Ev) : repA n (l ++ [e]) = stepA (repA n l) e := by unfold repA; rw [List.foldl_append]; rfl
theorem stepA_len (l : List Acc) (e : Ev) : (stepA l e).length = l.length := by
  unfold stepA; split
  · split
    · rw [List.length_set]
    · rfl
  · split
    · rw [List.length_set]
    · rfl
theorem repA_len (n : Nat) (l : List Ev) : (repA n l).length = n := by
  unfold repA
  have : ∀ (l : List Ev) (o : List Acc), (l.foldl stepA o).length = o.length := by
    intro l
    induction l with
    | nil => intro o; rfl
    | cons e l ih => intro o; rw [List.foldl_cons, ih, stepA_len]
  rw [this, List.length_replicate]
theorem repE_old (n : Nat) (l : List Ev) (e : Ev) (b : Int) (k : Nat) (hk : k < l.length) : repE n (l ++ [e]) b k = repE n l b k := by
  unfold repE
  rw [List.getElem?_append_left hk, List.take_append_of_le_length (by omega)]
theorem repTo_old (n : Nat) (l : List Ev) (e : Ev) (b : Int) : ∀ k, k ≤ l.length → repTo n (l ++ [e]) b k = repTo n l b k := by
  intro k
  induction k with
  | zero => intro _; rfl
  | succ k ih =>
    intro hk
    unfold repTo at ih ⊢
    rw [List.range_succ, List.flatMap_append, List.flatMap_append, ih (by omega)]
    simp only [List.flatMap_cons, List.flatMap_nil, List.append_nil]
    rw [repE_old n l e b k (by omega)]
theorem repTo_succ (n : Nat) (l : List Ev) (b : Int) (k : Nat) : repTo n l b (k + 1) = repTo n l b k ++ repE n l b k := by
  unfold repTo
  rw [List.range_succ, List.flatMap_append]
  simp
theorem repS_snoc (n : Nat) (l : List Ev) (e : Ev) (b : Int) : repS n (l ++ [e]) b = repS n l b ++ (if e.kind = 1 ∧ e.ballot = b then [repOf e.server (atS (repA n l) e.server)] else []) := by
  unfold repS
  rw [List.length_append, List.length_singleton, repTo_succ, repTo_old n l e b l.length (Nat.le_refl _)]
  congr 1
  unfold repE
  rw [List.getElem?_append_right (Nat.le_refl _), Nat.sub_self]
  simp only [List.getElem?_cons_zero]
  rw [List.take_append_of_le_length (Nat.le_refl _), List.take_length]
  rfl
theorem valF_snoc (l : List Ev) (e : Ev) (b : Int) : valF (l ++ [e]) b = match valF l b with | some v => some v | none => if isAcc b e = true then some e.value else none := by
  unfold valF
  rw [List.find?_append]
  cases h : l.find? (isAcc b) with
  | some x => rfl
  | none =>
    simp only [Option.none_or, Option.map_none]
    rw [List.find?_cons]
    cases isAcc b e <;> rfl

theorem atS_set {l : List Acc} {s t : Int} {a : Acc} (hs : 0 ≤ s) (hs2 : s < l.length) (ht : 0 ≤ t) : atS (l.set s.toNat a) t = if t = s then a else atS l t := by
  unfold atS
  rw [List.getD, List.getElem?_set]
  by_cases h : t = s
  · subst h
    rw [if_pos rfl, if_pos (by omega), if_pos rfl]; rfl
  · rw [if_neg (by omega), if_neg h]; rfl

/-- what holds of the state of events that follow the rules -/
structure Inv (n : Nat) (l : List Ev) : Prop where
  srv : ∀ e ∈ l, 0 ≤ e.server ∧ e.server < n ∧ 1 ≤ e.ballot ∧ (e.kind = 1 ∨ e.kind = 2)
  bal : ∀ s : Int, 0 ≤ s → s < n → 0 ≤ (atS (repA n l) s).bal ∧ (atS (repA n l) s).bal ≤ (atS (repA n l) s).prom
  val : ∀ s : Int, 0 ≤ s → s < n → 0 < (atS (repA n l) s).bal → emB (atS (repA n l) s).val = false
  rep : ∀ (b : Int) (r : Rep), r ∈ repS n l b → 0 ≤ r.server ∧ r.server < n ∧ 0 ≤ r.ballot ∧ r.ballot < b ∧ b ≤ (atS (repA n l) r.server).prom ∧ (0 < r.ballot → emB r.value = false)
  seen : ∀ (b : Int), invR b 0#16 (repS n l b) = false
  vals : ∀ (b : Int) (v : ByteArray), valF l b = some v → emB v = false
end Go.Proofs.YtgfjmplifmbmlaaDoor
