/- Reading slices of one-cell elements; worlds that only grow. Plain lemmas over the model, no program. -/
import Derived.Test.YtopcejcfghdeeaaBv
import Derived.Lib.Hide
import Derived.WalkSpells
import Derived.Laws.AppendOwnNone
import Derived.Deep.DeepFit
import Derived.Deep.LoopGhost
import Derived.Deep.QuietTactic
import Derived.BigQuiet
namespace Go.Proofs.Ytopcejcfghdeeaa
open Go.RowKit

/-- The slice value '.slice a n c' reads, in w, as the list l of one-cell values. -/
structure Rd (w : World) (a : Option Addr) (n c : Nat) (l : List Value) : Prop where
  len : n = l.length
  le : n ≤ c
  max : c ≤ maxLen
  nil : a = none → c = 0
  at' : 0 < n → ∃ b o, a = some ⟨b, o, none⟩ ∧ ∀ i v, l[i]? = some v → w.cell? ⟨b, o + i, none⟩ = some v

theorem Rd.none_ (w : World) : Rd w none 0 0 [] := ⟨rfl, Nat.le_refl _, by simp [maxLen], fun _ => rfl, fun h => absurd h (by decide)⟩

theorem cell_lt {w : World} {b o : Nat} {v : Value} (h : w.cell? ⟨b, o, none⟩ = some v) : b < w.heap.size := World.block_lt_of_cell? w ⟨b, o, none⟩ h

theorem Rd.below {w w' : World} {a : Option Addr} {n c : Nat} {l : List Value} (h : Rd w a n c l) (hb : Below w.heap.size w w') : Rd w' a n c l := by
  refine ⟨h.len, h.le, h.max, h.nil, fun hn => ?_⟩
  obtain ⟨b, o, ha, hc⟩ := h.at' hn
  refine ⟨b, o, ha, fun i v hv => ?_⟩
  have := hc i v hv
  exact (hb.cell (p := ⟨b, o + i, none⟩) (cell_lt this)).trans this

theorem bcell {W w1 : World} (hb : Below W.heap.size W w1) : (∀ b o, b < W.heap.size → w1.cell? ⟨b, o, none⟩ = W.cell? ⟨b, o, none⟩) ∧ (∀ b o, b < W.heap.size → w1.frozen? ⟨b, o, none⟩ = W.frozen? ⟨b, o, none⟩) :=
  ⟨fun b o h => hb.cell (p := ⟨b, o, none⟩) h, fun b o h => hb.frozen (p := ⟨b, o, none⟩) h⟩

/-- What a call owns and hands back: a slice value that lies at the head of a row of its own (or nil). -/
def Own (w w' : World) (e : TypeId) (v : Value) (l : List Value) : Prop := w'.ownsRow w.heap.size e 1 v l.length l

theorem Own.rd {w w' : World} {e : TypeId} {v : Value} {l : List Value} (h : Own w w' e v l) : ∃ a c, v = .slice a l.length c ∧ Rd w' a l.length c l := by
  obtain ⟨h1, h2⟩ := h
  rcases h2 with ⟨rfl, hn⟩ | ⟨g, cap, cur, rfl, hb, hg, hle, hm, hs, ht⟩
  · obtain rfl := List.eq_nil_of_length_eq_zero hn
    exact ⟨none, 0, rfl, Rd.none_ _⟩
  · refine ⟨some ⟨g, 0, none⟩, cap, rfl, rfl, hle, hm, fun h => (by cases h), fun _ => ⟨g, 0, rfl, fun i v hv => ?_⟩⟩
    have := World.ownsRow.cells (w := w') (base := w.heap.size) (e := e) (size := 1) (v := .slice (some ⟨g, 0, none⟩) l.length cap) (n := l.length) (xs := l) ⟨h1, .inr ⟨g, cap, cur, rfl, hb, hg, hle, hm, hs, ht⟩⟩ (g := g) rfl i v hv
    rw [Addr.add_lit] at this; simpa using this

theorem Own.rdn {w w' : World} {e : TypeId} {v : Value} {l : List Value} (h : Own w w' e v l) (n : Nat) (hn : l.length = n) : ∃ a c, v = .slice a n c ∧ Rd w' a n c l := by
  subst hn; exact h.rd
/-- a row of the call's own, read -/
theorem rd_of_row {w : World} {B n : Nat} {e : TypeId} {v : Value} {l : List Value} (h : w.ownsRow B e 1 v n l) : ∃ a c, v = .slice a n c ∧ Rd w a n c l := by
  have hn : n = l.length := by simpa using h.1.symm
  obtain ⟨h1, h2⟩ := h
  rcases h2 with ⟨rfl, h0⟩ | ⟨g, cap, cur, rfl, hb, hg, hle, hm, hs, ht⟩
  · subst h0
    obtain rfl := List.eq_nil_of_length_eq_zero hn.symm
    exact ⟨none, 0, rfl, Rd.none_ _⟩
  · refine ⟨some ⟨g, 0, none⟩, cap, rfl, hn, hle, hm, fun h => (by cases h), fun _ => ⟨g, 0, rfl, fun i v hv => ?_⟩⟩
    have := World.ownsRow.cells (w := w) (base := B) (e := e) (size := 1) (v := .slice (some ⟨g, 0, none⟩) n cap) (n := n) (xs := l) ⟨h1, .inr ⟨g, cap, cur, rfl, hb, hg, hle, hm, hs, ht⟩⟩ (g := g) rfl i v hv
    rw [Addr.add_lit] at this; simpa using this
theorem row_below {w w' : World} {B n : Nat} {e : TypeId} {v : Value} {l : List Value} (h : w.ownsRow B e 1 v n l) (hb : Below w.heap.size w w') : w'.ownsRow B e 1 v n l := by
  obtain ⟨h1, h2⟩ := h
  refine ⟨h1, ?_⟩
  rcases h2 with h2 | ⟨g, cap, cur, hv, hb', hg, r⟩
  · exact .inl h2
  · exact .inr ⟨g, cap, cur, hv, hb', by rw [hb.block g (Array.getElem?_eq_some_iff.1 hg).1]; exact hg, r⟩

theorem Own.below {w w1 w2 : World} {e : TypeId} {v : Value} {l : List Value} (h : Own w w1 e v l) (hb : Below w1.heap.size w1 w2) : Own w w2 e v l := by
  obtain ⟨h1, h2⟩ := h
  refine ⟨h1, ?_⟩
  rcases h2 with h2 | ⟨g, cap, cur, hv, hb', hg, r⟩
  · exact .inl h2
  · exact .inr ⟨g, cap, cur, hv, hb', by rw [hb.block g (Array.getElem?_eq_some_iff.1 hg).1]; exact hg, r⟩

theorem Own.mono {w0 w w1 : World} {e : TypeId} {v : Value} {l : List Value} (h : Own w w1 e v l) (hs : w0.heap.size ≤ w.heap.size) : Own w0 w1 e v l := by
  obtain ⟨h1, h2⟩ := h
  refine ⟨h1, ?_⟩
  rcases h2 with h2 | ⟨g, cap, cur, hv, hb', r⟩
  · exact .inl h2
  · exact .inr ⟨g, cap, cur, hv, Nat.le_trans hs hb', r⟩

theorem cell_new (w : World) (cs : Array Value) (e : TypeId) (i : Nat) (v : Value) (h : cs[i]? = some v) : (w.alloc (.cells cs e)).cell? ⟨w.heap.size, i, none⟩ = some v := by
  rw [cell_of_row _ w.heap.size i cs e (0, 0) (heap_alloc_new w _)]; exact h

/-- a slice literal -/
theorem Rd.lit (w : World) (cs : Array Value) (e : TypeId) (n : Nat) (l : List Value) (hl : cs.toList = l) (hn : n = l.length) (hm : n ≤ 1000000) : Rd (w.alloc (.cells cs e)) (some ⟨w.heap.size, 0, none⟩) n n l := by
  subst hl
  refine ⟨hn, Nat.le_refl _, by unfold maxLen; omega, fun h => (by cases h), fun _ => ⟨_, _, rfl, fun i v hv => ?_⟩⟩
  rw [Nat.zero_add]
  exact cell_new w cs e i v (by simpa using hv)

theorem Rd.lit' (w : World) (cs : Array Value) (e : TypeId) (n : Nat) (l : List Value) (hl : cs.toList = l) (hn : n = l.length) (hm : n ≤ 1000000) {b : Nat} (hb : b = w.heap.size) : Rd (w.alloc (.cells cs e)) (some ⟨b, 0, none⟩) n n l := by
  subst hb; exact Rd.lit w cs e n l hl hn hm
theorem cell_new' (w : World) (cs : Array Value) (e : TypeId) (i : Nat) (v : Value) (h : cs[i]? = some v) {b : Nat} (hb : b = w.heap.size) : (w.alloc (.cells cs e)).cell? ⟨b, i, none⟩ = some v := by
  subst hb; exact cell_new w cs e i v h

theorem below_drewN {B : Nat} {a w : World} {q : Nat} (h : Below B a w) : Below B a (w.drewN q) := ⟨h.os, h.tape, h.output, h.size, h.block⟩
theorem Below.next {w w1 w2 : World} (h : Below w.heap.size w w1) (k : Below w1.heap.size w1 w2) : Below w.heap.size w w2 := h.trans (k.mono h.size)

/-- 'out = append(out, x)' on a slice of the call's own, one cell: the element stands in the last block. -/
theorem wpList_app {P : Program} {ops : Array Oper} {rest : List Oper} {o : Oper} {a : Act} {Q : Exit → Act → World → Prop} {B : Nat} {w0 wr : World} {e : TypeId} {v : Value} {l : List Value} {n : Nat}
    (s xo : Operand) (t : TypeId) (bytes : Nat) (z x : Value) (ty : TypeId)
    (ht : P.underlying t = some (.slice e)) (hi : (P.info? e).map (fun i => (i.zero, i.size, i.bytes)) = some (some z, 1, bytes)) (hz : z.cells.size = 1)
    (hown : wr.ownsRow B e 1 v n l) (hb : Below B w0 wr) (hB : B ≤ w0.heap.size)
    (hg : o.guard = none) (hop : o.op = Op.call { callee := Callee.builtin Builtin.append, args := #[s, xo], argTypes := #[t, t] })
    (hs : a.eval s = v) (hx : a.eval xo = .slice (some ⟨wr.heap.size, 0, none⟩) 1 1) (h1 : x.oneCell' = true)
    (hlen : n + 1 ≤ maxLen) (hby : (n + 1) * bytes ≤ 140737488355328)
    (hK : ∀ v' w1, w1.ownsRow B e 1 v' (n + 1) (l ++ [x]) → Below B w0 w1 → wr.grownBy w1 v.ownBlock → wr.heap.size < w1.heap.size → wpList P ops Q rest (a.put o.dst v') w1) :
    wpList P ops Q (o :: rest) a (wr.alloc (.cells #[x] ty)) := by
  obtain ⟨i, hi1, hi2, hi3, hi4⟩ := info_parts hi
  have hsz := hb.size
  refine wpList_append_own _ hg s xo t hop B e i z 1 bytes ht hi1 hi2 hi3 hi4 hz (by decide) v n l hs (hown.alloc _) ⟨wr.heap.size, 0, none⟩ 1 1 [x] hx rfl ?_ ?_ hlen hby (by simp; omega) ?_
  · intro j u hj
    match j, hj with
    | 0, hj => simp at hj; subst hj; rw [Addr.add_lit]; rw [cell_of_row _ wr.heap.size (0 + 0) #[x] ty (0, 0) (heap_alloc_new wr _)]; rfl
  · intro u hu; simp at hu; subst hu; exact h1
  · intro v' w1 h2 h3 _
    have h4 := h3.size
    simp only [World.size_alloc] at h4
    refine hK v' w1 h2 ((hb.alloc (by omega) _).grown h3 (by simp; omega) fun k hk => (hown.lt k hk).1) ?_ (by omega)
    exact ⟨h3.os, h3.tape, h3.output, by omega, fun k hk hne => (h3.block k (by simp; omega) hne).trans (Below.heap_alloc wr _ k hk)⟩

/-- 'out = append(out, xs...)' on a slice of the call's own, elements of one cell. -/
theorem wpList_apps {P : Program} {ops : Array Oper} {rest : List Oper} {o : Oper} {a : Act} {Q : Exit → Act → World → Prop} {B : Nat} {w0 wr : World} {e : TypeId} {v : Value} {l : List Value} {n : Nat}
    (s xo : Operand) (t : TypeId) (bytes : Nat) (z : Value) (ao : Option Addr) (m c : Nat) (news : List Value)
    (ht : P.underlying t = some (.slice e)) (hi : (P.info? e).map (fun i => (i.zero, i.size, i.bytes)) = some (some z, 1, bytes)) (hz : z.cells.size = 1)
    (hown : wr.ownsRow B e 1 v n l) (hb : Below B w0 wr) (hB : B ≤ w0.heap.size) (hr : Rd wr ao m c news) (h1 : ∀ u ∈ news, u.oneCell' = true)
    (hg : o.guard = none) (hop : o.op = Op.call { callee := Callee.builtin Builtin.append, args := #[s, xo], argTypes := #[t, t] })
    (hs : a.eval s = v) (hx : a.eval xo = .slice ao m c)
    (hlen : n + m ≤ maxLen) (hby : (n + m) * bytes ≤ 140737488355328)
    (hK : ∀ v' w1, w1.ownsRow B e 1 v' (n + m) (l ++ news) → Below B w0 w1 → wr.grownBy w1 v.ownBlock → wpList P ops Q rest (a.put o.dst v') w1) :
    wpList P ops Q (o :: rest) a wr := by
  obtain ⟨i, hi1, hi2, hi3, hi4⟩ := info_parts hi
  have hsz := hb.size
  cases ao with
  | none =>
    have hc := hr.nil rfl
    have hm : m = 0 := by have := hr.le; omega
    subst hc hm
    have hnil : news = [] := List.eq_nil_of_length_eq_zero hr.len.symm
    subst hnil
    exact wpList_append_own_none hg s xo t hop B e i 1 ht hi1 v n l hs hown hx (hK v wr (by simpa using hown) hb (World.grownBy.refl _ _))
  | some ad =>
    refine wpList_append_own _ hg s xo t hop B e i z 1 bytes ht hi1 hi2 hi3 hi4 hz (by decide) v n l hs hown ad m c news hx (by simpa using hr.len.symm) ?_ h1 hlen hby (by omega) ?_
    · intro j u hj
      have hj' := (List.getElem?_eq_some_iff.1 hj).1
      obtain ⟨b, of, ha, hcell⟩ := hr.at' (by have := hr.len; omega)
      cases ha
      rw [Addr.add_lit]
      exact hcell j u hj
    · intro v' w1 h2 h3 _
      exact hK v' w1 h2 (hb.grown h3 (by omega) fun k hk => (hown.lt k hk).1) h3

theorem ret_tup {a b c d : Value} (h1 : a = c) (h2 : b = d) : Ending.returned (.tuple #[a, b]) = .returned (.tuple #[c, d]) := by rw [h1, h2]
theorem ret_int {k : IntKind} {a b : Int} (h : a = b) : Ending.returned (.int k a) = .returned (.int k b) := by rw [h]
theorem ret_bool {a b : Bool} (h : a = b) : Ending.returned (.bool a) = .returned (.bool b) := by rw [h]
end Go.Proofs.Ytopcejcfghdeeaa
