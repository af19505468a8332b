/- Texts laid together. Drafts in memory; nodes whose lists lie where nothing is being built. Plain lemmas over the model, no program. Nodes that lie in a range of blocks: they read the same in every world that agrees there. Plain lemmas over the model, no program. Nodes under way: what finished nodes read lies in a set of blocks that nobody writes. Plain lemmas over the model, no program. Layer 10, plain: expressions as trees. No program. Layer 10, plain: valid trees. No program. Layer 10, plain: the nodes of a tree, one step. No program. A handed slice of integers, as a law's frame opens it. slices.Clone of ints as a row; a list of expressions in memory. Package build: the expressions of some servers. Layer 10, plain: sizes of trees, cut at a bound. No program. A region that draws its order: operations that stay in a class of worlds, and behind them, in one forced order, a tail that writes. Over any program. A region that draws its order and ends in one store that changes what some of its loads read: one walk in the order of the text. Over any program. -/
import Derived.Test.YtmjgdnpfgkpaoaaDoorGTopSimplified1
import Derived.Test.YtmjgdnpfgkpaoaaDoorGTopSimplified2
import Derived.Test.YtmjgdnpfgkpaoaaDoorGTopSimplified3
import Derived.Lib.SliceRun
import Derived.Deep.OwnRows
import Derived.Deep.DeepCutAuto
import Derived.Deep.CutRange
import Derived.StillTail
import Derived.Deep.Quiet
import Derived.Deep.QuietTactic
namespace Go.Proofs.YtmjgdnpfgkpaoaaDoor
open Go.RowKit

/-- the five cells of a piece -/
structure PceM (w : World) (b o : Nat) (p : Pce) : Prop where
  c0 : w.cell? ⟨b, o, none⟩ = some (.int .u8 p.kind)
  c1 : w.cell? ⟨b, o + 1, none⟩ = some (.int .u8 p.server)
  c2 : w.cell? ⟨b, o + 2, none⟩ = some (.int .u8 p.need)
  c3 : w.cell? ⟨b, o + 3, none⟩ = some (.bool p.heavy)
  ks : ∃ a n c, w.cell? ⟨b, o + 4, none⟩ = some (.slice a n c) ∧ Rd w a n c (p.kids.map (Value.int .u8))
structure PM (w : World) (a : Option Addr) (n c : Nat) (ps : List Pce) : Prop where
  len : ps.length = n
  le : n ≤ c
  max : c ≤ maxLen
  at' : 0 < n → ∃ b o, a = some ⟨b, o, none⟩ ∧ ∀ i p, ps[i]? = some p → PceM w b (o + i * 5) p
theorem PceM.below {w w' : World} {b o : Nat} {p : Pce} (h : PceM w b o p) (hb : Below w.heap.size w w') : PceM w' b o p := by
  obtain ⟨a, n, c, h4, r4⟩ := h.ks
  exact ⟨cell_keep hb h.c0, cell_keep hb h.c1, cell_keep hb h.c2, cell_keep hb h.c3, ⟨a, n, c, cell_keep hb h4, r4.below hb⟩⟩
theorem PM.below {w w' : World} {a : Option Addr} {n c : Nat} {ps : List Pce} (h : PM w a n c ps) (hb : Below w.heap.size w w') : PM w' a n c ps := by
  refine ⟨h.len, h.le, h.max, fun hn => ?_⟩
  obtain ⟨b, o, ha, hc⟩ := h.at' hn
  exact ⟨b, o, ha, fun i p hi => (hc i p hi).below hb⟩

/-- a block as a value whose own block it is -/
def blkV (X : Nat) : Value := .slice (some ⟨X, 0, none⟩) 1 1
theorem blkV_own (X : Nat) : (blkV X).ownBlock = some X := rfl
theorem Rd.setOther {w : World} {a : Option Addr} {n c : Nat} {l : List Value} {X : Nat} (h : Rd w a n c l) (hc : Clear n (blkV X) a) (j : Nat) (u : Value) : Rd (w.setCell ⟨X, j, none⟩ u) a n c l := by
  refine ⟨h.len, h.le, h.max, h.nil, fun hn => ?_⟩
  obtain ⟨b, o, ha, hcell⟩ := h.at' hn
  refine ⟨b, o, ha, fun i v hv => ?_⟩
  have hne : b ≠ X := fun e => hc hn b o ha (by rw [blkV_own, e])
  have := hcell i v hv
  rw [World.cell?_of_block (w := w) (w' := w.setCell ⟨X, j, none⟩ u) (a := ⟨b, o + i, none⟩) (Below.heap_setCell _ _ _ _ hne)]
  exact this

/-- a node's value reads as the node, and its lists lie apart from a block and from the row of a value -/
structure NodC (w : World) (X : Nat) (v : Value) (p : NodV) (nd : Nod) : Prop where
  e0 : p.kind = nd.kind
  e1 : p.server = nd.server
  e2 : p.need = nd.need
  ws : ∃ a n c, p.wv = .slice a n c ∧ Rd w a n c (nd.weights.map (Value.int .i64)) ∧ Clear n v a ∧ ∀ Y, Y ≤ X → Clear n (blkV Y) a
  ks : ∃ a n c, p.kv = .slice a n c ∧ Rd w a n c (nd.kids.map (Value.int .i64)) ∧ Clear n v a ∧ ∀ Y, Y ≤ X → Clear n (blkV Y) a
theorem NodC.toR {w : World} {X : Nat} {v : Value} {p : NodV} {nd : Nod} (h : NodC w X v p nd) : NodR w p nd := by
  obtain ⟨a, n, c, h3, r3, _, _⟩ := h.ws
  obtain ⟨a', n', c', h4, r4, _, _⟩ := h.ks
  exact ⟨h.e0, h.e1, h.e2, ⟨a, n, c, h3, r3⟩, ⟨a', n', c', h4, r4⟩⟩
theorem NodC.below {w w' : World} {X : Nat} {v : Value} {p : NodV} {nd : Nod} (h : NodC w X v p nd) (hb : Below w.heap.size w w') : NodC w' X v p nd := by
  obtain ⟨a, n, c, h3, r3, k1, k2⟩ := h.ws
  obtain ⟨a', n', c', h4, r4, k3, k4⟩ := h.ks
  exact ⟨h.e0, h.e1, h.e2, ⟨a, n, c, h3, r3.below hb, k1, k2⟩, ⟨a', n', c', h4, r4.below hb, k3, k4⟩⟩
theorem NodC.grown {w w' : World} {X : Nat} {v v' : Value} {p : NodV} {nd : Nod} (h : NodC w X v p nd) (hg : w.grownBy w' v.ownBlock) (hv : ∀ g, v'.ownBlock = some g → v.ownBlock = some g ∨ w.heap.size ≤ g) : NodC w' X v' p nd := by
  obtain ⟨a, n, c, h3, r3, k1, k2⟩ := h.ws
  obtain ⟨a', n', c', h4, r4, k3, k4⟩ := h.ks
  exact ⟨h.e0, h.e1, h.e2, ⟨a, n, c, h3, r3.grown hg k1, k1.step r3 hv, k2⟩, ⟨a', n', c', h4, r4.grown hg k3, k3.step r4 hv, k4⟩⟩
theorem NodC.setAt {w : World} {X : Nat} {v : Value} {p : NodV} {nd : Nod} (h : NodC w X v p nd) (Y : Nat) (hY : Y ≤ X) (j : Nat) (u : Value) : NodC (w.setCell ⟨Y, j, none⟩ u) X v p nd := by
  obtain ⟨a, n, c, h3, r3, k1, k2⟩ := h.ws
  obtain ⟨a', n', c', h4, r4, k3, k4⟩ := h.ks
  exact ⟨h.e0, h.e1, h.e2, ⟨a, n, c, h3, r3.setOther (k2 Y hY) j u, k1, k2⟩, ⟨a', n', c', h4, r4.setOther (k4 Y hY) j u, k3, k4⟩⟩
theorem Clear.none (n : Nat) (v : Value) : Clear n v none := fun _ _ _ h => by cases h
/-- a row of the call's own lies above what lies below its base -/
theorem Clear.lower {w : World} {B k m n c : Nat} {e : TypeId} {a : Option Addr} {xs : List Value} {v : Value} (h : w.ownsRow B e k (.slice a n c) m xs) (hlt : ∀ g, v.ownBlock = some g → g < B) : Clear n v a := by
  intro hn b o ha he
  have h1 := (h.lt b (by rw [ha]; rfl)).1
  have h2 := hlt b he
  omega
/-- a server's node -/
theorem NodC.srv (w : World) (X : Nat) (v : Value) (k s : Int) : NodC w X v ⟨k, s, 0, .slice none 0 0, .slice none 0 0⟩ ⟨k, s, 0, [], []⟩ :=
  ⟨rfl, rfl, rfl, ⟨none, 0, 0, rfl, Rd.none_ _, Clear.none _ _, fun _ _ => Clear.none _ _⟩, ⟨none, 0, 0, rfl, Rd.none_ _, Clear.none _ _, fun _ _ => Clear.none _ _⟩⟩
/-- the nodes made so far, in the row of a field of a block -/
structure XW (w : World) (X : Nat) (v : Value) (t : TypeId) (nodes : List Nod) : Prop where
  row : ∃ V : List NodV, V.length = nodes.length ∧ w.ownsRow (X + 1) t 5 v nodes.length (V.flatMap nodVC) ∧ ∀ (i : Nat) p nd, V[i]? = some p → nodes[i]? = some nd → NodC w X v p nd
theorem XW.nil (w : World) (X : Nat) (t : TypeId) : XW w X (.slice none 0 0) t [] := ⟨[], rfl, World.ownsRow_nil _ _ _ _, fun i p nd h => by simp at h⟩
theorem XW.below {w w' : World} {X : Nat} {v : Value} {t : TypeId} {nodes : List Nod} (h : XW w X v t nodes) (hb : Below w.heap.size w w') : XW w' X v t nodes := by
  obtain ⟨V, h1, h2, h3⟩ := h.row
  exact ⟨V, h1, rowK_below h2 hb, fun i p nd hp hn => (h3 i p nd hp hn).below hb⟩
theorem XW.setAt {w : World} {X : Nat} {v : Value} {t : TypeId} {nodes : List Nod} (h : XW w X v t nodes) (Y : Nat) (hY : Y ≤ X) (j : Nat) (u : Value) : XW (w.setCell ⟨Y, j, none⟩ u) X v t nodes := by
  obtain ⟨V, h1, h2, h3⟩ := h.row
  exact ⟨V, h1, rowK_at h2 fun g hg => Below.heap_setCell _ _ _ _ (by have := (h2.lt g hg).1; show g ≠ Y; omega), fun i p nd hp hn => (h3 i p nd hp hn).setAt Y hY j u⟩
theorem XW.set {w : World} {X : Nat} {v : Value} {t : TypeId} {nodes : List Nod} (h : XW w X v t nodes) (j : Nat) (u : Value) : XW (w.setCell ⟨X, j, none⟩ u) X v t nodes := h.setAt X (Nat.le_refl _) j u
/-- a node more -/
theorem XW.push {w w' : World} {X : Nat} {v v' : Value} {t : TypeId} {nodes : List Nod} {p : NodV} {nd : Nod} {V : List NodV} (hV : V.length = nodes.length) (h3 : ∀ (i : Nat) p nd, V[i]? = some p → nodes[i]? = some nd → NodC w X v p nd) (hr : w'.ownsRow (X + 1) t 5 v' (nodes.length + 1) (V.flatMap nodVC ++ nodVC p))
    (hp : NodC w X v p nd) (hg : w.grownBy w' v.ownBlock) (hv : ∀ g, v'.ownBlock = some g → v.ownBlock = some g ∨ w.heap.size ≤ g) : XW w' X v' t (nodes ++ [nd]) := by
  refine ⟨V ++ [p], by simp [hV], ?_, fun i q m hq hm => ?_⟩
  · rw [List.flatMap_append, List.length_append, List.flatMap_cons, List.flatMap_nil, List.append_nil]; exact hr
  · by_cases hi : i < V.length
    · rw [List.getElem?_append_left hi] at hq
      rw [List.getElem?_append_left (by omega)] at hm
      exact (h3 i q m hq hm).grown hg hv
    · have hq2 := (List.getElem?_eq_some_iff.1 hq).1
      have : i = V.length := by simp at hq2; omega
      subst this
      rw [List.getElem?_append_right (Nat.le_refl _), Nat.sub_self] at hq
      rw [hV, List.getElem?_append_right (Nat.le_refl _), Nat.sub_self] at hm
      cases hq; cases hm
      exact hp.grown hg hv
theorem XW.xm {w : World} {X : Nat} {v : Value} {t : TypeId} {nodes : List Nod} (h : XW w X v t nodes) : ∃ a c, v = .slice a nodes.length c ∧ XM w a nodes.length c nodes := by
  obtain ⟨V, h1, h2, h3⟩ := h.row
  exact XM.of_row h2 h1 fun i p nd hp hn => (h3 i p nd hp hn).toR
end Go.Proofs.YtmjgdnpfgkpaoaaDoor
namespace Go.Proofs.YtmjgdnpfgkpaoaaDoor
open Go.RowKit

def XMR (lo hi : Nat) (w : World) (a : Option Addr) (n c : Nat) (nodes : List Nod) : Prop :=
  ∀ w2 : World, (∀ g, lo ≤ g → g < hi → w2.heap[g]? = w.heap[g]?) → XM w2 a n c nodes
theorem XMR.xm {lo hi : Nat} {w : World} {a : Option Addr} {n c : Nat} {nodes : List Nod} (h : XMR lo hi w a n c nodes) : XM w a n c nodes := h w fun _ _ _ => rfl
theorem XMR.mono {lo hi lo' hi' : Nat} {w : World} {a : Option Addr} {n c : Nat} {nodes : List Nod} (h : XMR lo hi w a n c nodes) (h1 : lo' ≤ lo) (h2 : hi ≤ hi') : XMR lo' hi' w a n c nodes :=
  fun w2 hg => h w2 fun g g1 g2 => hg g (by omega) (by omega)
theorem XMR.agree {lo hi : Nat} {w w' : World} {a : Option Addr} {n c : Nat} {nodes : List Nod} (h : XMR lo hi w a n c nodes) (hg : ∀ g, lo ≤ g → g < hi → w'.heap[g]? = w.heap[g]?) : XMR lo hi w' a n c nodes :=
  fun w2 h2 => h w2 fun g g1 g2 => (h2 g g1 g2).trans (hg g g1 g2)
theorem cell_blk_lt {w : World} {b o : Nat} {v : Value} (h : w.cell? ⟨b, o, none⟩ = some v) : b < w.heap.size := by
  by_cases hb : b < w.heap.size
  · exact hb
  · have h0 : w.heap[b]? = none := Array.getElem?_eq_none (by omega)
    simp [World.cell?, h0] at h
theorem Rd.agree {w w2 : World} {a : Option Addr} {n c X : Nat} {l : List Value} (h : Rd w a n c l) (hc : ∀ Y, Y ≤ X → Clear n (blkV Y) a) (hg : ∀ g, X + 1 ≤ g → g < w.heap.size → w2.heap[g]? = w.heap[g]?) : Rd w2 a n c l := by
  refine ⟨h.len, h.le, h.max, h.nil, fun hn => ?_⟩
  obtain ⟨b, o, ha, hcell⟩ := h.at' hn
  refine ⟨b, o, ha, fun i v hv => ?_⟩
  have h1 := hcell i v hv
  have hX : X + 1 ≤ b := by
    by_cases h2 : b ≤ X
    · exact absurd (blkV_own b) (hc b h2 hn b o ha)
    · omega
  rw [World.cell?_of_block (w := w) (w' := w2) (a := ⟨b, o + i, none⟩) (hg b hX (cell_blk_lt h1))]
  exact h1
theorem NodC.agree {w w2 : World} {X : Nat} {v : Value} {p : NodV} {nd : Nod} (h : NodC w X v p nd) (hg : ∀ g, X + 1 ≤ g → g < w.heap.size → w2.heap[g]? = w.heap[g]?) : NodR w2 p nd := by
  obtain ⟨a, n, c, h3, r3, _, k2⟩ := h.ws
  obtain ⟨a', n', c', h4, r4, _, k4⟩ := h.ks
  exact ⟨h.e0, h.e1, h.e2, ⟨a, n, c, h3, r3.agree k2 hg⟩, ⟨a', n', c', h4, r4.agree k4 hg⟩⟩
theorem XW.xmr {w : World} {X : Nat} {v : Value} {t : TypeId} {nodes : List Nod} (h : XW w X v t nodes) : ∃ a c, v = .slice a nodes.length c ∧ XMR (X + 1) w.heap.size w a nodes.length c nodes := by
  obtain ⟨V, h1, h2, h3⟩ := h.row
  obtain ⟨a, c, rfl, _⟩ := rdK_of_row h2
  refine ⟨a, c, rfl, fun w2 hg => ?_⟩
  obtain ⟨a', c', e, hx⟩ := XM.of_row (rowK_at h2 fun g hgv => hg g (h2.lt g hgv).1 (h2.lt g hgv).2) h1 fun i p nd hp hn => (h3 i p nd hp hn).agree hg
  cases e
  exact hx
end Go.Proofs.YtmjgdnpfgkpaoaaDoor
namespace Go.Proofs.YtmjgdnpfgkpaoaaDoor
open Go.RowKit

def Ag (S : Nat → Prop) (w w2 : World) : Prop := ∀ g, S g → w2.heap[g]? = w.heap[g]?
def NodS (S : Nat → Prop) (w : World) (p : NodV) (nd : Nod) : Prop := ∀ w2 : World, Ag S w w2 → NodR w2 p nd
theorem Ag.refl (S : Nat → Prop) (w : World) : Ag S w w := fun _ _ => rfl
theorem NodS.r {S : Nat → Prop} {w : World} {p : NodV} {nd : Nod} (h : NodS S w p nd) : NodR w p nd := h w (Ag.refl _ _)
theorem NodS.move {S : Nat → Prop} {w w' : World} {p : NodV} {nd : Nod} (h : NodS S w p nd) (ha : Ag S w w') : NodS S w' p nd := fun w2 h2 => h w2 fun g hg => (h2 g hg).trans (ha g hg)
theorem NodS.mono {S S' : Nat → Prop} {w : World} {p : NodV} {nd : Nod} (h : NodS S w p nd) (hs : ∀ g, S g → S' g) : NodS S' w p nd := fun w2 h2 => h w2 fun g hg => h2 g (hs g hg)
/-- a row of one-cell values reads by its block alone -/
theorem row_alone {w : World} {B n : Nat} {e : TypeId} {v : Value} {l : List Value} (h : w.ownsRow B e 1 v n l) (w2 : World) (ha : ∀ g, v.ownBlock = some g → w2.heap[g]? = w.heap[g]?) : ∃ a c, v = .slice a n c ∧ Rd w2 a n c l := by
  have h2 := rowK_at h ha
  exact rd_of_row h2

structure XB (S : Nat → Prop) (B : Nat) (w : World) (v : Value) (t : TypeId) (nodes : List Nod) : Prop where
  row : ∃ V : List NodV, V.length = nodes.length ∧ w.ownsRow B t 5 v nodes.length (V.flatMap nodVC) ∧ ∀ (i : Nat) p nd, V[i]? = some p → nodes[i]? = some nd → NodS S w p nd
  lt : ∀ g, S g → g < w.heap.size
  own : ∀ g, v.ownBlock = some g → ¬ S g
theorem XB.nil (S : Nat → Prop) (B : Nat) (w : World) (t : TypeId) (h : ∀ g, S g → g < w.heap.size) : XB S B w (.slice none 0 0) t [] :=
  ⟨⟨[], rfl, World.ownsRow_nil _ _ _ _, fun i p nd h => by simp at h⟩, h, fun g h => by cases h⟩
theorem XB.lt_own {S : Nat → Prop} {B : Nat} {w : World} {v : Value} {t : TypeId} {nodes : List Nod} (h : XB S B w v t nodes) : ∀ g, v.ownBlock = some g → B ≤ g ∧ g < w.heap.size := by
  obtain ⟨V, _, h2, _⟩ := h.row
  exact fun g hg => h2.lt g hg
theorem XB.shape {S : Nat → Prop} {B : Nat} {w : World} {v : Value} {t : TypeId} {nodes : List Nod} (h : XB S B w v t nodes) : ∃ a c, v = .slice a nodes.length c ∧ XM w a nodes.length c nodes := by
  obtain ⟨V, h1, h2, h3⟩ := h.row
  exact XM.of_row h2 h1 fun i p nd hp hn => (h3 i p nd hp hn).r
/-- other blocks may change -/
theorem XB.move {S : Nat → Prop} {B : Nat} {w w' : World} {v : Value} {t : TypeId} {nodes : List Nod} (h : XB S B w v t nodes) (ha : Ag S w w') (hv : ∀ g, v.ownBlock = some g → w'.heap[g]? = w.heap[g]?) (hs : w.heap.size ≤ w'.heap.size) : XB S B w' v t nodes := by
  obtain ⟨V, h1, h2, h3⟩ := h.row
  exact ⟨⟨V, h1, rowK_at h2 hv, fun i p nd hp hn => (h3 i p nd hp hn).move ha⟩, fun g hg => Nat.lt_of_lt_of_le (h.lt g hg) hs, h.own⟩
theorem XB.below {S : Nat → Prop} {B : Nat} {w w' : World} {v : Value} {t : TypeId} {nodes : List Nod} (h : XB S B w v t nodes) (hb : Below w.heap.size w w') : XB S B w' v t nodes :=
  h.move (fun g hg => hb.block g (h.lt g hg)) (fun g hg => hb.block g (h.lt_own g hg).2) hb.size
theorem XB.mono {S S' : Nat → Prop} {B : Nat} {w : World} {v : Value} {t : TypeId} {nodes : List Nod} (h : XB S B w v t nodes) (hs : ∀ g, S g → S' g) (hlt : ∀ g, S' g → g < w.heap.size) (hown : ∀ g, v.ownBlock = some g → ¬ S' g) : XB S' B w v t nodes := by
  obtain ⟨V, h1, h2, h3⟩ := h.row
  exact ⟨⟨V, h1, h2, fun i p nd hp hn => (h3 i p nd hp hn).mono hs⟩, hlt, hown⟩
/-- a node more -/
theorem XB.push {S : Nat → Prop} {B : Nat} {w w' : World} {v v' : Value} {t : TypeId} {nodes : List Nod} {p : NodV} {nd : Nod} {V : List NodV} (hV : V.length = nodes.length) (h3 : ∀ (i : Nat) p nd, V[i]? = some p → nodes[i]? = some nd → NodS S w p nd) (hlt : ∀ g, S g → g < w.heap.size) (hown : ∀ g, v.ownBlock = some g → ¬ S g)
    (hr : w'.ownsRow B t 5 v' (nodes.length + 1) (V.flatMap nodVC ++ nodVC p)) (hp : NodS S w p nd) (hg : w.grownBy w' v.ownBlock) (hv : ∀ g, v'.ownBlock = some g → v.ownBlock = some g ∨ w.heap.size ≤ g) (hs : w.heap.size ≤ w'.heap.size) : XB S B w' v' t (nodes ++ [nd]) := by
  have ha : Ag S w w' := fun g hg' => hg.block g (hlt g hg') (fun e => hown g e.symm hg')
  refine ⟨⟨V ++ [p], by simp [hV], ?_, fun i q m hq hm => ?_⟩, fun g hg => Nat.lt_of_lt_of_le (hlt g hg) hs, fun g hg' hS => ?_⟩
  · rw [List.flatMap_append, List.length_append, List.flatMap_cons, List.flatMap_nil, List.append_nil]; exact hr
  · by_cases hi : i < V.length
    · rw [List.getElem?_append_left hi] at hq
      rw [List.getElem?_append_left (by omega)] at hm
      exact (h3 i q m hq hm).move ha
    · have hq2 := (List.getElem?_eq_some_iff.1 hq).1
      have : i = V.length := by simp at hq2; omega
      subst this
      rw [List.getElem?_append_right (Nat.le_refl _), Nat.sub_self] at hq
      rw [hV, List.getElem?_append_right (Nat.le_refl _), Nat.sub_self] at hm
      cases hq; cases hm
      exact hp.move ha
  · rcases hv g hg' with h1 | h1
    · exact hown g h1 hS
    · have := hlt g hS; omega
/-- what a call that writes nodes leaves as it was: all but the box and the nodes' row -/
structure KB (OB : Nat) (B : Nat) (v v' : Value) (w w' : World) : Prop where
  bel : Below B w w'
  blk : ∀ k, k < w.heap.size → k ≠ OB → v.ownBlock ≠ some k → w'.heap[k]? = w.heap[k]?
  own : ∀ g, v'.ownBlock = some g → v.ownBlock = some g ∨ w.heap.size ≤ g
theorem KB.refl (OB B : Nat) (v : Value) (w : World) : KB OB B v v w w := ⟨Below.refl _ _, fun _ _ _ _ => rfl, fun _ h => .inl h⟩
theorem KB.trans {OB B : Nat} {v v' v'' : Value} {w w' w'' : World} (h : KB OB B v v' w w') (k : KB OB B v' v'' w' w'') : KB OB B v v'' w w'' := by
  refine ⟨h.bel.trans k.bel, fun j hj hB hv => ?_, fun g hg => ?_⟩
  · rw [k.blk j (Nat.lt_of_lt_of_le hj h.bel.size) hB (fun e => ?_), h.blk j hj hB hv]
    rcases h.own j e with h1 | h1
    · exact hv h1
    · omega
  · rcases k.own g hg with h1 | h1
    · exact h.own g h1
    · exact .inr (Nat.le_trans h.bel.size h1)
theorem KB.of_below {OB B : Nat} (v : Value) {w w' : World} (hB : B ≤ w.heap.size) (h : Below w.heap.size w w') : KB OB B v v w w' := ⟨h.mono hB, fun k hk _ _ => h.block k hk, fun _ e => .inl e⟩
/-- .. where blocks of the call's own (from s on) may have been written -/
structure KBs (s OB B : Nat) (v v' : Value) (w w' : World) : Prop where
  bel : Below B w w'
  blk : ∀ k, k < s → k ≠ OB → v.ownBlock ≠ some k → w'.heap[k]? = w.heap[k]?
  own : ∀ g, v'.ownBlock = some g → v.ownBlock = some g ∨ s ≤ g
theorem KB.s {s OB B : Nat} {v v' : Value} {w w' : World} (h : KB OB B v v' w w') (hs : s ≤ w.heap.size) : KBs s OB B v v' w w' :=
  ⟨h.bel, fun k hk ho hv => h.blk k (by omega) ho hv, fun g hg => (h.own g hg).imp id (fun h1 => by omega)⟩
theorem KBs.k {OB B : Nat} {v v' : Value} {w w' : World} (h : KBs w.heap.size OB B v v' w w') : KB OB B v v' w w' := ⟨h.bel, h.blk, h.own⟩
theorem KBs.trans {s OB B : Nat} {v v' v'' : Value} {w w' w'' : World} (h : KBs s OB B v v' w w') (k : KBs s OB B v' v'' w' w'') : KBs s OB B v v'' w w'' := by
  refine ⟨h.bel.trans k.bel, fun j hj hB hv => ?_, fun g hg => ?_⟩
  · rw [k.blk j hj hB (fun e => ?_), h.blk j hj hB hv]
    rcases h.own j e with h1 | h1
    · exact hv h1
    · omega
  · rcases k.own g hg with h1 | h1
    · exact h.own g h1
    · exact .inr h1
theorem KBs.refl (s OB B : Nat) (v : Value) (w : World) : KBs s OB B v v w w := ⟨Below.refl _ _, fun _ _ _ _ => rfl, fun _ h => .inl h⟩
/-- a store into the box or into a block of the call's own -/
theorem KBs.store {s OB B N : Nat} (v : Value) (w : World) (hs : s ≤ N ∨ N = OB) (hB : B ≤ N) (j : Nat) (u : Value) : KBs s OB B v v w (w.setCell ⟨N, j, none⟩ u) :=
  ⟨(Below.refl B w).setCell (p := ⟨N, j, none⟩) hB u, fun k hk ho _ => Below.heap_setCell _ _ _ _ (by show k ≠ N; omega), fun _ e => .inl e⟩
end Go.Proofs.YtmjgdnpfgkpaoaaDoor
namespace Go.Proofs.YtmjgdnpfgkpaoaaDoor

inductive ET where
  | srv : Int → ET
  | thr : Int → List Int → List ET → ET
mutual
/-- the number of nodes -/
def ET.sz : ET → Nat
  | .srv _ => 1
  | .thr _ _ ks => ETs.sz ks + 1
def ETs.sz : List ET → Nat
  | [] => 0
  | t :: ts => t.sz + ETs.sz ts
end
/-- the indices of the roots of trees that are laid one behind another -/
def ETs.idx : List ET → Nat → List Int
  | [], _ => []
  | t :: ts, b => ((b + t.sz - 1 : Nat) : Int) :: ETs.idx ts (b + t.sz)
mutual
/-- the nodes of a tree, the first one having an index -/
def ET.post : ET → Nat → List Nod
  | .srv s, _ => [⟨1, s, 0, [], []⟩]
  | .thr n ws ks, b => ETs.post ks b ++ [⟨2, 0, n, ws, ETs.idx ks b⟩]
def ETs.post : List ET → Nat → List Nod
  | [], _ => []
  | t :: ts, b => t.post b ++ ETs.post ts (b + t.sz)
end
/-- the expression of a tree -/
def ET.xpr (t : ET) : Xpr := ⟨t.post 0, ((t.sz - 1 : Nat) : Int)⟩
/-- the weight of a kid -/
def wgtW (ws : List Int) (k : Nat) : Int := if ws = [] then 1 else ws.getD k 0
mutual
/-- a set satisfies a tree -/
def ET.hold : ET → BitVec 16 → Bool
  | .srv s, S => hasB S s.toNat
  | .thr n ws ks, S => decide (n ≤ ETs.got ks S ws 0)
/-- the weights of the satisfied trees, the first one being the k-th -/
def ETs.got : List ET → BitVec 16 → List Int → Nat → Int
  | [], _, _, _ => 0
  | t :: ts, S, ws, k => (if t.hold S = true then wgtW ws k else 0) + ETs.got ts S ws (k + 1)
end
/-- the tree of a node; a server may stand for another tree -/
def treF (nodes : List Nod) (sub : Nat → Option ET) : Nat → Nat → ET
  | 0, _ => .srv 0
  | f + 1, i =>
    if (nodes.getD i nod0).kind = 1 then (sub (nodes.getD i nod0).server.toNat).getD (.srv (nodes.getD i nod0).server)
    else .thr (nodes.getD i nod0).need (nodes.getD i nod0).weights ((nodes.getD i nod0).kids.map fun k => treF nodes sub f k.toNat)
def noSub : Nat → Option ET := fun _ => none
def treX (x : Xpr) : ET := treF x.nodes noSub (x.root.toNat + 1) x.root.toNat

theorem ET.sz_pos (t : ET) : 1 ≤ t.sz := by cases t <;> simp [ET.sz]
mutual
theorem ET.post_len (t : ET) (b : Nat) : (t.post b).length = t.sz := by
  cases t with
  | srv s => simp [ET.post, ET.sz]
  | thr n ws ks => rw [ET.post, ET.sz, List.length_append, ETs.post_len ks b]; rfl
theorem ETs.post_len (ts : List ET) (b : Nat) : (ETs.post ts b).length = ETs.sz ts := by
  cases ts with
  | nil => simp [ETs.post, ETs.sz]
  | cons t ts => rw [ETs.post, ETs.sz, List.length_append, ET.post_len t b, ETs.post_len ts (b + t.sz)]
end
theorem ETs.idx_len : ∀ (ts : List ET) (b : Nat), (ETs.idx ts b).length = ts.length
  | [], _ => rfl
  | t :: ts, b => by rw [ETs.idx, List.length_cons, List.length_cons, ETs.idx_len ts]
theorem ETs.sz_app (l m : List ET) : ETs.sz (l ++ m) = ETs.sz l + ETs.sz m := by
  induction l with
  | nil => simp [ETs.sz]
  | cons t l ih => rw [List.cons_append, ETs.sz, ETs.sz, ih]; omega
theorem ETs.idx_app : ∀ (l m : List ET) (b : Nat), ETs.idx (l ++ m) b = ETs.idx l b ++ ETs.idx m (b + ETs.sz l)
  | [], m, b => by simp [ETs.idx, ETs.sz]
  | t :: l, m, b => by rw [List.cons_append, ETs.idx, ETs.idx, ETs.idx_app l m, ETs.sz, List.cons_append, Nat.add_assoc]
theorem ETs.post_app : ∀ (l m : List ET) (b : Nat), ETs.post (l ++ m) b = ETs.post l b ++ ETs.post m (b + ETs.sz l)
  | [], m, b => by simp [ETs.post, ETs.sz]
  | t :: l, m, b => by rw [List.cons_append, ETs.post, ETs.post, ETs.post_app l m, ETs.sz, List.append_assoc, Nat.add_assoc]
/-- the kids' roots lie among the kids' nodes -/
theorem ETs.idx_lt : ∀ (ts : List ET) (b : Nat), ∀ k ∈ ETs.idx ts b, (b : Int) ≤ k ∧ k < ((b + ETs.sz ts : Nat) : Int)
  | [], _, k, h => by cases h
  | t :: ts, b, k, h => by
    have hp := t.sz_pos
    rw [ETs.idx] at h
    rcases List.mem_cons.1 h with rfl | h
    · rw [ETs.sz]; omega
    · have := ETs.idx_lt ts (b + t.sz) k h
      rw [ETs.sz]; omega

/-! the tree of the nodes of a tree -/
mutual
theorem tre_post (t : ET) : ∀ (b f : Nat) (N : List Nod), t.sz ≤ f → (∀ j nd, (t.post b)[j]? = some nd → N[b + j]? = some nd) → treF N noSub f (b + t.sz - 1) = t := by
  intro b f N hf hN
  cases t with
  | srv s =>
    obtain ⟨f, rfl⟩ : ∃ g, f = g + 1 := ⟨f - 1, by simp only [ET.sz] at hf; omega⟩
    have h0 := hN 0 _ (show (ET.post (.srv s) b)[0]? = some ⟨1, s, 0, [], []⟩ from rfl)
    rw [treF, show b + (ET.srv s).sz - 1 = b + 0 by simp [ET.sz], List.getD_eq_getElem?_getD, h0]
    rfl
  | thr n ws ks =>
    obtain ⟨f, rfl⟩ : ∃ g, f = g + 1 := ⟨f - 1, by simp only [ET.sz] at hf; omega⟩
    have hl := ETs.post_len ks b
    have h0 := hN (ETs.sz ks) ⟨2, 0, n, ws, ETs.idx ks b⟩ (by rw [ET.post, List.getElem?_append_right (by omega), hl, Nat.sub_self]; rfl)
    rw [treF, show b + (ET.thr n ws ks).sz - 1 = b + ETs.sz ks by rw [ET.sz]; omega, List.getD_eq_getElem?_getD, h0]
    show ET.thr n ws ((ETs.idx ks b).map fun k => treF N noSub f k.toNat) = ET.thr n ws ks
    rw [tres_post ks b f N (by rw [ET.sz] at hf; omega) (fun j nd h => hN j nd (by rw [ET.post, List.getElem?_append_left (by have := (List.getElem?_eq_some_iff.1 h).1; omega)]; exact h))]
theorem tres_post (ts : List ET) : ∀ (b f : Nat) (N : List Nod), ETs.sz ts ≤ f → (∀ j nd, (ETs.post ts b)[j]? = some nd → N[b + j]? = some nd) → ((ETs.idx ts b).map fun k => treF N noSub f k.toNat) = ts := by
  intro b f N hf hN
  cases ts with
  | nil => rfl
  | cons t ts =>
    have hl := t.post_len b
    rw [ETs.sz] at hf
    rw [ETs.idx, List.map_cons, Int.toNat_natCast]
    rw [tre_post t b f N (by omega) (fun j nd h => hN j nd (by rw [ETs.post, List.getElem?_append_left (by have := (List.getElem?_eq_some_iff.1 h).1; omega)]; exact h))]
    rw [tres_post ts (b + t.sz) f N (by omega) (fun j nd h => by
      rw [Nat.add_assoc]
      exact hN (t.sz + j) nd (by rw [ETs.post, List.getElem?_append_right (by omega), hl, Nat.add_sub_cancel_left]; exact h))]
end
/-- a tree comes back from its expression -/
theorem treX_xpr (t : ET) : treX t.xpr = t := by
  unfold treX ET.xpr
  have hp := t.sz_pos
  have := tre_post t 0 (t.sz - 1 + 1) (t.post 0) (by omega) (fun j nd h => by rw [Nat.zero_add]; exact h)
  rw [Nat.zero_add] at this
  simpa using this

/-! an expression holds as its tree does -/
theorem got_tre (nodes : List Nod) (S : BitVec 16) (is : List Bool) (ws : List Int) (g : Int → ET) : ∀ (ks : List Int) (a : Nat) (ks0 : List Int), (∀ k ∈ ks, (g k).hold S = is.getD k.toNat false) → ks0.drop a = ks →
    gotTo ⟨2, 0, 0, ws, ks0⟩ is a + ETs.got (ks.map g) S ws a = gotTo ⟨2, 0, 0, ws, ks0⟩ is (a + ks.length)
  | [], a, ks0, _, _ => by simp [ETs.got]
  | k :: ks, a, ks0, h, hd => by
    have hk : ks0[a]? = some k := by
      have := congrArg (fun l => l[0]?) hd
      simpa using this
    have e : ks0.getD a 0 = k := by rw [List.getD_eq_getElem?_getD, hk]; rfl
    have hd2 : ks0.drop (a + 1) = ks := by
      have := congrArg List.tail hd
      simpa using this
    have ih := got_tre nodes S is ws g ks (a + 1) ks0 (fun k' h' => h k' (List.mem_cons_of_mem _ h')) hd2
    rw [List.map_cons, ETs.got, List.length_cons, h k (by simp)]
    rw [gotTo] at ih
    simp only [e] at ih
    have hw : wgtN ⟨2, 0, 0, ws, ks0⟩ a = wgtW ws a := rfl
    rw [hw] at ih
    rw [show a + (ks.length + 1) = a + 1 + ks.length by omega, ← ih]
    omega
theorem tre_hold {x : Xpr} (h : XprOk x) (S : BitVec 16) : ∀ (f i : Nat), i < f → i < x.nodes.length → (treF x.nodes noSub f i).hold S = (holdTo x.nodes S (i + 1)).getD i false := by
  intro f
  induction f with
  | zero => intro i hi; omega
  | succ f ih =>
    intro i hi hl
    obtain ⟨nd, hnd⟩ : ∃ nd, x.nodes[i]? = some nd := ⟨_, List.getElem?_eq_getElem hl⟩
    have e : x.nodes.getD i nod0 = nd := by rw [List.getD_eq_getElem?_getD, hnd]; rfl
    have ok := h.node i nd hnd
    rw [holdTo_get (i + 1) (Nat.lt_succ_self i), treF, e]
    obtain ⟨kind, server, need, ws, ks⟩ := nd
    by_cases hk : kind = 1
    · simp only [hk, if_true]
      show (ET.srv server).hold S = valN _ _ S
      unfold valN
      rw [ET.hold, if_pos rfl]
    · simp only [if_neg hk]
      unfold valN
      rw [if_neg hk, ET.hold]
      have hg := got_tre x.nodes S (holdTo x.nodes S i) ws (fun k => treF x.nodes noSub f k.toNat) ks 0 ks (fun k hkk => by
        have hkr := ok.kids k hkk
        obtain ⟨kn, rfl⟩ := Int.eq_ofNat_of_zero_le hkr.1
        have hlt : kn < i := by omega
        rw [Int.toNat_natCast, ih kn (by omega) (by omega), holdTo_get i hlt, holdTo_get (kn + 1) (Nat.lt_succ_self kn)]) (by simp)
      rw [Nat.zero_add] at hg
      have h0 : gotTo ⟨2, 0, 0, ws, ks⟩ (holdTo x.nodes S i) 0 = 0 := rfl
      rw [h0, Int.zero_add] at hg
      rw [hg]
      have hgg : ∀ k, gotTo ⟨2, 0, 0, ws, ks⟩ (holdTo x.nodes S i) k = gotTo ⟨kind, server, need, ws, ks⟩ (holdTo x.nodes S i) k := by
        intro k
        induction k with
        | zero => rfl
        | succ k ihk => rw [gotTo, gotTo, ihk]; rfl
      rw [hgg]
theorem treX_hold {x : Xpr} (h : XprOk x) (S : BitVec 16) : (treX x).hold S = holdX x S := by
  obtain ⟨r, hr⟩ := Int.eq_ofNat_of_zero_le h.root.1
  have h2 := h.root.2
  have hl : r < x.nodes.length := by omega
  unfold treX
  rw [hr, Int.toNat_natCast, tre_hold h S (r + 1) r (Nat.lt_succ_self r) hl, holdX_root hr hl]
end Go.Proofs.YtmjgdnpfgkpaoaaDoor
namespace Go.Proofs.YtmjgdnpfgkpaoaaDoor

mutual
def ET.ok : ET → Prop
  | .srv s => 0 ≤ s ∧ s < 12
  | .thr n ws ks => (0 ≤ n ∧ n ≤ 100000) ∧ (∀ w ∈ ws, 1 ≤ w ∧ w ≤ 1000) ∧ (ws = [] ∨ ws.length = ks.length) ∧ ETs.ok ks
def ETs.ok : List ET → Prop
  | [] => True
  | t :: ts => t.ok ∧ ETs.ok ts
end
theorem ETs.ok_iff : ∀ (ts : List ET), ETs.ok ts ↔ ∀ t ∈ ts, t.ok
  | [] => by simp [ETs.ok]
  | t :: ts => by rw [ETs.ok, ETs.ok_iff ts]; simp
theorem ETs.sz_mem : ∀ (ts : List ET) (t : ET), t ∈ ts → t.sz ≤ ETs.sz ts
  | [], _, h => by cases h
  | t :: ts, u, h => by
    rw [ETs.sz]
    rcases List.mem_cons.1 h with rfl | h
    · omega
    · have := ETs.sz_mem ts u h; omega
theorem ETs.sz_ge : ∀ (ts : List ET), ts.length ≤ ETs.sz ts
  | [] => by simp [ETs.sz]
  | t :: ts => by have := ETs.sz_ge ts; have := t.sz_pos; rw [ETs.sz, List.length_cons]; omega
theorem nodE_srv {s : Int} {i : Nat} (h : 0 ≤ s ∧ s < 12) : nodE ⟨1, s, 0, [], []⟩ i = 0 := by
  unfold nodE; simp; omega
theorem nodE_thr {n : Int} {ws ks : List Int} {i : Nat} (hn : 0 ≤ n ∧ n ≤ 100000) (hw : ∀ w ∈ ws, 1 ≤ w ∧ w ≤ 1000) (hl : ws = [] ∨ ws.length = ks.length) (hk : ∀ k ∈ ks, 0 ≤ k ∧ k < (i : Int)) : nodE ⟨2, 0, n, ws, ks⟩ i = 0 := by
  have hv : ws.any hvyB = false := by
    rw [List.any_eq_false]
    intro w h
    have := hw w h
    unfold hvyB
    simp; omega
  have hu : ks.any (unkB i) = false := by
    rw [List.any_eq_false]
    intro k h
    have := hk k h
    unfold unkB
    simp; omega
  unfold nodE
  rw [if_neg (by simp), if_neg (by rw [hv]; simp; omega), if_neg ?_, if_neg (by rw [hu]; decide)]
  rintro ⟨c1, c2⟩
  rcases hl with h | h
  · exact c1 h
  · exact c2 h
mutual
theorem ET.post_ok (t : ET) (h : t.ok) : ∀ (b j : Nat) nd, (t.post b)[j]? = some nd → nodE nd (b + j) = 0 := by
  intro b j nd hj
  cases t with
  | srv s =>
    rw [ET.post] at hj
    have hj0 : j = 0 := by have := (List.getElem?_eq_some_iff.1 hj).1; simpa using this
    subst hj0
    cases hj
    rw [ET.ok] at h
    exact nodE_srv h
  | thr n ws ks =>
    rw [ET.ok] at h
    obtain ⟨h1, h2, h3, h4⟩ := h
    rw [ET.post] at hj
    have hl := ETs.post_len ks b
    by_cases hlt : j < ETs.sz ks
    · rw [List.getElem?_append_left (by omega)] at hj
      exact ETs.post_ok ks h4 b j nd hj
    · have hje : j = ETs.sz ks := by have := (List.getElem?_eq_some_iff.1 hj).1; simp [hl] at this; omega
      subst hje
      rw [List.getElem?_append_right (by omega), hl, Nat.sub_self] at hj
      cases hj
      refine nodE_thr h1 h2 (by rw [ETs.idx_len]; exact h3) (fun k hk => ?_)
      have := ETs.idx_lt ks b k hk
      omega
theorem ETs.post_ok (ts : List ET) (h : ETs.ok ts) : ∀ (b j : Nat) nd, (ETs.post ts b)[j]? = some nd → nodE nd (b + j) = 0 := by
  intro b j nd hj
  cases ts with
  | nil => rw [ETs.post] at hj; simp at hj
  | cons t ts =>
    rw [ETs.ok] at h
    rw [ETs.post] at hj
    have hl := t.post_len b
    by_cases hlt : j < t.sz
    · rw [List.getElem?_append_left (by omega)] at hj
      exact ET.post_ok t h.1 b j nd hj
    · rw [List.getElem?_append_right (by omega), hl] at hj
      have := ETs.post_ok ts h.2 (b + t.sz) (j - t.sz) nd hj
      rwa [show b + t.sz + (j - t.sz) = b + j by omega] at this
end
/-- the expression of a valid tree is valid -/
theorem xpr_ok {t : ET} (h : t.ok) (hs : t.sz ≤ 60) : xprE t.xpr = 0 := by
  have hl := t.post_len 0
  have hp := t.sz_pos
  have hE : nodsE (t.post 0) 0 = 0 := nodsE_zero _ _ fun k nd hk => ET.post_ok t h 0 k nd hk
  unfold xprE ET.xpr
  show (if t.post 0 = [] then 9 else if 60 < (t.post 0).length then 3 else if nodsE (t.post 0) 0 ≠ 0 then nodsE (t.post 0) 0 else if ((t.sz - 1 : Nat) : Int) < 0 ∨ ((t.post 0).length : Int) ≤ ((t.sz - 1 : Nat) : Int) then 4 else 0) = 0
  rw [if_neg (fun e => by rw [e] at hl; simp at hl; omega), hl, if_neg (by omega), hE, if_neg (by simp), if_neg (by omega)]
/-- the tree of a valid expression is valid -/
theorem tre_ok {x : Xpr} (h : XprOk x) : ∀ (f i : Nat), i < f → i < x.nodes.length → (treF x.nodes noSub f i).ok := by
  intro f
  induction f with
  | zero => intro i hi; omega
  | succ f ih =>
    intro i hi hl
    obtain ⟨nd, hnd⟩ : ∃ nd, x.nodes[i]? = some nd := ⟨_, List.getElem?_eq_getElem hl⟩
    have e : x.nodes.getD i nod0 = nd := by rw [List.getD_eq_getElem?_getD, hnd]; rfl
    have ok := h.node i nd hnd
    rw [treF, e]
    by_cases hk : nd.kind = 1
    · rw [if_pos hk]
      show (ET.srv nd.server).ok
      rw [ET.ok]; exact ok.server
    · rw [if_neg hk, ET.ok]
      refine ⟨ok.need, ok.weights, by rw [List.length_map]; exact ok.arity, (ETs.ok_iff _).2 fun t ht => ?_⟩
      obtain ⟨k, hkk, rfl⟩ := List.mem_map.1 ht
      have hr := ok.kids k hkk
      exact ih k.toNat (by omega) (by omega)
theorem treX_ok {x : Xpr} (h : XprOk x) : (treX x).ok := by
  obtain ⟨r, hr⟩ := Int.eq_ofNat_of_zero_le h.root.1
  have h2 := h.root.2
  unfold treX
  rw [hr, Int.toNat_natCast]
  exact tre_ok h (r + 1) r (Nat.lt_succ_self r) (by omega)
end Go.Proofs.YtmjgdnpfgkpaoaaDoor
namespace Go.Proofs.YtmjgdnpfgkpaoaaDoor

theorem nodE_thr0 {nd : Nod} {i : Nat} (h : nodE nd i = 0) (hk : nd.kind ≠ 1) : nd.server = 0 := by
  have h2 := (nodE_ok h).kind
  unfold nodE at h
  split at h
  · cases h
  · rename_i h1
    exact Classical.byContradiction fun hn => h1 (.inr (.inr ⟨by omega, hn⟩))
theorem xprE_thr0 {x : Xpr} (h : xprE x = 0) : ∀ (k : Nat) (nd : Nod), x.nodes[k]? = some nd → nd.kind ≠ 1 → nd.server = 0 := by
  intro k nd hk
  unfold xprE at h
  split at h
  · cases h
  · split at h
    · cases h
    · split at h
      · rename_i h3; exact absurd h h3
      · rename_i h3
        have := nodsE_ok (by simpa using h3) k nd hk
        exact nodE_thr0 this
/-- the kids' trees of a node -/
def kidT (nodes : List Nod) (sub : Nat → Option ET) (f : Nat) (ks : List Int) : List ET := ks.map fun k => treF nodes sub f k.toNat
theorem kidT_len (nodes : List Nod) (sub : Nat → Option ET) (f : Nat) (ks : List Int) : (kidT nodes sub f ks).length = ks.length := List.length_map _
theorem kidT_take (nodes : List Nod) (sub : Nat → Option ET) (f : Nat) (ks : List Int) (j : Nat) (k : Int) (h : ks[j]? = some k) : (kidT nodes sub f ks).take (j + 1) = (kidT nodes sub f ks).take j ++ [treF nodes sub f k.toNat] := by
  rw [List.take_add_one]
  unfold kidT
  rw [List.getElem?_map, h]
  rfl
theorem treF_plain {x : Xpr} (hx : xprE x = 0) (sub : Nat → Option ET) (f i : Nat) (nd : Nod) (hi : x.nodes[i]? = some nd) (hs : nd.kind = 1 → sub nd.server.toNat = none) (b : Nat) :
    (treF x.nodes sub (f + 1) i).post b = ETs.post (kidT x.nodes sub f nd.kids) b ++ [⟨nd.kind, nd.server, nd.need, nd.weights, ETs.idx (kidT x.nodes sub f nd.kids) b⟩] ∧ (treF x.nodes sub (f + 1) i).sz = ETs.sz (kidT x.nodes sub f nd.kids) + 1 := by
  have ok := (xprE_ok hx).node i nd hi
  have e : x.nodes.getD i nod0 = nd := by rw [List.getD_eq_getElem?_getD, hi]; rfl
  rw [treF, e]
  by_cases hk : nd.kind = 1
  · obtain ⟨l1, l2, l3⟩ := ok.leaf hk
    rw [if_pos hk, hs hk, l1, l2, l3, hk]
    exact ⟨rfl, rfl⟩
  · have hs0 := xprE_thr0 hx i nd hi hk
    have hk2 := ok.kind.resolve_left hk
    rw [if_neg hk, hk2, hs0]
    exact ⟨rfl, rfl⟩
theorem treF_sub {nodes : List Nod} (sub : Nat → Option ET) (f i : Nat) (nd : Nod) (hi : nodes[i]? = some nd) (hk : nd.kind = 1) {T : ET} (hs : sub nd.server.toNat = some T) : treF nodes sub (f + 1) i = T := by
  have e : nodes.getD i nod0 = nd := by rw [List.getD_eq_getElem?_getD, hi]; rfl
  rw [treF, e, if_pos hk, hs]
  rfl
/-- a kid more -/
theorem post_step (l : List ET) (t : ET) (b : Nat) : ETs.post (l ++ [t]) b = ETs.post l b ++ t.post (b + ETs.sz l) ∧ ETs.idx (l ++ [t]) b = ETs.idx l b ++ [((b + ETs.sz l + t.sz - 1 : Nat) : Int)] ∧ ETs.sz (l ++ [t]) = ETs.sz l + t.sz := by
  refine ⟨?_, ?_, ?_⟩
  · rw [ETs.post_app]; simp [ETs.post]
  · rw [ETs.idx_app]; simp [ETs.idx]
  · rw [ETs.sz_app]; simp [ETs.sz]
theorem sz_take (l : List ET) (k : Nat) : ETs.sz (l.take k) ≤ ETs.sz l := by
  have := ETs.sz_app (l.take k) (l.drop k)
  rw [List.take_append_drop] at this
  omega
end Go.Proofs.YtmjgdnpfgkpaoaaDoor
namespace Go.Proofs.YtmjgdnpfgkpaoaaDoor
open Go.RowKit

inductive IsInts (k : IntKind) (W : World) : Option Addr → Nat → Nat → List Int → Prop
  | nil : IsInts k W none 0 0 []
  | row {a : Addr} {len cap : Nat} {zs : List Int} (hl : len ≤ cap) (hm : cap ≤ maxLen) (hz : zs.length = cap)
      (hcell : ∀ i, i < zs.length → W.cell? (a.add i) = some (.int k (zs.getD i 0))) (hwz : ∀ n ∈ zs, (Lit.int k n).wf = true) : IsInts k W (some a) len cap (zs.take len)

theorem IsInts.rd {k : IntKind} {W : World} {a : Option Addr} {n c : Nat} {l : List Int} (h : IsInts k W a n c l) : Rd W a n c (l.map (Value.int k)) := by
  cases h with
  | nil => exact Rd.none_ W
  | @row a len cap zs hl hm hz hcell hwz =>
    refine ⟨by simp; omega, hl, hm, fun h => (by cases h), fun hn => ?_⟩
    have h0 := hcell 0 (by omega)
    have ha : a = ⟨a.block, a.off, none⟩ := by
      have : a.add 0 = a := by simp [Addr.add]
      rw [this] at h0
      unfold World.cell? at h0
      cases hs : a.spot with
      | none => cases a; simp_all
      | some s => rw [hs] at h0; split at h0 <;> simp at h0
    refine ⟨a.block, a.off, by rw [← ha], fun i v hv => ?_⟩
    have hi := (List.getElem?_eq_some_iff.1 hv).1
    have hi : i < n ∧ i < zs.length := by simp at hi; omega
    have h1 := hcell i (by omega)
    rw [ha] at h1
    rw [Addr.add_lit] at h1
    rw [h1]
    rw [List.getElem?_map, List.getElem?_take_of_lt hi.1, List.getElem?_eq_getElem hi.2] at hv
    simp at hv
    simp [List.getD, List.getElem?_eq_getElem hi.2, hv]
theorem IsInts.wf {k : IntKind} {W : World} {a : Option Addr} {n c : Nat} {l : List Int} (h : IsInts k W a n c l) : ∀ z ∈ l, (Lit.int k z).wf = true := by
  cases h with
  | nil => intro z hz; cases hz
  | row hl hm hz hcell hwz => exact fun z hz => hwz z (List.mem_of_mem_take hz)
theorem IsInts.len {k : IntKind} {W : World} {a : Option Addr} {n c : Nat} {l : List Int} (h : IsInts k W a n c l) : l.length = n := by
  cases h with
  | nil => rfl
  | row hl hm hz hcell hwz => simp; omega
end Go.Proofs.YtmjgdnpfgkpaoaaDoor
namespace Go.Proofs.YtmjgdnpfgkpaoaaDoor
open Go.RowKit Go.Shelf

set_option maxRecDepth 100000 in
set_option maxHeartbeats 1000000 in
theorem clone_c (l : List Int) (a : Option Addr) (n c : Nat) (w : World) (h : Rd w a n c (l.map (Value.int .i64))) (hb : n ≤ 1000000) :
    Calls Tryd.prog 40 #[.slice a n c] w fun e w' => ∃ v, e = .returned v ∧ w'.ownsRow w.heap.size 3 1 v n (l.map (Value.int .i64)) ∧ Below w.heap.size w w' := by
  have hlen : (l.map (Value.int .i64)).length = n := h.len.symm
  cases a with
  | none =>
    have hc := h.nil rfl
    have hn : n = 0 := by have := h.le; omega
    subst hc hn
    have hl : l = [] := by simpa using hlen
    subst hl
    clear h hlen hb
    have q : ∀ (w : World) (a : Option Addr) (n c n' c' : Nat), (binOp .eql 56 (.slice a n c) (.slice none n' c')).run Tryd.prog w = .ok (.bool a.isNone) w := fun w a n c n' c' => Lib.run_eql_slice_nil w _ _ a n c n' c' Tryd.underlying56
    go_enter Tryd.func40, Tryd.ntmps40
    go_wp2
    go_ret
    exact ⟨_, rfl, World.ownsRow_nil _ _ _ _, Below.refl _ _⟩
  | some ad =>
    have hh := Lib.hid h
    have hl2 := Lib.hid hlen
    clear h hlen
    have q : ∀ (w : World) (a : Option Addr) (n c n' c' : Nat), (binOp .eql 56 (.slice a n c) (.slice none n' c')).run Tryd.prog w = .ok (.bool a.isNone) w := fun w a n c n' c' => Lib.run_eql_slice_nil w _ _ a n c n' c' Tryd.underlying56
    go_enter Tryd.func40, Tryd.ntmps40
    go_wp2_with (at_builtin; go_must (refine wpList_apps _ _ 56 8 (.int .i64 0) _ _ _ (l.map (Value.int .i64)) Tryd.underlying56 Tryd.infoInt rfl (World.ownsRow_made w #[] 0 (Nat.le_refl _) (Nat.zero_le _) rfl) ((Below.refl _ w).alloc (Nat.le_refl _) _) (Nat.le_refl _) (hh.out.below ((Below.refl _ w).alloc (Nat.le_refl _) _)) (by intro u hu; obtain ⟨_, _, rfl⟩ := List.mem_map.1 hu; rfl) rfl rfl rfl rfl (by unfold maxLen; simp; omega) (by simp; omega) ?_))
    intro v' w1 hown1 hb1 _
    have hown2 : w1.ownsRow w.heap.size 3 1 v' n (l.map (Value.int .i64)) := by
      have h9 := hown1
      first
        | exact h9
        | (simp at h9; exact h9)
        | (simp at h9; rw [hl2.out] at h9; exact h9)
    have HOWN2 := Lib.hid hown2
    clear hb hown1 hown2
    go_wp2
    go_ret
    exact ⟨_, rfl, HOWN2.out, hb1⟩

/-- the slice value '.slice a n c' reads as these expressions -/
structure LM (w : World) (a : Option Addr) (n c : Nat) (ys : List Xpr) : Prop where
  len : ys.length = n
  le : n ≤ c
  max : c ≤ maxLen
  nil : a = none → c = 0
  at' : 0 < n → ∃ b o, a = some ⟨b, o, none⟩ ∧ ∀ i y, ys[i]? = some y → ∃ a' n' c', w.cell? ⟨b, o + i * 2, none⟩ = some (.slice a' n' c') ∧ XM w a' n' c' y.nodes ∧ w.cell? ⟨b, o + i * 2 + 1, none⟩ = some (.int .i64 y.root)
theorem LM.none_ (w : World) : LM w none 0 0 [] := ⟨rfl, Nat.le_refl _, by simp [maxLen], fun _ => rfl, fun h => absurd h (by decide)⟩
theorem LM.below {w w' : World} {a : Option Addr} {n c : Nat} {ys : List Xpr} (h : LM w a n c ys) (hb : Below w.heap.size w w') : LM w' a n c ys := by
  refine ⟨h.len, h.le, h.max, h.nil, fun hn => ?_⟩
  obtain ⟨b, o, ha, hc⟩ := h.at' hn
  refine ⟨b, o, ha, fun i y hy => ?_⟩
  obtain ⟨a', n', c', h1, h2, h3⟩ := hc i y hy
  exact ⟨a', n', c', cell_keep hb h1, h2.below hb, cell_keep hb h3⟩
/-- what servers stand for -/
def subL (ys : List Xpr) : Nat → Option ET := fun s => (ys[s]?).map treX
theorem subL_nil : subL [] = noSub := rfl
/-- a node's row of kids and its weights, in the blocks of S -/
theorem nodS_of {S : Nat → Prop} {w : World} {B : Nat} {p : NodV} {nd : Nod} {m n : Nat} (e0 : p.kind = nd.kind) (e1 : p.server = nd.server) (e2 : p.need = nd.need) (hw : w.ownsRow B 3 1 p.wv m (nd.weights.map (Value.int .i64))) (hk : w.ownsRow B 3 1 p.kv n (nd.kids.map (Value.int .i64))) (sw : ∀ g, p.wv.ownBlock = some g → S g) (sk : ∀ g, p.kv.ownBlock = some g → S g) : NodS S w p nd := by
  intro w2 ha
  obtain ⟨a, c, h1, h2⟩ := row_alone hw w2 (fun g hg => ha g (sw g hg))
  obtain ⟨a', c', h3, h4⟩ := row_alone hk w2 (fun g hg => ha g (sk g hg))
  exact ⟨e0, e1, e2, ⟨a, m, c, h1, h2⟩, ⟨a', n, c', h3, h4⟩⟩
/-- .. of a node without lists -/
theorem nodS_srv (S : Nat → Prop) (w : World) (k s : Int) : NodS S w ⟨k, s, 0, .slice none 0 0, .slice none 0 0⟩ ⟨k, s, 0, [], []⟩ :=
  fun _w2 _ => ⟨rfl, rfl, rfl, ⟨none, 0, 0, rfl, Rd.none_ _⟩, ⟨none, 0, 0, rfl, Rd.none_ _⟩⟩
end Go.Proofs.YtmjgdnpfgkpaoaaDoor
namespace Go.Proofs.YtmjgdnpfgkpaoaaDoor
open Go.RowKit Go.Shelf

theorem Tryd.infoExprB : (Tryd.prog.info? 28).map (fun i => (i.zero, i.size, i.bytes)) = some (some (.agg #[.slice none 0 0, .int .i64 0]), 2, 32) := by kernel_rfl
/-- the block of a server's node -/
def srvO (i : Int) : Obj := .cells #[.int .i64 1, .int .i64 i, .int .i64 0, .slice none 0 0, .slice none 0 0] 58 (0, 0)
set_option maxRecDepth 100000 in
set_option maxHeartbeats 1000000 in
theorem bserver_c (i : Int) (w : World) :
    Calls Tryd.prog 57 #[.int .i64 i] w fun e w' => ∃ g, e = .returned (.agg #[.slice (some ⟨g, 0, none⟩) 1 1, .int .i64 0]) ∧ w'.heap[g]? = some (srvO i) ∧ Below w.heap.size w w' := by
  go_enter Tryd.func57, Tryd.ntmps57
  go_wp2_with fail
  have hb1 : Below w.heap.size w (w.alloc (.cells #[.slice (some ⟨w.heap.size + 1, 0, none⟩) 1 1, .int .i64 0] 28)) := (Below.refl _ w).alloc (Nat.le_refl _) _
  refine bodyPost_ret (v := .agg #[.slice (some ⟨w.heap.size + 1, 0, none⟩) 1 1, .int .i64 0]) ?_ rfl ⟨w.heap.size + 1, rfl, ?_, hb1.alloc hb1.size _⟩
  · exact results_cell_row rfl _ _ _ _ _ _ _ rfl (heap_alloc_at (heap_alloc_new w (.cells #[.slice (some ⟨w.heap.size + 1, 0, none⟩) 1 1, .int .i64 0] 28)) _) Tryd.underlying28 rfl (by kernel_rfl)
  · have := heap_alloc_new (w.alloc (.cells #[.slice (some ⟨w.heap.size + 1, 0, none⟩) 1 1, .int .i64 0] 28)) (srvO i)
    rw [World.size_alloc] at this
    exact this
def natU (i : Nat) : Value := .int .i64 i
set_option maxRecDepth 100000 in
set_option maxHeartbeats 1000000 in
theorem upTo_c (m : Nat) (hm : m ≤ 100) (w : World) :
    Calls Tryd.prog 30 #[.int .i64 0, .int .i64 m] w fun e w' => ∃ v, e = .returned v ∧ w'.ownsRow w.heap.size 3 1 v m ((List.range m).map natU) ∧ Below w.heap.size w w' := by
  go_enter Tryd.func30, Tryd.ntmps30
  go_wp2_with fail
  go_loopw [5, 8] (fun v i wr => ∃ k : Nat, k ≤ m ∧ i = .int .i64 k ∧ wr.ownsRow w.heap.size 3 1 v k ((List.range k).map natU) ∧ Below w.heap.size w wr) (fun _ i _ => m - (intOf i).toNat)
  case atStart => exact ⟨0, Nat.zero_le _, rfl, World.ownsRow_nil _ _ _ _, Below.refl _ _⟩
  case round =>
    obtain ⟨k, hk, rfl, hown, hb⟩ := hrel
    by_cases hlt : k < m
    · have HS : Hid ((List.range (k + 1)).map natU = (List.range k).map natU ++ [.int .i64 k]) := Lib.hid (by rw [List.range_succ, List.map_append]; rfl)
      go_wp2_with (at_builtin; go_must (refine wpList_app _ _ 56 8 (.int .i64 0) (.int .i64 k) _ Tryd.underlying56 Tryd.infoInt rfl hown hb (Nat.le_refl _) rfl rfl rfl rfl rfl (by unfold maxLen; omega) (by omega) ?_))
      intro v' w5 hown5 hb5 _ _
      clear hown hb
      go_wp2_with fail
      go_roundw
      case rel => exact ⟨k + 1, by omega, by go_num, by rw [HS.out]; exact hown5, hb5⟩
      case measure => simp [intOf]; omega
    · obtain rfl : k = m := by omega
      have HO := Lib.hid hown
      clear hown
      go_wp2_with fail
      go_ret
      exact ⟨_, rfl, HO.out, hb⟩
/-- the expressions of the first servers, in a row -/
def KidsM (w : World) (b k : Nat) : Prop := ∀ i, i < k → ∃ g, w.cell? ⟨b, i * 2, none⟩ = some (.slice (some ⟨g, 0, none⟩) 1 1) ∧ w.cell? ⟨b, i * 2 + 1, none⟩ = some (.int .i64 0) ∧ w.heap[g]? = some (srvO i)
def sxV (g : Nat) : List Value := [.slice (some ⟨g, 0, none⟩) 1 1, .int .i64 0]
theorem sxV_len (g : Nat) : (sxV g).length = 2 := rfl
theorem sx_one (l : List Nat) : ∀ u ∈ l.flatMap sxV, u.oneCell' = true := by
  intro u hu
  obtain ⟨p, _, hp⟩ := List.mem_flatMap.1 hu
  simp only [sxV, List.mem_cons, List.not_mem_nil, or_false] at hp
  rcases hp with rfl | rfl <;> rfl
/-- rows of expressions and nodes are of different types -/
theorem srv_stay {w w' : World} {B n : Nat} {v : Value} {l : List Value} (h : w.ownsRow B 28 2 v n l) (hg : w.grownBy w' v.ownBlock) {g : Nat} {i : Int} (hs : w.heap[g]? = some (srvO i)) : w'.heap[g]? = some (srvO i) := by
  rw [← hs]
  refine hg.block g (Array.getElem?_eq_some_iff.1 hs).1 (fun e => ?_)
  rcases h.2 with ⟨rfl, _⟩ | ⟨g', cap, cur, rfl, _, hh, _⟩
  · cases e
  · cases e
    rw [hh] at hs
    unfold srvO at hs
    injection hs with hs
    injection hs with _ hs
    exact absurd hs (by decide)
set_option maxRecDepth 100000 in
set_option maxHeartbeats 4000000 in
theorem bservers_c (m : Nat) (hm : m ≤ 100) (hm0 : 0 < m) (a : Option Addr) (c : Nat) (w : World) (h : Rd w a m c ((List.range m).map natU)) :
    Calls Tryd.prog 29 #[.slice a m c] w fun e w' => ∃ b c', e = .returned (.slice (some ⟨b, 0, none⟩) m c') ∧ m ≤ c' ∧ c' ≤ maxLen ∧ KidsM w' b m ∧ Below w.heap.size w w' := by
  have hle := h.le
  have hmx := h.max
  unfold maxLen at hmx
  have HR := Lib.hid h
  clear h
  go_enter Tryd.func29, Tryd.ntmps29
  go_wp2_with fail
  go_loopw [3, 8] (fun v i wr => ∃ k : Nat, k ≤ m ∧ i = .int .i64 k ∧ ∃ G : List Nat, Hid (G.length = k) ∧ wr.ownsRow w.heap.size 28 2 v k (G.flatMap sxV) ∧ Hid (∀ (i g : Nat), G[i]? = some g → wr.heap[g]? = some (srvO i)) ∧ Below w.heap.size w wr) (fun _ i _ => m - (intOf i).toNat)
  case atStart => exact ⟨0, Nat.zero_le _, rfl, [], rfl, World.ownsRow_nil _ _ _ _, Lib.hid (fun i g hg => by simp at hg), Below.refl _ _⟩
  case round =>
    obtain ⟨k, hk, rfl, G, hG, hown, hsv, hb⟩ := hrel
    by_cases hlt : k < m
    · obtain ⟨bb, o, ha, hcell⟩ := (HR.out.below hb).at' (by omega)
      have hc := hcell k (.int .i64 k) (by rw [List.getElem?_map, List.getElem?_range hlt]; rfl)
      subst ha
      have HC := Lib.hid (bserver_c (k : Int) wr)
      have HOW := Lib.hid hown
      have HB := Lib.hid hb
      clear hcell hown hb
      go_wp2_with fail
      refine HC.out.mono ?_
      rintro e w1 ⟨g, rfl, hg1, hb1⟩
      have hown1 := rowK_below HOW.out hb1
      have hbb1 := Below.next HB.out hb1
      have HSV : Hid (∀ (i g : Nat), G[i]? = some g → w1.heap[g]? = some (srvO i)) := Lib.hid (fun i g hg => heap_below hb1 (hsv.out i g hg))
      have HG1 := Lib.hid hg1
      clear HC HOW HB hb1 hg1 hc hsv
      go_wp2_with (at_builtin; go_must (refine wpList_appK 2 _ _ 74 32 (.agg #[.slice none 0 0, .int .i64 0]) (sxV g) _ Tryd.underlying74 Tryd.infoExprB rfl (by decide) hown1 hbb1 (Nat.le_refl _) rfl rfl rfl rfl rfl (by intro u hu; simp only [sxV, List.mem_cons, List.not_mem_nil, or_false] at hu; rcases hu with rfl | rfl <;> rfl) (by unfold maxLen; omega) (by omega) ?_))
      intro v' w5 hown5 hb5 hgr5 _
      have hown5' : w5.ownsRow w.heap.size 28 2 v' (k + 1) ((G ++ [g]).flatMap sxV) := by rw [List.flatMap_append]; simpa using hown5
      have HSV5 : Hid (∀ (i g' : Nat), (G ++ [g])[i]? = some g' → w5.heap[g']? = some (srvO i)) := Lib.hid (fun i g' hg' => by
        by_cases hi : i < G.length
        · rw [List.getElem?_append_left hi] at hg'
          exact srv_stay hown1 hgr5 (HSV.out i g' hg')
        · have h2 := (List.getElem?_eq_some_iff.1 hg').1
          have hGl : G.length = k := hG.out
          have hik : i = k := by simp at h2; omega
          rw [List.getElem?_append_right (by omega), show i - G.length = 0 by omega] at hg'
          cases hg'
          rw [hik]
          exact srv_stay hown1 hgr5 HG1.out)
      have HG5 : Hid ((G ++ [g]).length = k + 1) := Lib.hid (by rw [List.length_append, hG.out]; rfl)
      have HO5 := Lib.hid hown5'
      clear hown1 hown5 hown5' hbb1 hgr5 HSV HG1
      go_wp2_with fail
      go_roundw
      case rel => exact ⟨k + 1, by omega, by go_num, G ++ [g], HG5, HO5.out, HSV5, hb5⟩
      case measure => simp [intOf]; omega
    · obtain rfl : k = m := by omega
      obtain ⟨bo, cap, hv, hcap, hcm⟩ : ∃ bo cap, u3 = .slice (some ⟨bo, 0, none⟩) k cap ∧ k ≤ cap ∧ cap ≤ maxLen := by
        rcases hown.2 with ⟨_, h0⟩ | ⟨g, cap, cur, hv, _, _, h1, h2, _⟩
        · omega
        · exact ⟨g, cap, hv, h1, h2⟩
      subst hv
      have hK : KidsM wr bo k := fun i hi => by
        obtain ⟨g, hg⟩ : ∃ g, G[i]? = some g := ⟨_, List.getElem?_eq_getElem (by rw [hG.out]; exact hi)⟩
        have hfl : ∀ j, j < 2 → (G.flatMap sxV)[i * 2 + j]? = (sxV g)[j]? := fun j hj => flat_at 2 sxV sxV_len G i j g hg hj
        refine ⟨g, ?_, ?_, hsv.out i g hg⟩
        · rw [hown.cellAt (i * 2) (by omega)]
          have := hfl 0 (by omega)
          rw [Nat.add_zero] at this
          rw [this]; rfl
        · rw [hown.cellAt (i * 2 + 1) (by omega), hfl 1 (by omega)]; rfl
      have HK := Lib.hid hK
      clear hown hK hsv
      go_wp2_with fail
      go_ret
      exact ⟨bo, cap, rfl, hcap, hcm, HK.out, hb⟩
theorem KidsM.below {w w' : World} {b k : Nat} (h : KidsM w b k) (hb : Below w.heap.size w w') : KidsM w' b k := fun i hi => by
  obtain ⟨g, h1, h2, h3⟩ := h i hi
  exact ⟨g, (hb.cell (p := ⟨b, i * 2, none⟩) (cell_lt h1)).trans h1, (hb.cell (p := ⟨b, i * 2 + 1, none⟩) (cell_lt h2)).trans h2, heap_below hb h3⟩
set_option maxRecDepth 100000 in
set_option maxHeartbeats 1000000 in
theorem clone_nil (w : World) : Calls Tryd.prog 40 #[.slice none 0 0] w fun e w' => e = .returned (.slice none 0 0) ∧ w' = w := by
  have q : ∀ (w : World) (a : Option Addr) (n c n' c' : Nat), (binOp .eql 56 (.slice a n c) (.slice none n' c')).run Tryd.prog w = .ok (.bool a.isNone) w := fun w a n c n' c' => Lib.run_eql_slice_nil w _ _ a n c n' c' Tryd.underlying56
  go_enter Tryd.func40, Tryd.ntmps40
  go_wp2
  go_ret
  exact ⟨rfl, rfl⟩
end Go.Proofs.YtmjgdnpfgkpaoaaDoor
namespace Go.Proofs.YtmjgdnpfgkpaoaaDoor

/-- how much fuel there is does not matter -/
theorem treF_fuel {x : Xpr} (hx : xprE x = 0) (sub : Nat → Option ET) : ∀ (i f : Nat), i < f → treF x.nodes sub f i = treF x.nodes sub (i + 1) i := by
  intro i
  induction i using Nat.strongRecOn with
  | ind i ih =>
    intro f hf
    obtain ⟨g, rfl⟩ : ∃ g, f = g + 1 := ⟨f - 1, by omega⟩
    rw [treF, treF]
    cases hi : x.nodes[i]? with
    | none => rw [List.getD_eq_getElem?_getD, hi]; rfl
    | some nd =>
      have ok := (xprE_ok hx).node i nd hi
      rw [List.getD_eq_getElem?_getD, hi]
      simp only [Option.getD_some]
      split
      · rfl
      · congr 1
        apply List.map_congr_left
        intro k hk
        obtain ⟨h1, h2⟩ := ok.kids k hk
        rw [ih k.toNat (by omega) g (by omega), ih k.toNat (by omega) i (by omega)]
/-- the sizes of the first trees, cut at a bound -/
def szl (M : Nat) (nodes : List Nod) (sub : Nat → Option ET) (k : Nat) : List Nat := (List.range k).map fun i => min M (treF nodes sub (i + 1) i).sz
theorem szl_len (M : Nat) (nodes : List Nod) (sub : Nat → Option ET) (k : Nat) : (szl M nodes sub k).length = k := by simp [szl]
theorem szl_succ (M : Nat) (nodes : List Nod) (sub : Nat → Option ET) (k : Nat) : szl M nodes sub (k + 1) = szl M nodes sub k ++ [min M (treF nodes sub (k + 1) k).sz] := by simp [szl, List.range_succ]
theorem szl_get (M : Nat) (nodes : List Nod) (sub : Nat → Option ET) (k i : Nat) (h : i < k) : (szl M nodes sub k).getD i 0 = min M (treF nodes sub (i + 1) i).sz := by
  unfold szl
  rw [List.getD_eq_getElem?_getD, List.getElem?_map, List.getElem?_range h]; rfl
/-- a server's size -/
def subZ (M : Nat) (sub : Nat → Option ET) (s : Nat) : Nat := match sub s with | some T => min M T.sz | none => 1
theorem sz_leaf {x : Xpr} (M : Nat) (hM : 1 ≤ M) (sub : Nat → Option ET) (i : Nat) (nd : Nod) (hi : x.nodes[i]? = some nd) (hk : nd.kind = 1) : min M (treF x.nodes sub (i + 1) i).sz = subZ M sub nd.server.toNat := by
  have e : x.nodes.getD i nod0 = nd := by rw [List.getD_eq_getElem?_getD, hi]; rfl
  rw [treF, e, if_pos hk]
  unfold subZ
  cases sub nd.server.toNat with
  | none => show min M (ET.srv nd.server).sz = 1; rw [ET.sz]; omega
  | some T => rfl
theorem sz_node {x : Xpr} (hx : xprE x = 0) (_M : Nat) (sub : Nat → Option ET) (i : Nat) (nd : Nod) (hi : x.nodes[i]? = some nd) (hk : nd.kind ≠ 1) : (treF x.nodes sub (i + 1) i).sz = ETs.sz (kidT x.nodes sub i nd.kids) + 1 :=
  (treF_plain hx sub i i nd hi (fun h => absurd h hk) 0).2
/-- a kid more -/
theorem sz_kid {x : Xpr} (hx : xprE x = 0) (M : Nat) (sub : Nat → Option ET) (i : Nat) (nd : Nod) (hi : x.nodes[i]? = some nd) (j kd : Nat) (hj : nd.kids[j]? = some (kd : Int)) :
    min M (1 + ETs.sz ((kidT x.nodes sub i nd.kids).take (j + 1))) = min M (min M (1 + ETs.sz ((kidT x.nodes sub i nd.kids).take j)) + (szl M x.nodes sub i).getD kd 0) := by
  have ok := (xprE_ok hx).node i nd hi
  have hkd := ok.kids _ (List.mem_of_getElem? hj)
  rw [szl_get _ _ _ _ _ (by omega), kidT_take _ _ _ _ _ _ hj, Int.toNat_natCast, (post_step _ _ 0).2.2, treF_fuel hx sub kd i (by omega)]
  omega
end Go.Proofs.YtmjgdnpfgkpaoaaDoor
namespace Go.Proofs.YtmjgdnpfgkpaoaaDoor
open Go.RowKit
section
variable {P : Program} {ops : Array Oper} {md : Region.Mode} {C : World → Prop}

/-- the first n operations in any order, each quiet in the class; then L -/
def headQ (P : Program) (md : Region.Mode) (ops : Array Oper) (C : World → Prop) (n : Nat) (L : Array Bool → Act → Prop) : Nat → Array Bool → Act → Prop
  | 0, listed, a => L listed a
  | f + 1, listed, a => Region.ready md ops listed ≠ [] ∧ ∀ i ∈ Region.ready md ops listed, i < n ∧ qOp P ops C i (headQ P md ops C n L f (listed.setIfInBounds i true)) a

theorem any_of_headQ {n g : Nat} {L : Array Bool → Act → Prop} {Q' : Exit → Act → World → Prop} (hL : ∀ listed a w, C w → L listed a → wpAny P md ops Q' g listed a w) :
    ∀ (f : Nat) (listed : Array Bool) (a : Act) (w : World), C w → headQ P md ops C n L f listed a → wpAny P md ops Q' (f + g) listed a w
  | 0, listed, a, w, hw, h => by rw [Nat.zero_add]; exact hL _ _ _ hw h
  | f + 1, listed, a, w, hw, h => by
    rw [show f + 1 + g = (f + g) + 1 by omega]
    exact ⟨fun h0 => absurd h0 h.1, fun i hi => wpOp_of_qOp hw (fun a' w' hw' h' => any_of_headQ hL f _ a' w' hw' h') (h.2 i hi).2⟩

theorem headQ_first {n i : Nat} {oi : Oper} {v : Value} {L : Array Bool → Act → Prop} (hi : ops[i]? = some oi) (hsel : ∀ (j : Nat) (o : Oper) cs b, ops[j]? = some o → o.op ≠ .select cs b)
    (hs : Region.sinkB md ops n = true) (hc : Region.chainB md ops n = true) (hn : n < ops.size) (hin : i < n)
    (hdone : ∀ listed a, L listed a → ∀ j ∈ Region.ready md ops listed, n ≤ j) :
    ∀ (f : Nat) (listed : Array Bool) (a : Act), HeadInv md ops n listed →
      (∀ j oj, ops[j]? = some oj → j ≠ i → listed.getD j true = false → (∀ e ∈ oj.after, Region.binds md e = true → e.on ≠ i) → oi.apart ops oj = true) →
      i ∈ Region.ready md ops listed → YieldsIn P ops C oi v a →
      headQ P md ops C n L f (listed.setIfInBounds i true) (a.put oi.dst v) → headQ P md ops C n L (f + 1) listed a := by
  intro f
  induction f with
  | zero =>
    intro listed a inv _ hr hy H
    have hun := (mem_ready.1 hr).1
    refine ⟨fun h => (by rw [h] at hr; cases hr), fun j hj => ?_⟩
    have hjn : j < n := by
      rcases Nat.lt_or_ge j n with h | h
      · exact h
      · exact absurd hj (tail_waits hs hc hn inv _ i rfl hin hun j h)
    refine ⟨hjn, ?_⟩
    by_cases hji : j = i
    · subst hji; exact hy.qOp hi H
    · have := hdone _ _ H j (ready_mono hj hji)
      omega
  | succ f ih =>
    intro listed a inv hfree hr hy H
    have hun := (mem_ready.1 hr).1
    refine ⟨fun h => (by rw [h] at hr; cases hr), fun j hj => ?_⟩
    have hjn : j < n := by
      rcases Nat.lt_or_ge j n with h | h
      · exact h
      · exact absurd hj (tail_waits hs hc hn inv _ i rfl hin hun j h)
    refine ⟨hjn, ?_⟩
    by_cases hji : j = i
    · subst hji; exact hy.qOp hi H
    · have h1 := (H.2 j (ready_mono hj hji)).2
      obtain ⟨hjun, oj, hoj, hall⟩ := mem_ready.1 hj
      have hnot : ∀ e ∈ oj.after, Region.binds md e = true → e.on ≠ i := fun e he hb heq => by
        have h1 := hall e he hb
        rw [heq, getD_both hun] at h1
        cases h1
      have h2 := qOp_put hoj (hfree j oj hoj hji hjun hnot) (fun cs b => hsel i oi cs b hi) (fun cs b => hsel j oj cs b hoj) hy h1
      have hfree' : ∀ k ok, ops[k]? = some ok → k ≠ i → (listed.setIfInBounds j true).getD k true = false →
          (∀ e ∈ ok.after, Region.binds md e = true → e.on ≠ i) → oi.apart ops ok = true := fun k ok hk hki hun hno => by
        refine hfree k ok hk hki ?_ hno
        by_cases hjk : j = k
        · subst hjk; exact hjun
        · rw [getD_set_ne true hjk] at hun; exact hun
      refine qOp_mono (fun a' h3 => ih (listed.setIfInBounds j true) a' (inv.set hj hjn) hfree' (ready_mono hr (Ne.symm hji)) h3.1 ?_) h2
      rw [Array.setIfInBounds_comm _ _ hji]
      exact h3.2

theorem headQ_lex {n g : Nat} {Lq : Act → Prop} (hsel : Region.noSelect ops = true) (hs : Region.sinkB md ops n = true) (hc : Region.chainB md ops n = true) (hn : n < ops.size) :
    ∀ (l : List Oper) (k : Nat) (listed : Array Bool) (a : Act), (∀ j, j < l.length → l[j]? = ops[k + j]?) → k + l.length = n → HeadInv md ops n listed →
    Region.lexHead md ops g l.length k listed = true → wpQuiet P ops C Lq l a →
    headQ P md ops C n (fun listed' a' => Region.seqB md ops g n listed' = true ∧ Lq a') l.length listed a
  | [], k, listed, a, _, hk, _, hB, h => by
    have : k = n := by simpa using hk
    subst this
    exact ⟨by simpa [Region.lexHead] using hB, h⟩
  | o :: l, k, listed, a, hl, hk, inv, hB, h => by
    have h0 : ops[k]? = some o := by simpa using (hl 0 (by simp)).symm
    simp only [List.length_cons, Region.lexHead, Bool.and_eq_true] at hB
    obtain ⟨⟨hr, hf⟩, hB'⟩ := hB
    have hkn : k < n := by simp only [List.length_cons] at hk; omega
    have hr' : k ∈ Region.ready md ops listed := by simpa using hr
    have hst : qOp P ops C k (wpQuiet P ops C Lq l) a := by unfold qOp; simp only [h0]; exact h
    obtain ⟨v, hy, hK⟩ := yieldsIn_of_qOp h0 hst
    exact headQ_first h0 (Region.noSelect_spec hsel) hs hc hn hkn (fun listed' a' hL => seqB_ready hL.1) l.length listed a inv (Region.free_spec h0 hf) hr' hy
      (headQ_lex hsel hs hc hn l (k + 1) _ _ (fun j hj => by have := hl (j + 1) (by simp; omega); simpa [Nat.add_assoc, Nat.add_comm 1 j] using this) (by simp only [List.length_cons] at hk; omega) (inv.set hr' hkn) hB' hK)

/-- one walk in the order of the text serves every order; the tail stands behind, in any world of the class -/
theorem wp_region_quiet_tail {id : Nat} {Q : Exit → Act → World → Prop} {a : Act} {w : World} {l : List Oper} (C : World → Prop) (n : Nat) (hm : P.follows .mixedOrders = true) (hB : Region.lexTailB .any l.toArray n = true) (hC : C { w with drawn := w.drawn + 1 })
    (h : wpQuiet P l.toArray C (fun a' => ∀ w', C w' → wpList P l.toArray Q (l.drop n) a' w') (l.take n) a) : (Code.region id l.toArray true).wp P Q a w := by
  simp only [Region.lexTailB, Bool.and_eq_true, decide_eq_true_eq] at hB
  obtain ⟨⟨⟨⟨hsel, hn⟩, hs⟩, hc⟩, hlex⟩ := hB
  have hn' : n < l.length := by simpa using hn
  have htl : (l.take n).length = n := by simp; omega
  have hdl : (l.drop n).length = l.toArray.size - n := by simp
  have inv0 : HeadInv .any l.toArray n (Array.replicate l.toArray.size false) :=
    ⟨by simp, fun j oj _ hl => (by rw [getD_replicate_false] at hl; cases hl), fun t _ ht => getD_in (by simpa using ht) (getD_replicate_false _ _)⟩
  have H := headQ_lex (md := .any) (C := C) (g := l.toArray.size - n) hsel hs hc hn (l.take n) 0 _ a (fun j hj => by
    have hj' : j < n := by rw [htl] at hj; exact hj
    simp [hj']) (by simpa using htl) inv0 (by rw [htl]; exact hlex) h
  refine wp_region_any hm ?_
  have := any_of_headQ (Q' := Q) (g := l.toArray.size - n) (fun listed a' w' hw' hL => by
    have := wpAny_of_seq (md := .any) (Q' := Q) (l.drop n) n listed a' w' (fun j => by simp [List.getElem?_drop]) (by rw [hdl]; exact hL.1) (hL.2 w' hw')
    rwa [hdl] at this) _ _ _ _ hC H
  rw [htl, show n + (l.toArray.size - n) = l.toArray.size by omega] at this
  exact this
end
end Go.Proofs.YtmjgdnpfgkpaoaaDoor
namespace Go.Proofs.YtmjgdnpfgkpaoaaDoor
open Go.RowKit
section
variable {P : Program} {ops : Array Oper} {md : Region.Mode} {C D : World → Prop}

def inC (C D : World → Prop) (b : Bool) (w : World) : Prop := match b with
  | true => D w
  | false => C w
def StoreAt (P : Program) (o : Oper) (a : Act) (C D : World → Prop) : Prop := ∀ w, C w → ∃ w', (execOp a.eval o).run P w = .ok .skip w' ∧ D w'
def walkT (P : Program) (md : Region.Mode) (ops : Array Oper) (C D : World → Prop) (t : Nat) (Q : Act → Prop) : Nat → Array Bool → Act → Prop
  | 0, listed, a => Region.ready md ops listed = [] ∧ listed.getD t true = true ∧ Q a
  | f + 1, listed, a => (Region.ready md ops listed = [] → listed.getD t true = true ∧ Q a) ∧ ∀ i ∈ Region.ready md ops listed,
      (i ≠ t → qOp P ops (inC C D (listed.getD t true)) i (walkT P md ops C D t Q f (listed.setIfInBounds i true)) a) ∧
      (i = t → ∃ o, ops[t]? = some o ∧ Region.wanted o (yielded ops a.tmps) = true ∧ StoreAt P o a C D ∧ walkT P md ops C D t Q f (listed.setIfInBounds t true) (a.put o.dst undef))

theorem getD_set_same (listed : Array Bool) (t : Nat) : (listed.setIfInBounds t true).getD t true = true := by
  rw [Array.getD_eq_getD_getElem?, Array.getElem?_setIfInBounds, if_pos rfl]
  split <;> rfl
theorem any_of_walkT {t : Nat} {Q : Act → Prop} {Q' : Exit → Act → World → Prop} (hQ : ∀ a w, D w → Q a → Q' .normal a w) :
    ∀ (f : Nat) (listed : Array Bool) (a : Act) (w : World), inC C D (listed.getD t true) w → walkT P md ops C D t Q f listed a → wpAny P md ops Q' f listed a w
  | 0, listed, a, w, hw, h => ⟨h.1, hQ _ _ (by have := h.2.1; rw [this] at hw; exact hw) h.2.2⟩
  | f + 1, listed, a, w, hw, h => by
    refine ⟨fun h0 => ?_, fun i hi => ?_⟩
    · obtain ⟨h1, h2⟩ := h.1 h0
      exact hQ _ _ (by rw [h1] at hw; exact hw) h2
    · by_cases hit : i = t
      · subst hit
        obtain ⟨o, ho, hwd, hst, hn⟩ := (h.2 i hi).2 rfl
        have hun := (mem_ready.1 hi).1
        rw [hun] at hw
        obtain ⟨w', hr, hD⟩ := hst w hw
        unfold wpOp
        simp only [ho]
        rw [if_pos hwd]
        left
        unfold Oper.wp
        rw [hr]
        exact any_of_walkT hQ f _ _ _ (by rw [getD_set_same]; exact hD) hn
      · exact wpOp_of_qOp hw (fun a' w' hw' h' => any_of_walkT hQ f _ a' w' (by rw [getD_set_ne true hit]; exact hw') h') ((h.2 i hi).1 hit)

theorem qOp_put2 {C' : World → Prop} {j : Nat} {oi oj : Oper} {v : Value} (hj : ops[j]? = some oj) (hap : oi.apart ops oj = true)
    (hsj : ∀ cs b, oj.op ≠ .select cs b) {K : Act → Prop} {a : Act} (h : qOp P ops C' j K (a.put oi.dst v)) :
    qOp P ops C' j (fun a' => (∃ u, a' = a.put oj.dst u) ∧ K (a'.put oi.dst v)) a := by
  obtain ⟨h1, h2, h3⟩ := Oper.apart_spec hap
  unfold qOp at *
  simp only [hj] at *
  rw [wanted_put oj a oi.dst v h1] at h
  split
  · rename_i hw
    simp only [hw, if_true] at h
    obtain ⟨u, hu, hn⟩ := h
    refine ⟨u, fun w hw' => ?_, ⟨u, rfl⟩, by rw [← Act.put_comm a v u h2]; exact hn⟩
    have := hu w hw'
    unfold Oper.quietAt at *
    rwa [execOp_put oj hsj a oi.dst v h1] at this
  · rename_i hw
    simp only [hw] at h
    exact ⟨⟨undef, rfl⟩, by rw [← Act.put_comm a v undef h2]; exact h⟩

theorem walkT_first {t i : Nat} {oi : Oper} {v : Value} {Q : Act → Prop} (hi : ops[i]? = some oi) (hit : i ≠ t) (hsel : ∀ (j : Nat) (o : Oper) cs b, ops[j]? = some o → o.op ≠ .select cs b)
    (late : Bool) (hlate : late = false → Region.waitsFor md ops t i = true) :
    ∀ (f : Nat) (listed : Array Bool) (a : Act),
      (∀ j oj, ops[j]? = some oj → j ≠ i → listed.getD j true = false → (∀ e ∈ oj.after, Region.binds md e = true → e.on ≠ i) → oi.apart ops oj = true) →
      i ∈ Region.ready md ops listed → (listed.getD t true = false → YieldsIn P ops C oi v a) → ((late = true ∨ listed.getD t true = true) → YieldsIn P ops D oi v a) →
      walkT P md ops C D t Q f (listed.setIfInBounds i true) (a.put oi.dst v) → walkT P md ops C D t Q (f + 1) listed a := by
  have yin : ∀ (listed : Array Bool) (a : Act), (listed.getD t true = false → YieldsIn P ops C oi v a) → ((late = true ∨ listed.getD t true = true) → YieldsIn P ops D oi v a) → YieldsIn P ops (inC C D (listed.getD t true)) oi v a := by
    intro listed a h1 h2
    cases hb : listed.getD t true
    · exact h1 hb
    · exact h2 (.inr hb)
  intro f
  induction f with
  | zero =>
    intro listed a _ hr hC hD H
    refine ⟨fun h => (by rw [h] at hr; cases hr), fun j hj => ?_⟩
    by_cases hji : j = i
    · subst hji; exact ⟨fun _ => (yin listed a hC hD).qOp hi H, fun h => absurd h hit⟩
    · have := ready_mono hj hji
      rw [H.1] at this
      cases this
  | succ f ih =>
    intro listed a hfree hr hC hD H
    refine ⟨fun h => (by rw [h] at hr; cases hr), fun j hj => ?_⟩
    by_cases hji : j = i
    · subst hji; exact ⟨fun _ => (yin listed a hC hD).qOp hi H, fun h => absurd h hit⟩
    · have hHj := H.2 j (ready_mono hj hji)
      obtain ⟨hjun, oj, hoj, hall⟩ := mem_ready.1 hj
      have hiun := (mem_ready.1 hr).1
      have hnot : ∀ e ∈ oj.after, Region.binds md e = true → e.on ≠ i := fun e he hb heq => by
        have h1 := hall e he hb
        rw [heq, getD_both hiun] at h1
        cases h1
      have hap := hfree j oj hoj hji hjun hnot
      obtain ⟨p1, p2, p3⟩ := Oper.apart_spec hap
      have hsi := fun cs b => hsel i oi cs b hi
      have keep : ∀ (E : World → Prop), YieldsIn P ops E oi v a → ∀ u, YieldsIn P ops E oi v (a.put oj.dst u) := fun E hy u =>
        hy.of_same (execOp_put oi hsi a oj.dst u p3) (wanted_put oi a oj.dst u p3)
      have hfree' : ∀ k ok, ops[k]? = some ok → k ≠ i → (listed.setIfInBounds j true).getD k true = false →
          (∀ e ∈ ok.after, Region.binds md e = true → e.on ≠ i) → oi.apart ops ok = true := fun k ok hk hki hun hno => by
        refine hfree k ok hk hki ?_ hno
        by_cases hjk : j = k
        · subst hjk; exact hjun
        · rw [getD_set_ne true hjk] at hun; exact hun
      by_cases hjt : j = t
      · subst hjt
        refine ⟨fun h => absurd rfl h, fun _ => ?_⟩
        have hl : late = true := by
          cases hl : late
          · exfalso
            obtain ⟨oj', hoj', e, he, hb, hon⟩ := Region.waitsFor_spec (hlate hl)
            rw [hoj] at hoj'
            cases hoj'
            exact hnot e he hb hon
          · rfl
        obtain ⟨o, ho, hwd, hst, hn⟩ := hHj.2 rfl
        rw [hoj] at ho
        cases ho
        refine ⟨oj, hoj, by rw [wanted_put oj a oi.dst v p1] at hwd; exact hwd, fun w hw => ?_, ?_⟩
        · obtain ⟨w', hr', hD'⟩ := hst w hw
          rw [execOp_put oj (fun cs b => hsel j oj cs b hoj) a oi.dst v p1] at hr'
          exact ⟨w', hr', hD'⟩
        · refine ih (listed.setIfInBounds j true) _ hfree' (ready_mono hr (Ne.symm hji)) (fun h => by rw [getD_set_same] at h; cases h) (fun _ => keep D (hD (.inl hl)) undef) ?_
          rw [Array.setIfInBounds_comm _ _ hji, ← Act.put_comm a v undef p2]
          exact hn
      · refine ⟨fun _ => ?_, fun h => absurd h hjt⟩
        have e1 : (listed.setIfInBounds i true).getD t true = listed.getD t true := getD_set_ne true hit
        have e2 : (listed.setIfInBounds j true).getD t true = listed.getD t true := getD_set_ne true hjt
        have h1 := hHj.1 hjt
        rw [e1] at h1
        refine qOp_mono (fun a' h3 => ?_) (qOp_put2 hoj hap (fun cs b => hsel j oj cs b hoj) h1)
        obtain ⟨⟨u, hu⟩, h4⟩ := h3
        refine ih (listed.setIfInBounds j true) a' hfree' (ready_mono hr (Ne.symm hji)) (fun h => by rw [hu]; exact keep C (hC (by rw [← e2]; exact h)) u) (fun h => by rw [hu]; exact keep D (hD (h.imp id fun h => by rw [← e2]; exact h)) u) ?_
        rw [Array.setIfInBounds_comm _ _ hji]
        exact h4

/-- a late one yields behind the store, too -/
def LateAt (P : Program) (D : World → Prop) (late : Nat → Bool) (k : Nat) (o : Oper) (a : Act) (v : Value) : Prop := late k = true → ∀ w, D w → o.quietAt P a D w v
theorem late_not {late : Nat → Bool} {k : Nat} {o : Oper} {a : Act} {v : Value} (h : late k = false) : LateAt P D late k o a v := fun h' => by rw [h] at h'; cases h'
/-- the walk in the order of the text; the late ones yield behind the store, too -/
def wpT (P : Program) (ops : Array Oper) (C D : World → Prop) (late : Nat → Bool) (Qt : Act → Prop) : Nat → List Oper → Act → Prop
  | _, [], a => Qt a
  | k, o :: rest, a => if Region.wanted o (yielded ops a.tmps) = true then ∃ v, (∀ w, C w → o.quietAt P a C w v) ∧ LateAt P D late k o a v ∧ wpT P ops C D late Qt (k + 1) rest (a.put o.dst v)
      else wpT P ops C D late Qt (k + 1) rest (a.put o.dst undef)
theorem wpT_nil {late : Nat → Bool} {Qt : Act → Prop} {k : Nat} {a : Act} (h : Qt a) : wpT P ops C D late Qt k [] a := h
theorem wpT_step {late : Nat → Bool} {Qt : Act → Prop} {k : Nat} {o : Oper} {rest : List Oper} {a : Act}
    (h : ∀ K : Act → Prop, (∀ a, wpT P ops C D late Qt (k + 1) rest a → K a) → if Region.wanted o (yielded ops a.tmps) = true then ∃ v, (∀ w, C w → o.quietAt P a C w v) ∧ LateAt P D late k o a v ∧ K (a.put o.dst v) else K (a.put o.dst undef)) :
    wpT P ops C D late Qt k (o :: rest) a := h _ (fun _ h => h)

theorem walkT_lex {t : Nat} {late : Nat → Bool} {Q : Act → Prop} (hsel : Region.noSelect ops = true) (hlate : ∀ i, i < t → late i = false → Region.waitsFor md ops t i = true) :
    ∀ (l : List Oper) (k : Nat) (listed : Array Bool) (a : Act), (∀ j, j < l.length → l[j]? = ops[k + j]?) → k + l.length = t → listed.getD t true = false →
    Region.lexFrom md ops (l.length + 1) k listed = true →
    wpT P ops C D late (fun a' => ∃ o, ops[t]? = some o ∧ Region.wanted o (yielded ops a'.tmps) = true ∧ StoreAt P o a' C D ∧ Q (a'.put o.dst undef)) k l a →
    walkT P md ops C D t Q (l.length + 1) listed a
  | [], k, listed, a, _, hk, hun, hB, h => by
    have hkt : k = t := by simpa using hk
    subst hkt
    simp only [List.length_nil, Region.lexFrom, Bool.and_eq_true] at hB
    have hr : k ∈ Region.ready md ops listed := by simpa using hB.1.1
    have he : Region.ready md ops (listed.setIfInBounds k true) = [] := by simpa using hB.2
    refine ⟨fun h0 => (by rw [h0] at hr; cases hr), fun i hi => ⟨fun hik => ?_, fun hik => ?_⟩⟩
    · have := ready_mono hi hik
      rw [he] at this; cases this
    · obtain ⟨o, ho, hwd, hst, hq⟩ := h
      exact ⟨o, ho, hwd, hst, he, getD_set_same _ _, hq⟩
  | o :: l, k, listed, a, hl, hk, hun, hB, h => by
    have h0 : ops[k]? = some o := by simpa using (hl 0 (by simp)).symm
    have hkt : k < t := by simp only [List.length_cons] at hk; omega
    simp only [List.length_cons] at hB ⊢
    rw [Region.lexFrom] at hB
    simp only [Bool.and_eq_true] at hB
    obtain ⟨⟨hr, hf⟩, hB'⟩ := hB
    have hr' : k ∈ Region.ready md ops listed := by simpa using hr
    have rec' := fun (v : Value) (hK : wpT P ops C D late (fun a' => ∃ o, ops[t]? = some o ∧ Region.wanted o (yielded ops a'.tmps) = true ∧ StoreAt P o a' C D ∧ Q (a'.put o.dst undef)) (k + 1) l (a.put o.dst v)) =>
      walkT_lex hsel hlate l (k + 1) (listed.setIfInBounds k true) (a.put o.dst v) (fun j hj => by have := hl (j + 1) (by simp; omega); simpa [Nat.add_assoc, Nat.add_comm 1 j] using this) (by simp only [List.length_cons] at hk; omega) (by rw [getD_set_ne true (by omega)]; exact hun) hB' hK
    unfold wpT at h
    by_cases hw : Region.wanted o (yielded ops a.tmps) = true
    · rw [if_pos hw] at h
      obtain ⟨v, hC, hD, hK⟩ := h
      exact walkT_first h0 (by omega) (Region.noSelect_spec hsel) (late k) (hlate k hkt) _ listed a (Region.free_spec h0 hf) hr' (fun _ => .inl ⟨hw, hC⟩) (fun hh => .inl ⟨hw, hD (hh.resolve_right (by rw [hun]; decide))⟩) (rec' v hK)
    · rw [if_neg hw] at h
      have hw' : Region.wanted o (yielded ops a.tmps) = false := by simpa using hw
      exact walkT_first h0 (by omega) (Region.noSelect_spec hsel) (late k) (hlate k hkt) _ listed a (Region.free_spec h0 hf) hr' (fun _ => .inr ⟨hw', rfl⟩) (fun _ => .inr ⟨hw', rfl⟩) (rec' undef h)

theorem wp_region_store {id : Nat} {Q : Exit → Act → World → Prop} {a : Act} {w : World} {l : List Oper} (C D : World → Prop) (late : List Nat) (t : Nat) (hm : P.follows .mixedOrders = true) (hB : Region.lexB .any l.toArray = true)
    (hT : (decide (t + 1 = l.length) && (List.range t).all fun i => late.contains i || Region.waitsFor .any l.toArray t i) = true) (hC : C { w with drawn := w.drawn + 1 })
    (h : wpT P l.toArray C D late.contains (fun a' => ∃ o, l.toArray[t]? = some o ∧ Region.wanted o (yielded l.toArray a'.tmps) = true ∧ StoreAt P o a' C D ∧ ∀ w', D w' → Q .normal (a'.put o.dst undef) w') 0 (l.take t) a) :
    (Code.region id l.toArray true).wp P Q a w := by
  simp only [Region.lexB, Bool.and_eq_true] at hB
  simp only [Bool.and_eq_true, decide_eq_true_eq] at hT
  obtain ⟨hlen, hall⟩ := hT
  have htl : (l.take t).length = t := by simp; omega
  refine wp_region_any hm ?_
  have hun : (Array.replicate l.toArray.size false).getD t true = false := getD_in (by simp; omega) (getD_replicate_false _ _)
  have := walkT_lex (md := .any) (C := C) (D := D) (t := t) (late := late.contains) (Q := fun a' => ∀ w', D w' → Q .normal a' w') hB.1 (fun i hi hl => by
    have := List.all_eq_true.1 hall i (List.mem_range.2 hi)
    rw [hl, Bool.false_or] at this
    exact this) (l.take t) 0 (Array.replicate l.toArray.size false) a (fun j hj => by
    have hj' : j < t := by rw [htl] at hj; exact hj
    simp [hj']) (by rw [htl]; omega) hun (by rw [htl, show t + 1 = l.toArray.size by simp; omega]; exact hB.2) h
  have h2 := any_of_walkT (Q' := Q) (fun a' w' hw' h' => h' w' hw') _ _ _ { w with drawn := w.drawn + 1 } (by rw [hun]; exact hC) this
  rw [htl] at h2
  rw [show t + 1 = l.toArray.size by simp; omega] at h2
  exact h2
end
end Go.Proofs.YtmjgdnpfgkpaoaaDoor
