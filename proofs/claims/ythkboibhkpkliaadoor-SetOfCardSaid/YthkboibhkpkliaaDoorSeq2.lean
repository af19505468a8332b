/- set.choose under a range over a function: its contract over whatever loop body keeps what it must. -/
import Derived.Test.YthkboibhkpkliaaDoorSeq1
import Derived.RangeFuncNested
import Derived.RangeFuncBound
import Derived.RangeFuncCalls
import Derived.RangeFuncLeaves
import Derived.RangeFuncWrites
import Derived.Shelf.Abstract
import Derived.Shelf.RegionOpen
import Derived.OwnWalkIn
import Derived.TacticsInMore
import Derived.LoopNIn
import Derived.LoopIn
namespace Go.Proofs.YthkboibhkpkliaaDoor
open Go.RowKit Go.Shelf
attribute [local go_sem] Oper.semAt_some

/-- What a round keeps: the blocks of cells that C protects (by their number and their type). -/
structure KeepC (C : Nat → TypeId → Prop) (W W' : World) : Prop where
  size : W.heap.size ≤ W'.heap.size
  keep : ∀ k cur t f, W.heap[k]? = some (.cells cur t f) → C k t → W'.heap[k]? = some (.cells cur t f)

theorem KeepC.refl (C : Nat → TypeId → Prop) (W : World) : KeepC C W W := ⟨Nat.le_refl _, fun _ _ _ _ h _ => h⟩
theorem KeepC.trans {C : Nat → TypeId → Prop} {A B D : World} (h : KeepC C A B) (g : KeepC C B D) : KeepC C A D :=
  ⟨Nat.le_trans h.size g.size, fun k cur t f hk hc => g.keep k cur t f (h.keep k cur t f hk hc) hc⟩
theorem KeepC.of_below (C : Nat → TypeId → Prop) {W W' : World} (hb : Below W.heap.size W W') : KeepC C W W' :=
  ⟨hb.size, fun k cur t f hk _ => (hb.block k (Array.getElem?_eq_some_iff.1 hk).1).trans hk⟩
theorem KeepC.putObj (C : Nat → TypeId → Prop) (W : World) (l : Nat) (o o' : Obj) (h : W.heap[l]? = some o) (ho : o.isCells = false) : KeepC C W (W.putObj l o') := by
  have hlt := (Array.getElem?_eq_some_iff.1 h).1
  have hg := grownBy_putObj' W l o'
  refine ⟨hg.size, fun k cur t f hk _ => ?_⟩
  by_cases e : k = l
  · subst e; rw [h] at hk; cases hk; cases ho
  · exact (World.putObj_heap_other (by omega)).trans hk
theorem cells_of_cell {w : World} {b o : Nat} {v : Value} (h : w.cell? ⟨b, o, none⟩ = some v) : ∃ cur t f, w.heap[b]? = some (.cells cur t f) := by
  unfold World.cell? at h
  cases hb : w.heap[b]? with
  | none => simp [hb] at h
  | some ob =>
    cases ob with
    | cells cs t f => exact ⟨_, _, _, rfl⟩
    | _ => simp [hb] at h
theorem KeepC.cell {C : Nat → TypeId → Prop} {w W : World} (h : KeepC C w W) {b o : Nat} {v : Value} (hc : w.cell? ⟨b, o, none⟩ = some v) (hx : ∀ cur t f, w.heap[b]? = some (.cells cur t f) → C b t) : W.cell? ⟨b, o, none⟩ = some v := by
  obtain ⟨cur, t, f, hb⟩ := cells_of_cell hc
  have := h.keep b cur t f hb (hx _ _ _ hb)
  rw [World.cell?_of_block (a := ⟨b, o, none⟩) (w := w) (w' := W) (this.trans hb.symm)]
  exact hc
theorem HasTab.keepC {C : Nat → TypeId → Prop} {w W : World} (ht : HasTab w) (h : KeepC C w W) (hg : ∀ t, C 0 t) : HasTab W := fun i hi => h.cell (ht i hi) (fun _ t _ _ => hg t)

theorem Rd.keepC {C : Nat → TypeId → Prop} {w W : World} {a : Option Addr} {n c : Nat} {l : List Value} (h : Rd w a n c l) (hk : KeepC C w W) (hx : ∀ b o cur t f, a = some ⟨b, o, none⟩ → w.heap[b]? = some (.cells cur t f) → C b t) : Rd W a n c l := by
  refine ⟨h.len, h.le, h.max, h.nil, fun hn => ?_⟩
  obtain ⟨b, o, ha, hc⟩ := h.at' hn
  exact ⟨b, o, ha, fun i v hv => hk.cell (hc i v hv) (fun cur t f hb => hx b o cur t f ha hb)⟩
theorem Own.type {w w' : World} {e : TypeId} {v : Value} {l : List Value} (h : Own w w' e v l) {b o n c : Nat} (hv : v = .slice (some ⟨b, o, none⟩) n c) {cur : Array Value} {t : TypeId} {f : Nat × Nat} (hb : w'.heap[b]? = some (.cells cur t f)) : t = e := by
  rcases h.2 with ⟨h2, _⟩ | ⟨g, cap, cur', h2, _, hg, _⟩
  · rw [h2] at hv; cases hv
  · rw [h2] at hv; cases hv; rw [hg] at hb; cases hb; rfl

theorem room_of_none {F : Fence} (hd : F.depth = none) (k : Nat) : F.room k := fun d h => by rw [hd] at h; cases h
theorem YieldAt.any {m : Nat} (m' : Nat) {P : Program} {l : Nat} {args : Array Value} {W : World} {R : Ending → World → Prop} (h : YieldAt Fence.wide m P l args W R) : YieldAt Fence.wide m' P l args W R := by
  obtain ⟨fn, tmps, assign, body, hy, hR⟩ := h
  exact ⟨fn, tmps, assign, body, hy, hR.1, fun c cs _ => hR.2 c cs (room_of_none rfl _)⟩
theorem CallsIn.any {n : Nat} (n' : Nat) {P : Program} {f : FuncId} {args : Array Value} {w : World} {R : Ending → World → Prop} (h : CallsIn Fence.wide n P f args w R) : CallsIn Fence.wide n' P f args w R :=
  callsIn_wide.2 (callsIn_wide.1 h)

/-- no subsets with too few or too many members -/
theorem chooseS_out (x : BitVec 16) (k : Int) (h : k < 0 ∨ (cnt x : Int) < k) : chooseS x k = [] := by
  rw [chooseS_dep, List.map_eq_nil_iff]
  unfold numsTo
  rw [List.filter_eq_nil_iff]
  intro n hn
  have hlt := List.mem_range.1 hn
  rw [popR_32 x n hlt, beq_iff_eq]
  have := popR_le (cnt x) n
  omega

theorem dep_take {l : List Nat} {k i : Nat} (h : l[k]? = some i) (n : Nat) : dep (l.take (k + 1)) n = dep (l.take k) n ||| (if n.testBit k then bitS i else 0#16) := by
  have hk := (List.getElem?_eq_some_iff.1 h).1
  rw [List.take_add_one, h]
  show dep (l.take k ++ [i]) n = _
  rw [dep_snoc, List.length_take, show min k l.length = k by omega]

theorem V_pow (c : Nat) (h : c ≤ 16) : V (bitV c) = 2 ^ c := by
  have : 2 ^ c < 2 ^ 32 := Nat.pow_lt_pow_right (by decide) (by omega)
  unfold V bitV
  rw [BitVec.toNat_shiftLeft]
  simp only [BitVec.toNat_ofNat, Nat.shiftLeft_eq]
  rw [show 1 % 2 ^ 32 = 1 by decide, Nat.one_mul, Nat.mod_eq_of_lt this]
  simp
theorem V_first (k : Nat) (h : k ≤ 16) : (bitV k - 1#32).toNat = 2 ^ k - 1 := by
  have h1 := V_pow k h
  have h2 : (bitV k).toNat = 2 ^ k := by unfold V at h1; have : ((2 : Int) ^ k) = ((2 ^ k : Nat) : Int) := by simp
                                         omega
  have hp : 0 < 2 ^ k := Nat.two_pow_pos k
  rw [BitVec.toNat_sub, h2]
  have : 2 ^ k ≤ 2 ^ 16 := Nat.pow_le_pow_right (by decide) h
  simp; omega
@[go_sem] theorem bv32_quo (a b : BitVec 32) : IntKind.u32.wrap ((V a).tdiv (V b)) = V (a / b) := by
  have h : (V a).tdiv (V b) = V (a / b) := by
    unfold V; rw [BitVec.toNat_udiv, Int.tdiv_eq_ediv_of_nonneg (by omega)]; simp
  rw [h, V_wrap]
@[go_sem] theorem bv32_quo' (a b : BitVec 32) : (V a).tdiv (V b) = V (a / b) := by
  unfold V; rw [BitVec.toNat_udiv, Int.tdiv_eq_ediv_of_nonneg (by omega)]; simp
@[go_sem] theorem bv32_quo'' (a b : BitVec 32) : (V a) / (V b) = V (a / b) := by
  unfold V; rw [BitVec.toNat_udiv]; simp
end Go.Proofs.YthkboibhkpkliaaDoor
