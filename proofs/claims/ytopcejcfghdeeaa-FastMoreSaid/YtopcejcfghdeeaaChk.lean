/- single.check; transversal.Disjoint. -/
import Derived.Test.YtopcejcfghdeeaaFam3
import Derived.Test.YtopcejcfghdeeaaSin1
namespace Go.Proofs.Ytopcejcfghdeeaa
open Go.RowKit Go.Shelf

/-- a slice of lists of sets -/
def RdSS (w : World) (a : Option Addr) (n c : Nat) (Ls : List (List (BitVec 16))) : Prop :=
  ∃ vs : List Value, Rd w a n c vs ∧ vs.length = Ls.length ∧ ∀ (i : Nat) (L : List (BitVec 16)), Ls[i]? = some L → ∃ a' n' c', vs[i]? = some (Value.slice a' n' c') ∧ Rd w a' n' c' (L.map setV2)
theorem RdSS.below {w w' : World} {a : Option Addr} {n c : Nat} {Ls : List (List (BitVec 16))} (h : RdSS w a n c Ls) (hb : Below w.heap.size w w') : RdSS w' a n c Ls := by
  obtain ⟨vs, h1, h2, h3⟩ := h
  refine ⟨vs, h1.below hb, h2, fun i L hi => ?_⟩
  obtain ⟨a', n', c', e, hr⟩ := h3 i L hi
  exact ⟨a', n', c', e, hr.below hb⟩
theorem RdSS.len {w : World} {a : Option Addr} {n c : Nat} {Ls : List (List (BitVec 16))} (h : RdSS w a n c Ls) : Ls.length = n ∧ n ≤ c ∧ c ≤ 2 ^ 63 - 1 := by
  obtain ⟨vs, h1, h2, _⟩ := h
  have := h1.len; have := h1.le; have h3 := h1.max; unfold maxLen at h3
  omega
theorem RdSS.get {w : World} {a : Option Addr} {n c : Nat} {Ls : List (List (BitVec 16))} (h : RdSS w a n c Ls) {i : Nat} {L : List (BitVec 16)} (hi : Ls[i]? = some L) :
    ∃ b o a' n' c', a = some ⟨b, o, none⟩ ∧ w.cell? ⟨b, o + i, none⟩ = some (.slice a' n' c') ∧ Rd w a' n' c' (L.map setV2) := by
  obtain ⟨vs, h1, h2, h3⟩ := h
  obtain ⟨a', n', c', e, hr⟩ := h3 i L hi
  have hlt := (List.getElem?_eq_some_iff.1 e).1
  obtain ⟨b, o, ha, hc⟩ := h1.at' (by have := h1.len; omega)
  exact ⟨b, o, a', n', c', ha, hc i _ e, hr⟩

/-- what single.check finds -/
def hasZ (f : List (BitVec 16)) : Bool := f.any fun x => 0#16 == x
def offB (m : Nat) (f : List (BitVec 16)) : Bool := shrS (supS f) m != 0#16
def chkS (n : Int) (Ls : List (List (BitVec 16))) : Int :=
  if n < 1 ∨ 12 < n then 7 else if firstE (fun j => valS (Ls.getD j [])) Ls.length ≠ 0 then firstE (fun j => valS (Ls.getD j [])) Ls.length
  else if Ls.any (offB n.toNat) then 7 else if Ls.any hasZ then 9 else 0

theorem anyL_hit {α : Type} {p : α → Bool} {l : List α} {k : Nat} {x : α} (h : l[k]? = some x) (hp : p x = true) : l.any p = true :=
  List.any_eq_true.2 ⟨x, List.mem_of_getElem? h, hp⟩
theorem anyL_none {α : Type} {p : α → Bool} {l : List α} (h : ∀ (j : Nat) (x : α), l[j]? = some x → p x = false) : l.any p = false := by
  rw [Bool.eq_false_iff]
  intro hc
  obtain ⟨x, hx, hp⟩ := List.any_eq_true.1 hc
  obtain ⟨j, hj⟩ := List.mem_iff_getElem?.1 hx
  rw [h j x hj] at hp; cases hp

/-- the first disjoint pair -/
def disS (f g : List (BitVec 16)) : Option (BitVec 16 × BitVec 16) :=
  (f.flatMap fun x => g.map fun y => (x, y)).find? fun p => p.1 &&& p.2 == 0#16
theorem dis_row (x : BitVec 16) (g : List (BitVec 16)) (k : Nat) (h : ∀ j, j < k → (x &&& g.getD j 0#16 == 0#16) = false) (hk : k ≤ g.length) : (g.map fun y => (x, y)).find? (fun p => p.1 &&& p.2 == 0#16) = ((g.drop k).map fun y => (x, y)).find? (fun p => p.1 &&& p.2 == 0#16) := by
  have e : (g.map fun y => (x, y)) = ((g.take k).map fun y => (x, y)) ++ ((g.drop k).map fun y => (x, y)) := by rw [← List.map_append, List.take_append_drop]
  rw [e, List.find?_append]
  rw [List.find?_eq_none.2]
  · rfl
  · intro p hp
    obtain ⟨y, hy, rfl⟩ := List.mem_map.1 hp
    obtain ⟨j, hj, rfl⟩ := List.mem_iff_getElem.1 hy
    rw [List.length_take] at hj
    have := h j (by omega)
    rw [getD_at (by omega)] at this
    rw [List.getElem_take]
    simpa using this
theorem disS_drop (f g : List (BitVec 16)) (k : Nat) (h : ∀ j, j < k → ∀ i, i < g.length → (f.getD j 0#16 &&& g.getD i 0#16 == 0#16) = false) (hk : k ≤ f.length) : disS f g = disS (f.drop k) g := by
  unfold disS
  have e : (f.flatMap fun x => g.map fun y => (x, y)) = ((f.take k).flatMap fun x => g.map fun y => (x, y)) ++ ((f.drop k).flatMap fun x => g.map fun y => (x, y)) := by rw [← List.flatMap_append, List.take_append_drop]
  rw [e, List.find?_append]
  rw [List.find?_eq_none.2]
  · rfl
  · intro p hp
    obtain ⟨x, hx, hp⟩ := List.mem_flatMap.1 hp
    obtain ⟨y, hy, rfl⟩ := List.mem_map.1 hp
    obtain ⟨j, hj, rfl⟩ := List.mem_iff_getElem.1 hx
    obtain ⟨i, hi, rfl⟩ := List.mem_iff_getElem.1 hy
    rw [List.length_take] at hj
    have := h j (by omega) i hi
    rw [getD_at (by omega), getD_at hi] at this
    rw [List.getElem_take]
    simpa using this
theorem disS_none (f g : List (BitVec 16)) (h : ∀ j, j < f.length → ∀ i, i < g.length → (f.getD j 0#16 &&& g.getD i 0#16 == 0#16) = false) : disS f g = none := by
  rw [disS_drop f g f.length h (Nat.le_refl _), List.drop_length]; rfl
theorem disS_hit (f g : List (BitVec 16)) (k i : Nat) (hk : k < f.length) (hi : i < g.length) (h : ∀ j, j < k → ∀ i, i < g.length → (f.getD j 0#16 &&& g.getD i 0#16 == 0#16) = false) (h2 : ∀ j, j < i → (f.getD k 0#16 &&& g.getD j 0#16 == 0#16) = false)
    (h3 : (f.getD k 0#16 &&& g.getD i 0#16 == 0#16) = true) : disS f g = some (f.getD k 0#16, g.getD i 0#16) := by
  rw [disS_drop f g k h (by omega)]
  unfold disS
  rw [List.drop_eq_getElem_cons hk, List.flatMap_cons, List.find?_append, ← getD_at hk, dis_row _ _ i h2 (by omega), List.drop_eq_getElem_cons hi, ← getD_at hi, List.map_cons, List.find?_cons]
  simp only [h3]
  rfl
def disT (f g : List (BitVec 16)) : BitVec 16 × BitVec 16 × Int := match disS f g with | some (x, y) => (x, y, 0) | none => (0#16, 0#16, 13)

end Go.Proofs.Ytopcejcfghdeeaa
