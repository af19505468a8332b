/- Package set: add, Of. -/
import Derived.Test.YtopcejcfghdeeaaLib
import Derived.Test.YtopcejcfghdeeaaProg
namespace Go.Proofs.Ytopcejcfghdeeaa
open Go.RowKit

/-- set.add: the new set and the error's number. -/
def addS (s : BitVec 16) (i : Int) : BitVec 16 × Int :=
  if i < 0 ∨ 12 ≤ i then (0#16, 7) else if hasB s i.toNat then (0#16, 5) else (s ||| bitS i.toNat, 0)

/-- set.Of on a list of numbers, from a set on. -/
def ofS : BitVec 16 → List Int → BitVec 16 × Int
  | s, [] => (s, 0)
  | s, i :: l => if (addS s i).2 = 0 then ofS (addS s i).1 l else (0#16, (addS s i).2)

theorem ofS_take {l : List Int} {k : Nat} {x : Int} (s0 : BitVec 16) (h : l[k]? = some x) (s : BitVec 16) (hs : ofS s0 (l.take k) = (s, 0)) (ho : ofS s0 l = ofS s (l.drop k)) :
    (((addS s x).2 = 0 → ofS s0 (l.take (k + 1)) = ((addS s x).1, 0) ∧ ofS s0 l = ofS (addS s x).1 (l.drop (k + 1))) ∧ ((addS s x).2 ≠ 0 → ofS s0 l = (0#16, (addS s x).2))) := by
  have hd : l.drop k = x :: l.drop (k + 1) := by
    obtain ⟨hk, e⟩ := List.getElem?_eq_some_iff.1 h
    rw [List.drop_eq_getElem_cons hk, e]
  rw [hd] at ho
  have happ : ∀ (p : List Int) (s0 s : BitVec 16), ofS s0 p = (s, 0) → ∀ q, ofS s0 (p ++ q) = ofS s q := by
    intro p
    induction p with
    | nil => intro s0 s h q; simp [ofS] at h; simp [h]
    | cons i p ih =>
      intro s0 s h q
      by_cases h0 : (addS s0 i).2 = 0
      · simp only [List.cons_append, ofS, if_pos h0] at h ⊢; exact ih _ _ h q
      · simp only [ofS, if_neg h0] at h; exact absurd (Prod.mk.inj h).2 h0
  refine ⟨fun h0 => ⟨?_, ?_⟩, fun h0 => ?_⟩
  · rw [List.take_add_one, h, happ _ _ _ hs]; simp [ofS, h0]
  · rw [ho, ofS, if_pos h0]
  · rw [ho, ofS, if_neg h0]

end Go.Proofs.Ytopcejcfghdeeaa
