/- The reference's Of, Rename, Choose, Subsets, Same; set.Rename; slices.Equal and Clone of ints. -/
import Derived.Test.YtopcejcfghdeeaaSet3
namespace Go.Proofs.Ytopcejcfghdeeaa
open Go.RowKit

/-- the entries of the members -/
def entries (x : BitVec 16) (to : List Int) : List Int := (memS x).map fun i => (to[i]?).getD (-1)
def renS (x : BitVec 16) (to : List Int) : BitVec 16 × Int := ofS 0#16 (entries x to)

theorem memS_lt {x : BitVec 16} {k i : Nat} (h : (memS x)[k]? = some i) : i < 16 := by
  have := List.mem_of_getElem? h
  simp [memS] at this
  exact this.1
theorem addS_neg (s : BitVec 16) : addS s (-1) = (0#16, 7) := by simp [addS]

end Go.Proofs.Ytopcejcfghdeeaa
