/- Layer 37, plain: events, the attack. -/
import Derived.Test.YtgfjmplifmbmlaaDoorChk
import Derived.Lib.ItoaNum
namespace Go.Proofs.YtgfjmplifmbmlaaDoor

structure Ev where
  kind : Int
  server : Int
  ballot : Int
  value : ByteArray
  deriving DecidableEq
def evC (e : Ev) : List Value := [.int .i64 e.kind, .int .i64 e.server, .int .i64 e.ballot, .string e.value]
theorem evC_len (e : Ev) : (evC e).length = 4 := rfl
theorem ev_one (l : List Ev) : ∀ u ∈ l.flatMap evC, u.oneCell' = true := by
  intro u hu
  obtain ⟨r, _, hu⟩ := List.mem_flatMap.1 hu
  simp only [evC, List.mem_cons, List.not_mem_nil, or_false] at hu
  rcases hu with rfl | rfl | rfl | rfl <;> rfl

/-- the value of a ballot -/
def valB (b : Nat) : ByteArray := ⟨(118 :: Lib.decDigits b).toArray⟩
def evP (b s : Nat) : Ev := ⟨1, s, b, ⟨#[]⟩⟩
def evA (b s : Nat) : Ev := ⟨2, s, b, valB b⟩
def blkS (q w : BitVec 16) (b : Nat) : List Ev := (memS q).map (evP b) ++ (memS w).map (evA b)
/-- the events of the first k ballots -/
def atkTo (q0 r w : BitVec 16) : Nat → List Ev
  | 0 => []
  | 1 => blkS q0 w 1
  | _ => blkS q0 w 1 ++ blkS r w 2
def attS (read write : List (BitVec 16)) (n : Int) : List Ev × Int :=
  if chkS n [read, write] ≠ 0 then ([], chkS n [read, write]) else match disS read write with
  | none => ([], 13)
  | some (r, w) => (atkTo (read.getD 0 0#16) r w 2, 0)
theorem blk_len (q w : BitVec 16) (b : Nat) : (blkS q w b).length = cnt q + cnt w := by unfold blkS cnt; simp
theorem atkTo_succ (q0 r w : BitVec 16) (k : Nat) (hk : k < 2) : atkTo q0 r w (k + 1) = atkTo q0 r w k ++ blkS (if k = 0 then q0 else r) w (k + 1) := by
  match k, hk with
  | 0, _ => simp [atkTo]
  | 1, _ => simp [atkTo]
theorem dis_mem {f g : List (BitVec 16)} {x y : BitVec 16} (h : disS f g = some (x, y)) : x ∈ f ∧ y ∈ g ∧ (x &&& y == 0#16) = true := by
  unfold disS at h
  have h1 := List.mem_of_find?_eq_some h
  have h2 := List.find?_some h
  obtain ⟨x', hx, hp⟩ := List.mem_flatMap.1 h1
  obtain ⟨y', hy, e⟩ := List.mem_map.1 hp
  cases e
  exact ⟨hx, hy, h2⟩
theorem mem_take_succ {α : Type} {f : Nat → α} {q : BitVec 16} {k i : Nat} (h : (memS q)[k]? = some i) : ((memS q).take (k + 1)).map f = ((memS q).take k).map f ++ [f i] := by
  rw [List.take_add_one, h]; simp
end Go.Proofs.YtgfjmplifmbmlaaDoor
