/- Layer 37, plain: reports, what they demand. -/
import Derived.Test.YtopcejcfghdeeaaFam1
import Derived.Test.YtopcejcfghdeeaaLibK
namespace Go.Proofs.Ytopcejcfghdeeaa

structure Rep where
  server : Int
  ballot : Int
  value : ByteArray
def repC (r : Rep) : List Value := [.int .i64 r.server, .int .i64 r.ballot, .string r.value]
theorem repC_len (r : Rep) : (repC r).length = 3 := rfl

/-- a report that is not allowed behind those of some servers -/
def badR (ballot : Int) (seen : BitVec 16) (r : Rep) : Bool := decide (r.server < 0) || decide (12 ≤ r.server) || decide (r.ballot < 0) || decide (ballot ≤ r.ballot) || hasB seen r.server.toNat
def seeR (seen : BitVec 16) (r : Rep) : BitVec 16 := seen ||| bitS r.server.toNat
/-- some report is not allowed -/
def invR (ballot : Int) : BitVec 16 → List Rep → Bool
  | _, [] => false
  | s, r :: l => badR ballot s r || invR ballot (seeR s r) l
def seenR (l : List Rep) : BitVec 16 := l.foldl seeR 0#16
def stepR (b : Int × ByteArray) (r : Rep) : Int × ByteArray := if b.1 < r.ballot then (r.ballot, r.value) else b
def bestR (l : List Rep) : Int × ByteArray := l.foldl stepR (0, ⟨#[]⟩)

def pickS (read : List (BitVec 16)) (ballot : Int) (l : List Rep) : ByteArray × Int :=
  if ballot < 1 then (⟨#[]⟩, 1) else if invR ballot 0#16 l then (⟨#[]⟩, 1) else if accS read (seenR l) = false then (⟨#[]⟩, 10) else if (bestR l).1 = 0 then (⟨#[]⟩, 4) else ((bestR l).2, 0)

theorem seenR_take {l : List Rep} {k : Nat} {r : Rep} (h : l[k]? = some r) : seenR (l.take (k + 1)) = seeR (seenR (l.take k)) r := by
  unfold seenR; rw [List.take_add_one, h]; simp
theorem bestR_take {l : List Rep} {k : Nat} {r : Rep} (h : l[k]? = some r) : bestR (l.take (k + 1)) = stepR (bestR (l.take k)) r := by
  unfold bestR; rw [List.take_add_one, h]; simp
theorem invR_app (b : Int) : ∀ (p q : List Rep) (s : BitVec 16), invR b s (p ++ q) = (invR b s p || invR b (p.foldl seeR s) q) := by
  intro p
  induction p with
  | nil => intro q s; simp [invR]
  | cons r p ih => intro q s; rw [List.cons_append, invR, invR, ih, List.foldl_cons, Bool.or_assoc]
theorem invR_take {b : Int} {l : List Rep} {k : Nat} {r : Rep} (h : l[k]? = some r) (h0 : invR b 0#16 (l.take k) = false) :
    invR b 0#16 (l.take (k + 1)) = badR b (seenR (l.take k)) r ∧ (badR b (seenR (l.take k)) r = true → invR b 0#16 l = true) := by
  have e : invR b 0#16 (l.take (k + 1)) = badR b (seenR (l.take k)) r := by
    rw [List.take_add_one, h, invR_app, h0]
    simp [invR, seenR]
  refine ⟨e, fun hb => ?_⟩
  rw [← List.take_append_drop (k + 1) l, invR_app, e, hb]; rfl
/-- in an allowed list the servers are in range, and the ballots not negative -/
theorem invR_ok {b : Int} : ∀ {l : List Rep} {s : BitVec 16}, invR b s l = false → ∀ r ∈ l, 0 ≤ r.server ∧ r.server < 12 ∧ 0 ≤ r.ballot ∧ r.ballot < b := by
  intro l
  induction l with
  | nil => intro s _ r hr; cases hr
  | cons x l ih =>
    intro s h r hr
    rw [invR, Bool.or_eq_false_iff] at h
    rcases List.mem_cons.1 hr with rfl | hr
    · have := h.1
      unfold badR at this
      simp only [Bool.or_eq_false_iff, decide_eq_false_iff_not] at this
      omega
    · exact ih h.2 r hr
theorem bestR_ge (l : List Rep) : 0 ≤ (bestR l).1 := by
  unfold bestR
  have : ∀ (l : List Rep) (b : Int × ByteArray), 0 ≤ b.1 → 0 ≤ (l.foldl stepR b).1 := by
    intro l
    induction l with
    | nil => intro b h; exact h
    | cons r l ih =>
      intro b h
      rw [List.foldl_cons]
      apply ih
      unfold stepR
      split
      · show 0 ≤ r.ballot; omega
      · exact h
  exact this l _ (by decide)
end Go.Proofs.Ytopcejcfghdeeaa
