/- Texts laid together. Layer 20, plain: pairs of sets that violate; the lists of both. No program. The reference's Of, Rename, Choose, Subsets, Same; set.Rename; slices.Equal and Clone of ints. The reference's Rename, Within, Choose, Subsets, Same; slices.Equal and Clone of ints. The reference's Choose. The reference's Subsets, Same; slices.Equal and Clone of ints. The subsets with k members, by numbers with k bits. Plain. The subsets of a set: how many, and which; the length of a family. Plain, no program. The expression of a description, plain. No program. Layer 20, plain: what the laws of certificates say. No program. The prover's search. A region that draws its order: some operations that only read are taken first; the rest is walked by hand. Over any program. intersect.Prove. -/
import Derived.Test.YtflpkkebampmfaaDoorGIntersectSpoiled1
import Derived.Test.YtflpkkebampmfaaDoorGIntersectSpoiled2
import Derived.Test.YtflpkkebampmfaaDoorGIntersectSpoiled3
import Derived.OrdersHeld
import Derived.Deep.RegionHeld
import Derived.Deep.RegionHeld3
namespace Go.Proofs.YtflpkkebampmfaaDoor

/-- a step of the search: the best pair so far, and a further one -/
def srcStep (b : BitVec 16) (sz : BitVec 16 → Nat) (o : Option (BitVec 16 × BitVec 16)) (x y : BitVec 16) : Option (BitVec 16 × BitVec 16) :=
  if viol x y b = true then
    match o with
    | none => some (x, y)
    | some p => if sz (x ||| y) < sz (p.1 ||| p.2) then some (x, y) else some p
  else o
def srcRow (b : BitVec 16) (sz : BitVec 16 → Nat) (x : BitVec 16) (g : List (BitVec 16)) (o : Option (BitVec 16 × BitVec 16)) : Option (BitVec 16 × BitVec 16) := g.foldl (fun o y => srcStep b sz o x y) o
def srcFrom (b : BitVec 16) (sz : BitVec 16 → Nat) (f g : List (BitVec 16)) (o : Option (BitVec 16 × BitVec 16)) : Option (BitVec 16 × BitVec 16) := f.foldl (fun o x => srcRow b sz x g o) o
def srcS (b : BitVec 16) (sz : BitVec 16 → Nat) (f g : List (BitVec 16)) : Option (BitVec 16 × BitVec 16) := srcFrom b sz f g none

theorem srcRow_succ {b : BitVec 16} {sz : BitVec 16 → Nat} {x : BitVec 16} {g : List (BitVec 16)} {o : Option (BitVec 16 × BitVec 16)} {k : Nat} {y : BitVec 16} (h : g[k]? = some y) : srcRow b sz x (g.take (k + 1)) o = srcStep b sz (srcRow b sz x (g.take k) o) x y := by
  unfold srcRow; rw [List.take_add_one, h]; simp
theorem srcFrom_succ {b : BitVec 16} {sz : BitVec 16 → Nat} {f g : List (BitVec 16)} {o : Option (BitVec 16 × BitVec 16)} {k : Nat} {x : BitVec 16} (h : f[k]? = some x) : srcFrom b sz (f.take (k + 1)) g o = srcRow b sz x g (srcFrom b sz (f.take k) g o) := by
  unfold srcFrom; rw [List.take_add_one, h]; simp
theorem srcRow_split {b : BitVec 16} {sz : BitVec 16 → Nat} {x : BitVec 16} {g : List (BitVec 16)} {o : Option (BitVec 16 × BitVec 16)} (k : Nat) : srcRow b sz x g o = srcRow b sz x (g.drop k) (srcRow b sz x (g.take k) o) := by
  unfold srcRow; rw [← List.foldl_append, List.take_append_drop]
theorem srcFrom_split {b : BitVec 16} {sz : BitVec 16 → Nat} {f g : List (BitVec 16)} {o : Option (BitVec 16 × BitVec 16)} (k : Nat) : srcFrom b sz f g o = srcFrom b sz (f.drop k) g (srcFrom b sz (f.take k) g o) := by
  unfold srcFrom; rw [← List.foldl_append, List.take_append_drop]

/-! a found pair stays if sizes do not differ -/
theorem srcStep_zero (b : BitVec 16) (p : BitVec 16 × BitVec 16) (x y : BitVec 16) : srcStep b (fun _ => 0) (some p) x y = some p := by
  unfold srcStep; split
  · simp
  · rfl
theorem srcRow_zero (b : BitVec 16) (p : BitVec 16 × BitVec 16) (x : BitVec 16) : ∀ g, srcRow b (fun _ => 0) x g (some p) = some p := by
  intro g
  induction g with
  | nil => rfl
  | cons y g ih => unfold srcRow at ih ⊢; rw [List.foldl_cons, srcStep_zero, ih]
theorem srcFrom_zero (b : BitVec 16) (p : BitVec 16 × BitVec 16) (g : List (BitVec 16)) : ∀ f, srcFrom b (fun _ => 0) f g (some p) = some p := by
  intro f
  induction f with
  | nil => rfl
  | cons x f ih => unfold srcFrom at ih ⊢; rw [List.foldl_cons, srcRow_zero, ih]
/-- the first pair, found at a place of two walks -/
theorem src_hit {b : BitVec 16} {f g : List (BitVec 16)} {i j : Nat} {x y : BitVec 16} (hx : f[i]? = some x) (hy : g[j]? = some y) (h1 : srcFrom b (fun _ => 0) (f.take i) g none = none) (h2 : srcRow b (fun _ => 0) x (g.take j) none = none) (hv : viol x y b = true) :
    srcS b (fun _ => 0) f g = some (x, y) := by
  unfold srcS
  rw [srcFrom_split (i + 1), srcFrom_succ hx, h1, srcRow_split (j + 1), srcRow_succ hy, h2]
  have : srcStep b (fun _ => 0) none x y = some (x, y) := by unfold srcStep; rw [if_pos hv]
  rw [this, srcRow_zero, srcFrom_zero]
theorem srcStep_miss {b : BitVec 16} {sz : BitVec 16 → Nat} {o : Option (BitVec 16 × BitVec 16)} {x y : BitVec 16} (hv : viol x y b = false) : srcStep b sz o x y = o := by
  unfold srcStep; rw [if_neg (by rw [hv]; decide)]

/-! the least pair, from the first pair on -/
theorem srcRow_none {b : BitVec 16} {sz : BitVec 16 → Nat} {x : BitVec 16} : ∀ {g : List (BitVec 16)}, srcRow b sz x g none = none → ∀ o sz', srcRow b sz' x g o = o := by
  intro g
  induction g with
  | nil => intro _ o sz'; rfl
  | cons y g ih =>
    intro h o sz'
    unfold srcRow at h ih ⊢
    rw [List.foldl_cons] at h ⊢
    by_cases hv : viol x y b = true
    · exfalso
      have e : srcStep b sz none x y = some (x, y) := by unfold srcStep; rw [if_pos hv]
      rw [e] at h
      have keep : ∀ (l : List (BitVec 16)) (p : BitVec 16 × BitVec 16), l.foldl (fun o y => srcStep b sz o x y) (some p) ≠ none := by
        intro l
        induction l with
        | nil => intro p hp; cases hp
        | cons z l ih2 =>
          intro p
          rw [List.foldl_cons]
          have : ∃ q, srcStep b sz (some p) x z = some q := by
            unfold srcStep; split
            · dsimp only; split
              · exact ⟨_, rfl⟩
              · exact ⟨_, rfl⟩
            · exact ⟨_, rfl⟩
          obtain ⟨q, hq⟩ := this
          rw [hq]; exact ih2 q
      exact keep g _ h
    · have hv' : viol x y b = false := by simpa using hv
      rw [srcStep_miss hv'] at h ⊢
      exact ih h o sz'
theorem srcRow_some (b : BitVec 16) (sz : BitVec 16 → Nat) (x : BitVec 16) : ∀ (l : List (BitVec 16)) (p : BitVec 16 × BitVec 16), ∃ q, srcRow b sz x l (some p) = some q := by
  intro l
  induction l with
  | nil => intro p; exact ⟨p, rfl⟩
  | cons z l ih2 =>
    intro p
    unfold srcRow at ih2 ⊢
    rw [List.foldl_cons]
    have : ∃ q, srcStep b sz (some p) x z = some q := by
      unfold srcStep; split
      · dsimp only; split
        · exact ⟨_, rfl⟩
        · exact ⟨_, rfl⟩
      · exact ⟨_, rfl⟩
    obtain ⟨q, hq⟩ := this
    rw [hq]; exact ih2 q
theorem srcFrom_some (b : BitVec 16) (sz : BitVec 16 → Nat) (g : List (BitVec 16)) : ∀ (l : List (BitVec 16)) (p : BitVec 16 × BitVec 16), ∃ q, srcFrom b sz l g (some p) = some q := by
  intro l
  induction l with
  | nil => intro p; exact ⟨p, rfl⟩
  | cons z l ih2 =>
    intro p
    unfold srcFrom at ih2 ⊢
    rw [List.foldl_cons]
    obtain ⟨q, hq⟩ := srcRow_some b sz z g p
    rw [hq]; exact ih2 q
theorem srcFrom_none {b : BitVec 16} {sz : BitVec 16 → Nat} {g : List (BitVec 16)} : ∀ {f : List (BitVec 16)}, srcFrom b sz f g none = none → ∀ o sz', srcFrom b sz' f g o = o := by
  intro f
  induction f with
  | nil => intro _ o sz'; rfl
  | cons x f ih =>
    intro h o sz'
    have e : srcFrom b sz (x :: f) g none = srcFrom b sz f g (srcRow b sz x g none) := rfl
    rw [e] at h
    cases hr : srcRow b sz x g none with
    | some p =>
      rw [hr] at h
      obtain ⟨q, hq⟩ := srcFrom_some b sz g f p
      rw [hq] at h; cases h
    | none =>
      rw [hr] at h
      show srcFrom b sz' f g (srcRow b sz' x g o) = o
      rw [srcRow_none hr]
      exact ih h o sz'
/-- from the first pair on, the search comes to the same pair as from none on -/
theorem src_from_row {b : BitVec 16} {sz : BitVec 16 → Nat} {x : BitVec 16} : ∀ {g : List (BitVec 16)} {p : BitVec 16 × BitVec 16}, srcRow b (fun _ => 0) x g none = some p → srcRow b sz x g (some p) = srcRow b sz x g none := by
  intro g
  induction g with
  | nil => intro p h; cases h
  | cons y g ih =>
    intro p h
    by_cases hv : viol x y b = true
    · have e0 : srcRow b (fun _ => 0) x (y :: g) none = srcRow b (fun _ => 0) x g (srcStep b (fun _ => 0) none x y) := rfl
      have e1 : ∀ sz', srcStep b sz' none x y = some (x, y) := fun sz' => by unfold srcStep; rw [if_pos hv]
      rw [e0, e1, srcRow_zero] at h
      cases h
      show srcRow b sz x g (srcStep b sz (some (x, y)) x y) = srcRow b sz x g (srcStep b sz none x y)
      rw [e1]
      have : srcStep b sz (some (x, y)) x y = some (x, y) := by unfold srcStep; rw [if_pos hv]; simp
      rw [this]
    · have hv' : viol x y b = false := by simpa using hv
      have e0 : srcRow b (fun _ => 0) x (y :: g) none = srcRow b (fun _ => 0) x g (srcStep b (fun _ => 0) none x y) := rfl
      rw [e0, srcStep_miss hv'] at h
      show srcRow b sz x g (srcStep b sz (some p) x y) = srcRow b sz x g (srcStep b sz none x y)
      rw [srcStep_miss hv', srcStep_miss hv']
      exact ih h
theorem src_from {b : BitVec 16} {sz : BitVec 16 → Nat} {g : List (BitVec 16)} : ∀ {f : List (BitVec 16)} {p : BitVec 16 × BitVec 16}, srcFrom b (fun _ => 0) f g none = some p → srcFrom b sz f g (some p) = srcFrom b sz f g none := by
  intro f
  induction f with
  | nil => intro p h; cases h
  | cons x f ih =>
    intro p h
    have e : srcFrom b (fun _ => 0) (x :: f) g none = srcFrom b (fun _ => 0) f g (srcRow b (fun _ => 0) x g none) := rfl
    rw [e] at h
    show srcFrom b sz f g (srcRow b sz x g (some p)) = srcFrom b sz f g (srcRow b sz x g none)
    cases hr : srcRow b (fun _ => 0) x g none with
    | some q =>
      rw [hr, srcFrom_zero] at h
      cases h
      rw [src_from_row hr]
    | none =>
      rw [hr] at h
      rw [srcRow_none hr, srcRow_none hr]
      exact ih h
theorem srcS_none {b : BitVec 16} {f g : List (BitVec 16)} (h : srcS b (fun _ => 0) f g = none) (sz : BitVec 16 → Nat) : srcS b sz f g = none := srcFrom_none h _ _

/-- what Pair and Least answer -/
def pairS (b : BitVec 16) (sz : BitVec 16 → Nat) (f g : List (BitVec 16)) : BitVec 16 × BitVec 16 × Int :=
  if valS f ≠ 0 then (0#16, 0#16, valS f) else if valS g ≠ 0 then (0#16, 0#16, valS g) else
  match srcS b sz f g with
  | none => (0#16, 0#16, 13)
  | some p => (p.1, p.2, 0)

/-! two families intersect: symmetric -/
theorem viol_comm (x y b : BitVec 16) : viol x y b = viol y x b := by
  unfold viol; rw [BitVec.and_comm x y]
theorem famsB_comm (f g : List (BitVec 16)) (b : BitVec 16) : famsB g f b = famsB f g b := by
  unfold famsB
  rw [Bool.eq_iff_iff, List.all_eq_true, List.all_eq_true]
  constructor
  · intro h x hx
    exact List.all_eq_true.2 fun y hy => by rw [viol_comm]; exact List.all_eq_true.1 (h y hy) x hx
  · intro h x hx
    exact List.all_eq_true.2 fun y hy => by rw [viol_comm]; exact List.all_eq_true.1 (h y hy) x hx
theorem famsB_hit {f g : List (BitVec 16)} {b x y : BitVec 16} {i j : Nat} (hx : f[i]? = some x) (hy : g[j]? = some y) (h : viol x y b = true) : famsB f g b = false := by
  rw [Bool.eq_false_iff]
  intro hc
  have := List.all_eq_true.1 (List.all_eq_true.1 hc x (List.mem_of_getElem? hx)) y (List.mem_of_getElem? hy)
  rw [h] at this; cases this
theorem famsB_all {f g : List (BitVec 16)} {b : BitVec 16} (h : ∀ (i : Nat) x, f[i]? = some x → ∀ (j : Nat) y, g[j]? = some y → viol x y b = false) : famsB f g b = true := by
  refine List.all_eq_true.2 fun x hx => List.all_eq_true.2 fun y hy => ?_
  obtain ⟨i, hi⟩ := List.mem_iff_getElem?.1 hx
  obtain ⟨j, hj⟩ := List.mem_iff_getElem?.1 hy
  rw [h i x hi j y hj]; rfl
end Go.Proofs.YtflpkkebampmfaaDoor
namespace Go.Proofs.YtflpkkebampmfaaDoor
open Go.RowKit

/-- the entries of the members -/
def entries (x : BitVec 16) (to : List Int) : List Int := (memS x).map fun i => (to[i]?).getD (-1)
def renS (x : BitVec 16) (to : List Int) : BitVec 16 × Int := ofS 0#16 (entries x to)

theorem memS_lt {x : BitVec 16} {k i : Nat} (h : (memS x)[k]? = some i) : i < 16 := by
  have := List.mem_of_getElem? h
  simp [memS] at this
  exact this.1
theorem addS_neg (s : BitVec 16) : addS s (-1) = (0#16, 7) := by simp [addS]

end Go.Proofs.YtflpkkebampmfaaDoor
namespace Go.Proofs.YtflpkkebampmfaaDoor
open Go.RowKit

theorem ofS_append (p q : List Int) : ∀ s, ofS s (p ++ q) = if (ofS s p).2 = 0 then ofS (ofS s p).1 q else ofS s p := by
  induction p with
  | nil => intro s; simp [ofS]
  | cons i p ih =>
    intro s
    by_cases h0 : (addS s i).2 = 0
    · simp only [List.cons_append, ofS, if_pos h0]; exact ih _
    · simp only [List.cons_append, ofS, if_neg h0, if_false]

theorem ofS_stop {l : List Int} {k : Nat} (h : l[k]? = some (-1)) (s : BitVec 16) : ofS s (l.take (k + 1)) = ofS s l := by
  have e : l = l.take (k + 1) ++ l.drop (k + 1) := (List.take_append_drop _ _).symm
  have h2 : (ofS s (l.take (k + 1))).2 ≠ 0 := by
    rw [List.take_add_one, h, ofS_append]
    by_cases h0 : (ofS s (l.take k)).2 = 0
    · rw [if_pos h0]; simp [ofS, addS_neg]
    · rw [if_neg h0]; exact h0
  conv => rhs; rw [e, ofS_append, if_neg h2]

theorem entries_len (x : BitVec 16) (to : List Int) : (entries x to).length = cnt x := by simp [entries, cnt]
def intV' (i : Int) : Value := .int .i64 i

def setV (x : BitVec 16) : Value := .int .u16 (U x)
def pickB (x : BitVec 16) (k : Int) (n : Nat) : Bool := (BitVec.ofNat 16 n &&& ~~~x == 0#16) && ((cnt (BitVec.ofNat 16 n) : Int) == k)
def pickTo (x : BitVec 16) (k : Int) (N : Nat) : List (BitVec 16) := ((List.range N).filter (pickB x k)).map (BitVec.ofNat 16)
/-- the subsets of x with k members, in order -/
def chooseS (x : BitVec 16) (k : Int) : List (BitVec 16) := pickTo x k 65536
theorem pickTo_succ (x : BitVec 16) (k : Int) (N : Nat) : pickTo x k (N + 1) = if pickB x k N then pickTo x k N ++ [BitVec.ofNat 16 N] else pickTo x k N := by
  unfold pickTo; rw [List.range_succ, List.filter_append]; cases h : pickB x k N <;> simp [h]
theorem pickTo_le (x : BitVec 16) (k : Int) (N : Nat) : (pickTo x k N).length ≤ N := by
  unfold pickTo; rw [List.length_map]; exact Nat.le_trans (List.length_filter_le _ _) (by simp)
theorem U_ofNat (n : Nat) (h : n < 65536) : (n : Int) = U (BitVec.ofNat 16 n) := by simp [U]; omega
theorem Tryd.infoSet : (Tryd.prog.info? 26).map (fun i => (i.zero, i.size, i.bytes)) = some (some (.int .u16 0), 1, 2) := by kernel_rfl

end Go.Proofs.YtflpkkebampmfaaDoor
namespace Go.Proofs.YtflpkkebampmfaaDoor
open Go.RowKit

end Go.Proofs.YtflpkkebampmfaaDoor
namespace Go.Proofs.YtflpkkebampmfaaDoor
open Go.RowKit

/-- all subsets up to k members, in order -/
def subsTo (x : BitVec 16) (K : Nat) : List (BitVec 16) := (List.range K).flatMap fun (k : Nat) => chooseS x (k : Int)
def subsS (x : BitVec 16) : List (BitVec 16) := subsTo x (cnt x + 1)
theorem subsTo_succ (x : BitVec 16) (K : Nat) : subsTo x (K + 1) = subsTo x K ++ chooseS x K := by
  simp [subsTo, List.range_succ]
theorem chooseS_le (x : BitVec 16) (k : Int) : (chooseS x k).length ≤ 70000 := Nat.le_trans (pickTo_le x k 65536) (by decide)
theorem subsTo_le (x : BitVec 16) (K : Nat) : (subsTo x K).length ≤ 70000 * K := by
  induction K with
  | zero => simp [subsTo]
  | succ K ih => rw [subsTo_succ, List.length_append]; have := chooseS_le x K; omega

/-- two lists of sets are the same -/
theorem same_take {α : Type} [DecidableEq α] {l m : List α} {k : Nat} (hl : l.length = m.length) {x y : α} (hx : l[k]? = some x) (hy : m[k]? = some y) (ht : l.take k = m.take k) :
    (x = y → l.take (k + 1) = m.take (k + 1)) ∧ (x ≠ y → l ≠ m) := by
  refine ⟨fun e => ?_, fun e h => ?_⟩
  · rw [List.take_add_one, List.take_add_one, hx, hy, ht, e]
  · rw [h, hy] at hx; exact e (Option.some.inj hx).symm

end Go.Proofs.YtflpkkebampmfaaDoor
namespace Go.Proofs.YtflpkkebampmfaaDoor

/-- the numbers below N with k bits -/
def numsTo (k : Int) (N : Nat) : List Nat := (List.range N).filter fun n => (popR 32 n : Int) == k
theorem numsTo_sorted (k : Int) (N : Nat) : (numsTo k N).Pairwise (· < ·) := List.Pairwise.filter _ List.pairwise_lt_range

theorem popR_32 (x : BitVec 16) (n : Nat) (h : n < 2 ^ cnt x) : popR 32 n = popR (cnt x) n := by
  have hc := cnt_le x
  obtain ⟨M, hM⟩ : ∃ M, 32 = cnt x + M := ⟨32 - cnt x, by omega⟩
  rw [hM]; exact popR_pad M (cnt x) n h

theorem chooseS_dep (x : BitVec 16) (k : Int) : chooseS x k = (numsTo k (2 ^ cnt x)).map (dep (memS x)) := by
  have h16 := memS_16 x
  have hso := memS_sorted x
  refine ext_sorted (fun y => y.toNat) _ _ ?_ ?_ fun y => ?_
  · unfold chooseS pickTo
    rw [List.pairwise_map]
    refine List.Pairwise.imp_of_mem ?_ (List.Pairwise.filter _ (List.pairwise_lt_range (n := 65536)))
    intro a b ha hb hab
    have ha' := List.mem_range.1 (List.mem_filter.1 ha).1
    have hb' := List.mem_range.1 (List.mem_filter.1 hb).1
    simp only [BitVec.toNat_ofNat]
    rw [Nat.mod_eq_of_lt ha', Nat.mod_eq_of_lt hb']
    exact hab
  · rw [List.pairwise_map]
    refine List.Pairwise.imp_of_mem ?_ (numsTo_sorted k _)
    intro a b ha hb hab
    have hb' := List.mem_range.1 (List.mem_filter.1 hb).1
    exact dep_mono _ h16 hso a b hab hb'
  · constructor
    · intro hy
      obtain ⟨n, hn, rfl⟩ := List.mem_map.1 hy
      obtain ⟨hr, hp⟩ := List.mem_filter.1 hn
      unfold pickB at hp
      rw [Bool.and_eq_true] at hp
      have hsub := (sub_iff x _).1 hp.1
      have hinv := dep_inv x _ hsub
      have hlt := inv_lt (memS x) (BitVec.ofNat 16 n)
      refine List.mem_map.2 ⟨inv (memS x) (BitVec.ofNat 16 n), List.mem_filter.2 ⟨List.mem_range.2 hlt, ?_⟩, hinv⟩
      have hc := cnt_dep (memS x) h16 hso (inv (memS x) (BitVec.ofNat 16 n))
      rw [hinv] at hc
      rw [popR_32 x _ hlt]
      have e : popR (cnt x) (inv (memS x) (BitVec.ofNat 16 n)) = cnt (BitVec.ofNat 16 n) := hc.symm
      rw [e]; exact hp.2
    · intro hy
      obtain ⟨n, hn, rfl⟩ := List.mem_map.1 hy
      obtain ⟨hr, hp⟩ := List.mem_filter.1 hn
      have hlt := List.mem_range.1 hr
      refine List.mem_map.2 ⟨(dep (memS x) n).toNat, List.mem_filter.2 ⟨List.mem_range.2 (dep (memS x) n).isLt, ?_⟩, by simp⟩
      unfold pickB
      rw [BitVec.ofNat_toNat, BitVec.setWidth_eq, Bool.and_eq_true]
      refine ⟨(sub_iff x _).2 fun p hp => dep_sub x n p hp, ?_⟩
      have hc := cnt_dep (memS x) h16 hso n
      rw [hc]
      rw [popR_32 x n hlt] at hp
      exact hp

/-- where the loop stands: what has come up to n -/
theorem numsTo_next (k : Int) (n : BitVec 32) (h0 : n ≠ 0#32) (hlt : n.toNat < 2 ^ 16) (hk : (popR 32 n.toNat : Int) = k) :
    n.toNat < (nextV n).toNat ∧ (popR 32 (nextV n).toNat : Int) = k ∧ numsTo k (nextV n).toNat = numsTo k n.toNat ++ [n.toNat] := by
  obtain ⟨h1, h2, h3⟩ := next_spec n h0 hlt
  refine ⟨h1, by rw [h2]; exact hk, ?_⟩
  obtain ⟨d, hd⟩ : ∃ d, (nextV n).toNat = n.toNat + (1 + d) := ⟨(nextV n).toNat - n.toNat - 1, by omega⟩
  unfold numsTo
  rw [hd, List.range_add, List.filter_append, List.range_add, List.map_append, List.filter_append]
  congr 1
  have e1 : List.map (fun x => n.toNat + x) (List.range 1) = [n.toNat] := by simp [List.range_succ]
  rw [e1]
  have e2 : List.filter (fun n => (popR 32 n : Int) == k) [n.toNat] = [n.toNat] := by simp [hk]
  rw [e2]
  have e3 : List.filter (fun n => (popR 32 n : Int) == k) (List.map (fun x => n.toNat + x) (List.map (fun x => 1 + x) (List.range d))) = [] := by
    rw [List.filter_eq_nil_iff]
    intro a ha
    rw [List.map_map] at ha
    obtain ⟨t, ht, rfl⟩ := List.mem_map.1 ha
    have ht' := List.mem_range.1 ht
    simp only [Function.comp_def]
    have := h3 (n.toNat + (1 + t)) (by omega) (by omega)
    rw [beq_iff_eq]
    intro e
    apply this
    omega
  rw [e3, List.append_nil]
theorem numsTo_first (k : Nat) (hk : k ≤ 16) : (popR 32 (2 ^ k - 1) : Int) = k ∧ numsTo k (2 ^ k - 1) = [] := by
  obtain ⟨M, hM⟩ : ∃ M, 32 = k + M := ⟨32 - k, by omega⟩
  have hp : 0 < 2 ^ k := Nat.two_pow_pos k
  constructor
  · rw [hM, popR_pad M k _ (by omega), popR_ones]
  · unfold numsTo
    rw [List.filter_eq_nil_iff]
    intro a ha
    have ha' := List.mem_range.1 ha
    have h1 := popR_lt k a ha'
    rw [hM, popR_pad M k a (by omega), beq_iff_eq]
    omega
theorem numsTo_cut (k : Int) (N n : Nat) (h : N ≤ n) (hn : ∀ m, N ≤ m → m < n → (popR 32 m : Int) ≠ k) : numsTo k n = numsTo k N := by
  obtain ⟨d, rfl⟩ : ∃ d, n = N + d := ⟨n - N, by omega⟩
  unfold numsTo
  rw [List.range_add, List.filter_append]
  have e3 : List.filter (fun n => (popR 32 n : Int) == k) (List.map (fun x => N + x) (List.range d)) = [] := by
    rw [List.filter_eq_nil_iff]
    intro a ha
    obtain ⟨t, ht, rfl⟩ := List.mem_map.1 ha
    have ht' := List.mem_range.1 ht
    rw [beq_iff_eq]
    exact hn _ (by omega) (by omega)
  rw [e3, List.append_nil]
end Go.Proofs.YtflpkkebampmfaaDoor
namespace Go.Proofs.YtflpkkebampmfaaDoor

theorem popR_cntM (x : BitVec 16) (n : Nat) (h : n < 2 ^ cnt x) : popR 32 n < cnt x + 1 := by
  rw [popR_32 x n h]; have := popR_le (cnt x) n; omega
theorem sumM_zero (K a : Nat) (h : K ≤ a) : ((List.range K).map fun k => if a = k then 1 else 0).sum = 0 := by
  induction K with
  | zero => rfl
  | succ K ih => rw [List.range_succ, List.map_append, List.sum_append, ih (by omega)]; simp; omega
theorem sumM_one (K a : Nat) (h : a < K) : ((List.range K).map fun k => if a = k then 1 else 0).sum = 1 := by
  induction K with
  | zero => omega
  | succ K ih =>
    rw [List.range_succ, List.map_append, List.sum_append]
    by_cases e : a = K
    · subst e; rw [sumM_zero a a (Nat.le_refl _)]; simp
    · rw [ih (by omega)]; simp [e]
theorem sumM_add (l : List Nat) (f g : Nat → Nat) : (l.map fun k => f k + g k).sum = (l.map f).sum + (l.map g).sum := by
  induction l with
  | nil => rfl
  | cons a l ih => simp [ih]; omega
theorem sumM_parts (f : Nat → Nat) (K : Nat) : ∀ l : List Nat, (∀ n ∈ l, f n < K) → ((List.range K).map fun (k : Nat) => (l.filter fun n => (f n : Int) == (k : Int)).length).sum = l.length := by
  intro l
  induction l with
  | nil => intro _; simp [List.map_const']
  | cons a l ih =>
    intro h
    have e : ∀ k : Nat, ((a :: l).filter fun n => (f n : Int) == (k : Int)).length = (if f a = k then 1 else 0) + (l.filter fun n => (f n : Int) == (k : Int)).length := by
      intro k
      rw [List.filter_cons]
      by_cases h : f a = k
      · simp [h]; omega
      · have : ((f a : Int) == (k : Int)) = false := by simp; omega
        simp [h, this]
    simp only [e]
    rw [sumM_add, sumM_one K (f a) (h a (by simp)), ih (fun n hn => h n (by simp [hn]))]
    simp; omega
theorem subsM_dep (x : BitVec 16) : subsS x = (List.range (cnt x + 1)).flatMap fun (k : Nat) => (numsTo k (2 ^ cnt x)).map (dep (memS x)) := by
  unfold subsS subsTo
  simp only [chooseS_dep]
theorem subsM_len (x : BitVec 16) : (subsS x).length = 2 ^ cnt x := by
  rw [subsM_dep, List.length_flatMap]
  simp only [List.length_map, numsTo]
  rw [sumM_parts (popR 32) (cnt x + 1) (List.range (2 ^ cnt x)) (fun n hn => popR_cntM x n (List.mem_range.1 hn)), List.length_range]
/-- each part of a set is among its subsets -/
theorem mem_subs {x s : BitVec 16} (h : ∀ p, hasB s p = true → hasB x p = true) : s ∈ subsS x := by
  have hd := dep_inv x s h
  have hl := inv_lt (memS x) s
  rw [subsM_dep]
  refine List.mem_flatMap.2 ⟨popR 32 (inv (memS x) s), List.mem_range.2 (popR_cntM x _ hl), ?_⟩
  exact List.mem_map.2 ⟨_, List.mem_filter.2 ⟨List.mem_range.2 hl, by simp⟩, hd⟩
/-- and these alone -/
theorem subs_mem {x s : BitVec 16} (hs : s ∈ subsS x) : ∀ p, hasB s p = true → hasB x p = true := by
  rw [subsM_dep] at hs
  obtain ⟨k, _, h2⟩ := List.mem_flatMap.1 hs
  obtain ⟨n, _, rfl⟩ := List.mem_map.1 h2
  intro p hp
  exact mem_memS.1 (sel_mem _ _ _ ((hasB_dep (memS x) (memS_16 x) n p).1 hp))
theorem cnt_six {x : BitVec 16} (h : ∀ p, hasB x p = true → p < 6) : cnt x ≤ 6 := by
  unfold cnt memS
  rw [show List.range 16 = List.range 6 ++ [6, 7, 8, 9, 10, 11, 12, 13, 14, 15] from rfl, List.filter_append]
  have : List.filter (hasB x) [6, 7, 8, 9, 10, 11, 12, 13, 14, 15] = [] := by
    rw [List.filter_eq_nil_iff]
    intro p hp hc
    have h1 := h p hc
    simp at hp
    omega
  rw [this, List.append_nil]
  exact Nat.le_trans (List.length_filter_le _ _) (by simp)

theorem famStep_le (x : Xpr) (o : List (BitVec 16)) (s : BitVec 16) : (famStep x o s).length ≤ o.length + 1 := by
  unfold famStep
  split
  · omega
  · split
    · simp
    · omega
theorem famFold_le (x : Xpr) : ∀ (l o : List (BitVec 16)), (l.foldl (famStep x) o).length ≤ o.length + l.length := by
  intro l
  induction l with
  | nil => intro o; simp
  | cons s l ih =>
    intro o
    rw [List.foldl_cons, List.length_cons]
    have := ih (famStep x o s)
    have := famStep_le x o s
    omega
/-- the family of an expression, its error -/
def famS (x : Xpr) : List (BitVec 16) := famOf x (subsS (srvX x))
def famE (x : Xpr) : List (BitVec 16) × Int := if xprE x ≠ 0 then ([], xprE x) else if 400 < (famS x).length then ([], 3) else (famS x, 0)
theorem famS_holds {x : Xpr} (h : XprOk x) (s : BitVec 16) : accS (famS x) s = holdX x s := fam_holds h (fun s hs => mem_subs hs) s
theorem famS_in {x : Xpr} {F : BitVec 16} (hF : F ∈ famS x) : ∀ i, hasB F i = true → hasB (srvX x) i = true := by
  rcases fam_only x _ [] F hF with h | h
  · cases h
  · exact subs_mem h.1
theorem famS_le (x : Xpr) : (famS x).length ≤ 2 ^ cnt (srvX x) := by
  have := famFold_le x (subsS (srvX x)) []
  rw [subsM_len, List.length_nil, Nat.zero_add] at this
  exact this
theorem famE_six {x : Xpr} (h : xprE x = 0) (h6 : ∀ p, hasB (srvX x) p = true → p < 6) : famE x = (famS x, 0) := by
  have h1 := famS_le x
  have h2 : 2 ^ cnt (srvX x) ≤ 2 ^ 6 := Nat.pow_le_pow_right (by decide) (cnt_six h6)
  unfold famE
  rw [if_neg (by simpa using h), if_neg (by omega)]
end Go.Proofs.YtflpkkebampmfaaDoor
namespace Go.Proofs.YtflpkkebampmfaaDoor

/-- a piece of a description -/
structure Pce where
  kind : Int
  server : Int
  need : Int
  heavy : Bool
  kids : List Int
def Pce.ok (p : Pce) : Prop := ((0 ≤ p.kind ∧ p.kind < 256) ∧ (0 ≤ p.server ∧ p.server < 256) ∧ (0 ≤ p.need ∧ p.need < 256)) ∧ ∀ z ∈ p.kids, 0 ≤ z ∧ z < 256
def pce0 : Pce := ⟨0, 0, 0, false, []⟩

/-- the sum of the weights of the first k kids -/
def sumTo (nd : Nod) : Nat → Int
  | 0 => 0
  | k + 1 => sumTo nd k + wgtN nd k
def sumN (nd : Nod) : Int := sumTo nd nd.kids.length
/-- the kids and weights of a piece at an index, of the first k -/
def mkdTo (p : Pce) (i k : Nat) : List Int := (p.kids.take k).map fun z => z % (i : Int)
def mwtTo (p : Pce) (k : Nat) : List Int := if p.heavy = true then (p.kids.take k).map fun z => 1 + z / 16 % 4 else []
def mk5 (p : Pce) : Nat := min p.kids.length 5
def madK (p : Pce) (i : Nat) : Nod := ⟨2, 0, 0, mwtTo p (mk5 p), mkdTo p i (mk5 p)⟩
def madN (p : Pce) (i : Nat) : Nod := if i = 0 ∨ p.kind % 3 = 0 then ⟨1, p.server % 6, 0, [], []⟩ else ⟨2, 0, p.need % (sumN (madK p i) + 2), mwtTo p (mk5 p), mkdTo p i (mk5 p)⟩
def madT (ps : List Pce) (k : Nat) : List Nod := (List.range k).map fun i => madN (ps.getD i pce0) i
def mad9 (ps : List Pce) : Nat := min ps.length 9
def srv0 : Nod := ⟨1, 0, 0, [], []⟩
def madX (ps : List Pce) : Xpr := if ps = [] then ⟨[srv0], 0⟩ else ⟨madT ps (mad9 ps), (mad9 ps : Int) - 1⟩

theorem mkdTo_succ {p : Pce} {i k : Nat} {z : Int} (h : p.kids[k]? = some z) : mkdTo p i (k + 1) = mkdTo p i k ++ [z % (i : Int)] := by
  unfold mkdTo; rw [List.take_add_one, h]; simp
theorem mwtTo_succ {p : Pce} {k : Nat} {z : Int} (h : p.kids[k]? = some z) (hh : p.heavy = true) : mwtTo p (k + 1) = mwtTo p k ++ [1 + z / 16 % 4] := by
  unfold mwtTo; rw [if_pos hh, if_pos hh, List.take_add_one, h]; simp
theorem mwtTo_light {p : Pce} (k : Nat) (hh : p.heavy = false) : mwtTo p k = [] := by unfold mwtTo; rw [if_neg (by rw [hh]; decide)]
theorem madT_succ (ps : List Pce) (k : Nat) : madT ps (k + 1) = madT ps k ++ [madN (ps.getD k pce0) k] := by
  unfold madT; rw [List.range_succ, List.map_append]; rfl
theorem madT_len (ps : List Pce) (k : Nat) : (madT ps k).length = k := by unfold madT; rw [List.length_map, List.length_range]
theorem mkdTo_len (p : Pce) (i k : Nat) (h : k ≤ p.kids.length) : (mkdTo p i k).length = k := by unfold mkdTo; rw [List.length_map, List.length_take]; omega
theorem madT_at {ps : List Pce} {k i : Nat} {nd : Nod} (h : (madT ps k)[i]? = some nd) : i < k ∧ nd = madN (ps.getD i pce0) i := by
  have h1 := (List.getElem?_eq_some_iff.1 h).1
  rw [madT_len] at h1
  unfold madT at h
  rw [List.getElem?_map, List.getElem?_range h1] at h
  simp at h
  exact ⟨h1, h.symm⟩
theorem sum_bd {nd : Nod} (h : ∀ w ∈ nd.weights, 1 ≤ w ∧ w ≤ 4) (hl : nd.weights = [] ∨ nd.weights.length = nd.kids.length) : ∀ k, k ≤ nd.kids.length → (k : Int) ≤ sumTo nd k ∧ sumTo nd k ≤ 4 * k := by
  intro k
  induction k with
  | zero => intro _; exact ⟨by simp [sumTo], by simp [sumTo]⟩
  | succ k ih =>
    intro hk
    have h1 := ih (by omega)
    have h2 : 1 ≤ wgtN nd k ∧ wgtN nd k ≤ 4 := by
      unfold wgtN
      split
      · omega
      · rename_i hw
        have hkl : k < nd.weights.length := by rcases hl with h3 | h3
                                               · exact absurd h3 hw
                                               · omega
        rw [List.getD_eq_getElem?_getD, List.getElem?_eq_getElem hkl]
        exact h _ (List.getElem_mem hkl)
    unfold sumTo
    omega
theorem mwt_rng (p : Pce) (hp : ∀ z ∈ p.kids, 0 ≤ z ∧ z < 256) (k : Nat) : ∀ w ∈ mwtTo p k, 1 ≤ w ∧ w ≤ 4 := by
  intro w hw
  unfold mwtTo at hw
  split at hw
  · obtain ⟨z, hz, rfl⟩ := List.mem_map.1 hw
    have := hp z (List.mem_of_mem_take hz)
    omega
  · cases hw
theorem mwt_len (p : Pce) (i : Nat) (k : Nat) : mwtTo p k = [] ∨ (mwtTo p k).length = (mkdTo p i k).length := by
  unfold mwtTo mkdTo
  split
  · right; rw [List.length_map, List.length_map]
  · left; rfl
theorem sum_madK (p : Pce) (hp : ∀ z ∈ p.kids, 0 ≤ z ∧ z < 256) (i : Nat) : 0 ≤ sumN (madK p i) ∧ sumN (madK p i) ≤ 20 := by
  have h := sum_bd (nd := madK p i) (mwt_rng p hp _) (mwt_len p i _) (madK p i).kids.length (Nat.le_refl _)
  have hl : (madK p i).kids.length = mk5 p := mkdTo_len p i _ (Nat.min_le_left _ _)
  have : mk5 p ≤ 5 := Nat.min_le_right _ _
  unfold sumN
  omega
theorem madN_ok (p : Pce) (hp : p.ok) (i : Nat) : nodE (madN p i) i = 0 := by
  obtain ⟨⟨h1, h2, h3⟩, h4⟩ := hp
  unfold madN
  by_cases hc : i = 0 ∨ p.kind % 3 = 0
  · rw [if_pos hc]
    have a1 : 0 ≤ p.server % 6 := Int.emod_nonneg _ (by decide)
    have a2 : p.server % 6 < 6 := Int.emod_lt_of_pos _ (by decide)
    unfold nodE
    simp
    omega
  · rw [if_neg hc]
    have hs := sum_madK p h4 i
    have a1 : 0 ≤ p.need % (sumN (madK p i) + 2) := Int.emod_nonneg _ (by omega)
    have a2 : p.need % (sumN (madK p i) + 2) < sumN (madK p i) + 2 := Int.emod_lt_of_pos _ (by omega)
    have hv : (mwtTo p (mk5 p)).any hvyB = false := by
      rw [List.any_eq_false]
      intro w hw
      have := mwt_rng p h4 _ w hw
      unfold hvyB
      simp; omega
    have hk : (mkdTo p i (mk5 p)).any (unkB i) = false := by
      rw [List.any_eq_false]
      intro w hw
      unfold mkdTo at hw
      obtain ⟨z, hz, rfl⟩ := List.mem_map.1 hw
      have b1 : 0 ≤ z % (i : Int) := Int.emod_nonneg _ (by omega)
      have b2 : z % (i : Int) < (i : Int) := Int.emod_lt_of_pos _ (by omega)
      unfold unkB
      simp; omega
    unfold nodE
    rw [if_neg (by simp), if_neg (by rw [hv]; simp; omega), if_neg ?_, if_neg (by rw [hk]; decide)]
    rintro ⟨c1, c2⟩
    rcases mwt_len p i (mk5 p) with h | h
    · exact c1 h
    · exact c2 h
theorem nodsE_zero : ∀ (l : List Nod) (i : Nat), (∀ (k : Nat) nd, l[k]? = some nd → nodE nd (i + k) = 0) → nodsE l i = 0 := by
  intro l
  induction l with
  | nil => intro i _; rfl
  | cons y l ih =>
    intro i h
    have h0 := h 0 y rfl
    unfold nodsE
    rw [if_neg (by simpa using h0)]
    exact ih (i + 1) fun k nd hk => by
      have := h (k + 1) nd (by simpa using hk)
      rw [show i + 1 + k = i + (k + 1) by omega]; exact this
theorem madX_ok {ps : List Pce} (h : ∀ p ∈ ps, p.ok) : xprE (madX ps) = 0 ∧ (madX ps).nodes.length ≤ 9 ∧ ∀ q, hasB (srvX (madX ps)) q = true → q < 6 := by
  unfold madX
  by_cases h0 : ps = []
  · rw [if_pos h0]
    refine ⟨by decide, by simp, fun q hq => ?_⟩
    have e : srvX ⟨[srv0], 0⟩ = 1#16 := by decide
    rw [e] at hq
    have hq16 := hasB_lt hq
    have : ∀ q : Fin 16, hasB 1#16 q.val = true → q.val < 6 := by decide
    exact this ⟨q, hq16⟩ hq
  · rw [if_neg h0]
    have hl : 1 ≤ mad9 ps ∧ mad9 ps ≤ 9 ∧ mad9 ps ≤ ps.length := by
      unfold mad9
      have : ps.length ≠ 0 := fun hc => h0 (List.eq_nil_of_length_eq_zero hc)
      omega
    have hlen := madT_len ps (mad9 ps)
    have hall : ∀ (k : Nat) nd, (madT ps (mad9 ps))[k]? = some nd → ∃ p, p.ok ∧ nd = madN p k := fun k nd hk => by
      obtain ⟨h1, h2⟩ := madT_at hk
      refine ⟨_, ?_, h2⟩
      rw [List.getD_eq_getElem?_getD, List.getElem?_eq_getElem (by omega)]
      exact h _ (List.getElem_mem _)
    have hE : nodsE (madT ps (mad9 ps)) 0 = 0 := nodsE_zero _ _ fun k nd hk => by
      obtain ⟨p, hp, rfl⟩ := hall k nd hk
      rw [Nat.zero_add]; exact madN_ok p hp k
    have hX : xprE ⟨madT ps (mad9 ps), (mad9 ps : Int) - 1⟩ = 0 := by
      unfold xprE
      show (if madT ps (mad9 ps) = [] then 9 else if 60 < (madT ps (mad9 ps)).length then 3 else if nodsE (madT ps (mad9 ps)) 0 ≠ 0 then nodsE (madT ps (mad9 ps)) 0 else if (mad9 ps : Int) - 1 < 0 ∨ ((madT ps (mad9 ps)).length : Int) ≤ (mad9 ps : Int) - 1 then 4 else 0) = 0
      rw [if_neg (fun hc => by rw [hc] at hlen; simp at hlen; omega), hlen, if_neg (by omega), hE, if_neg (by simp), if_neg (by omega)]
    refine ⟨hX, by show (madT ps (mad9 ps)).length ≤ 9; omega, fun q hq => ?_⟩
    obtain ⟨nd, hnd, hk, hs⟩ := (srvX_has (xprE_ok hX)).1 hq
    obtain ⟨k, hk2⟩ := List.mem_iff_getElem?.1 hnd
    obtain ⟨p, hp, rfl⟩ := hall k nd hk2
    have a1 : p.server % 6 < 6 := Int.emod_lt_of_pos _ (by decide)
    unfold madN at hk hs
    split at hk
    · rename_i hc
      rw [if_pos hc] at hs
      have : p.server % 6 = (q : Int) := hs
      omega
    · exact absurd (show (2 : Int) = 1 from hk) (by decide)
end Go.Proofs.YtflpkkebampmfaaDoor
namespace Go.Proofs.YtflpkkebampmfaaDoor

/-- the servers that are left to give -/
def leftS (x y : Xpr) (b : BitVec 16) : List Nat := memS ((srvX x ||| srvX y) &&& ~~~b)
def left12 (b : BitVec 16) : List Nat := memS (allV &&& ~~~b)
theorem memS_nodup (x : BitVec 16) : (memS x).Nodup := (memS_sorted x).imp fun {a b} h e => by omega
theorem hasB_notV (x : BitVec 16) (i : Nat) (h : i < 16) : hasB (~~~x) i = !hasB x i := hasB_not x i h
theorem left_mem {x y : Xpr} (hx : XprOk x) (hy : XprOk y) {b : BitVec 16} {i : Nat} : i ∈ leftS x y b ↔ (i < 12 ∧ (hasB (srvX x) i = true ∨ hasB (srvX y) i = true)) ∧ hasB b i = false := by
  unfold leftS
  rw [mem_memS, hasB_and, hasB_or, Bool.and_eq_true, Bool.or_eq_true]
  constructor
  · rintro ⟨h1, h2⟩
    have h12 : i < 12 := h1.elim (fun h => srvX_12 hx h) (fun h => srvX_12 hy h)
    rw [hasB_not _ _ (by omega)] at h2
    exact ⟨⟨h12, h1⟩, by simpa using h2⟩
  · rintro ⟨⟨h12, h1⟩, h2⟩
    refine ⟨h1, ?_⟩
    rw [hasB_not _ _ (by omega), h2]; rfl
theorem left12_mem {b : BitVec 16} {i : Nat} : i ∈ left12 b ↔ i < 12 ∧ hasB b i = false := by
  unfold left12
  rw [mem_memS, hasB_allnot, Bool.and_eq_true, decide_eq_true_iff]; simp
theorem nodup_le12 {l : List Nat} (hs : l.Pairwise (· < ·)) (h : ∀ i ∈ l, i < 12) : l.length ≤ 12 := by
  have key : ∀ (l : List Nat) (a : Nat), (a :: l).Pairwise (· < ·) → (∀ i ∈ a :: l, i < 12) → a + (a :: l).length ≤ 12 := by
    intro l
    induction l with
    | nil => intro a _ h; have := h a (by simp); simp; omega
    | cons c l ih =>
      intro a hp h
      have h1 := List.pairwise_cons.1 hp
      have h2 := ih c h1.2 (fun i hi => h i (List.mem_cons_of_mem _ hi))
      have h3 := h1.1 c (by simp)
      simp only [List.length_cons] at h2 ⊢
      omega
  cases l with
  | nil => simp
  | cons a l => have := key l a hs h; omega

theorem left_le {x y : Xpr} (hx : XprOk x) (hy : XprOk y) (b : BitVec 16) : (leftS x y b).length ≤ 12 := nodup_le12 (memS_sorted _) fun _ hi => ((left_mem hx hy).1 hi).1.1
theorem left12_le (b : BitVec 16) : (left12 b).length ≤ 12 := nodup_le12 (memS_sorted _) fun _ hi => (left12_mem.1 hi).1
theorem prove_law {x y : Xpr} (hx : XprOk x) (hy : XprOk y) (b : BitVec 16) {l : List Nat} (hl : l = leftS x y b ∨ l = left12 b) :
    (famsB (famS x) (famS y) b = true → ∃ T, proveL x y l 0#16 0#16 = some T ∧ certC x y b T.tre = true) ∧ (famsB (famS x) (famS y) b = false → proveL x y l 0#16 0#16 = none) := by
  rcases hl with rfl | rfl
  · refine prove_iff hx hy (memS_nodup _) (fun i hi => ?_) (left_le hx hy b) (fun i h1 h2 h3 => (left_mem hx hy).2 ⟨⟨h1, h2⟩, h3⟩) (famS_holds hx) (famS_holds hy) (fun F hF => famS_in hF) (fun F hF => famS_in hF)
    have := (left_mem hx hy).1 hi
    exact ⟨this.1.1, this.2⟩
  · exact prove_iff hx hy (memS_nodup _) (fun i hi => left12_mem.1 hi) (left12_le b) (fun i h1 _ h3 => left12_mem.2 ⟨h1, h3⟩) (famS_holds hx) (famS_holds hy) (fun F hF => famS_in hF) (fun F hF => famS_in hF)
/-- a search leads to a certificate exactly if the families intersect -/
theorem prv_law {x y : Xpr} (hx : XprOk x) (hy : XprOk y) (b : BitVec 16) {l : List Nat} (hl : l = leftS x y b ∨ l = left12 b) :
    (famsB (famS x) (famS y) b = true ∧ (prvS x y l).2 = 0 ∧ certC x y b (prvS x y l).1 = true) ∨ (famsB (famS x) (famS y) b = false ∧ prvS x y l = (⟨[], 0⟩, 12)) := by
  have h := prove_law hx hy b hl
  cases hf : famsB (famS x) (famS y) b
  · right
    refine ⟨rfl, ?_⟩
    unfold prvS; rw [h.2 hf]
  · left
    obtain ⟨T, h1, h2⟩ := h.1 hf
    unfold prvS; rw [h1]
    exact ⟨rfl, rfl, h2⟩
/-- expressions with a certificate intersect -/
theorem check_law {x y : Xpr} (hx : XprOk x) (hy : XprOk y) {b : BitVec 16} {t : Tre} (h : certC x y b t = true) : famsB (famS x) (famS y) b = true := by
  refine cert_sound hx hy h (fun F hF => ⟨?_, fun i hi => srvX_12 hx (famS_in hF i hi)⟩) (fun F hF => ⟨?_, fun i hi => srvX_12 hy (famS_in hF i hi)⟩)
  · rw [← famS_holds hx]; exact List.any_eq_true.2 ⟨F, hF, (subB_iff F F).2 fun _ h => h⟩
  · rw [← famS_holds hy]; exact List.any_eq_true.2 ⟨F, hF, (subB_iff F F).2 fun _ h => h⟩
theorem cert_pos {x y : Xpr} {b : BitVec 16} {t : Tre} (h : certC x y b t = true) : 1 ≤ t.nodes.length ∧ t.nodes.length ≤ 8191 := by
  unfold certC at h
  rw [Bool.and_eq_true] at h
  have := (formC_parts h.1).1
  exact ⟨this.1, this.2.1⟩
/-- what intersects outside of a set intersects outside of each part of it -/
theorem part_law {x y : Xpr} (hx : XprOk x) (hy : XprOk y) (b p : BitVec 16) (h : (prvS x y (leftS x y b)).2 = 0) :
    (prvS x y (leftS x y (b &&& p))).2 = 0 ∧ certC x y (b &&& p) (prvS x y (leftS x y b)).1 = true := by
  have hb : ∀ i, hasB (b &&& p) i = true → hasB b i = true := fun i hi => by rw [hasB_and, Bool.and_eq_true] at hi; exact hi.1
  rcases prv_law hx hy b (.inl rfl) with ⟨h1, _, h3⟩ | ⟨_, h2⟩
  · refine ⟨?_, cert_part hb h3⟩
    rcases prv_law hx hy (b &&& p) (.inl rfl) with ⟨_, h4, _⟩ | ⟨h4, _⟩
    · exact h4
    · rw [fams_part hb h1] at h4; cases h4
  · rw [h2] at h; cases h
end Go.Proofs.YtflpkkebampmfaaDoor
namespace Go.Proofs.YtflpkkebampmfaaDoor
open Go.RowKit Go.Shelf

@[go_sem] theorem bv16_full (x : BitVec 16) : bits .andNot .u16 4095 (U x) = U (4095#16 &&& ~~~x) := bv16_andNot_l 4095 (by decide) x
/-- without the least member -/
theorem memS_drop {x : BitVec 16} {i : Nat} {l : List Nat} (h : memS x = i :: l) : memS (x &&& ~~~bitS i) = l := by
  have hso := memS_sorted x
  rw [h] at hso
  have h16 : i < 16 := hasB_lt (mem_memS.1 (by rw [h]; simp))
  refine ext_sorted (fun y => y) _ _ (memS_sorted _) (List.pairwise_cons.1 hso).2 fun p => ?_
  rw [mem_memS, hasB_and, Bool.and_eq_true]
  constructor
  · rintro ⟨h1, h2⟩
    have hm := mem_memS.2 h1
    rw [h] at hm
    rcases List.mem_cons.1 hm with e | e
    · subst e
      rw [hasB_not _ _ h16, hasB_bit _ _ h16] at h2
      simp at h2
    · exact e
  · intro hp
    have hm : p ∈ memS x := by rw [h]; exact List.mem_cons_of_mem _ hp
    have h1 := mem_memS.1 hm
    have hne : p ≠ i := by have := (List.pairwise_cons.1 hso).1 p hp; omega
    refine ⟨h1, ?_⟩
    rw [hasB_not _ _ (hasB_lt h1), hasB_bit _ _ h16]
    simp [hne]
theorem all_lt (b : BitVec 16) : (4095#16 &&& ~~~b).toNat < 4096 := by
  rw [BitVec.toNat_and]
  exact Nat.lt_of_le_of_lt Nat.and_le_left (by decide)
theorem proveL_x {x y : Xpr} {l : List Nat} {a b : BitVec 16} (h : holdX x (4095#16 &&& ~~~b) = false) : proveL x y l a b = some .fx := by
  have h' : holdX x (allV &&& ~~~b) = false := h
  cases l <;> (unfold proveL; rw [if_pos h'])
theorem proveL_y {x y : Xpr} {l : List Nat} {a b : BitVec 16} (h : holdX x (4095#16 &&& ~~~b) = true) (h2 : holdX y (4095#16 &&& ~~~a) = false) : proveL x y l a b = some .fy := by
  have h' : ¬ holdX x (allV &&& ~~~b) = false := by show ¬ holdX x (4095#16 &&& ~~~b) = false; rw [h]; decide
  have h2' : holdX y (allV &&& ~~~a) = false := h2
  cases l <;> (unfold proveL; rw [if_neg h', if_pos h2'])
theorem proveL_end {x y : Xpr} {a b : BitVec 16} (h : holdX x (4095#16 &&& ~~~b) = true) (h2 : holdX y (4095#16 &&& ~~~a) = true) : proveL x y [] a b = none := by
  have h' : ¬ holdX x (allV &&& ~~~b) = false := by show ¬ holdX x (4095#16 &&& ~~~b) = false; rw [h]; decide
  have h2' : ¬ holdX y (allV &&& ~~~a) = false := by show ¬ holdX y (4095#16 &&& ~~~a) = false; rw [h2]; decide
  unfold proveL; rw [if_neg h', if_neg h2']
theorem proveL_n1 {x y : Xpr} {i : Nat} {l : List Nat} {a b : BitVec 16} (h : holdX x (4095#16 &&& ~~~b) = true) (h2 : holdX y (4095#16 &&& ~~~a) = true) (h3 : proveL x y l (a ||| bitS i) b = none) : proveL x y (i :: l) a b = none := by
  have h' : ¬ holdX x (allV &&& ~~~b) = false := by show ¬ holdX x (4095#16 &&& ~~~b) = false; rw [h]; decide
  have h2' : ¬ holdX y (allV &&& ~~~a) = false := by show ¬ holdX y (4095#16 &&& ~~~a) = false; rw [h2]; decide
  rw [proveL, if_neg h', if_neg h2', h3]
theorem proveL_n2 {x y : Xpr} {i : Nat} {l : List Nat} {a b : BitVec 16} {T : CT} (h : holdX x (4095#16 &&& ~~~b) = true) (h2 : holdX y (4095#16 &&& ~~~a) = true) (h3 : proveL x y l (a ||| bitS i) b = some T) (h4 : proveL x y l a (b ||| bitS i) = none) : proveL x y (i :: l) a b = none := by
  have h' : ¬ holdX x (allV &&& ~~~b) = false := by show ¬ holdX x (4095#16 &&& ~~~b) = false; rw [h]; decide
  have h2' : ¬ holdX y (allV &&& ~~~a) = false := by show ¬ holdX y (4095#16 &&& ~~~a) = false; rw [h2]; decide
  rw [proveL, if_neg h', if_neg h2', h3, h4]
theorem proveL_s {x y : Xpr} {i : Nat} {l : List Nat} {a b : BitVec 16} {T R : CT} (h : holdX x (4095#16 &&& ~~~b) = true) (h2 : holdX y (4095#16 &&& ~~~a) = true) (h3 : proveL x y l (a ||| bitS i) b = some T) (h4 : proveL x y l a (b ||| bitS i) = some R) : proveL x y (i :: l) a b = some (.nd i T R) := by
  have h' : ¬ holdX x (allV &&& ~~~b) = false := by show ¬ holdX x (4095#16 &&& ~~~b) = false; rw [h]; decide
  have h2' : ¬ holdX y (allV &&& ~~~a) = false := by show ¬ holdX y (4095#16 &&& ~~~a) = false; rw [h2]; decide
  rw [proveL, if_neg h', if_neg h2', h3, h4]

/-- what a search leans on -/
structure PCx (x y : Xpr) (w0 : World) (B : Nat) (a1 : Option Addr) (n1 c1 : Nat) (r1 : Int) (a2 : Option Addr) (n2 c2 : Nat) (r2 : Int) : Prop where
  at' : w0.heap.size = B
  sx : ∀ (z : BitVec 16) (u : World), Below B w0 u → Calls Tryd.prog 39 #[.agg #[.slice a1 n1 c1, .int .i64 r1], .int .u16 (U (4095#16 &&& ~~~z))] u fun e w' => e = .returned (.bool (holdX x (4095#16 &&& ~~~z))) ∧ Below u.heap.size u w'
  sy : ∀ (z : BitVec 16) (u : World), Below B w0 u → Calls Tryd.prog 39 #[.agg #[.slice a2 n2 c2, .int .i64 r2], .int .u16 (U (4095#16 &&& ~~~z))] u fun e w' => e = .returned (.bool (holdX y (4095#16 &&& ~~~z))) ∧ Below u.heap.size u w'
  add : ∀ (c0 d0 e0 : Int) (v : Value) (ns : List Cho), ns.length ≤ 100000 → ∀ w, Below B w0 w → PV w B (.slice a1 n1 c1) (.int .i64 r1) (.slice a2 n2 c2) (.int .i64 r2) v ns →
    Calls Tryd.prog 59 #[.pointer (some ⟨B, 0, none⟩), .agg #[.int .i64 c0, .int .i64 d0, .int .i64 e0]] w fun e w' => e = .returned (.int .i64 ns.length) ∧ ∃ v', Below B w0 w' ∧ PV w' B (.slice a1 n1 c1) (.int .i64 r1) (.slice a2 n2 c2) (.int .i64 r2) v' (ns ++ [⟨c0, d0, e0⟩])
  tab : HasTab w0
theorem pcx_of (x y : Xpr) (hx : xprE x = 0) (hy : xprE y = 0) (hfx : XprFew x) (hfy : XprFew y) (a1 : Option Addr) (n1 c1 : Nat) (a2 : Option Addr) (n2 c2 : Nat) (w0 : World) (h1 : XM w0 a1 n1 c1 x.nodes) (h2 : XM w0 a2 n2 c2 y.nodes) (ht : HasTab w0) :
    PCx x y w0 w0.heap.size a1 n1 c1 x.root a2 n2 c2 y.root where
  at' := rfl
  sx := fun z u hb => satisfied_c x hx hfx (4095#16 &&& ~~~z) (all_lt z) a1 n1 c1 u (h1.below hb)
  sy := fun z u hb => satisfied_c y hy hfy (4095#16 &&& ~~~z) (all_lt z) a2 n2 c2 u (h2.below hb)
  add := fun c0 d0 e0 v ns hn w h0 h => add_p ⟨c0, d0, e0⟩ _ _ _ _ _ v ns hn w0 w h0 (Nat.le_refl _) h
  tab := ht

/-- what a search leaves -/
def Found (x y : Xpr) (l : List Nat) (a b : BitVec 16) (ns : List Cho) (B : Nat) (q0 q1 q2 q3 : Value) (w0 : World) (e : Ending) (w' : World) : Prop :=
  ∃ v' ns', Below B w0 w' ∧ PV w' B q0 q1 q2 q3 v' ns' ∧
    ((∃ T, proveL x y l a b = some T ∧ e = .returned (.tuple #[.int .i64 ((ns.length + T.sz - 1 : Nat) : Int), .bool true]) ∧ ns' = ns ++ T.bod ns.length) ∨ (proveL x y l a b = none ∧ e = .returned (.tuple #[.int .i64 0, .bool false])))
theorem PV.cells {w : World} {B : Nat} {q0 q1 q2 q3 v : Value} {ns : List Cho} (h : PV w B q0 q1 q2 q3 v ns) : w.cell? ⟨B, 0, none⟩ = some q0 ∧ w.cell? ⟨B, 1, none⟩ = some q1 ∧ w.cell? ⟨B, 2, none⟩ = some q2 ∧ w.cell? ⟨B, 3, none⟩ = some q3 :=
  ⟨cell_of_row _ _ 0 _ _ _ h.blk, cell_of_row _ _ 1 _ _ _ h.blk, cell_of_row _ _ 2 _ _ _ h.blk, cell_of_row _ _ 3 _ _ _ h.blk⟩
theorem below_at {w0 w w' : World} {B : Nat} (h0 : w0.heap.size = B) (h : Below B w0 w) (h' : Below w.heap.size w w') : Below B w0 w' := h.trans (h'.mono (by have := h.size; omega))

set_option maxRecDepth 100000 in
set_option maxHeartbeats 4000000 in
theorem prv_fx {x y : Xpr} {w0 : World} {B : Nat} {a1 : Option Addr} {n1 c1 : Nat} {r1 : Int} {a2 : Option Addr} {n2 c2 : Nat} {r2 : Int} (C : PCx x y w0 B a1 n1 c1 r1 a2 n2 c2 r2)
    (l : List Nat) (a b left : BitVec 16) (ns : List Cho) (v : Value) (W : World) (hn : ns.length ≤ 100000) (hb : Below B w0 W) (hp : PV W B (.slice a1 n1 c1) (.int .i64 r1) (.slice a2 n2 c2) (.int .i64 r2) v ns) (hh : holdX x (4095#16 &&& ~~~b) = false) :
    Calls Tryd.prog 35 #[.pointer (some ⟨B, 0, none⟩), .int .u16 (U a), .int .u16 (U b), .int .u16 (U left)] W fun e w' => Found x y l a b ns B (.slice a1 n1 c1) (.int .i64 r1) (.slice a2 n2 c2) (.int .i64 r2) w0 e w' := by
  have HR := Lib.hid (proveL_x (y := y) (l := l) (a := a) hh)
  have HS := Lib.hid (C.sx b W hb)
  rw [hh] at HS
  obtain ⟨p0, p1, p2, p3⟩ := hp.cells
  have HP := Lib.hid hp
  have HBW := Lib.hid hb
  have HC := Lib.hid C
  clear hh hb hp C
  go_enter Tryd.func35, Tryd.ntmps35
  go_wp2_with fail
  with_reducible refine HS.out.mono ?_
  rintro e w1 ⟨rfl, hb1⟩
  have HB1 := Lib.hid (below_at HC.out.at' HBW.out hb1)
  have HA := Lib.hid (HC.out.add (-1) 0 0 v ns hn w1 HB1.out (HP.out.below hb1))
  go_wp2_with fail
  with_reducible refine HA.out.mono ?_
  rintro e w2 ⟨rfl, v', hb2, hp2⟩
  have HB2 := Lib.hid hb2
  have HP2 := Lib.hid hp2
  clear hb2 hp2
  go_wp2_with fail
  go_ret2
  exact ⟨v', _, HB2.out, HP2.out, .inl ⟨.fx, HR.out, rfl, rfl⟩⟩

set_option maxRecDepth 100000 in
set_option maxHeartbeats 4000000 in
theorem prv_fy {x y : Xpr} {w0 : World} {B : Nat} {a1 : Option Addr} {n1 c1 : Nat} {r1 : Int} {a2 : Option Addr} {n2 c2 : Nat} {r2 : Int} (C : PCx x y w0 B a1 n1 c1 r1 a2 n2 c2 r2)
    (l : List Nat) (a b left : BitVec 16) (ns : List Cho) (v : Value) (W : World) (hn : ns.length ≤ 100000) (hb : Below B w0 W) (hp : PV W B (.slice a1 n1 c1) (.int .i64 r1) (.slice a2 n2 c2) (.int .i64 r2) v ns) (hh : holdX x (4095#16 &&& ~~~b) = true) (hh2 : holdX y (4095#16 &&& ~~~a) = false) :
    Calls Tryd.prog 35 #[.pointer (some ⟨B, 0, none⟩), .int .u16 (U a), .int .u16 (U b), .int .u16 (U left)] W fun e w' => Found x y l a b ns B (.slice a1 n1 c1) (.int .i64 r1) (.slice a2 n2 c2) (.int .i64 r2) w0 e w' := by
  have HR := Lib.hid (proveL_y (l := l) hh hh2)
  have HS := Lib.hid (C.sx b W hb)
  rw [hh] at HS
  have HS2 := Lib.hid (C.sy a)
  rw [hh2] at HS2
  obtain ⟨p0, p1, p2, p3⟩ := hp.cells
  have HP := Lib.hid hp
  have HBW := Lib.hid hb
  have HC := Lib.hid C
  clear hh hb hp C hh2
  go_enter Tryd.func35, Tryd.ntmps35
  go_wp2_with fail
  with_reducible refine HS.out.mono ?_
  rintro e w1 ⟨rfl, hb1⟩
  have HB1 := Lib.hid (below_at HC.out.at' HBW.out hb1)
  have HP1 := Lib.hid (HP.out.below hb1)
  obtain ⟨t0, t1, t2, t3⟩ := HP1.out.cells
  clear p0 p1 p2 p3 hb1
  go_wp2_with fail
  with_reducible refine (HS2.out w1 HB1.out).mono ?_
  rintro e w3 ⟨rfl, hb3⟩
  have HB3 := Lib.hid (below_at HC.out.at' HB1.out hb3)
  have HA := Lib.hid (HC.out.add (-2) 0 0 v ns hn w3 HB3.out (HP1.out.below hb3))
  clear hb3
  go_wp2_with fail
  with_reducible refine HA.out.mono ?_
  rintro e w2 ⟨rfl, v', hb2, hp2⟩
  have HB2 := Lib.hid hb2
  have HP2 := Lib.hid hp2
  clear hb2 hp2
  go_wp2_with fail
  go_ret2
  exact ⟨v', _, HB2.out, HP2.out, .inl ⟨.fy, HR.out, rfl, rfl⟩⟩

set_option maxRecDepth 100000 in
set_option maxHeartbeats 4000000 in
theorem prove_p {x y : Xpr} {w0 : World} {B : Nat} {a1 : Option Addr} {n1 c1 : Nat} {r1 : Int} {a2 : Option Addr} {n2 c2 : Nat} {r2 : Int} (C : PCx x y w0 B a1 n1 c1 r1 a2 n2 c2 r2) :
    ∀ (l : List Nat) (a b left : BitVec 16) (ns : List Cho) (v : Value) (W : World), memS left = l → ns.length + 2 ^ (l.length + 1) ≤ 100000 → Below B w0 W → PV W B (.slice a1 n1 c1) (.int .i64 r1) (.slice a2 n2 c2) (.int .i64 r2) v ns →
    Calls Tryd.prog 35 #[.pointer (some ⟨B, 0, none⟩), .int .u16 (U a), .int .u16 (U b), .int .u16 (U left)] W fun e w' => Found x y l a b ns B (.slice a1 n1 c1) (.int .i64 r1) (.slice a2 n2 c2) (.int .i64 r2) w0 e w' := by
  have HC := Lib.hid C
  clear C
  intro l
  induction l with
  | nil =>
    intro a b left ns v W hl hn hb hp
    cases hh : holdX x (4095#16 &&& ~~~b)
    · exact prv_fx HC.out [] a b left ns v W (Nat.le_trans (Nat.le_add_right _ _) hn) hb hp hh
    cases hh2 : holdX y (4095#16 &&& ~~~a)
    · exact prv_fy HC.out [] a b left ns v W (Nat.le_trans (Nat.le_add_right _ _) hn) hb hp hh hh2
    have h0 : left = 0#16 := by
      apply Classical.byContradiction
      intro hc
      obtain ⟨k, _, _, _, hk⟩ := memS_step left hc
      rw [hl] at hk; cases hk
    subst h0
    have HR := Lib.hid (proveL_end hh hh2)
    have HS := Lib.hid (HC.out.sx b W hb)
    rw [hh] at HS
    have HS2 := Lib.hid (HC.out.sy a)
    rw [hh2] at HS2
    obtain ⟨p0, p1, p2, p3⟩ := hp.cells
    have HP := Lib.hid hp
    have HBW := Lib.hid hb
    clear hh hb hp hh2 hl
    go_enter Tryd.func35, Tryd.ntmps35
    go_wp2_with fail
    with_reducible refine HS.out.mono ?_
    rintro e w1 ⟨rfl, hb1⟩
    have HB1 := Lib.hid (below_at HC.out.at' HBW.out hb1)
    have HP1 := Lib.hid (HP.out.below hb1)
    obtain ⟨t0, t1, t2, t3⟩ := HP1.out.cells
    clear p0 p1 p2 p3 hb1
    go_wp2_with fail
    with_reducible refine (HS2.out w1 HB1.out).mono ?_
    rintro e w3 ⟨rfl, hb3⟩
    have HB3 := Lib.hid (below_at HC.out.at' HB1.out hb3)
    have HP3 := Lib.hid (HP1.out.below hb3)
    clear hb3
    go_wp2_with fail
    go_ret2
    exact ⟨v, ns, HB3.out, HP3.out, .inr ⟨HR.out, rfl⟩⟩
  | cons i l ih =>
    intro a b left ns v W hl hn hb hp
    cases hh : holdX x (4095#16 &&& ~~~b)
    · exact prv_fx HC.out (i :: l) a b left ns v W (Nat.le_trans (Nat.le_add_right _ _) hn) hb hp hh
    cases hh2 : holdX y (4095#16 &&& ~~~a)
    · exact prv_fy HC.out (i :: l) a b left ns v W (Nat.le_trans (Nat.le_add_right _ _) hn) hb hp hh hh2
    have hne : left ≠ 0#16 := fun e => by rw [e, show memS 0#16 = [] by decide] at hl; cases hl
    have hbq : (left == 0#16) = false := by simpa using hne
    obtain ⟨k, hk, hand, _, hks⟩ := memS_step left hne
    have hki : k = i := by rw [hl] at hks; injection hks with h; exact h.symm
    subst hki
    have hdrop := memS_drop hl
    have HIH := Lib.hid ih
    have HHX := Lib.hid hh
    have HHY := Lib.hid hh2
    have HDR := Lib.hid hdrop
    have HAND := Lib.hid hand
    have HBQ := Lib.hid hbq
    have hn1 : ns.length + 2 ^ (l.length + 1) ≤ 100000 := by
      have : 2 ^ (l.length + 1) ≤ 2 ^ ((k :: l).length + 1) := Nat.pow_le_pow_right (by decide) (by simp)
      omega
    have HN : Hid (ns.length + 2 * 2 ^ (l.length + 1) ≤ 100000) := Lib.hid (by
      have : 2 ^ ((k :: l).length + 1) = 2 * 2 ^ (l.length + 1) := by rw [List.length_cons, Nat.pow_succ]; omega
      omega)
    have HS := Lib.hid (HC.out.sx b W hb)
    rw [hh] at HS
    have HS2 := Lib.hid (HC.out.sy a)
    rw [hh2] at HS2
    obtain ⟨p0, p1, p2, p3⟩ := hp.cells
    have HP := Lib.hid hp
    have HBW := Lib.hid hb
    have HN1 := Lib.hid hn1
    clear hh hb hp hh2 hl hne hks hdrop ih hand hn hn1
    go_enter Tryd.func35, Tryd.ntmps35
    go_wp2_with fail
    with_reducible refine HS.out.mono ?_
    rintro e w1 ⟨rfl, hb1⟩
    have HB1 := Lib.hid (below_at HC.out.at' HBW.out hb1)
    have HP1 := Lib.hid (HP.out.below hb1)
    obtain ⟨t0, t1, t2, t3⟩ := HP1.out.cells
    clear p0 p1 p2 p3 hb1
    go_wp2_with fail
    with_reducible refine (HS2.out w1 HB1.out).mono ?_
    rintro e w3 ⟨rfl, hb3⟩
    have HB3 := Lib.hid (below_at HC.out.at' HB1.out hb3)
    have HP3 := Lib.hid (HP1.out.below hb3)
    clear hb3 t0 t1 t2 t3
    have HTZ := Lib.hid (tz_k k hk left w3 HBQ.out HAND.out (HC.out.tab.below (by rw [HC.out.at']; exact HB3.out)))
    go_wp2_with fail
    with_reducible refine HTZ.out.mono ?_
    rintro e w4 ⟨rfl, rfl⟩
    have HI1 := Lib.hid (HIH.out (a ||| bitS k) b (left &&& ~~~bitS k) ns v w3 HDR.out HN1.out HB3.out HP3.out)
    have HKI : Hid ((k : Int) = (k : Int)) := rfl
    go_wp2_with fail
    with_reducible refine HI1.out.mono ?_
    rintro e w5 ⟨v5, ns5, hb5, hp5, hres⟩
    rcases hres with ⟨T, hT, rfl, hns5⟩ | ⟨hT, rfl⟩
    · have hsz := proveL_sz l _ _ T hT
      have hlen : ns5.length = ns.length + T.sz := by rw [hns5, List.length_append, T.bod_len]
      have HB5 := Lib.hid hb5
      have HP5 := Lib.hid hp5
      have HLEN := Lib.hid hlen
      have HNS5 := Lib.hid hns5
      have HTT := Lib.hid hT
      have hnn := HN.out
      have HI2 := Lib.hid (HIH.out a (b ||| bitS k) (left &&& ~~~bitS k) ns5 v5 w5 HDR.out (by omega) hb5 hp5)
      have HSZ := Lib.hid hsz
      clear hb5 hp5 hns5 hT hlen hnn hsz
      go_wp2_with fail
      with_reducible refine HI2.out.mono ?_
      rintro e w6 ⟨v6, ns6, hb6, hp6, hres⟩
      rcases hres with ⟨R, hR, rfl, hns6⟩ | ⟨hR, rfl⟩
      · have hsz2 := proveL_sz l _ _ R hR
        have hlen2 : ns6.length = ns5.length + R.sz := by rw [hns6, List.length_append, R.bod_len]
        have HB6 := Lib.hid hb6
        have HLEN2 := Lib.hid hlen2
        have HNS6 := Lib.hid hns6
        have HRR := Lib.hid hR
        have HA := Lib.hid (HC.out.add (k : Int) ((ns.length + T.sz - 1 : Nat) : Int) ((ns5.length + R.sz - 1 : Nat) : Int) v6 ns6 (by have := HN.out; have := HSZ.out; have := HLEN.out; omega) w6 hb6 hp6)
        clear hb6 hp6 hns6 hR hlen2 hsz2
        go_wp2_with fail
        with_reducible refine HA.out.mono ?_
        rintro e w7 ⟨rfl, v7, hb7, hp7⟩
        have HB7 := Lib.hid hb7
        have HP7 := Lib.hid hp7
        clear hb7 hp7
        go_wp2_with fail
        go_ret2
        refine ⟨v7, _, HB7.out, HP7.out, .inl ⟨.nd k T R, proveL_s HHX.out HHY.out HTT.out HRR.out, ?_, ?_⟩⟩
        · have : ns6.length = ns.length + (CT.nd k T R).sz - 1 := by rw [HLEN2.out, HLEN.out]; show _ = ns.length + (T.sz + R.sz + 1) - 1; omega
          exact congrArg (fun z : Nat => Ending.returned (Value.tuple #[.int .i64 (z : Int), .bool true])) this
        · rw [HNS6.out, HLEN.out, HNS5.out]
          simp only [CT.bod, List.append_assoc]
      · have HB6 := Lib.hid hb6
        have HP6 := Lib.hid hp6
        have HRR := Lib.hid hR
        clear hb6 hp6 hR
        go_wp2_with fail
        go_ret2
        exact ⟨v6, ns6, HB6.out, HP6.out, .inr ⟨proveL_n2 HHX.out HHY.out HTT.out HRR.out, rfl⟩⟩
    · have HB5 := Lib.hid hb5
      have HP5 := Lib.hid hp5
      have HTT := Lib.hid hT
      clear hb5 hp5 hT
      go_wp2_with fail
      go_ret2
      exact ⟨v5, ns5, HB5.out, HP5.out, .inr ⟨proveL_n1 HHX.out HHY.out HTT.out, rfl⟩⟩
end Go.Proofs.YtflpkkebampmfaaDoor
namespace Go.Proofs.YtflpkkebampmfaaDoor
open Go.RowKit
section
variable {P : Program} {ops : Array Oper} {md : Region.Mode} {S : World → Prop}

def takesB (md : Region.Mode) (ops : Array Oper) : List Nat → Array Bool → Bool
  | [], _ => true
  | i :: L, listed => (Region.free md ops listed i && (Region.ready md ops listed).contains i) && takesB md ops L (listed.setIfInBounds i true)
def afterT : List Nat → Array Bool → Array Bool
  | [], listed => listed
  | i :: L, listed => afterT L (listed.setIfInBounds i true)
def wpTk (P : Program) (ops : Array Oper) (S : World → Prop) (K : Act → Prop) : List Nat → Act → Prop
  | [], a => K a
  | i :: L, a => ∃ o, ops[i]? = some o ∧ if Region.wanted o (yielded ops a.tmps) = true then ∃ v, (∀ w, S w → (execOp a.eval o).run P w = .ok (.value v) w) ∧ wpTk P ops S K L (a.put o.dst v) else wpTk P ops S K L (a.put o.dst undef)
theorem wpTk_nil {K : Act → Prop} {a : Act} (h : K a) : wpTk P ops S K [] a := h
theorem wpTk_cons {K : Act → Prop} {i : Nat} {L : List Nat} {a : Act} {o : Oper} (ho : ops[i]? = some o)
    (h : ∀ K' : Act → Prop, (∀ a, wpTk P ops S K L a → K' a) → if Region.wanted o (yielded ops a.tmps) = true then ∃ v, (∀ w, S w → (execOp a.eval o).run P w = .ok (.value v) w) ∧ K' (a.put o.dst v) else K' (a.put o.dst undef)) : wpTk P ops S K (i :: L) a :=
  ⟨o, ho, h _ (fun _ h => h)⟩
theorem held_takes {Q : Exit → Act → World → Prop} {f : Nat} {w : World} (hsel : Region.noSelect ops = true) (hQ : ∀ c a d v w, Q (.panic c) (a.put d v) w → Q (.panic c) a w) (hS : S w) :
    ∀ (L : List Nat) (listed : Array Bool) (a : Act), takesB md ops L listed = true → wpTk P ops S (fun a' => wpAnyH P md ops Q S f (afterT L listed) a' w) L a → wpAnyH P md ops Q S (f + L.length) listed a w
  | [], listed, a, _, h => h
  | i :: L, listed, a, hB, h => by
    obtain ⟨o, ho, h⟩ := h
    unfold takesB at hB
    simp only [Bool.and_eq_true] at hB
    rw [List.length_cons, ← Nat.add_assoc]
    by_cases hw : Region.wanted o (yielded ops a.tmps) = true
    · rw [if_pos hw] at h
      obtain ⟨v, hv, h⟩ := h
      exact wpAnyH_take ho hsel hB.1.1 hB.1.2 (fun c a w => hQ c a _ _ w) (.inl ⟨hw, hv⟩) hS (held_takes hsel hQ hS L _ _ hB.2 h)
    · rw [if_neg hw] at h
      have hw' : Region.wanted o (yielded ops a.tmps) = false := by simpa using hw
      exact wpAnyH_take ho hsel hB.1.1 hB.1.2 (fun c a w => hQ c a _ _ w) (.inr ⟨hw', rfl⟩) hS (held_takes hsel hQ hS L _ _ hB.2 h)
theorem wp_region_takes {id : Nat} {Q : Exit → Act → World → Prop} {a : Act} {w : World} {l : List Oper} (S : World → Prop) (L : List Nat) (f : Nat) (hm : P.follows .mixedOrders = true) (hf : (f + L.length == l.length) = true)
    (hB : (Region.noSelect l.toArray && takesB .any l.toArray L (Array.replicate l.length false)) = true) (hQ : ∀ c a d v w, Q (.panic c) (a.put d v) w → Q (.panic c) a w) (hS : S w.drew)
    (h : wpTk P l.toArray S (fun a' => wpAnyH P .any l.toArray Q S f (afterT L (Array.replicate l.length false)) a' w.drew) L a) : (Code.region id l.toArray true).wp P Q a w := by
  simp only [Bool.and_eq_true] at hB
  have e : l.toArray.size = f + L.length := by rw [List.size_toArray]; exact (eq_of_beq hf).symm
  refine wp_region_held_drew hm hS (fun _ => ?_)
  rw [e]
  have := held_takes (md := .any) (f := f) (w := w.drew) hB.1 hQ hS L (Array.replicate l.length false) a hB.2 h
  rw [show f + L.length = l.length from eq_of_beq hf] at this ⊢
  exact this
/-- whichever comes up -/
theorem held_ready {Q : Exit → Act → World → Prop} {rs : List Nat} {f : Nat} {listed : Array Bool} {a : Act} {w : World} (hr : (Region.ready md ops listed == rs) = true) (hne : rs ≠ [])
    (h : AllReadyH P md ops Q S f listed a w rs) : wpAnyH P md ops Q S (f + 1) listed a w := wpAnyH_ready (eq_of_beq hr) hne h
end
end Go.Proofs.YtflpkkebampmfaaDoor
namespace Go.Proofs.YtflpkkebampmfaaDoor
open Go.RowKit Go.Shelf

def treV (a : Option Addr) (n c : Nat) (r : Int) : Value := .agg #[.slice a n c, .int .i64 r]

set_option maxRecDepth 100000 in
set_option maxHeartbeats 2000000 in
theorem prove_err (x y : Xpr) (b : BitVec 16) (E : Int) (hE : (if xprE x ≠ 0 then xprE x else xprE y) = E) (h0 : E ≠ 0) (a1 : Option Addr) (n1 c1 : Nat) (a2 : Option Addr) (n2 c2 : Nat) (w : World) (h1 : XM w a1 n1 c1 x.nodes) (h2 : XM w a2 n2 c2 y.nodes) :
    Calls Tryd.prog 13 #[.agg #[.slice a1 n1 c1, .int .i64 x.root], .agg #[.slice a2 n2 c2, .int .i64 y.root], .int .u16 (U b)] w fun e w' => e = .returned (.tuple #[treV none 0 0 0, .int .i64 E]) ∧ Below w.heap.size w w' := by
  have H1 := Lib.hid (fun (u : World) (hb : Below w.heap.size w u) => two_c x y a1 n1 c1 a2 n2 c2 u (h1.below hb) (h2.below hb))
  rw [hE] at H1
  clear h1 h2 hE
  obtain ⟨W2, hW2⟩ : ∃ W2, W2 = (w.alloc (.cells #[.slice a1 n1 c1, .int .i64 x.root] 24)).alloc (.cells #[.slice a2 n2 c2, .int .i64 y.root] 24) := ⟨_, rfl⟩
  obtain ⟨hb2, hc⟩ := args22 w _ _ _ _ _ _ hW2
  have hs2 : W2.heap.size = w.heap.size + 2 := by rw [hW2]; simp
  obtain ⟨W3, hW3⟩ : ∃ W3, W3 = W2.alloc (.cells #[.slice none 0 0, .int .i64 0] 33) := ⟨_, rfl⟩
  have hb3 : Below W2.heap.size W2 W3 := by rw [hW3]; exact (Below.refl _ _).alloc (Nat.le_refl _) _
  have g3 : W3.heap[w.heap.size + 2]? = some (.cells #[.slice none 0 0, .int .i64 0] 33 (0, 0)) := by rw [hW3, ← hs2]; exact heap_alloc_new _ _
  have HB3 := Lib.hid (Below.next hb2 hb3)
  have G3 := Lib.hid g3
  obtain ⟨⟨q0, q1⟩, q2, q3⟩ := hc W3 hb3
  have hne : (E != 0) = true := by simpa using h0
  clear hb2 hc hs2 hb3 g3 h0
  go_enter Tryd.func13, Tryd.ntmps13
  go_wp2_with fail
  rw [← hW2, ← hW3]
  with_reducible refine (H1.out W3 HB3.out).mono ?_
  rintro e w1 ⟨rfl, hb1⟩
  have g4 := heap_below hb1 G3.out
  have t0 := cell_of_row _ _ 0 _ _ _ g4
  have t1 := cell_of_row _ _ 1 _ _ _ g4
  have z0 := frozen_row g4 0
  have z1 := frozen_row g4 1
  have G4 := Lib.hid g4
  have HB1 := Lib.hid hb1
  clear g4 hb1 hW2 hW3
  go_wp2_with fail
  clear t0 t1 z0 z1
  generalize hWF : (w1.setCell _ _).setCell _ _ = WF
  have e1 : WF.heap[w.heap.size + 1 + 1]? = some (.cells #[.slice none 0 0, .int .i64 0] 33 (0, 0)) := by
    rw [← hWF]; exact heap_set_at (heap_set_at G4.out 0 _) 1 _
  have HBF : Hid (Below w.heap.size w WF) := Lib.hid (by
    rw [← hWF]
    exact ((Below.next HB3.out HB1.out).setCell (p := ⟨w.heap.size + 1 + 1, 0, none⟩) (by show w.heap.size ≤ w.heap.size + 1 + 1; omega) _).setCell (p := ⟨w.heap.size + 1 + 1, 1, none⟩) (by show w.heap.size ≤ w.heap.size + 1 + 1; omega) _)
  have f0 := cell_of_row _ _ 0 _ _ _ e1
  have f1 := cell_of_row _ _ 1 _ _ _ e1
  clear hWF e1
  refine bodyPost_ret (v := .tuple #[.agg #[.slice none 0 0, .int .i64 0], .int .i64 E]) ?_ rfl ⟨rfl, HBF.out⟩
  rw [results_cell_tmp rfl]
  go_simp

set_option maxRecDepth 100000 in
set_option maxHeartbeats 4000000 in
theorem prove_ok (x y : Xpr) (b : BitVec 16) (hx : xprE x = 0) (hy : xprE y = 0) (hfx : XprFew x) (hfy : XprFew y) (a1 : Option Addr) (n1 c1 : Nat) (a2 : Option Addr) (n2 c2 : Nat) (w : World) (h1 : XM w a1 n1 c1 x.nodes) (h2 : XM w a2 n2 c2 y.nodes) (ht : HasTab w) :
    Calls Tryd.prog 13 #[.agg #[.slice a1 n1 c1, .int .i64 x.root], .agg #[.slice a2 n2 c2, .int .i64 y.root], .int .u16 (U b)] w fun e w' => ∃ a c, e = .returned (.tuple #[treV a (prvS x y (leftS x y b)).1.nodes.length c (prvS x y (leftS x y b)).1.root, .int .i64 (prvS x y (leftS x y b)).2]) ∧ TM w' a (prvS x y (leftS x y b)).1.nodes.length c (prvS x y (leftS x y b)).1.nodes ∧ Below w.heap.size w w' := by
  have H1 := Lib.hid (fun (u : World) (hb : Below w.heap.size w u) => two_c x y a1 n1 c1 a2 n2 c2 u (h1.below hb) (h2.below hb))
  rw [hx, hy] at H1
  have HS1 := Lib.hid (fun (u : World) (hb : Below w.heap.size w u) => support_x x (xprE_ok hx) a1 n1 c1 u (h1.below hb))
  have HS2 := Lib.hid (fun (u : World) (hb : Below w.heap.size w u) => support_x y (xprE_ok hy) a2 n2 c2 u (h2.below hb))
  have HP := Lib.hid (fun (u : World) (hb : Below w.heap.size w u) => prove_p (pcx_of x y hx hy hfx hfy a1 n1 c1 a2 n2 c2 u (h1.below hb) (h2.below hb) (ht.below hb)))
  have HLE := Lib.hid (left_le (xprE_ok hx) (xprE_ok hy) b)
  obtain ⟨R, hR⟩ : ∃ R, prvS x y (leftS x y b) = R := ⟨_, rfl⟩
  rw [hR]
  have HR := Lib.hid hR
  clear hR
  clear h1 h2 hx hy hfx hfy ht
  obtain ⟨W2, hW2⟩ : ∃ W2, W2 = (w.alloc (.cells #[.slice a1 n1 c1, .int .i64 x.root] 24)).alloc (.cells #[.slice a2 n2 c2, .int .i64 y.root] 24) := ⟨_, rfl⟩
  obtain ⟨hb2, hc⟩ := args22 w _ _ _ _ _ _ hW2
  have hs2 : W2.heap.size = w.heap.size + 2 := by rw [hW2]; simp
  obtain ⟨W3, hW3⟩ : ∃ W3, W3 = W2.alloc (.cells #[.slice none 0 0, .int .i64 0] 33) := ⟨_, rfl⟩
  have hb3 : Below W2.heap.size W2 W3 := by rw [hW3]; exact (Below.refl _ _).alloc (Nat.le_refl _) _
  have g3 : W3.heap[w.heap.size + 2]? = some (.cells #[.slice none 0 0, .int .i64 0] 33 (0, 0)) := by rw [hW3, ← hs2]; exact heap_alloc_new _ _
  have HB3 := Lib.hid (Below.next hb2 hb3)
  have G3 := Lib.hid g3
  have HC := Lib.hid (fun (y : World) (hy : Below W3.heap.size W3 y) => hc y (Below.next hb3 hy))
  obtain ⟨⟨q0, q1⟩, q2, q3⟩ := hc W3 hb3
  clear hb2 hc hs2 hb3 g3
  go_enter Tryd.func13, Tryd.ntmps13
  go_wp2_with fail
  rw [← hW2, ← hW3]
  with_reducible refine (H1.out W3 HB3.out).mono ?_
  rintro e w1 ⟨rfl, hb1⟩
  obtain ⟨⟨t0, t1⟩, t2, t3⟩ := HC.out w1 hb1
  clear hW2 hW3 q0 q1 q2 q3
  have hif : (if (0 : Int) ≠ 0 then (0 : Int) else 0) = 0 := by decide
  rw [hif]
  have HBW := Lib.hid (Below.next HB3.out hb1)
  have HP1 := Lib.hid (HP.out w1 HBW.out)
  have HB1 := Lib.hid hb1
  clear hb1 hif
  go_wp2_with fail
  generalize hWA : w1.alloc _ = WA
  have hbA : Below w1.heap.size w1 WA := by rw [← hWA]; exact (Below.refl _ _).alloc (Nat.le_refl _) _
  have gA : WA.heap[w1.heap.size]? = some (.cells #[.slice a1 n1 c1, .int .i64 x.root, .slice a2 n2 c2, .int .i64 y.root, .slice none 0 0] 69 (0, 0)) := by rw [← hWA]; exact heap_alloc_new _ _
  have KS : Hid (∀ u : World, Below w1.heap.size w1 u → (u.cell? ⟨w.heap.size, 0, none⟩ = some (.slice a1 n1 c1) ∧ u.cell? ⟨w.heap.size, 1, none⟩ = some (.int .i64 x.root)) ∧ u.cell? ⟨w.heap.size + 1, 0, none⟩ = some (.slice a2 n2 c2) ∧ u.cell? ⟨w.heap.size + 1, 1, none⟩ = some (.int .i64 y.root)) :=
    Lib.hid (fun u hu => HC.out u (Below.next HB1.out hu))
  have HSA : Hid (∀ u : World, Below w1.heap.size w1 u → Calls Tryd.prog 36 #[.agg #[.slice a1 n1 c1, .int .i64 x.root]] u fun e w' => e = .returned (.int .u16 (U (srvX x))) ∧ Below u.heap.size u w') :=
    Lib.hid (fun u hu => HS1.out u (Below.next HBW.out hu))
  have HSB : Hid (∀ u : World, Below w1.heap.size w1 u → Calls Tryd.prog 36 #[.agg #[.slice a2 n2 c2, .int .i64 y.root]] u fun e w' => e = .returned (.int .u16 (U (srvX y))) ∧ Below u.heap.size u w') :=
    Lib.hid (fun u hu => HS2.out u (Below.next HBW.out hu))
  have HY := Lib.hid (below_drew hbA)
  have GA := Lib.hid gA
  have hB0 : w1.heap.size < WA.heap.size := (Array.getElem?_eq_some_iff.1 gA).1
  have HB0 := Lib.hid hB0
  clear t0 t1 t2 t3 hbA gA hWA hB0
  refine wp_region_noPanic ?_
  refine wp_region_takes (fun u => Below w1.heap.size w1 u) [0, 1, 3, 6] 10 (by kernel_rfl) (by kernel_rfl) (by kernel_rfl) (fun _ _ _ _ _ h => h) HY.out ?_
  repeat (refine wpTk_cons rfl (fun K hK => ?_); go_simp; apply Exists.intro; refine ⟨fun u hu => ?_, hK _ ?_⟩; (first | exact rfl | (obtain ⟨⟨q1, q2⟩, q3, q4⟩ := KS.out u hu; go_simp; done) | (obtain ⟨⟨q1, q2⟩, q3, q4⟩ := KS.out u hu; go_simp; exact rfl)); clear hK K)
  refine wpTk_nil ?_
  refine held_ready (rs := [2]) (by kernel_rfl) (by simp) ?_
  refine AllReadyH.cons rfl (fun K hK => ?_) AllReadyH.nil
  go_simp
  with_reducible refine (HSA.out _ HY.out).mono ?_
  rintro e w3 ⟨rfl, h3⟩
  have HY3 := Lib.hid (below_at rfl HY.out h3)
  have HG3 := Lib.hid (heap_below h3 GA.out)
  clear h3 HY
  have HY := Lib.hid HY3.out
  clear HY3
  go_simp
  refine hK.out _ _ HY.out (fun hh => ?_)
  clear hh hK K; try simp only [Act.put, List.setIfInBounds_toArray, List.set_cons_zero, List.set_cons_succ]
  refine held_ready (rs := [4]) (by kernel_rfl) (by simp) ?_
  refine AllReadyH.cons rfl (fun K hK => ?_) AllReadyH.nil
  go_simp
  with_reducible refine (HSB.out _ HY.out).mono ?_
  rintro e w5 ⟨rfl, h3⟩
  have HY3 := Lib.hid (below_at rfl HY.out h3)
  have HG5 := Lib.hid (heap_below h3 HG3.out)
  clear h3 HY
  have HY := Lib.hid HY3.out
  clear HY3
  go_simp
  refine hK.out _ _ HY.out (fun hh => ?_)
  clear hh hK K; try simp only [Act.put, List.setIfInBounds_toArray, List.set_cons_zero, List.set_cons_succ]
  refine held_ready (rs := [5]) (by kernel_rfl) (by simp) ?_
  refine AllReadyH.cons rfl (fun K hK => ?_) AllReadyH.nil
  go_simp
  refine hK.out _ _ HY.out (fun hh => ?_)
  clear hh hK K; try simp only [Act.put, List.setIfInBounds_toArray, List.set_cons_zero, List.set_cons_succ]
  refine held_ready (rs := [7]) (by kernel_rfl) (by simp) ?_
  refine AllReadyH.cons rfl (fun K hK => ?_) AllReadyH.nil
  go_simp
  refine hK.out _ _ HY.out (fun hh => ?_)
  clear hh hK K; try simp only [Act.put, List.setIfInBounds_toArray, List.set_cons_zero, List.set_cons_succ]
  refine held_ready (rs := [8]) (by kernel_rfl) (by simp) ?_
  refine AllReadyH.cons rfl (fun K hK => ?_) AllReadyH.nil
  have HPR := HP1.out (leftS x y b) 0#16 0#16 ((srvX x ||| srvX y) &&& ~~~b) [] (.slice none 0 0) w5 rfl (by
    have h1 := HLE.out
    have h2 : 2 ^ ((leftS x y b).length + 1) ≤ 2 ^ 13 := Nat.pow_le_pow_right (by decide) (by omega)
    have h3 : ([] : List Cho).length = 0 := rfl
    omega) HY.out ⟨HG5.out, World.ownsRow_nil _ _ _ _⟩
  rw [U_zero] at HPR
  have HPR2 := Lib.hid HPR
  clear HPR HP1
  go_simp
  with_reducible refine HPR2.out.mono ?_
  rintro e w6 ⟨v6, ns6, hb6, hp6, hres⟩
  have HB6 := Lib.hid hb6
  have HP6 := Lib.hid hp6
  have hg6 : w6.heap[w.heap.size + 1 + 1]? = some (.cells #[.slice none 0 0, .int .i64 0] 33 (0, 0)) := by
    have h1 := heap_below HB1.out G3.out
    exact (hb6.block _ (Array.getElem?_eq_some_iff.1 h1).1).trans h1
  have HG6 := Lib.hid hg6
  have t0 := cell_of_row _ _ 0 _ _ _ hg6
  have t1 := cell_of_row _ _ 1 _ _ _ hg6
  have z0 := frozen_row hg6 0
  have z1 := frozen_row hg6 1
  clear hb6 hg6 HPR2 HG3 HG5 HSA HSB KS
  rcases hres with ⟨T, hT, rfl, hns⟩ | ⟨hT, rfl⟩
  · have hpr : prvS x y (leftS x y b) = (T.tre, 0) := by unfold prvS; rw [hT]
    obtain ⟨a6, c6, rfl, hr6⟩ := rdK_of_row hp6.row
    rw [List.length_nil, List.nil_append] at hns
    have hln : ns6.length = T.sz := by rw [hns, T.bod_len]
    have p4 := cell_of_row _ _ 4 _ _ _ hp6.blk
    have HPV : Hid (R = (T.tre, 0)) := HR.out.symm.trans hpr
    have HR6 := Lib.hid hr6
    have HLN := Lib.hid hln
    have HNS := Lib.hid hns
    have hsz : ((([] : List Cho).length + T.sz - 1 : Nat) : Int) = ((T.sz - 1 : Nat) : Int) := by simp
    rw [hsz]
    clear hp6 hr6 hln hns hpr hT hsz
    go_simp
    refine hK.out _ _ HB6.out (fun hh => ?_)
    clear hh hK K; try simp only [Act.put, List.setIfInBounds_toArray, List.set_cons_zero, List.set_cons_succ]
    refine held_takes (f := 0) (by kernel_rfl) (fun _ _ _ _ _ h => h) HB6.out [9, 10, 11, 12, 13] _ _ (by kernel_rfl) ?_
    repeat (refine wpTk_cons rfl (fun K hK => ?_); go_simp; apply Exists.intro; refine ⟨fun y hy => rfl, hK _ ?_⟩; clear hK K)
    refine wpTk_nil ?_
    refine wpAnyH_done (by kernel_rfl) (NoPanic.normal ?_) _
    go_wp2_with fail
    clear t0 t1 z0 z1
    generalize hWF : (w6.setCell _ _).setCell _ _ = WF
    have e1 : WF.heap[w.heap.size + 1 + 1]? = some (.cells #[.slice a6 ns6.length c6, .int .i64 ((T.sz - 1 : Nat) : Int)] 33 (0, 0)) := by
      rw [← hWF]; exact heap_set_at (heap_set_at HG6.out 0 _) 1 _
    have hlt : w.heap.size + 1 + 1 < w1.heap.size := (Array.getElem?_eq_some_iff.1 (heap_below HB1.out G3.out)).1
    have HBF : Hid (Below w.heap.size w WF) := Lib.hid (by
      rw [← hWF]
      exact ((HBW.out.trans (HB6.out.mono (by omega))).setCell (p := ⟨w.heap.size + 1 + 1, 0, none⟩) (by show w.heap.size ≤ w.heap.size + 1 + 1; omega) _).setCell (p := ⟨w.heap.size + 1 + 1, 1, none⟩) (by show w.heap.size ≤ w.heap.size + 1 + 1; omega) _)
    have hrow : WF.ownsRow (w1.heap.size + 1) 39 3 (.slice a6 ns6.length c6) ns6.length (ns6.flatMap choC) := by
      rw [← hWF]
      refine rowK_at HP6.out.row fun g hg => ?_
      have hgl := (HP6.out.row.lt g hg).1
      rw [Below.heap_setCell _ _ _ _ (by show g ≠ w.heap.size + 1 + 1; omega), Below.heap_setCell _ _ _ _ (by show g ≠ w.heap.size + 1 + 1; omega)]
    obtain ⟨a', c', hv, hr'⟩ := rdK_of_row hrow
    cases hv
    have f0 := cell_of_row _ _ 0 _ _ _ e1
    have f1 := cell_of_row _ _ 1 _ _ _ e1
    have hns : ns6 = T.bod 0 := HNS.out
    have hR2 := HPV.out
    clear hWF e1 hrow p4
    subst hR2
    subst hns
    refine bodyPost_ret (v := .tuple #[.agg #[.slice a6 (T.bod 0).length c6, .int .i64 ((T.sz - 1 : Nat) : Int)], .int .i64 0]) ?_ rfl ⟨a6, c6, rfl, hr', HBF.out⟩
    rw [results_cell_tmp rfl]
    go_simp
  · have hpr : prvS x y (leftS x y b) = (⟨[], 0⟩, 12) := by unfold prvS; rw [hT]
    have HPV : Hid (R = (⟨[], 0⟩, 12)) := HR.out.symm.trans hpr
    clear hp6 hpr hT
    go_simp
    refine hK.out _ _ HB6.out (fun hh => ?_)
    clear hh hK K; try simp only [Act.put, List.setIfInBounds_toArray, List.set_cons_zero, List.set_cons_succ]
    refine held_takes (f := 0) (by kernel_rfl) (fun _ _ _ _ _ h => h) HB6.out [9, 10, 11, 12, 13] _ _ (by kernel_rfl) ?_
    repeat (refine wpTk_cons rfl (fun K hK => ?_); go_simp; apply Exists.intro; refine ⟨fun y hy => rfl, hK _ ?_⟩; clear hK K)
    refine wpTk_nil ?_
    refine wpAnyH_done (by kernel_rfl) (NoPanic.normal ?_) _
    go_wp2_with fail
    clear t0 t1 z0 z1
    generalize hWF : (w6.setCell _ _).setCell _ _ = WF
    have e1 : WF.heap[w.heap.size + 1 + 1]? = some (.cells #[.slice none 0 0, .int .i64 0] 33 (0, 0)) := by
      rw [← hWF]; exact heap_set_at (heap_set_at HG6.out 0 _) 1 _
    have hlt : w.heap.size + 1 + 1 < w1.heap.size := (Array.getElem?_eq_some_iff.1 (heap_below HB1.out G3.out)).1
    have HBF : Hid (Below w.heap.size w WF) := Lib.hid (by
      rw [← hWF]
      exact ((HBW.out.trans (HB6.out.mono (by omega))).setCell (p := ⟨w.heap.size + 1 + 1, 0, none⟩) (by show w.heap.size ≤ w.heap.size + 1 + 1; omega) _).setCell (p := ⟨w.heap.size + 1 + 1, 1, none⟩) (by show w.heap.size ≤ w.heap.size + 1 + 1; omega) _)
    have f0 := cell_of_row _ _ 0 _ _ _ e1
    have f1 := cell_of_row _ _ 1 _ _ _ e1
    have hR2 := HPV.out
    clear hWF e1
    subst hR2
    refine bodyPost_ret (v := .tuple #[.agg #[.slice none 0 0, .int .i64 0], .int .i64 12]) ?_ rfl ⟨none, 0, rfl, RdK.none_ 3 _, HBF.out⟩
    rw [results_cell_tmp rfl]
    go_simp
end Go.Proofs.YtflpkkebampmfaaDoor
