/- Texts laid together. Layer 20, plain: the texts of trees. No program. Layer 20, plain: reading a tree's text, step by step. No program. Contracts of Go's library over this seat's dump: laid by the kit's shelf tools (plain mode), cut down to those that are used. intersect's parser: take. Contracts of Go's library over this seat's dump: laid by the kit's shelf tools (plain mode), cut down to those that are used. intersect's parser: node (printed by psr.py). -/
import Derived.Test.YtflpkkebampmfaaDoorGIntersectSpoiled3
import Derived.Test.YtflpkkebampmfaaDoorGIntersectSpoiled4
import Derived.Test.YtflpkkebampmfaaDoorProg
import Derived.Lib.ItoaNum
import Derived.Lib.AtoiAll
import Derived.Lib.IndexLaws
import Derived.Shelf.Strings.Builder1
import Derived.Shelf.Small.Strs
import Derived.Shelf.Small.Wraps
import Derived.Shelf.Strings.BuilderF
import Derived.Shelf.Strings.BuilderK
import Derived.Shelf.Strconv.Atoi
import Derived.Shelf.Strconv.Itoa0
import Derived.Shelf.Strconv.Itoa1
import Derived.Shelf.LaysM
import Derived.Shelf.Strconv.Itoa2
import Derived.Shelf.Strconv.Itoa3
import Derived.Shelf.Strconv.AtoiErrFast
import Derived.Shelf.Strconv.ParseIntEmpty
import Derived.Shelf.Strconv.AtoiFail
import Derived.Shelf.Strconv.Clone
import Derived.Shelf.Strconv.SyntaxError
import Derived.Shelf.LaysC
import Derived.Shelf.Strconv.ToError
import Derived.Shelf.Strconv.Lower
import Derived.Shelf.Strconv.ParseUint10
import Derived.Shelf.Strconv.ParseUint10Empty
import Derived.Shelf.Strconv.ParseUint10Any
import Derived.Shelf.Strconv.ParseInt10
import Derived.Shelf.Strconv.AtoiLong
import Derived.Shelf.Strconv.AtoiInnerAll
import Derived.Shelf.Strconv.RangeError
import Derived.Shelf.Strconv.ToErrorRange
import Derived.Shelf.Strconv.AtoiAll
import Derived.Shelf.Strings.Search1
import Derived.Shelf.Strings.Prefix
import Derived.Lib.AtoiErrMem
namespace Go.Proofs.YtflpkkebampmfaaDoor

abbrev Byts := List UInt8
/-- the tree from a node on -/
def ctF (nodes : List Cho) : Nat → Int → CT
  | 0, _ => .fx
  | f + 1, i => if (nodes.getD i.toNat cho0).server = -1 then .fx else if (nodes.getD i.toNat cho0).server = -2 then .fy
    else .nd (nodes.getD i.toNat cho0).server.toNat (ctF nodes f (nodes.getD i.toNat cho0).first) (ctF nodes f (nodes.getD i.toNat cho0).second)
def CT.txt : CT → Byts
  | .fx => [120]
  | .fy => [121]
  | .nd i l r => Lib.decDigits i ++ [40] ++ l.txt ++ [44, 32] ++ r.txt ++ [41]
def txtF (nodes : List Cho) : Nat → Int → Byts
  | 0, _ => [120]
  | f + 1, i => if (nodes.getD i.toNat cho0).server = -1 then [120] else if (nodes.getD i.toNat cho0).server = -2 then [121]
    else Lib.decDigits (nodes.getD i.toNat cho0).server.toNat ++ [40] ++ txtF nodes f (nodes.getD i.toNat cho0).first ++ [44, 32] ++ txtF nodes f (nodes.getD i.toNat cho0).second ++ [41]
theorem txt_ct (nodes : List Cho) : ∀ (f : Nat) (i : Int), txtF nodes f i = (ctF nodes f i).txt := by
  intro f
  induction f with
  | zero => intro i; rfl
  | succ f ih =>
    intro i
    unfold txtF ctF
    split
    · rfl
    · split
      · rfl
      · rw [ih, ih]; rfl
/-- the text of a tree, or the error -/
def fmtC (t : Tre) : Byts × Int := if formC t = true then (txtF t.nodes t.nodes.length t.root, 0) else ([], 1)

/-! reading -/
def stripP : Byts → Byts → Option Byts
  | [], s => some s
  | c :: p, d :: s => if c = d then stripP p s else none
  | _ :: _, [] => none
theorem strip_app (p s : Byts) : stripP p (p ++ s) = some s := by
  induction p with
  | nil => rfl
  | cons c p ih => show (if c = c then stripP p (p ++ s) else none) = _; rw [if_pos rfl, ih]
theorem strip_some {p s r : Byts} (h : stripP p s = some r) : s = p ++ r := by
  induction p generalizing s with
  | nil => unfold stripP at h; cases h; rfl
  | cons c p ih =>
    cases s with
    | nil => cases h
    | cons d s =>
      unfold stripP at h
      split at h
      · rename_i e; subst e; rw [ih h]; rfl
      · cases h
/-- a number with its bracket -/
def numP (s : Byts) : Option (Nat × Byts) := (List.range 12).findSome? fun n => (stripP (Lib.decDigits n ++ [40]) s).map fun r => (n, r)
theorem dec12 : ∀ n : Fin 12, Lib.decDigits n.val = if n.val < 10 then [UInt8.ofNat (48 + n.val)] else [49, UInt8.ofNat (38 + n.val)] := by decide +kernel
theorem num_one {n m : Nat} (hn : n < 12) (hm : m < 12) {r r' : Byts} (h : Lib.decDigits n ++ [40] ++ r = Lib.decDigits m ++ [40] ++ r') : n = m ∧ r = r' := by
  have key : ∀ n m : Fin 12, (Lib.decDigits n.val ++ [40]).take 2 = (Lib.decDigits m.val ++ [40]).take 2 → n = m := by decide +kernel
  have len2 : ∀ n : Fin 12, 2 ≤ (Lib.decDigits n.val ++ [40]).length := by decide +kernel
  have e : (Lib.decDigits n ++ [40]).take 2 = (Lib.decDigits m ++ [40]).take 2 := by
    have := congrArg (List.take 2) h
    rwa [List.take_append_of_le_length (len2 ⟨n, hn⟩), List.take_append_of_le_length (len2 ⟨m, hm⟩)] at this
  have := key ⟨n, hn⟩ ⟨m, hm⟩ e
  have hnm : n = m := congrArg Fin.val this
  subst hnm
  exact ⟨rfl, List.append_cancel_left h⟩
theorem numP_app {n : Nat} (hn : n < 12) (r : Byts) : numP (Lib.decDigits n ++ [40] ++ r) = some (n, r) := by
  unfold numP
  cases h : (List.range 12).findSome? fun k => (stripP (Lib.decDigits k ++ [40]) (Lib.decDigits n ++ [40] ++ r)).map fun r => (k, r) with
  | none =>
    rw [List.findSome?_eq_none_iff] at h
    have := h n (List.mem_range.2 hn)
    rw [strip_app] at this
    cases this
  | some p =>
    obtain ⟨k, hk, hs⟩ := List.exists_of_findSome?_eq_some h
    cases hq : stripP (Lib.decDigits k ++ [40]) (Lib.decDigits n ++ [40] ++ r) with
    | none => rw [hq] at hs; cases hs
    | some r' =>
      rw [hq] at hs
      have h1 := strip_some hq
      obtain ⟨rfl, rfl⟩ := num_one hn (List.mem_range.1 hk) h1
      cases hs; rfl
theorem numP_some {s r : Byts} {n : Nat} (h : numP s = some (n, r)) : n < 12 ∧ s = Lib.decDigits n ++ [40] ++ r := by
  unfold numP at h
  obtain ⟨k, hk, hs⟩ := List.exists_of_findSome?_eq_some h
  cases hq : stripP (Lib.decDigits k ++ [40]) s with
  | none => rw [hq] at hs; cases hs
  | some r' =>
    rw [hq] at hs
    cases hs
    exact ⟨List.mem_range.1 hk, strip_some hq⟩
theorem numP_none {s : Byts} (h : numP s = none) {n : Nat} (hn : n < 12) (r : Byts) : s ≠ Lib.decDigits n ++ [40] ++ r := by
  intro e
  rw [e, numP_app hn] at h; cases h

def pnode : Nat → Byts → List Cho → Option (Byts × List Cho)
  | 0, _, _ => none
  | f + 1, s, ns =>
    match stripP [120] s with
    | some r => some (r, ns ++ [⟨-1, 0, 0⟩])
    | none => match stripP [121] s with
      | some r => some (r, ns ++ [⟨-2, 0, 0⟩])
      | none => match numP s with
        | none => none
        | some (n, r) => match pnode f r ns with
          | none => none
          | some (r2, n2) => match stripP [44, 32] r2 with
            | none => none
            | some r3 => match pnode f r3 n2 with
              | none => none
              | some (r4, n4) => match stripP [41] r4 with
                | none => none
                | some r5 => some (r5, n4 ++ [⟨n, ((n2.length - 1 : Nat) : Int), ((n4.length - 1 : Nat) : Int)⟩])
/-- the tree with a text, or the error -/
def parC (s : Byts) : Tre × Int := match pnode (s.length + 1) s [] with
  | some ([], ns) => if ns.length ≤ 8191 then (⟨ns, ((ns.length - 1 : Nat) : Int)⟩, 0) else (⟨[], 0⟩, 2)
  | _ => (⟨[], 0⟩, 2)
theorem dec_head : ∀ n : Fin 12, ∃ c r, Lib.decDigits n.val = c :: r ∧ c ≠ 120 ∧ c ≠ 121 := by
  intro n
  have h1 := dec12 n
  have h2 : ∀ n : Fin 12, (if n.val < 10 then [UInt8.ofNat (48 + n.val)] else [49, UInt8.ofNat (38 + n.val)] : Byts).headD 120 ≠ 120 ∧ (if n.val < 10 then [UInt8.ofNat (48 + n.val)] else [49, UInt8.ofNat (38 + n.val)] : Byts).headD 120 ≠ 121 := by decide +kernel
  have h3 := h2 n
  rw [← h1] at h3
  cases hd : Lib.decDigits n.val with
  | nil => rw [hd] at h3; exact absurd rfl h3.1
  | cons c r => rw [hd] at h3; exact ⟨c, r, rfl, h3.1, h3.2⟩
theorem txt_len (T : CT) : T.sz ≤ T.txt.length := by
  induction T with
  | fx => exact Nat.le_refl _
  | fy => exact Nat.le_refl _
  | nd i l r h1 h2 => simp only [CT.txt, CT.sz, List.length_append, List.length_cons, List.length_nil]; omega
/-- the text of a tree leads back to it -/
theorem pnode_txt (T : CT) (hT : T.low) : ∀ (f : Nat) (rest : Byts) (ns : List Cho), T.sz ≤ f → pnode f (T.txt ++ rest) ns = some (rest, ns ++ T.bod ns.length) := by
  induction T with
  | fx => intro f rest ns hf; obtain ⟨f, rfl⟩ : ∃ g, f = g + 1 := ⟨f - 1, by have : 1 ≤ f := hf; omega⟩; rfl
  | fy => intro f rest ns hf; obtain ⟨f, rfl⟩ : ∃ g, f = g + 1 := ⟨f - 1, by have : 1 ≤ f := hf; omega⟩; rfl
  | nd i l r h1 h2 =>
    intro f rest ns hf
    obtain ⟨hi, hl, hr⟩ := hT
    have hls := l.sz_pos
    have hrs := r.sz_pos
    have hsz : (CT.nd i l r).sz = l.sz + r.sz + 1 := rfl
    rw [hsz] at hf
    obtain ⟨f, rfl⟩ : ∃ g, f = g + 1 := ⟨f - 1, by omega⟩
    obtain ⟨c, cr, hc, hcx, hcy⟩ := dec_head ⟨i, hi⟩
    have e : (CT.nd i l r).txt ++ rest = Lib.decDigits i ++ [40] ++ (l.txt ++ ([44, 32] ++ (r.txt ++ ([41] ++ rest)))) := by simp [CT.txt]
    have hx : stripP [120] (Lib.decDigits i ++ [40] ++ (l.txt ++ ([44, 32] ++ (r.txt ++ ([41] ++ rest))))) = none := by
      simp only at hc
      rw [hc]; show (if (120 : UInt8) = c then _ else none) = none; rw [if_neg (fun e => hcx e.symm)]
    have hy : stripP [121] (Lib.decDigits i ++ [40] ++ (l.txt ++ ([44, 32] ++ (r.txt ++ ([41] ++ rest))))) = none := by
      simp only at hc
      rw [hc]; show (if (121 : UInt8) = c then _ else none) = none; rw [if_neg (fun e => hcy e.symm)]
    unfold pnode
    rw [e, hx, hy, numP_app hi]
    simp only
    rw [h1 hl f _ ns (by omega)]
    simp only
    rw [strip_app]
    simp only
    rw [h2 hr f _ _ (by omega)]
    simp only
    rw [strip_app]
    simp [CT.bod, CT.bod_len, Nat.add_assoc]
theorem parC_txt (T : CT) (hT : T.low) (hs : T.sz ≤ 8191) : parC T.txt = (T.tre, 0) := by
  unfold parC
  have := pnode_txt T hT (T.txt.length + 1) [] [] (by have := txt_len T; omega)
  rw [List.append_nil, List.nil_append, List.length_nil] at this
  rw [this]
  simp only
  rw [if_pos (by rw [CT.bod_len]; exact hs), CT.bod_len]; rfl
/-! formed trees -/
theorem ct_low {nodes : List Cho} (hn : nodsC nodes = true) : ∀ (f : Nat) (i : Int), 0 ≤ i → i.toNat < nodes.length → i.toNat < f → (ctF nodes f i).low := by
  intro f
  induction f with
  | zero => intro i _ _ h; omega
  | succ f ih =>
    intro i h0 h1 h2
    unfold ctF
    have hc := nodsC_at hn h1
    split
    · trivial
    · rename_i q1
      split
      · trivial
      · rename_i q2
        have hlf : leafC (nodes.getD i.toNat cho0) = false := by unfold leafC; rw [decide_eq_false q1, decide_eq_false q2]; rfl
        obtain ⟨hs, hf, hsc⟩ := nodC_leaf hc hlf
        exact ⟨by omega, ih _ hf.1 (by omega) (by omega), ih _ hsc.1 (by omega) (by omega)⟩
/-- the sizes of the trees from the first nodes on -/
def szTo (nodes : List Cho) : Nat → List Nat
  | 0 => []
  | k + 1 => szTo nodes k ++ [if leafC (nodes.getD k cho0) = true then 1 else (szTo nodes k).getD (nodes.getD k cho0).first.toNat 0 + (szTo nodes k).getD (nodes.getD k cho0).second.toNat 0 + 1]
theorem szTo_len (nodes : List Cho) : ∀ k, (szTo nodes k).length = k := by
  intro k
  induction k with
  | zero => rfl
  | succ k ih => rw [szTo, List.length_append, ih]; rfl
theorem szTo_get (nodes : List Cho) {i : Nat} : ∀ k, i < k → (szTo nodes k).getD i 0 = (szTo nodes (i + 1)).getD i 0 := by
  intro k
  induction k with
  | zero => intro h; omega
  | succ k ih =>
    intro h
    by_cases h1 : i < k
    · rw [szTo, List.getD_eq_getElem?_getD, List.getElem?_append_left (by rw [szTo_len]; exact h1), ← List.getD_eq_getElem?_getD]
      exact ih h1
    · obtain rfl : i = k := by omega
      rfl
theorem szTo_at (nodes : List Cho) (k : Nat) : (szTo nodes (k + 1)).getD k 0 = if leafC (nodes.getD k cho0) = true then 1 else (szTo nodes k).getD (nodes.getD k cho0).first.toNat 0 + (szTo nodes k).getD (nodes.getD k cho0).second.toNat 0 + 1 := by
  rw [szTo, List.getD_eq_getElem?_getD, List.getElem?_append_right (by rw [szTo_len]; exact Nat.le_refl _), szTo_len, Nat.sub_self]; rfl
theorem ct_sz {nodes : List Cho} (hn : nodsC nodes = true) : ∀ (f : Nat) (i : Int), 0 ≤ i → i.toNat < nodes.length → i.toNat < f → (ctF nodes f i).sz = (szTo nodes nodes.length).getD i.toNat 0 := by
  intro f
  induction f with
  | zero => intro i _ _ h; omega
  | succ f ih =>
    intro i h0 h1 h2
    rw [szTo_get nodes _ h1, szTo_at]
    unfold ctF
    have hc := nodsC_at hn h1
    by_cases q1 : (nodes.getD i.toNat cho0).server = -1
    · have hlf : leafC (nodes.getD i.toNat cho0) = true := by unfold leafC; rw [decide_eq_true q1]; rfl
      rw [if_pos q1, if_pos hlf]; rfl
    · rw [if_neg q1]
      by_cases q2 : (nodes.getD i.toNat cho0).server = -2
      · have hlf : leafC (nodes.getD i.toNat cho0) = true := by unfold leafC; rw [decide_eq_true q2, Bool.or_true]
        rw [if_pos q2, if_pos hlf]; rfl
      · have hlf : leafC (nodes.getD i.toNat cho0) = false := by unfold leafC; rw [decide_eq_false q1, decide_eq_false q2]; rfl
        obtain ⟨hs, hf, hsc⟩ := nodC_leaf hc hlf
        rw [if_neg q2, hlf, if_neg (by decide)]
        show (ctF nodes f _).sz + (ctF nodes f _).sz + 1 = _
        rw [ih _ hf.1 (by omega) (by omega), ih _ hsc.1 (by omega) (by omega), szTo_get nodes _ (show _ < nodes.length by omega), szTo_get nodes _ (show (nodes.getD i.toNat cho0).second.toNat < nodes.length by omega),
          ← szTo_get nodes i.toNat (by omega), ← szTo_get nodes i.toNat (by omega)]
/-- the sum of the sizes of what has no parent yet -/
def pend (nodes : List Cho) (ps : List Int) : Nat → Nat
  | 0 => 0
  | j + 1 => pend nodes ps j + (if ps.getD j 0 = 0 then (szTo nodes (j + 1)).getD j 0 else 0)
theorem pend_congr {nodes : List Cho} {ps qs : List Int} : ∀ k, (∀ j, j < k → (ps.getD j 0 = 0 ↔ qs.getD j 0 = 0)) → pend nodes ps k = pend nodes qs k := by
  intro k
  induction k with
  | zero => intro _; rfl
  | succ k ih =>
    intro h
    unfold pend
    rw [ih fun j hj => h j (by omega)]
    have := h k (by omega)
    by_cases q : ps.getD k 0 = 0
    · rw [if_pos q, if_pos (this.1 q)]
    · rw [if_neg q, if_neg (fun e => q (this.2 e))]
theorem pend_set {nodes : List Cho} {ps : List Int} {a : Nat} (ha : ps.getD a 0 = 0) : ∀ k, a < k → k ≤ ps.length → pend nodes (ps.set a 1) k + (szTo nodes (a + 1)).getD a 0 = pend nodes ps k := by
  intro k
  induction k with
  | zero => intro h; omega
  | succ k ih =>
    intro h hk
    unfold pend
    rw [getD_set (by omega)]
    by_cases q : k = a
    · subst q
      rw [if_pos rfl, if_neg (by decide), ha, if_pos rfl]
      rw [pend_congr (ps := ps.set k 1) (qs := ps) k fun j hj => by rw [getD_set (by omega), if_neg (by omega)]]
      omega
    · rw [if_neg q]
      have := ih (by omega) (by omega)
      omega
theorem bump_ge (ps : List Int) (a : Int) (j : Nat) : ps.getD j 0 ≤ (bumpS ps a).getD j 0 := by
  unfold bumpS
  by_cases h : a.toNat < ps.length
  · rw [getD_set h]
    split
    · rename_i e; subst e; omega
    · exact Int.le_refl _
  · rw [List.set_eq_of_length_le (by omega)]; exact Int.le_refl _
theorem par_ge (ps : List Int) (c : Cho) (j : Nat) : ps.getD j 0 ≤ (parStep ps c).getD j 0 := by
  unfold parStep
  split
  · exact Int.le_refl _
  · exact Int.le_trans (bump_ge _ _ _) (bump_ge _ _ _)
theorem parTo_ge (nodes : List Cho) {k m : Nat} (h : k ≤ m) (j : Nat) : (parTo nodes k).getD j 0 ≤ (parTo nodes m).getD j 0 := by
  induction m with
  | zero => obtain rfl : k = 0 := by omega
            exact Int.le_refl _
  | succ m ih =>
    by_cases hk : k ≤ m
    · refine Int.le_trans (ih hk) ?_
      cases hc : nodes[m]? with
      | none => unfold parTo; rw [List.take_add_one, hc]; simp
      | some c => rw [parTo_succ hc]; exact par_ge _ _ _
    · obtain rfl : k = m + 1 := by omega
      exact Int.le_refl _
theorem parTo_nonneg (nodes : List Cho) (k j : Nat) : 0 ≤ (parTo nodes k).getD j 0 := by
  have := parTo_ge nodes (Nat.zero_le k) j
  have e : (parTo nodes 0).getD j 0 = 0 := by
    unfold parTo
    rw [List.take_zero, List.foldl_nil, List.getD_eq_getElem?_getD, List.getElem?_replicate]; split <;> rfl
  omega
/-- nodes that no one has come to yet have no parent -/
theorem parTo_late {nodes : List Cho} (hn : nodsC nodes = true) : ∀ k, k ≤ nodes.length → ∀ j, k ≤ j → (parTo nodes k).getD j 0 = 0 := by
  intro k
  induction k with
  | zero =>
    intro _ j _
    unfold parTo
    rw [List.take_zero, List.foldl_nil, List.getD_eq_getElem?_getD, List.getElem?_replicate]; split <;> rfl
  | succ k ih =>
    intro hk j hj
    have hc : nodes[k]? = some (nodes.getD k cho0) := by rw [List.getD_eq_getElem?_getD, List.getElem?_eq_getElem (by omega)]; rfl
    rw [parTo_succ hc]
    have hnc := nodsC_at hn (show k < nodes.length by omega)
    have h0 := ih (by omega) j (by omega)
    unfold parStep
    cases hlf : leafC (nodes.getD k cho0)
    · obtain ⟨_, hf, hs⟩ := nodC_leaf hnc hlf
      rw [if_neg (by decide)]
      unfold bumpS
      rw [getD_set (by rw [List.length_set, parTo_len]; omega), if_neg (by omega), getD_set (by rw [parTo_len]; omega), if_neg (by omega)]
      exact h0
    · rw [if_pos rfl]; exact h0
theorem pend_all {t : Tre} (h : formC t = true) : ∀ k, k ≤ t.nodes.length → pend t.nodes (parTo t.nodes k) k = k := by
  obtain ⟨⟨h1, h2, h3, h4⟩, hn, hp⟩ := formC_parts h
  have hfin : ∀ j, j < t.nodes.length → (parTo t.nodes t.nodes.length).getD j 0 ≤ 1 := fun j hj => by
    have := List.all_eq_true.1 hp j (List.mem_range.2 hj)
    unfold parB at this
    split at this
    · have := eq_of_beq this; omega
    · have := eq_of_beq this; omega
  intro k
  induction k with
  | zero => intro _; rfl
  | succ k ih =>
    intro hk
    have hc : t.nodes[k]? = some (t.nodes.getD k cho0) := by rw [List.getD_eq_getElem?_getD, List.getElem?_eq_getElem (by omega)]; rfl
    have hnc := nodsC_at hn (show k < t.nodes.length by omega)
    have hih := ih (by omega)
    have hlate := parTo_late hn (k + 1) hk k
    unfold pend
    have hk0 : (parTo t.nodes (k + 1)).getD k 0 = 0 := by
      rw [parTo_succ hc]
      have h0 := parTo_late hn k (by omega) k (Nat.le_refl _)
      unfold parStep
      cases hlf : leafC (t.nodes.getD k cho0)
      · obtain ⟨_, hf, hs⟩ := nodC_leaf hnc hlf
        rw [if_neg (by decide)]
        unfold bumpS
        rw [getD_set (by rw [List.length_set, parTo_len]; omega), if_neg (by omega), getD_set (by rw [parTo_len]; omega), if_neg (by omega)]
        exact h0
      · rw [if_pos rfl]; exact h0
    rw [if_pos hk0, szTo_at]
    cases hlf : leafC (t.nodes.getD k cho0)
    · obtain ⟨_, hf, hs⟩ := nodC_leaf hnc hlf
      rw [if_neg (by decide)]
      obtain ⟨a, ha⟩ : ∃ a, (t.nodes.getD k cho0).first.toNat = a := ⟨_, rfl⟩
      obtain ⟨b, hb⟩ : ∃ b, (t.nodes.getD k cho0).second.toNat = b := ⟨_, rfl⟩
      have hak : a < k := by omega
      have hbk : b < k := by omega
      have hstep : parTo t.nodes (k + 1) = ((parTo t.nodes k).set a ((parTo t.nodes k).getD a 0 + 1)).set b (((parTo t.nodes k).set a ((parTo t.nodes k).getD a 0 + 1)).getD b 0 + 1) := by
        rw [parTo_succ hc]; unfold parStep; rw [hlf, if_neg (by decide)]; unfold bumpS; rw [ha, hb]
      have hlen := parTo_len t.nodes k
      have f1 := hfin a (by omega)
      have f2 := hfin b (by omega)
      have g1 := parTo_ge t.nodes hk a
      have g2 := parTo_ge t.nodes hk b
      have p1 := parTo_nonneg t.nodes k a
      have p2 := parTo_nonneg t.nodes k b
      rw [hstep] at g1 g2
      rw [getD_set (by rw [List.length_set]; omega), getD_set (by omega)] at g1
      rw [getD_set (by rw [List.length_set]; omega), if_pos rfl, getD_set (by omega)] at g2
      have hab : a ≠ b := by
        intro e; subst e
        rw [if_pos rfl] at g2
        omega
      rw [if_neg (fun e => hab e), getD_set (by omega), if_pos rfl] at g1
      rw [if_neg (fun e => hab e.symm)] at g2
      have a0 : (parTo t.nodes k).getD a 0 = 0 := by omega
      have b0 : (parTo t.nodes k).getD b 0 = 0 := by omega
      rw [hstep, a0, getD_set (by omega), if_neg (fun e => hab e.symm), b0]
      have e1 := pend_set (nodes := t.nodes) a0 k hak (by omega)
      have e2 := pend_set (nodes := t.nodes) (ps := (parTo t.nodes k).set a 1) (a := b) (by rw [getD_set (by omega), if_neg (fun e => hab e.symm)]; exact b0) k hbk (by rw [List.length_set]; omega)
      rw [ha, hb, szTo_get t.nodes k hak, szTo_get t.nodes k hbk]
      show pend t.nodes (((parTo t.nodes k).set a (0 + 1)).set b (0 + 1)) k + _ = k + 1
      rw [Int.zero_add]
      omega
    · rw [if_pos rfl]
      have : parTo t.nodes (k + 1) = parTo t.nodes k := by rw [parTo_succ hc]; unfold parStep; rw [hlf, if_pos rfl]
      rw [this, hih]
theorem pend_one {nodes : List Cho} {ps : List Int} {r : Nat} (hr : ps.getD r 0 = 0) : ∀ k, (∀ j, j < k → j ≠ r → ps.getD j 0 ≠ 0) → pend nodes ps k = if r < k then (szTo nodes (r + 1)).getD r 0 else 0 := by
  intro k
  induction k with
  | zero => intro _; rfl
  | succ k ih =>
    intro h
    unfold pend
    rw [ih fun j hj => h j (by omega)]
    by_cases q : k = r
    · subst q; rw [if_neg (by omega), if_pos hr, if_pos (by omega)]; omega
    · rw [if_neg (h k (by omega) q)]
      by_cases q2 : r < k
      · rw [if_pos q2, if_pos (by omega)]; rfl
      · rw [if_neg q2, if_neg (by omega)]
/-- a formed tree comes to each of its nodes once -/
theorem form_sz {t : Tre} (h : formC t = true) : (ctF t.nodes t.nodes.length t.root).sz = t.nodes.length := by
  obtain ⟨⟨h1, h2, h3, h4⟩, hn, hp⟩ := formC_parts h
  rw [ct_sz hn _ _ h3 (by omega) (by omega), szTo_get t.nodes _ (by omega)]
  have hall := pend_all h _ (Nat.le_refl _)
  have hpar : ∀ j, j < t.nodes.length → parB t.root (parTo t.nodes t.nodes.length) j = true := fun j hj => List.all_eq_true.1 hp j (List.mem_range.2 hj)
  rw [pend_one (r := t.root.toNat)] at hall
  · rw [if_pos (by omega)] at hall; exact hall
  · have := hpar t.root.toNat (by omega)
    unfold parB at this
    rw [if_pos (by omega)] at this
    exact eq_of_beq this
  · intro j hj hne
    have := hpar j hj
    unfold parB at this
    rw [if_neg (by omega)] at this
    rw [eq_of_beq this]; decide
theorem txtF_tre (T : CT) (hT : T.low) : ∀ (k f : Nat) (N : List Cho), T.sz ≤ f → (∀ j c, (T.bod k)[j]? = some c → N[k + j]? = some c) → txtF N f ((k + T.sz - 1 : Nat) : Int) = T.txt := by
  induction T with
  | fx =>
    intro k f N hf hN
    obtain ⟨f, rfl⟩ : ∃ g, f = g + 1 := ⟨f - 1, by have : 1 ≤ f := hf; omega⟩
    have hc := hN 0 _ rfl
    have hg : N.getD (((k + CT.fx.sz - 1 : Nat) : Int)).toNat cho0 = ⟨-1, 0, 0⟩ := by
      rw [Int.toNat_natCast, List.getD_eq_getElem?_getD, show k + CT.fx.sz - 1 = k + 0 by show k + 1 - 1 = k + 0; omega, hc]; rfl
    unfold txtF
    rw [hg]; rfl
  | fy =>
    intro k f N hf hN
    obtain ⟨f, rfl⟩ : ∃ g, f = g + 1 := ⟨f - 1, by have : 1 ≤ f := hf; omega⟩
    have hc := hN 0 _ rfl
    have hg : N.getD (((k + CT.fy.sz - 1 : Nat) : Int)).toNat cho0 = ⟨-2, 0, 0⟩ := by
      rw [Int.toNat_natCast, List.getD_eq_getElem?_getD, show k + CT.fy.sz - 1 = k + 0 by show k + 1 - 1 = k + 0; omega, hc]; rfl
    unfold txtF
    rw [hg]; rfl
  | nd i l r h1 h2 =>
    intro k f N hf hN
    obtain ⟨hi, hl, hr⟩ := hT
    have hls := l.sz_pos
    have hrs := r.sz_pos
    have hsz : (CT.nd i l r).sz = l.sz + r.sz + 1 := rfl
    rw [hsz] at hf ⊢
    obtain ⟨f, rfl⟩ : ∃ g, f = g + 1 := ⟨f - 1, by omega⟩
    have hc : N[k + (l.sz + r.sz)]? = some ⟨i, ((k + l.sz - 1 : Nat) : Int), ((k + l.sz + r.sz - 1 : Nat) : Int)⟩ := by
      refine hN (l.sz + r.sz) _ ?_
      show (l.bod k ++ r.bod (k + l.sz) ++ _)[l.sz + r.sz]? = _
      rw [List.getElem?_append_right (by simp [CT.bod_len])]
      simp [CT.bod_len]
    have hNl : ∀ j c, (l.bod k)[j]? = some c → N[k + j]? = some c := fun j c h => hN j c (by
      show (l.bod k ++ r.bod (k + l.sz) ++ _)[j]? = _
      have := (List.getElem?_eq_some_iff.1 h).1
      rw [List.append_assoc, List.getElem?_append_left this]; exact h)
    have hNr : ∀ j c, (r.bod (k + l.sz))[j]? = some c → N[k + l.sz + j]? = some c := fun j c h => by
      have := hN (l.sz + j) c (by
        show (l.bod k ++ r.bod (k + l.sz) ++ _)[l.sz + j]? = _
        have hjl := (List.getElem?_eq_some_iff.1 h).1
        rw [List.getElem?_append_left (by rw [List.length_append, CT.bod_len]; omega), List.getElem?_append_right (by rw [CT.bod_len]; omega), CT.bod_len]
        rw [show l.sz + j - l.sz = j by omega]; exact h)
      rwa [← Nat.add_assoc] at this
    have hg : N.getD (((k + (l.sz + r.sz + 1) - 1 : Nat) : Int)).toNat cho0 = ⟨i, ((k + l.sz - 1 : Nat) : Int), ((k + l.sz + r.sz - 1 : Nat) : Int)⟩ := by
      rw [Int.toNat_natCast, List.getD_eq_getElem?_getD, show k + (l.sz + r.sz + 1) - 1 = k + (l.sz + r.sz) by omega, hc]; rfl
    unfold txtF
    rw [hg]
    simp only
    rw [if_neg (by omega), if_neg (by omega), Int.toNat_natCast, h1 hl k f N (by omega) hNl, h2 hr (k + l.sz) f N (by omega) hNr]
    rfl
theorem fmt_tre (T : CT) (hT : T.low) (hs : T.sz ≤ 8191) : fmtC T.tre = (T.txt, 0) := by
  unfold fmtC
  rw [if_pos (tre_form T hT hs)]
  have := txtF_tre T hT 0 T.sz (T.bod 0) (Nat.le_refl _) (fun j c h => by rwa [Nat.zero_add])
  rw [Nat.zero_add] at this
  show (txtF (T.bod 0) (T.bod 0).length ((T.sz - 1 : Nat) : Int), (0 : Int)) = _
  rw [T.bod_len, this]
/-- the text of a formed tree leads to a tree with as many nodes and the same text -/
theorem text_back {t : Tre} (h : formC t = true) : ∃ u, parC (fmtC t).1 = (u, 0) ∧ fmtC u = ((fmtC t).1, 0) ∧ u.nodes.length = t.nodes.length := by
  obtain ⟨⟨h1, h2, h3, h4⟩, hn, _⟩ := formC_parts h
  have hlow := ct_low hn t.nodes.length t.root h3 (by omega) (by omega)
  have hsz := form_sz h
  have e : (fmtC t).1 = (ctF t.nodes t.nodes.length t.root).txt := by unfold fmtC; rw [if_pos h]; exact txt_ct _ _ _
  refine ⟨(ctF t.nodes t.nodes.length t.root).tre, ?_, ?_, ?_⟩
  · rw [e]; exact parC_txt _ hlow (by omega)
  · rw [e]; exact fmt_tre _ hlow (by omega)
  · show ((ctF t.nodes t.nodes.length t.root).bod 0).length = _
    rw [CT.bod_len, hsz]
end Go.Proofs.YtflpkkebampmfaaDoor
namespace Go.Proofs.YtflpkkebampmfaaDoor

theorem strip_trim : ∀ (p s : Byts), stripP p s = if Lib.hasPrefix s p = true then some (Lib.trimPrefix s p) else none := by
  intro p
  induction p with
  | nil => intro s; unfold Lib.trimPrefix Lib.hasPrefix; simp [stripP]
  | cons c p ih =>
    intro s
    cases s with
    | nil => unfold Lib.hasPrefix; simp [stripP]
    | cons d s =>
      have h := ih s
      unfold Lib.trimPrefix Lib.hasPrefix at h ⊢
      unfold stripP
      by_cases e : c = d
      · subst e
        rw [if_pos rfl, h]
        have e : (c :: p).isPrefixOf (c :: s) = p.isPrefixOf s := by simp [List.isPrefixOf]
        rw [e]
        cases p.isPrefixOf s <;> rfl
      · rw [if_neg e, if_neg (by simp [List.isPrefixOf, e])]
theorem strip_yes {p s r : Byts} (h : stripP p s = some r) : Lib.hasPrefix s p = true ∧ Lib.trimPrefix s p = r := by
  rw [strip_trim] at h
  split at h
  · rename_i e; exact ⟨e, Option.some.inj h⟩
  · cases h
theorem strip_no {p s : Byts} (h : stripP p s = none) : Lib.hasPrefix s p = false ∧ Lib.trimPrefix s p = s := by
  rw [strip_trim] at h
  split at h
  · cases h
  · rename_i e
    have e' : Lib.hasPrefix s p = false := by simpa using e
    exact ⟨e', by unfold Lib.trimPrefix; rw [if_neg (by rw [e']; decide)]⟩
theorem strip_len {p s r : Byts} (h : stripP p s = some r) : p.length + r.length = s.length := by rw [strip_some h, List.length_append]

theorem dec_atoi (n : Nat) (hn : n < 12) : Lib.atoiAll (Lib.decDigits n) = .ok (n : Int) := by
  have h1 := dec12 ⟨n, hn⟩
  simp only at h1
  rw [h1]
  have : ∀ n : Fin 12, Lib.atoiAll (if n.val < 10 then [UInt8.ofNat (48 + n.val)] else [49, UInt8.ofNat (38 + n.val)] : Byts) = .ok (n.val : Int) := by decide +kernel
  exact this ⟨n, hn⟩
theorem dec_no40 (n : Nat) (hn : n < 12) : (40 : UInt8) ∉ Lib.decDigits n := by
  have h1 := dec12 ⟨n, hn⟩
  simp only at h1
  rw [h1]
  have : ∀ n : Fin 12, (40 : UInt8) ∉ (if n.val < 10 then [UInt8.ofNat (48 + n.val)] else [49, UInt8.ofNat (38 + n.val)] : Byts) := by decide +kernel
  exact this ⟨n, hn⟩
theorem num_nobr {s : Byts} (h : Lib.indexByte s 40 = -1) : numP s = none := by
  cases hq : numP s with
  | none => rfl
  | some p =>
    obtain ⟨n, r⟩ := p
    obtain ⟨_, e⟩ := numP_some hq
    have := Lib.indexByte_none h (Lib.decDigits n).length
    rw [e] at this
    exact absurd (by simp) this
theorem idx_split {s : Byts} {k : Nat} (h : Lib.indexByte s 40 = (k : Int)) : k < s.length ∧ s = s.take k ++ [40] ++ s.drop (k + 1) := by
  obtain ⟨h1, _⟩ := Lib.indexByte_some h
  obtain ⟨hk, e⟩ := List.getElem?_eq_some_iff.1 h1
  refine ⟨hk, ?_⟩
  have := List.drop_eq_getElem_cons hk
  rw [e] at this
  rw [List.append_assoc, List.singleton_append, ← this, List.take_append_drop]
theorem num_pre {s r : Byts} {n k : Nat} (h : Lib.indexByte s 40 = (k : Int)) (hq : numP s = some (n, r)) : n < 12 ∧ s.take k = Lib.decDigits n ∧ s.drop (k + 1) = r := by
  obtain ⟨hn, e⟩ := numP_some hq
  obtain ⟨h1, h2⟩ := Lib.indexByte_some h
  have hlen : (Lib.decDigits n).length = k := by
    rcases Nat.lt_trichotomy k (Lib.decDigits n).length with hl | hl | hl
    · exfalso
      rw [e, List.append_assoc, List.getElem?_append_left hl] at h1
      exact dec_no40 n hn (List.mem_of_getElem? h1)
    · exact hl.symm
    · exfalso
      refine h2 _ hl ?_
      rw [e]; simp
  refine ⟨hn, ?_, ?_⟩
  · rw [e, List.append_assoc, ← hlen]; simp
  · rw [e, ← hlen]; simp
theorem num_yes {s : Byts} {n k : Nat} (h : Lib.indexByte s 40 = (k : Int)) (hn : n < 12) (hp : Lib.decDigits n = s.take k) : numP s = some (n, s.drop (k + 1)) := by
  have e := (idx_split h).2
  have := numP_app hn (s.drop (k + 1))
  rw [hp, ← e] at this
  exact this
theorem num_err {s : Byts} {k : Nat} (h : Lib.indexByte s 40 = (k : Int)) (ha : ∀ v, Lib.atoiAll (s.take k) ≠ .ok v) : numP s = none := by
  cases hq : numP s with
  | none => rfl
  | some p =>
    obtain ⟨n, r⟩ := p
    obtain ⟨hn, e, _⟩ := num_pre h hq
    exact absurd (by rw [e]; exact dec_atoi n hn) (ha (n : Int))
theorem num_out {s : Byts} {k : Nat} {v : Int} (h : Lib.indexByte s 40 = (k : Int)) (ha : Lib.atoiAll (s.take k) = .ok v) (hv : v < 0 ∨ 12 ≤ v) : numP s = none := by
  cases hq : numP s with
  | none => rfl
  | some p =>
    obtain ⟨n, r⟩ := p
    obtain ⟨hn, e, _⟩ := num_pre h hq
    rw [e, dec_atoi n hn] at ha
    cases ha; omega
theorem num_other {s : Byts} {k : Nat} {n : Nat} (h : Lib.indexByte s 40 = (k : Int)) (ha : Lib.atoiAll (s.take k) = .ok (n : Int)) (hv : Lib.decDigits n ≠ s.take k) : numP s = none := by
  cases hq : numP s with
  | none => rfl
  | some p =>
    obtain ⟨m, r⟩ := p
    obtain ⟨hm, e, _⟩ := num_pre h hq
    rw [e, dec_atoi m hm] at ha
    have : m = n := by cases ha; rfl
    subst this
    exact absurd e.symm hv
theorem num_len {s r : Byts} {n : Nat} (h : numP s = some (n, r)) : r.length + 2 ≤ s.length := by
  obtain ⟨hn, e⟩ := numP_some h
  have h1 : 1 ≤ (Lib.decDigits n).length := by
    obtain ⟨c, r', hc, _⟩ := dec_head ⟨n, hn⟩
    simp only at hc
    rw [hc]; simp
  rw [e]; simp; omega

/-! one node -/
section
variable {f : Nat} {s : Byts} {ns : List Cho}
theorem pn_x {r : Byts} (h : stripP [120] s = some r) : pnode (f + 1) s ns = some (r, ns ++ [⟨-1, 0, 0⟩]) := by unfold pnode; rw [h]
theorem pn_y {r : Byts} (h0 : stripP [120] s = none) (h : stripP [121] s = some r) : pnode (f + 1) s ns = some (r, ns ++ [⟨-2, 0, 0⟩]) := by unfold pnode; rw [h0, h]
theorem pn_0 (h0 : stripP [120] s = none) (h1 : stripP [121] s = none) (h : numP s = none) : pnode (f + 1) s ns = none := by unfold pnode; rw [h0, h1, h]
theorem pn_1 {n : Nat} {r : Byts} (h0 : stripP [120] s = none) (h1 : stripP [121] s = none) (h2 : numP s = some (n, r)) (h : pnode f r ns = none) : pnode (f + 1) s ns = none := by
  unfold pnode; rw [h0, h1, h2]; simp only; rw [h]
theorem pn_2 {n : Nat} {r r2 : Byts} {n2 : List Cho} (h0 : stripP [120] s = none) (h1 : stripP [121] s = none) (h2 : numP s = some (n, r)) (h3 : pnode f r ns = some (r2, n2)) (h : stripP [44, 32] r2 = none) : pnode (f + 1) s ns = none := by
  unfold pnode; rw [h0, h1, h2]; simp only; rw [h3]; simp only; rw [h]
theorem pn_3 {n : Nat} {r r2 r3 : Byts} {n2 : List Cho} (h0 : stripP [120] s = none) (h1 : stripP [121] s = none) (h2 : numP s = some (n, r)) (h3 : pnode f r ns = some (r2, n2)) (h4 : stripP [44, 32] r2 = some r3) (h : pnode f r3 n2 = none) : pnode (f + 1) s ns = none := by
  unfold pnode; rw [h0, h1, h2]; simp only; rw [h3]; simp only; rw [h4]; simp only; rw [h]
theorem pn_4 {n : Nat} {r r2 r3 r4 : Byts} {n2 n4 : List Cho} (h0 : stripP [120] s = none) (h1 : stripP [121] s = none) (h2 : numP s = some (n, r)) (h3 : pnode f r ns = some (r2, n2)) (h4 : stripP [44, 32] r2 = some r3) (h5 : pnode f r3 n2 = some (r4, n4)) (h : stripP [41] r4 = none) : pnode (f + 1) s ns = none := by
  unfold pnode; rw [h0, h1, h2]; simp only; rw [h3]; simp only; rw [h4]; simp only; rw [h5]; simp only; rw [h]
theorem pn_5 {n : Nat} {r r2 r3 r4 r5 : Byts} {n2 n4 : List Cho} (h0 : stripP [120] s = none) (h1 : stripP [121] s = none) (h2 : numP s = some (n, r)) (h3 : pnode f r ns = some (r2, n2)) (h4 : stripP [44, 32] r2 = some r3) (h5 : pnode f r3 n2 = some (r4, n4)) (h : stripP [41] r4 = some r5) :
    pnode (f + 1) s ns = some (r5, n4 ++ [⟨n, ((n2.length - 1 : Nat) : Int), ((n4.length - 1 : Nat) : Int)⟩]) := by
  unfold pnode; rw [h0, h1, h2]; simp only; rw [h3]; simp only; rw [h4]; simp only; rw [h5]; simp only; rw [h]
end
theorem pn_len : ∀ (f : Nat) (s : Byts) (ns : List Cho) (r : Byts) (n2 : List Cho), pnode f s ns = some (r, n2) → r.length < s.length ∧ n2.length + r.length ≤ ns.length + s.length ∧ 1 ≤ n2.length := by
  intro f
  induction f with
  | zero => intro s ns r n2 h; cases h
  | succ f ih =>
    intro s ns r n2 h
    cases h0 : stripP [120] s with
    | some r0 =>
      rw [pn_x h0] at h
      cases h
      have := strip_len h0
      simp at this ⊢; omega
    | none =>
      cases h1 : stripP [121] s with
      | some r0 =>
        rw [pn_y h0 h1] at h
        cases h
        have := strip_len h1
        simp at this ⊢; omega
      | none =>
        cases h2 : numP s with
        | none => rw [pn_0 h0 h1 h2] at h; cases h
        | some p =>
          obtain ⟨n, r1⟩ := p
          have l2 := num_len h2
          cases h3 : pnode f r1 ns with
          | none => rw [pn_1 h0 h1 h2 h3] at h; cases h
          | some p =>
            obtain ⟨r2, n2'⟩ := p
            have l3 := ih _ _ _ _ h3
            cases h4 : stripP [44, 32] r2 with
            | none => rw [pn_2 h0 h1 h2 h3 h4] at h; cases h
            | some r3 =>
              have l4 := strip_len h4
              cases h5 : pnode f r3 n2' with
              | none => rw [pn_3 h0 h1 h2 h3 h4 h5] at h; cases h
              | some p =>
                obtain ⟨r4, n4⟩ := p
                have l5 := ih _ _ _ _ h5
                cases h6 : stripP [41] r4 with
                | none => rw [pn_4 h0 h1 h2 h3 h4 h5 h6] at h; cases h
                | some r5 =>
                  have l6 := strip_len h6
                  rw [pn_5 h0 h1 h2 h3 h4 h5 h6] at h
                  cases h
                  simp at l4 l6 ⊢; omega

/-! bytes -/
theorem bs_ext {a b : ByteArray} (h : a.toList = b.toList) : a = b := by
  rw [ByteArray.toList_eq, ByteArray.toList_eq] at h
  exact ByteArray.ext (Array.toList_inj.1 h)
theorem bs_same (a : ByteArray) : (a.toList == a.toList) = true := by simp
theorem bs_diff {a b : ByteArray} (h : a ≠ b) : (a.toList == b.toList) = false := by
  rw [beq_eq_false_iff_ne]; exact fun e => h (bs_ext e)
def mkB (l : Byts) : ByteArray := ⟨l.toArray⟩
theorem mkB_list (l : Byts) : (mkB l).data.toList = l := rfl
theorem mkB_size (l : Byts) : (mkB l).size = l.length := by show l.toArray.size = _; simp
theorem mkB_of (s : ByteArray) : mkB s.data.toList = s := rfl
theorem mkB_extract (l : Byts) (a b : Nat) : (mkB l).extract a b = mkB ((l.drop a).take (b - a)) := by
  have h : ((mkB l).extract a b).data = (mkB ((l.drop a).take (b - a))).data := by
    rw [ByteArray.data_extract]
    unfold mkB
    simp [List.extract_eq_take_drop, List.take_drop]
  exact congrArg ByteArray.mk h
end Go.Proofs.YtflpkkebampmfaaDoor
namespace Go.Proofs
open Go.Shelf

def Tryd.lays137_ren : Go.Shelf.Ren := ⟨fun | 137 => 63 | 217 => 75 | 266 => 91 | n => n, fun | 9 => 9 | 5 => 5 | 3 => 3 | n => n, fun | n => n⟩

theorem Tryd.lays137 : Go.Proofs.Lays.n137 Tryd.prog Tryd.lays137_ren := {
  mixed := by kernel_rfl
  f137 := Tryd.func63.trans (congrArg some (by kernel_rfl))
  f217 := Tryd.func75.trans (congrArg some (by kernel_rfl))
  f266 := Tryd.func91.trans (congrArg some (by kernel_rfl))
  t3 := Tryd.underlying3
  a3 := Tryd.isAgg3
  z3 := Tryd.sizeOf3
  v3 := Tryd.zeroValue3
  t5 := Tryd.underlying5
  a5 := Tryd.isAgg5
  z5 := Tryd.sizeOf5
  v5 := Tryd.zeroValue5
  t9 := Tryd.underlying9
  a9 := Tryd.isAgg9
  z9 := Tryd.sizeOf9
  v9 := Tryd.zeroValue9 }

open Go.RowKit in
theorem Tryd.strings_IndexByte (s : ByteArray) (c : Int) (w : World) :
    Calls Tryd.prog 63 #[.string s, .int .u8 c] w fun e w' => e = .returned (.int .i64 (Lib.indexByte s.data.toList c.toNat.toUInt8)) ∧ w' = w := Any.strings_IndexByte Tryd.lays137 s c w

def Tryd.lays103_ren : Go.Shelf.Ren := ⟨fun | 103 => 74 | 210 => 90 | 206 => 109 | n => n, fun | 9 => 9 | 4 => 4 | 24 => 117 | 3 => 3 | n => n, fun | n => n⟩

theorem Tryd.lays103 : Go.Proofs.Lays.n103 Tryd.prog Tryd.lays103_ren := {
  mixed := by kernel_rfl
  f103 := Tryd.func74.trans (congrArg some (by kernel_rfl))
  f206 := Tryd.func109.trans (congrArg some (by kernel_rfl))
  f210 := Tryd.func90.trans (congrArg some (by kernel_rfl))
  t3 := Tryd.underlying3
  a3 := Tryd.isAgg3
  z3 := Tryd.sizeOf3
  v3 := Tryd.zeroValue3
  t4 := Tryd.underlying4
  a4 := Tryd.isAgg4
  z4 := Tryd.sizeOf4
  v4 := Tryd.zeroValue4
  t9 := Tryd.underlying9
  a9 := Tryd.isAgg9
  z9 := Tryd.sizeOf9
  v9 := Tryd.zeroValue9
  t24 := Tryd.underlying117
  a24 := Tryd.isAgg117
  z24 := Tryd.sizeOf117
  v24 := Tryd.zeroValue117 }

open Go.RowKit in
theorem Tryd.strings_CutPrefix (s p : ByteArray) (w : World) :
    Calls Tryd.prog 74 #[.string s, .string p] w fun e w' => e = .returned (.tuple #[.string ⟨(Lib.trimPrefix s.data.toList p.data.toList).toArray⟩, .bool (Lib.hasPrefix s.data.toList p.data.toList)]) ∧ w' = w := Any.strings_CutPrefix Tryd.lays103 s p w

def Tryd.lays171_ren : Go.Shelf.Ren := ⟨fun | 171 => 55 | 243 => 71 | 246 => 85 | 283 => 104 | 284 => 105 | 285 => 106 | 286 => 107 | 129 => 117 | 317 => 116 | 318 => 118 | 319 => 119 | 320 => 120 | 337 => 123 | 338 => 124 | n => n, fun | 3 => 3 | 9 => 9 | 2 => 2 | 4 => 4 | 171 => 141 | 0 => 0 | 53 => 142 | 37 => 83 | 5 => 5 | 173 => 145 | 212 => 158 | 51 => 116 | 20 => 20 | 213 => 159 | 46 => 112 | 232 => 115 | 233 => 166 | n => n, fun | 17 => 4 | 18 => 0 | 19 => 5 | n => n⟩

theorem Tryd.lays171 : Go.Proofs.Lays.n171 Tryd.prog Tryd.lays171_ren := {
  mixed := by kernel_rfl
  f129 := Tryd.func117.trans (congrArg some (by kernel_rfl))
  f171 := Tryd.func55.trans (congrArg some (by kernel_rfl))
  f243 := Tryd.func71.trans (congrArg some (by kernel_rfl))
  f246 := Tryd.func85.trans (congrArg some (by kernel_rfl))
  f283 := Tryd.func104.trans (congrArg some (by kernel_rfl))
  f284 := Tryd.func105.trans (congrArg some (by kernel_rfl))
  f285 := Tryd.func106.trans (congrArg some (by kernel_rfl))
  f286 := Tryd.func107.trans (congrArg some (by kernel_rfl))
  f317 := Tryd.func116.trans (congrArg some (by kernel_rfl))
  f318 := Tryd.func118.trans (congrArg some (by kernel_rfl))
  f319 := Tryd.func119.trans (congrArg some (by kernel_rfl))
  f320 := Tryd.func120.trans (congrArg some (by kernel_rfl))
  f337 := Tryd.func123.trans (congrArg some (by kernel_rfl))
  f338 := Tryd.func124.trans (congrArg some (by kernel_rfl))
  t0 := Tryd.underlying0
  a0 := Tryd.isAgg0
  z0 := Tryd.sizeOf0
  v0 := Tryd.zeroValue0
  t2 := Tryd.underlying2
  a2 := Tryd.isAgg2
  z2 := Tryd.sizeOf2
  v2 := Tryd.zeroValue2
  t3 := Tryd.underlying3
  a3 := Tryd.isAgg3
  z3 := Tryd.sizeOf3
  v3 := Tryd.zeroValue3
  t4 := Tryd.underlying4
  a4 := Tryd.isAgg4
  z4 := Tryd.sizeOf4
  v4 := Tryd.zeroValue4
  t5 := Tryd.underlying5
  a5 := Tryd.isAgg5
  z5 := Tryd.sizeOf5
  v5 := Tryd.zeroValue5
  t9 := Tryd.underlying9
  a9 := Tryd.isAgg9
  z9 := Tryd.sizeOf9
  v9 := Tryd.zeroValue9
  t20 := Tryd.underlying20
  a20 := Tryd.isAgg20
  z20 := Tryd.sizeOf20
  v20 := Tryd.zeroValue20
  t37 := Tryd.underlying83
  a37 := Tryd.isAgg83
  z37 := Tryd.sizeOf83
  v37 := Tryd.zeroValue83
  t46 := Tryd.underlying112
  a46 := Tryd.isAgg112
  z46 := Tryd.sizeOf112
  v46 := Tryd.zeroValue112
  t51 := Tryd.underlying116
  a51 := Tryd.isAgg116
  z51 := Tryd.sizeOf116
  v51 := Tryd.zeroValue116
  t53 := Tryd.underlying142
  a53 := Tryd.isAgg142
  z53 := Tryd.sizeOf142
  v53 := Tryd.zeroValue142
  t171 := Tryd.underlying141
  a171 := Tryd.isAgg141
  z171 := Tryd.sizeOf141
  v171 := Tryd.zeroValue141
  t173 := Tryd.underlying145
  a173 := Tryd.isAgg145
  z173 := Tryd.sizeOf145
  v173 := Tryd.zeroValue145
  t212 := Tryd.underlying158
  a212 := Tryd.isAgg158
  z212 := Tryd.sizeOf158
  v212 := Tryd.zeroValue158
  t213 := Tryd.underlying159
  a213 := Tryd.isAgg159
  z213 := Tryd.sizeOf159
  t232 := Tryd.underlying115
  a232 := Tryd.isAgg115
  z232 := Tryd.sizeOf115
  v232 := Tryd.zeroValue115
  t233 := Tryd.underlying166
  a233 := Tryd.isAgg166
  z233 := Tryd.sizeOf166
  v233 := Tryd.zeroValue166
  g17 := by kernel_rfl
  g18 := by kernel_rfl
  g19 := by kernel_rfl }

open Go.RowKit Go.Sort Go.Lib in
theorem Tryd.strconv_Itoa_small (i : Nat) (hi : i < 100) (w : World) :
    Calls Tryd.prog 55 #[.int .i64 i] w fun e w' => e = .returned (.string ⟨(Lib.decDigits i).toArray⟩) ∧ w' = w := Any.strconv_Itoa_small Tryd.lays171 i hi w

end Go.Proofs
namespace Go.Proofs.YtflpkkebampmfaaDoor
open Go.RowKit Go.Shelf

/-- a parser in memory -/
structure PN (w : World) (B : Nat) (s : Byts) (v : Value) (ns : List Cho) : Prop where
  blk : w.heap[B]? = some (.cells #[.string (mkB s), v] 77 (0, 0))
  row : w.ownsRow (B + 1) 39 3 v ns.length (ns.flatMap choC)
/-- what lies neither in the parser's block nor in its row is kept -/
structure KeepP (B : Nat) (v v' : Value) (w w' : World) : Prop where
  bel : Below B w w'
  blk : ∀ k, k < w.heap.size → k ≠ B → v.ownBlock ≠ some k → w'.heap[k]? = w.heap[k]?
  own : ∀ g, v'.ownBlock = some g → v.ownBlock = some g ∨ w.heap.size ≤ g
theorem KeepP.refl (B : Nat) (v : Value) (w : World) : KeepP B v v w w := ⟨Below.refl _ _, fun _ _ _ _ => rfl, fun _ h => .inl h⟩
theorem KeepP.trans {B : Nat} {v v' v'' : Value} {w w' w'' : World} (h : KeepP B v v' w w') (k : KeepP B v' v'' w' w'') : KeepP B v v'' w w'' := by
  refine ⟨h.bel.trans k.bel, fun j hj hB hv => ?_, fun g hg => ?_⟩
  · rw [k.blk j (Nat.lt_of_lt_of_le hj h.bel.size) hB (fun e => ?_), h.blk j hj hB hv]
    rcases h.own j e with h1 | h1
    · exact hv h1
    · omega
  · rcases k.own g hg with h1 | h1
    · exact h.own g h1
    · exact .inr (Nat.le_trans h.bel.size h1)
theorem KeepP.of_below {B : Nat} {v : Value} {w w' : World} (hB : B ≤ w.heap.size) (h : Below w.heap.size w w') : KeepP B v v w w' := ⟨h.mono hB, fun k hk _ _ => h.block k hk, fun _ hg => .inl hg⟩
theorem PN.below {w w' : World} {B : Nat} {s : Byts} {v : Value} {ns : List Cho} (h : PN w B s v ns) (hb : Below w.heap.size w w') : PN w' B s v ns := ⟨heap_below hb h.blk, rowK_below h.row hb⟩
theorem PN.lt {w : World} {B : Nat} {s : Byts} {v : Value} {ns : List Cho} (h : PN w B s v ns) : B < w.heap.size := (Array.getElem?_eq_some_iff.1 h.blk).1
/-- the text, set -/
theorem PN.put {w : World} {B : Nat} {s : Byts} {v : Value} {ns : List Cho} (h : PN w B s v ns) (s' : Byts) : PN (w.setCell ⟨B, 0, none⟩ (.string (mkB s'))) B s' v ns :=
  ⟨by rw [heap_set_at h.blk]; rfl, rowK_at h.row fun g hg => Below.heap_setCell _ _ _ _ (by have := (h.row.lt g hg).1; show g ≠ B; omega)⟩
theorem KeepP.put {B : Nat} {v : Value} (w : World) (i : Nat) (u : Value) : KeepP B v v w (w.setCell ⟨B, i, none⟩ u) :=
  ⟨(Below.refl _ _).setCell (p := ⟨B, i, none⟩) (Nat.le_refl _) _, fun k _ hB _ => Below.heap_setCell _ _ _ _ hB, fun _ h => .inl h⟩
theorem heap_keepP {B : Nat} {v v' : Value} {w w' : World} (h : KeepP B v v' w w') {k : Nat} {ob : Obj} (hk : w.heap[k]? = some ob) (hB : k ≠ B) (hv : v.ownBlock ≠ some k) : w'.heap[k]? = some ob :=
  (h.blk k (Array.getElem?_eq_some_iff.1 hk).1 hB hv).trans hk

set_option maxRecDepth 100000 in
set_option maxHeartbeats 1000000 in
theorem take_p (pre s : Byts) (B : Nat) (v : Value) (ns : List Cho) (w : World) (h : PN w B s v ns) :
    Calls Tryd.prog 62 #[.pointer (some ⟨B, 0, none⟩), .string (mkB pre)] w fun e w' => e = .returned (.bool (stripP pre s).isSome) ∧ PN w' B ((stripP pre s).getD s) v ns ∧ KeepP B v v w w' := by
  have HCP := Lib.hid (Tryd.strings_CutPrefix (mkB s) (mkB pre) w)
  have p0 := cell_of_row _ _ 0 _ _ _ h.blk
  have z0 := frozen_row h.blk 0
  have H := Lib.hid h
  clear h
  obtain ⟨b, s', hb, hs', hR⟩ : ∃ b s', Lib.hasPrefix s pre = b ∧ Lib.trimPrefix s pre = s' ∧ Hid ((stripP pre s).isSome = b ∧ (stripP pre s).getD s = s') := by
    cases hq : stripP pre s with
    | none => obtain ⟨h1, h2⟩ := strip_no hq; exact ⟨_, _, h1, h2, Lib.hid ⟨rfl, rfl⟩⟩
    | some r => obtain ⟨h1, h2⟩ := strip_yes hq; exact ⟨_, _, h1, h2, Lib.hid ⟨rfl, rfl⟩⟩
  rw [mkB_list, mkB_list, hb, hs'] at HCP
  rw [hR.out.1, hR.out.2]
  clear hb hs' hR
  go_enter Tryd.func62, Tryd.ntmps62
  go_wp2_with fail
  with_reducible refine HCP.out.mono ?_
  rintro e w1 ⟨rfl, rfl⟩
  go_wp2_with fail
  go_ret
  exact ⟨rfl, H.out.put s', KeepP.put _ _ _⟩
end Go.Proofs.YtflpkkebampmfaaDoor
namespace Go.Proofs
open Go.Shelf

def Tryd.laysC172_ren : Go.Shelf.Ren := ⟨fun | 172 => 64 | 244 => 76 | 245 => 77 | 247 => 92 | 279 => 93 | 280 => 94 | 281 => 95 | 282 => 96 | 287 => 110 | 316 => 111 | 171 => 55 | 205 => 112 | 321 => 121 | 322 => 122 | 243 => 71 | 246 => 85 | 283 => 104 | 284 => 105 | 285 => 106 | 286 => 107 | 129 => 117 | 317 => 116 | 318 => 118 | 319 => 119 | 320 => 120 | 337 => 123 | 338 => 124 | n => n, fun | 9 => 9 | 3 => 3 | 75 => 100 | 76 => 101 | 4 => 4 | 5 => 5 | 167 => 132 | 37 => 83 | 0 => 0 | 85 => 133 | 2 => 2 | 168 => 135 | 53 => 142 | 175 => 149 | 46 => 112 | 210 => 153 | 127 => 113 | 145 => 164 | 143 => 162 | 21 => 21 | 171 => 141 | 173 => 145 | 212 => 158 | 51 => 116 | 20 => 20 | 213 => 159 | 232 => 115 | 233 => 166 | 80 => 104 | n => n, fun | 15 => 2 | 16 => 3 | 17 => 4 | 18 => 0 | 19 => 5 | n => n⟩

theorem Tryd.laysC172 : Go.Proofs.LaysC.n172 Tryd.prog Tryd.laysC172_ren := {
  mixed := by kernel_rfl
  f129 := Tryd.func117.trans (congrArg some (by kernel_rfl))
  f171 := Tryd.func55.trans (congrArg some (by kernel_rfl))
  f172 := Tryd.func64.trans (congrArg some (by kernel_rfl))
  f205 := Tryd.func112.trans (congrArg some (by kernel_rfl))
  f243 := Tryd.func71.trans (congrArg some (by kernel_rfl))
  f244 := Tryd.func76.trans (congrArg some (by kernel_rfl))
  f245 := Tryd.func77.trans (congrArg some (by kernel_rfl))
  f246 := Tryd.func85.trans (congrArg some (by kernel_rfl))
  f247 := Tryd.func92.trans (congrArg some (by kernel_rfl))
  f279 := Tryd.func93.trans (congrArg some (by kernel_rfl))
  f280 := Tryd.func94.trans (congrArg some (by kernel_rfl))
  f281 := Tryd.func95.trans (congrArg some (by kernel_rfl))
  f282 := Tryd.func96.trans (congrArg some (by kernel_rfl))
  f283 := Tryd.func104.trans (congrArg some (by kernel_rfl))
  f284 := Tryd.func105.trans (congrArg some (by kernel_rfl))
  f285 := Tryd.func106.trans (congrArg some (by kernel_rfl))
  f286 := Tryd.func107.trans (congrArg some (by kernel_rfl))
  f287 := Tryd.func110.trans (congrArg some (by kernel_rfl))
  f316 := Tryd.func111.trans (congrArg some (by kernel_rfl))
  f317 := Tryd.func116.trans (congrArg some (by kernel_rfl))
  f318 := Tryd.func118.trans (congrArg some (by kernel_rfl))
  f319 := Tryd.func119.trans (congrArg some (by kernel_rfl))
  f320 := Tryd.func120.trans (congrArg some (by kernel_rfl))
  f321 := Tryd.func121.trans (congrArg some (by kernel_rfl))
  f322 := Tryd.func122.trans (congrArg some (by kernel_rfl))
  f337 := Tryd.func123.trans (congrArg some (by kernel_rfl))
  f338 := Tryd.func124.trans (congrArg some (by kernel_rfl))
  t0 := Tryd.underlying0
  a0 := Tryd.isAgg0
  z0 := Tryd.sizeOf0
  v0 := Tryd.zeroValue0
  t2 := Tryd.underlying2
  a2 := Tryd.isAgg2
  z2 := Tryd.sizeOf2
  v2 := Tryd.zeroValue2
  t3 := Tryd.underlying3
  a3 := Tryd.isAgg3
  z3 := Tryd.sizeOf3
  v3 := Tryd.zeroValue3
  t4 := Tryd.underlying4
  a4 := Tryd.isAgg4
  z4 := Tryd.sizeOf4
  v4 := Tryd.zeroValue4
  t5 := Tryd.underlying5
  a5 := Tryd.isAgg5
  z5 := Tryd.sizeOf5
  v5 := Tryd.zeroValue5
  t9 := Tryd.underlying9
  a9 := Tryd.isAgg9
  z9 := Tryd.sizeOf9
  v9 := Tryd.zeroValue9
  t20 := Tryd.underlying20
  a20 := Tryd.isAgg20
  z20 := Tryd.sizeOf20
  v20 := Tryd.zeroValue20
  t21 := Tryd.underlying21
  a21 := Tryd.isAgg21
  z21 := Tryd.sizeOf21
  v21 := Tryd.zeroValue21
  t37 := Tryd.underlying83
  a37 := Tryd.isAgg83
  z37 := Tryd.sizeOf83
  v37 := Tryd.zeroValue83
  t46 := Tryd.underlying112
  a46 := Tryd.isAgg112
  z46 := Tryd.sizeOf112
  v46 := Tryd.zeroValue112
  t51 := Tryd.underlying116
  a51 := Tryd.isAgg116
  z51 := Tryd.sizeOf116
  v51 := Tryd.zeroValue116
  t53 := Tryd.underlying142
  a53 := Tryd.isAgg142
  z53 := Tryd.sizeOf142
  v53 := Tryd.zeroValue142
  t75 := Tryd.underlying100
  a75 := Tryd.isAgg100
  z75 := Tryd.sizeOf100
  v75 := Tryd.zeroValue100
  t76 := Tryd.underlying101
  a76 := Tryd.isAgg101
  z76 := Tryd.sizeOf101
  v76 := Tryd.zeroValue101
  t85 := Tryd.underlying133
  a85 := Tryd.isAgg133
  z85 := Tryd.sizeOf133
  v85 := Tryd.zeroValue133
  t127 := Tryd.underlying113
  a127 := Tryd.isAgg113
  z127 := Tryd.sizeOf113
  v127 := Tryd.zeroValue113
  t143 := Tryd.underlying162
  a143 := Tryd.isAgg162
  z143 := Tryd.sizeOf162
  v143 := Tryd.zeroValue162
  t145 := Tryd.underlying164
  a145 := Tryd.isAgg164
  z145 := Tryd.sizeOf164
  v145 := Tryd.zeroValue164
  t167 := Tryd.underlying132
  a167 := Tryd.isAgg132
  z167 := Tryd.sizeOf132
  v167 := Tryd.zeroValue132
  t168 := Tryd.underlying135
  a168 := Tryd.isAgg135
  z168 := Tryd.sizeOf135
  v168 := Tryd.zeroValue135
  t171 := Tryd.underlying141
  a171 := Tryd.isAgg141
  z171 := Tryd.sizeOf141
  v171 := Tryd.zeroValue141
  t173 := Tryd.underlying145
  a173 := Tryd.isAgg145
  z173 := Tryd.sizeOf145
  v173 := Tryd.zeroValue145
  t175 := Tryd.underlying149
  a175 := Tryd.isAgg149
  z175 := Tryd.sizeOf149
  v175 := Tryd.zeroValue149
  t210 := Tryd.underlying153
  a210 := Tryd.isAgg153
  z210 := Tryd.sizeOf153
  v210 := Tryd.zeroValue153
  t212 := Tryd.underlying158
  a212 := Tryd.isAgg158
  z212 := Tryd.sizeOf158
  v212 := Tryd.zeroValue158
  t213 := Tryd.underlying159
  a213 := Tryd.isAgg159
  z213 := Tryd.sizeOf159
  t232 := Tryd.underlying115
  a232 := Tryd.isAgg115
  z232 := Tryd.sizeOf115
  v232 := Tryd.zeroValue115
  t233 := Tryd.underlying166
  a233 := Tryd.isAgg166
  z233 := Tryd.sizeOf166
  v233 := Tryd.zeroValue166
  g15 := by kernel_rfl
  g16 := by kernel_rfl
  g17 := by kernel_rfl
  g18 := by kernel_rfl
  g19 := by kernel_rfl
  t80 := Tryd.underlying104
  a80 := Tryd.isAgg104
  z80 := Tryd.sizeOf104
  v80 := Tryd.zeroValue104
  i0 := by kernel_rfl
  i2 := by kernel_rfl
  i3 := by kernel_rfl
  i4 := by kernel_rfl
  i5 := by kernel_rfl
  i9 := by kernel_rfl
  i20 := by kernel_rfl
  i21 := by kernel_rfl
  i37 := by kernel_rfl
  i46 := by kernel_rfl
  i51 := by kernel_rfl
  i53 := by kernel_rfl
  i75 := by kernel_rfl
  i76 := by kernel_rfl
  i80 := by kernel_rfl
  i85 := by kernel_rfl
  i127 := by kernel_rfl
  i143 := by kernel_rfl
  i145 := by kernel_rfl
  i167 := by kernel_rfl
  i168 := by kernel_rfl
  i171 := by kernel_rfl
  i173 := by kernel_rfl
  i175 := by kernel_rfl
  i210 := by kernel_rfl
  i212 := by kernel_rfl
  i232 := by kernel_rfl
  i233 := by kernel_rfl
  m15 := by kernel_rfl
  m16 := by kernel_rfl
  m17 := by kernel_rfl
  m18 := by kernel_rfl
  m19 := by kernel_rfl
  c0 := by kernel_rfl
  c2 := by kernel_rfl
  c3 := by kernel_rfl
  c4 := by kernel_rfl
  c5 := by kernel_rfl
  c9 := by kernel_rfl
  c20 := by kernel_rfl
  c21 := by kernel_rfl
  c37 := by kernel_rfl
  c46 := by kernel_rfl
  c51 := by kernel_rfl
  c53 := by kernel_rfl
  c75 := by kernel_rfl
  c76 := by kernel_rfl
  c80 := by kernel_rfl
  c85 := by kernel_rfl
  c127 := by kernel_rfl
  c143 := by kernel_rfl
  c145 := by kernel_rfl
  c167 := by kernel_rfl
  c168 := by kernel_rfl
  c171 := by kernel_rfl
  c173 := by kernel_rfl
  c175 := by kernel_rfl
  c210 := by kernel_rfl
  c212 := by kernel_rfl
  c213 := by kernel_rfl
  c232 := by kernel_rfl
  c233 := by kernel_rfl }

open Go.RowKit in
theorem Tryd.strconv_Atoi_ok (s : ByteArray) (hmax : s.size ≤ 9223372036854775806) (v : Int) (h : Lib.atoiAll s.data.toList = .ok v) (w : World) :
    Calls Tryd.prog 64 #[.string s] w fun e w' => e = .returned (.tuple #[.int .i64 v, .nilIface]) ∧ (w' = w ∨ ∃ t, w' = Lib.bytesWorld w 5 t) := Any.strconv_Atoi_ok Tryd.laysC172 s hmax v h w

open Go.RowKit in
theorem Tryd.strconv_Atoi_syntax (s : ByteArray) (hlim : s.size ≤ 281474976710656) (h : Lib.atoiAll s.data.toList = .«syntax») (ev : Value) (w : World) (hv : w.cell? ⟨2, 0, none⟩ = some ev) (hev : ev = .nilIface ∨ ∃ te pe, ev = .iface te pe) :
    Calls Tryd.prog 64 #[.string s] w fun e w' => ∃ N, e = .returned (.tuple #[.int .i64 (0), .iface 135 (.pointer (some ⟨N, 0, none⟩))]) ∧ w.heap.size ≤ N ∧ w'.heap[N]? = some (.cells #[.string ⟨#[65, 116, 111, 105]⟩, .string s, ev] 153 (0, 0)) ∧ Below w.heap.size w w' := Any.strconv_Atoi_syntax Tryd.laysC172 s hlim h ev w hv hev

open Go.RowKit in
theorem Tryd.strconv_Atoi_range (s : ByteArray) (hlim : s.size ≤ 281474976710656) (h : Lib.atoiAll s.data.toList = .range) (ev : Value) (w : World) (hv : w.cell? ⟨3, 0, none⟩ = some ev) (hev : ev = .nilIface ∨ ∃ te pe, ev = .iface te pe) :
    Calls Tryd.prog 64 #[.string s] w fun e w' => ∃ N, e = .returned (.tuple #[.int .i64 (Lib.atoiSat s.data.toList), .iface 135 (.pointer (some ⟨N, 0, none⟩))]) ∧ w.heap.size ≤ N ∧ w'.heap[N]? = some (.cells #[.string ⟨#[65, 116, 111, 105]⟩, .string s, ev] 153 (0, 0)) ∧ Below w.heap.size w w' := Any.strconv_Atoi_range Tryd.laysC172 s hlim h ev w hv hev

end Go.Proofs
namespace Go.Proofs.YtflpkkebampmfaaDoor
open Go.RowKit Go.Shelf

/-- what strconv's two errors read as: some interface values -/
def HasRng (w : World) : Prop := ∃ ev, w.cell? ⟨3, 0, none⟩ = some ev ∧ (ev = .nilIface ∨ ∃ te pe, ev = .iface te pe)
theorem HasRng.below {w w' : World} (h : HasRng w) (hb : Below w.heap.size w w') : HasRng w' := by
  obtain ⟨ev, h1, h2⟩ := h
  exact ⟨ev, (hb.cell (p := ⟨3, 0, none⟩) (cell_lt h1)).trans h1, h2⟩
def HasSyn (w : World) : Prop := ∃ ev, w.cell? ⟨2, 0, none⟩ = some ev ∧ (ev = .nilIface ∨ ∃ te pe, ev = .iface te pe)
theorem HasSyn.below {w w' : World} (h : HasSyn w) (hb : Below w.heap.size w w') : HasSyn w' := by
  obtain ⟨ev, h1, h2⟩ := h
  exact ⟨ev, (hb.cell (p := ⟨2, 0, none⟩) (cell_lt h1)).trans h1, h2⟩

theorem KeepP.app {B : Nat} {w2 wA : World} {ob : Obj} {av : Option Addr} {n cv gg n' cap : Nat} {xs : List Value} (hB : B < w2.heap.size) (hg : (w2.alloc ob).drew.grownBy wA (Value.slice av n cv).ownBlock) (hown : w2.ownsRow (B + 1) 39 3 (.slice av n cv) n xs) (hat : (Value.slice av n cv).ownBlock = some gg ∨ gg = w2.heap.size + 1) (u : Value) :
    KeepP B (.slice av n cv) (.slice (some ⟨gg, 0, none⟩) n' cap) w2 (wA.setCell ⟨B, 1, none⟩ u) := by
  refine ⟨?_, fun k hk hkB hv => ?_, fun g hgg => ?_⟩
  · have hb2 := (below_drew ((Below.refl B w2).alloc (Nat.le_of_lt hB) ob)).grown hg (by show B ≤ (w2.alloc ob).heap.size; simp; omega) (fun k hk => by have := (hown.lt k hk).1; omega)
    exact hb2.setCell (p := ⟨B, 1, none⟩) (Nat.le_refl _) _
  · rw [Below.heap_setCell _ _ _ _ hkB, hg.block k (by show k < (w2.alloc ob).heap.size; simp; omega) (fun e => hv e.symm)]
    exact Below.heap_alloc w2 _ k hk
  · have : gg = g := by simpa [Value.ownBlock] using hgg
    subst this
    rcases hat with h | h
    · exact .inl h
    · exact .inr (by omega)

/-- what a node leaves -/
def Read (f : Nat) (s : Byts) (ns : List Cho) (B : Nat) (v : Value) (W : World) (e : Ending) (w' : World) : Prop :=
  ∃ s' v' ns', KeepP B v v' W w' ∧ PN w' B s' v' ns' ∧ ((pnode f s ns = some (s', ns') ∧ e = .returned (.tuple #[.int .i64 ((ns'.length - 1 : Nat) : Int), .bool true])) ∨ (pnode f s ns = none ∧ e = .returned (.tuple #[.int .i64 0, .bool false])))

set_option maxRecDepth 100000 in
set_option maxHeartbeats 4000000 in
theorem node_x (f : Nat) (s r : Byts) (ns : List Cho) (B : Nat) (v : Value) (W : World) (hl : ns.length ≤ 100000) (h : PN W B s v ns) (hx : stripP [120] s = some r) :
    Calls Tryd.prog 40 #[.pointer (some ⟨B, 0, none⟩)] W fun e w' => Read (f + 1) s ns B v W e w' := by
  have HR := Lib.hid (pn_x hx |> fun (e : pnode (f + 1) s ns = some (r, ns ++ [⟨(-1), 0, 0⟩])) => e)
  obtain ⟨av, cv, rfl, _⟩ := rdK_of_row h.row
  obtain ⟨W1, hW1⟩ : ∃ W1, W1 = W.alloc (.cells #[.int .i64 (-1), .int .i64 0, .int .i64 0] 39) := ⟨_, rfl⟩
  have hb1 : Below W.heap.size W W1 := by rw [hW1]; exact (Below.refl _ W).alloc (Nat.le_refl _) _
  have hp1 := h.below hb1
  have hBW := h.lt
  have hc1 : W1.heap[W.heap.size]? = some (.cells #[.int .i64 (-1), .int .i64 0, .int .i64 0] 39 (0, 0)) := by rw [hW1]; exact heap_alloc_new _ _
  have hown : (Value.slice av ns.length cv).ownBlock ≠ some W.heap.size := fun e => by have := (h.row.lt _ e).2; omega
  have HOWN := Lib.hid hown
  have HK1 := Lib.hid (KeepP.of_below (v := Value.slice av ns.length cv) (Nat.le_of_lt hBW) hb1)
  have HP1 := Lib.hid hp1
  have HC1 := Lib.hid hc1
  have HBW := Lib.hid hBW
  have HT1 : Hid (Calls Tryd.prog 62 #[.pointer (some ⟨B, 0, none⟩), .string ⟨#[120]⟩] W1 fun e w' => e = .returned (.bool true) ∧ PN w' B r (.slice av ns.length cv) ns ∧ KeepP B (.slice av ns.length cv) (.slice av ns.length cv) W1 w') := Lib.hid (by
    have := take_p [120] s B _ ns W1 hp1
    rw [hx] at this
    exact this)
  obtain ⟨i0, hi0, hz0, hz1, hz2⟩ := info_parts Tryd.infoCho
  clear h hx hb1 hp1 hc1 hown hBW
  go_enter Tryd.func40, Tryd.ntmps40
  go_wp2_with fail
  rw [← hW1]
  with_reducible refine HT1.out.mono ?_
  rintro e w2 ⟨rfl, hp2, hk2⟩
  have HC := Lib.hid (heap_keepP hk2 HC1.out (by have := HBW.out; omega) HOWN.out)
  have HP := Lib.hid hp2
  have HK := Lib.hid (HK1.out.trans hk2)
  clear hp2 hk2
  have p1 := cell_of_row _ _ 1 _ _ _ HP.out.blk
  have z1 := frozen_row HP.out.blk 1
  have a0 := cell_of_row _ _ 0 _ _ _ HC.out
  have a1 := cell_of_row _ _ 1 _ _ _ HC.out
  have a2 := cell_of_row _ _ 2 _ _ _ HC.out
  have p1b : (w2.alloc (Obj.cells #[.int .i64 (-1), .int .i64 0, .int .i64 0] 39)).cell? ⟨B, 1, none⟩ = some (.slice av ns.length cv) := cell_of_row _ _ 1 _ _ _ (heap_alloc_at HP.out.blk _)
  have hBs := HP.out.lt
  have KA : Hid (∀ x y : World, x.grownBy y (Value.slice av ns.length cv).ownBlock → x.heap[B]? = w2.heap[B]? → w2.heap.size ≤ x.heap.size → y.heap[B]? = some (.cells #[.string (mkB r), .slice av ns.length cv] 77 (0, 0))) := Lib.hid (fun x y hg hx hsx => by
    rw [hg.block B (by have := HP.out.lt; omega) (fun e => by have := (HP.out.row.lt B e.symm).1; omega), hx]
    exact HP.out.blk)
  go_wp2_with fail
  go_region_law (first
    | (refine step_append_lies _ (by rfl) _ _ _ (by rfl) (B + 1) 39 i0 _ 3 24 Tryd.underlying31 hi0 hz0 hz1 hz2 rfl (by omega) (.slice av ns.length cv) ns.length _ (by rfl) ((HP.out.row.alloc _).drew) ⟨w2.heap.size, 0, none⟩ 1 1 [.int .i64 (-1), .int .i64 0, .int .i64 0] (by rfl) (by rfl) (World.news_of_block (cs := #[.int .i64 (-1), .int .i64 0, .int .i64 0]) (t := 39) (fr := (0, 0)) (heap_alloc_new w2 _)) (by simp [Value.oneCell']) (by omega) (by unfold maxLen; omega) (by omega) (by simp; omega) (w2.heap.size + 1) (by simp) ?_; intro gg cap wA hownA hgrow hat hlt; have hA := KA.out _ _ hgrow (Below.heap_alloc w2 _ B (by omega)) (by simp); have pA := cell_of_row _ _ 1 _ _ _ hA; have zA := frozen_row hA 1; have HA := Lib.hid hA; have HOA := Lib.hid hownA; have HGA := Lib.hid hgrow; have HAT := Lib.hid hat; clear hA hownA hgrow hat))
  all_goals
    go_wp2_with fail
    go_ret2
    refine ⟨r, .slice (some ⟨gg, 0, none⟩) (ns.length + 1) cap, ns ++ [⟨(-1), 0, 0⟩], HK.out.trans (KeepP.app (by omega) HGA.out HP.out.row HAT.out _), ⟨?_, ?_⟩, .inl ⟨HR.out, ?_⟩⟩
    · rw [heap_set_at HA.out]; rfl
    · have hrow := HOA.out
      rw [show (ns ++ [(⟨(-1), 0, 0⟩ : Cho)]).length = ns.length + 1 by simp, show (ns ++ [(⟨(-1), 0, 0⟩ : Cho)]).flatMap choC = (ns).flatMap choC ++ [.int .i64 (-1), .int .i64 0, .int .i64 0] by rw [List.flatMap_append]; rfl]
      exact rowK_at hrow fun g hg => Below.heap_setCell _ _ _ _ (by have := (hrow.lt g hg).1; show g ≠ B; omega)
    · congr 1; simp

set_option maxRecDepth 100000 in
set_option maxHeartbeats 4000000 in
theorem node_y (f : Nat) (s r : Byts) (ns : List Cho) (B : Nat) (v : Value) (W : World) (hl : ns.length ≤ 100000) (h : PN W B s v ns) (h0 : stripP [120] s = none) (hx : stripP [121] s = some r) :
    Calls Tryd.prog 40 #[.pointer (some ⟨B, 0, none⟩)] W fun e w' => Read (f + 1) s ns B v W e w' := by
  have HR := Lib.hid (pn_y h0 hx |> fun (e : pnode (f + 1) s ns = some (r, ns ++ [⟨(-2), 0, 0⟩])) => e)
  obtain ⟨av, cv, rfl, _⟩ := rdK_of_row h.row
  obtain ⟨W1, hW1⟩ : ∃ W1, W1 = W.alloc (.cells #[.int .i64 (-1), .int .i64 0, .int .i64 0] 39) := ⟨_, rfl⟩
  have hb1 : Below W.heap.size W W1 := by rw [hW1]; exact (Below.refl _ W).alloc (Nat.le_refl _) _
  have hp1 := h.below hb1
  have hBW := h.lt
  have hc1 : W1.heap[W.heap.size]? = some (.cells #[.int .i64 (-1), .int .i64 0, .int .i64 0] 39 (0, 0)) := by rw [hW1]; exact heap_alloc_new _ _
  have hown : (Value.slice av ns.length cv).ownBlock ≠ some W.heap.size := fun e => by have := (h.row.lt _ e).2; omega
  have HOWN := Lib.hid hown
  have HK1 := Lib.hid (KeepP.of_below (v := Value.slice av ns.length cv) (Nat.le_of_lt hBW) hb1)
  have HP1 := Lib.hid hp1
  have HC1 := Lib.hid hc1
  have HBW := Lib.hid hBW
  have HT1 : Hid (Calls Tryd.prog 62 #[.pointer (some ⟨B, 0, none⟩), .string ⟨#[120]⟩] W1 fun e w' => e = .returned (.bool false) ∧ PN w' B s (.slice av ns.length cv) ns ∧ KeepP B (.slice av ns.length cv) (.slice av ns.length cv) W1 w') := Lib.hid (by
    have := take_p [120] s B _ ns W1 hp1
    rw [h0] at this
    exact this)
  obtain ⟨i0, hi0, hz0, hz1, hz2⟩ := info_parts Tryd.infoCho
  have HT2 : Hid (∀ u : World, PN u B s (.slice av ns.length cv) ns → Calls Tryd.prog 62 #[.pointer (some ⟨B, 0, none⟩), .string ⟨#[121]⟩] u fun e w' => e = .returned (.bool true) ∧ PN w' B r (.slice av ns.length cv) ns ∧ KeepP B (.slice av ns.length cv) (.slice av ns.length cv) u w') := Lib.hid (fun u hu => by
    have := take_p [121] s B _ ns u hu
    rw [hx] at this
    exact this)
  clear h hx h0 hb1 hp1 hc1 hown hBW
  go_enter Tryd.func40, Tryd.ntmps40
  go_wp2_with fail
  rw [← hW1]
  with_reducible refine HT1.out.mono ?_
  rintro e w2 ⟨rfl, hp2, hk2⟩
  have hc2 := heap_keepP hk2 HC1.out (by have := HBW.out; omega) HOWN.out
  have q0 := cell_of_row _ _ 0 _ _ _ hc2
  have q1 := frozen_row hc2 0
  have HP2 := Lib.hid hp2
  have HC2 := Lib.hid hc2
  have HK2 := Lib.hid (HK1.out.trans hk2)
  clear hp2 hk2 hc2
  go_wp2_with fail
  clear q0 q1
  obtain ⟨w3, hw3⟩ : ∃ w3, w2.setCell ⟨W.heap.size, 0, none⟩ (.int .i64 (-2)) = w3 := ⟨_, rfl⟩
  have hb3 : Below (B + 1) w2 w3 := by rw [← hw3]; exact (Below.refl _ _).setCell (p := ⟨W.heap.size, 0, none⟩) (by show B + 1 ≤ W.heap.size; exact HBW.out) _
  have hp3 : PN w3 B s (.slice av ns.length cv) ns := by
    rw [← hw3]
    exact ⟨heap_set_other (by have := HBW.out; omega) _ _ HP2.out.blk, rowK_at HP2.out.row fun g hg => Below.heap_setCell _ _ _ _ (by show g ≠ W.heap.size; exact fun e => HOWN.out (e ▸ hg))⟩
  have hc3 : w3.heap[W.heap.size]? = some (.cells #[.int .i64 (-2), .int .i64 0, .int .i64 0] 39 (0, 0)) := by rw [← hw3, heap_set_at HC2.out]; rfl
  have hk3 : KeepP B (.slice av ns.length cv) (.slice av ns.length cv) W w3 := by
    refine ⟨HK2.out.bel.trans (hb3.mono (by omega)), fun k hk hkB hv => ?_, fun g hg => .inl hg⟩
    rw [← hw3, Below.heap_setCell _ _ _ _ (by show k ≠ W.heap.size; omega)]
    exact HK2.out.blk k hk hkB hv
  have HT3 := Lib.hid (HT2.out w3 hp3)
  have HC3 := Lib.hid hc3
  have HK3 := Lib.hid hk3
  rw [hw3]
  clear hb3 hp3 hc3 hk3 hw3
  with_reducible refine HT3.out.mono ?_
  rintro e w4 ⟨rfl, hp4, hk4⟩
  have HC := Lib.hid (heap_keepP hk4 HC3.out (by have := HBW.out; omega) HOWN.out)
  have HP := Lib.hid hp4
  have HK := Lib.hid (HK3.out.trans hk4)
  clear hp4 hk4
  have p1 := cell_of_row _ _ 1 _ _ _ HP.out.blk
  have z1 := frozen_row HP.out.blk 1
  have a0 := cell_of_row _ _ 0 _ _ _ HC.out
  have a1 := cell_of_row _ _ 1 _ _ _ HC.out
  have a2 := cell_of_row _ _ 2 _ _ _ HC.out
  have p1b : (w4.alloc (Obj.cells #[.int .i64 (-2), .int .i64 0, .int .i64 0] 39)).cell? ⟨B, 1, none⟩ = some (.slice av ns.length cv) := cell_of_row _ _ 1 _ _ _ (heap_alloc_at HP.out.blk _)
  have hBs := HP.out.lt
  have KA : Hid (∀ x y : World, x.grownBy y (Value.slice av ns.length cv).ownBlock → x.heap[B]? = w4.heap[B]? → w4.heap.size ≤ x.heap.size → y.heap[B]? = some (.cells #[.string (mkB r), .slice av ns.length cv] 77 (0, 0))) := Lib.hid (fun x y hg hx hsx => by
    rw [hg.block B (by have := HP.out.lt; omega) (fun e => by have := (HP.out.row.lt B e.symm).1; omega), hx]
    exact HP.out.blk)
  go_wp2_with fail
  go_region_law (first
    | (refine step_append_lies _ (by rfl) _ _ _ (by rfl) (B + 1) 39 i0 _ 3 24 Tryd.underlying31 hi0 hz0 hz1 hz2 rfl (by omega) (.slice av ns.length cv) ns.length _ (by rfl) ((HP.out.row.alloc _).drew) ⟨w4.heap.size, 0, none⟩ 1 1 [.int .i64 (-2), .int .i64 0, .int .i64 0] (by rfl) (by rfl) (World.news_of_block (cs := #[.int .i64 (-2), .int .i64 0, .int .i64 0]) (t := 39) (fr := (0, 0)) (heap_alloc_new w4 _)) (by simp [Value.oneCell']) (by omega) (by unfold maxLen; omega) (by omega) (by simp; omega) (w4.heap.size + 1) (by simp) ?_; intro gg cap wA hownA hgrow hat hlt; have hA := KA.out _ _ hgrow (Below.heap_alloc w4 _ B (by omega)) (by simp); have pA := cell_of_row _ _ 1 _ _ _ hA; have zA := frozen_row hA 1; have HA := Lib.hid hA; have HOA := Lib.hid hownA; have HGA := Lib.hid hgrow; have HAT := Lib.hid hat; clear hA hownA hgrow hat))
  all_goals
    go_wp2_with fail
    go_ret2
    refine ⟨r, .slice (some ⟨gg, 0, none⟩) (ns.length + 1) cap, ns ++ [⟨(-2), 0, 0⟩], HK.out.trans (KeepP.app (by omega) HGA.out HP.out.row HAT.out _), ⟨?_, ?_⟩, .inl ⟨HR.out, ?_⟩⟩
    · rw [heap_set_at HA.out]; rfl
    · have hrow := HOA.out
      rw [show (ns ++ [(⟨(-2), 0, 0⟩ : Cho)]).length = ns.length + 1 by simp, show (ns ++ [(⟨(-2), 0, 0⟩ : Cho)]).flatMap choC = (ns).flatMap choC ++ [.int .i64 (-2), .int .i64 0, .int .i64 0] by rw [List.flatMap_append]; rfl]
      exact rowK_at hrow fun g hg => Below.heap_setCell _ _ _ _ (by have := (hrow.lt g hg).1; show g ≠ B; omega)
    · congr 1; simp
end Go.Proofs.YtflpkkebampmfaaDoor
