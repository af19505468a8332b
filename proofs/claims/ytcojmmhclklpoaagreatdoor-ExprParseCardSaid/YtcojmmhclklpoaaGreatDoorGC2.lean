/- Texts laid together. The reference's Subsets, Same; slices.Equal and Clone of ints. The subsets with k members, by numbers with k bits. Plain. The subsets of a set: how many, and which; the length of a family. Plain, no program. The expression of a description, plain. No program. Layer 10, plain: valid trees. No program. Layer 20, plain: decision trees, certificates. No program. Layer 20, plain: the search for a certificate. No program. Layer 20, plain: the texts of trees. No program. Layer 20, plain: reading a tree's text, step by step. No program. Layer 10, plain: texts of trees and their readers. No program. -/
import Derived.Test.YtcojmmhclklpoaaGreatDoorGC1
import Derived.Lib.ItoaNum
import Derived.Lib.AtoiAll
import Derived.Lib.IndexLaws
namespace Go.Proofs.YtcojmmhclklpoaaGreatDoor
open Go.RowKit

/-- all subsets up to k members, in order -/
def subsTo (x : BitVec 16) (K : Nat) : List (BitVec 16) := (List.range K).flatMap fun (k : Nat) => chooseS x (k : Int)
def subsS (x : BitVec 16) : List (BitVec 16) := subsTo x (cnt x + 1)
theorem subsTo_succ (x : BitVec 16) (K : Nat) : subsTo x (K + 1) = subsTo x K ++ chooseS x K := by
  simp [subsTo, List.range_succ]
theorem chooseS_le (x : BitVec 16) (k : Int) : (chooseS x k).length ≤ 70000 := Nat.le_trans (pickTo_le x k 65536) (by decide)
theorem subsTo_le (x : BitVec 16) (K : Nat) : (subsTo x K).length ≤ 70000 * K := by
  induction K with
  | zero => simp [subsTo]
  | succ K ih => rw [subsTo_succ, List.length_append]; have := chooseS_le x K; omega

set_option maxRecDepth 100000 in
set_option maxHeartbeats 2000000 in
theorem rsubsets_c (x : BitVec 16) (s : Int) (w : World) (hs : s = U x) :
    Calls Tryz.prog 46 #[.int .u16 s] w fun e w' => ∃ v, e = .returned v ∧ Own w w' 37 v ((subsS x).map setV) ∧ Below w.heap.size w w' := by
  subst hs
  have hcl := cnt_le x
  go_enter Tryz.func46, Tryz.ntmps46
  go_wp2_with fail
  go_loopw [3, 4] (fun v i wr => ∃ (k : Nat), k ≤ cnt x + 1 ∧ i = .int .i64 k ∧ wr.ownsRow w.heap.size 37 1 v (subsTo x k).length ((subsTo x k).map setV) ∧ Below w.heap.size w wr) (fun _ i _ => cnt x + 1 - (intOf i).toNat)
  case atStart => exact ⟨0, Nat.zero_le _, rfl, World.ownsRow_nil _ _ _ _, Below.refl _ _⟩
  case round =>
    obtain ⟨k, hk, rfl, hown, hb⟩ := hrel
    go_wp2_with fail
    refine (rcount_c x _ _ rfl).mono ?_
    rintro e w1 ⟨rfl, hb1⟩
    have hown1 := row_below hown hb1
    have hb2 := Below.next hb hb1
    clear hown hb hb1
    by_cases hlt : k ≤ cnt x
    · go_wp2_with fail
      refine (rchoose_c x _ k _ rfl).mono ?_
      rintro e w2 ⟨v2, rfl, hown2, hb3⟩
      obtain ⟨a2, c2, rfl, hrd⟩ := hown2.rdn (chooseS x k).length (by simp)
      have hown3 := row_below hown1 hb3
      have hb4 := Below.next hb2 hb3
      have hl1 := subsTo_le x k
      have hl2 := chooseS_le x k
      have hs := Lib.hid (subsTo_succ x k)
      clear hown1 hown2 hb2 hb3
      go_wp2_with (at_builtin; go_must (refine wpList_apps _ _ 26 2 (.int .u16 0) _ _ _ ((chooseS x k).map setV) Tryz.underlying26 Tryz.infoSet rfl hown3 hb4 (Nat.le_refl _) hrd (by intro u hu; obtain ⟨_, _, rfl⟩ := List.mem_map.1 hu; rfl) rfl rfl rfl rfl (by unfold maxLen; omega) (by omega) ?_))
      intro v' w4 hown5 hb5 _
      clear hown3 hb4 hrd
      go_wp2_with fail
      go_roundw
      case rel => exact ⟨k + 1, by omega, by go_num, by rw [hs.out, List.length_append, List.map_append]; exact hown5, hb5⟩
      case measure => simp [intOf]; omega
    · obtain rfl : k = cnt x + 1 := by omega
      go_wp2_with fail
      go_ret
      exact ⟨_, rfl, by unfold Own subsS; rw [List.length_map]; exact hown1, hb2⟩

/-- two lists of sets are the same -/
theorem same_take {α : Type} [DecidableEq α] {l m : List α} {k : Nat} (_hl : l.length = m.length) {x y : α} (hx : l[k]? = some x) (hy : m[k]? = some y) (ht : l.take k = m.take k) :
    (x = y → l.take (k + 1) = m.take (k + 1)) ∧ (x ≠ y → l ≠ m) := by
  refine ⟨fun e => ?_, fun e h => ?_⟩
  · rw [List.take_add_one, List.take_add_one, hx, hy, ht, e]
  · rw [h, hy] at hx; exact e (Option.some.inj hx).symm

end Go.Proofs.YtcojmmhclklpoaaGreatDoor
namespace Go.Proofs.YtcojmmhclklpoaaGreatDoor

/-- the numbers below N with k bits -/
def numsTo (k : Int) (N : Nat) : List Nat := (List.range N).filter fun n => (popR 32 n : Int) == k
theorem numsTo_sorted (k : Int) (N : Nat) : (numsTo k N).Pairwise (· < ·) := List.Pairwise.filter _ List.pairwise_lt_range

theorem popR_32 (x : BitVec 16) (n : Nat) (h : n < 2 ^ cnt x) : popR 32 n = popR (cnt x) n := by
  have hc := cnt_le x
  obtain ⟨M, hM⟩ : ∃ M, 32 = cnt x + M := ⟨32 - cnt x, by omega⟩
  rw [hM]; exact popR_pad M (cnt x) n h

theorem chooseS_dep (x : BitVec 16) (k : Int) : chooseS x k = (numsTo k (2 ^ cnt x)).map (dep (memS x)) := by
  have h16 := memS_16 x
  have hso := memS_sorted x
  refine ext_sorted (fun y => y.toNat) _ _ ?_ ?_ fun y => ?_
  · unfold chooseS pickTo
    rw [List.pairwise_map]
    refine List.Pairwise.imp_of_mem ?_ (List.Pairwise.filter _ (List.pairwise_lt_range (n := 65536)))
    intro a b ha hb hab
    have ha' := List.mem_range.1 (List.mem_filter.1 ha).1
    have hb' := List.mem_range.1 (List.mem_filter.1 hb).1
    simp only [BitVec.toNat_ofNat]
    rw [Nat.mod_eq_of_lt ha', Nat.mod_eq_of_lt hb']
    exact hab
  · rw [List.pairwise_map]
    refine List.Pairwise.imp_of_mem ?_ (numsTo_sorted k _)
    intro a b ha hb hab
    have hb' := List.mem_range.1 (List.mem_filter.1 hb).1
    exact dep_mono _ h16 hso a b hab hb'
  · constructor
    · intro hy
      obtain ⟨n, hn, rfl⟩ := List.mem_map.1 hy
      obtain ⟨hr, hp⟩ := List.mem_filter.1 hn
      unfold pickB at hp
      rw [Bool.and_eq_true] at hp
      have hsub := (sub_iff x _).1 hp.1
      have hinv := dep_inv x _ hsub
      have hlt := inv_lt (memS x) (BitVec.ofNat 16 n)
      refine List.mem_map.2 ⟨inv (memS x) (BitVec.ofNat 16 n), List.mem_filter.2 ⟨List.mem_range.2 hlt, ?_⟩, hinv⟩
      have hc := cnt_dep (memS x) h16 hso (inv (memS x) (BitVec.ofNat 16 n))
      rw [hinv] at hc
      rw [popR_32 x _ hlt]
      have e : popR (cnt x) (inv (memS x) (BitVec.ofNat 16 n)) = cnt (BitVec.ofNat 16 n) := hc.symm
      rw [e]; exact hp.2
    · intro hy
      obtain ⟨n, hn, rfl⟩ := List.mem_map.1 hy
      obtain ⟨hr, hp⟩ := List.mem_filter.1 hn
      have hlt := List.mem_range.1 hr
      refine List.mem_map.2 ⟨(dep (memS x) n).toNat, List.mem_filter.2 ⟨List.mem_range.2 (dep (memS x) n).isLt, ?_⟩, by simp⟩
      unfold pickB
      rw [BitVec.ofNat_toNat, BitVec.setWidth_eq, Bool.and_eq_true]
      refine ⟨(sub_iff x _).2 fun p hp => dep_sub x n p hp, ?_⟩
      have hc := cnt_dep (memS x) h16 hso n
      rw [hc]
      rw [popR_32 x n hlt] at hp
      exact hp

/-- where the loop stands: what has come up to n -/
theorem numsTo_next (k : Int) (n : BitVec 32) (h0 : n ≠ 0#32) (hlt : n.toNat < 2 ^ 16) (hk : (popR 32 n.toNat : Int) = k) :
    n.toNat < (nextV n).toNat ∧ (popR 32 (nextV n).toNat : Int) = k ∧ numsTo k (nextV n).toNat = numsTo k n.toNat ++ [n.toNat] := by
  obtain ⟨h1, h2, h3⟩ := next_spec n h0 hlt
  refine ⟨h1, by rw [h2]; exact hk, ?_⟩
  obtain ⟨d, hd⟩ : ∃ d, (nextV n).toNat = n.toNat + (1 + d) := ⟨(nextV n).toNat - n.toNat - 1, by omega⟩
  unfold numsTo
  rw [hd, List.range_add, List.filter_append, List.range_add, List.map_append, List.filter_append]
  congr 1
  have e1 : List.map (fun x => n.toNat + x) (List.range 1) = [n.toNat] := by simp [List.range_succ]
  rw [e1]
  have e2 : List.filter (fun n => (popR 32 n : Int) == k) [n.toNat] = [n.toNat] := by simp [hk]
  rw [e2]
  have e3 : List.filter (fun n => (popR 32 n : Int) == k) (List.map (fun x => n.toNat + x) (List.map (fun x => 1 + x) (List.range d))) = [] := by
    rw [List.filter_eq_nil_iff]
    intro a ha
    rw [List.map_map] at ha
    obtain ⟨t, ht, rfl⟩ := List.mem_map.1 ha
    have ht' := List.mem_range.1 ht
    simp only [Function.comp_def]
    have := h3 (n.toNat + (1 + t)) (by omega) (by omega)
    rw [beq_iff_eq]
    intro e
    apply this
    omega
  rw [e3, List.append_nil]
theorem numsTo_first (k : Nat) (hk : k ≤ 16) : (popR 32 (2 ^ k - 1) : Int) = k ∧ numsTo k (2 ^ k - 1) = [] := by
  obtain ⟨M, hM⟩ : ∃ M, 32 = k + M := ⟨32 - k, by omega⟩
  have hp : 0 < 2 ^ k := Nat.two_pow_pos k
  constructor
  · rw [hM, popR_pad M k _ (by omega), popR_ones]
  · unfold numsTo
    rw [List.filter_eq_nil_iff]
    intro a ha
    have ha' := List.mem_range.1 ha
    have h1 := popR_lt k a ha'
    rw [hM, popR_pad M k a (by omega), beq_iff_eq]
    omega
theorem numsTo_cut (k : Int) (N n : Nat) (h : N ≤ n) (hn : ∀ m, N ≤ m → m < n → (popR 32 m : Int) ≠ k) : numsTo k n = numsTo k N := by
  obtain ⟨d, rfl⟩ : ∃ d, n = N + d := ⟨n - N, by omega⟩
  unfold numsTo
  rw [List.range_add, List.filter_append]
  have e3 : List.filter (fun n => (popR 32 n : Int) == k) (List.map (fun x => N + x) (List.range d)) = [] := by
    rw [List.filter_eq_nil_iff]
    intro a ha
    obtain ⟨t, ht, rfl⟩ := List.mem_map.1 ha
    have ht' := List.mem_range.1 ht
    rw [beq_iff_eq]
    exact hn _ (by omega) (by omega)
  rw [e3, List.append_nil]
end Go.Proofs.YtcojmmhclklpoaaGreatDoor
namespace Go.Proofs.YtcojmmhclklpoaaGreatDoor

theorem popR_cntM (x : BitVec 16) (n : Nat) (h : n < 2 ^ cnt x) : popR 32 n < cnt x + 1 := by
  rw [popR_32 x n h]; have := popR_le (cnt x) n; omega
theorem sumM_zero (K a : Nat) (h : K ≤ a) : ((List.range K).map fun k => if a = k then 1 else 0).sum = 0 := by
  induction K with
  | zero => rfl
  | succ K ih => rw [List.range_succ, List.map_append, List.sum_append, ih (by omega)]; simp; omega
theorem sumM_one (K a : Nat) (h : a < K) : ((List.range K).map fun k => if a = k then 1 else 0).sum = 1 := by
  induction K with
  | zero => omega
  | succ K ih =>
    rw [List.range_succ, List.map_append, List.sum_append]
    by_cases e : a = K
    · subst e; rw [sumM_zero a a (Nat.le_refl _)]; simp
    · rw [ih (by omega)]; simp [e]
theorem sumM_add (l : List Nat) (f g : Nat → Nat) : (l.map fun k => f k + g k).sum = (l.map f).sum + (l.map g).sum := by
  induction l with
  | nil => rfl
  | cons a l ih => simp [ih]; omega
theorem sumM_parts (f : Nat → Nat) (K : Nat) : ∀ l : List Nat, (∀ n ∈ l, f n < K) → ((List.range K).map fun (k : Nat) => (l.filter fun n => (f n : Int) == (k : Int)).length).sum = l.length := by
  intro l
  induction l with
  | nil => intro _; simp [List.map_const']
  | cons a l ih =>
    intro h
    have e : ∀ k : Nat, ((a :: l).filter fun n => (f n : Int) == (k : Int)).length = (if f a = k then 1 else 0) + (l.filter fun n => (f n : Int) == (k : Int)).length := by
      intro k
      rw [List.filter_cons]
      by_cases h : f a = k
      · simp [h]; omega
      · have : ((f a : Int) == (k : Int)) = false := by simp; omega
        simp [h, this]
    simp only [e]
    rw [sumM_add, sumM_one K (f a) (h a (by simp)), ih (fun n hn => h n (by simp [hn]))]
    simp; omega
theorem subsM_dep (x : BitVec 16) : subsS x = (List.range (cnt x + 1)).flatMap fun (k : Nat) => (numsTo k (2 ^ cnt x)).map (dep (memS x)) := by
  unfold subsS subsTo
  simp only [chooseS_dep]
theorem subsM_len (x : BitVec 16) : (subsS x).length = 2 ^ cnt x := by
  rw [subsM_dep, List.length_flatMap]
  simp only [List.length_map, numsTo]
  rw [sumM_parts (popR 32) (cnt x + 1) (List.range (2 ^ cnt x)) (fun n hn => popR_cntM x n (List.mem_range.1 hn)), List.length_range]
/-- each part of a set is among its subsets -/
theorem mem_subs {x s : BitVec 16} (h : ∀ p, hasB s p = true → hasB x p = true) : s ∈ subsS x := by
  have hd := dep_inv x s h
  have hl := inv_lt (memS x) s
  rw [subsM_dep]
  refine List.mem_flatMap.2 ⟨popR 32 (inv (memS x) s), List.mem_range.2 (popR_cntM x _ hl), ?_⟩
  exact List.mem_map.2 ⟨_, List.mem_filter.2 ⟨List.mem_range.2 hl, by simp⟩, hd⟩
/-- and these alone -/
theorem subs_mem {x s : BitVec 16} (hs : s ∈ subsS x) : ∀ p, hasB s p = true → hasB x p = true := by
  rw [subsM_dep] at hs
  obtain ⟨k, _, h2⟩ := List.mem_flatMap.1 hs
  obtain ⟨n, _, rfl⟩ := List.mem_map.1 h2
  intro p hp
  exact mem_memS.1 (sel_mem _ _ _ ((hasB_dep (memS x) (memS_16 x) n p).1 hp))
theorem cnt_six {x : BitVec 16} (h : ∀ p, hasB x p = true → p < 6) : cnt x ≤ 6 := by
  unfold cnt memS
  rw [show List.range 16 = List.range 6 ++ [6, 7, 8, 9, 10, 11, 12, 13, 14, 15] from rfl, List.filter_append]
  have : List.filter (hasB x) [6, 7, 8, 9, 10, 11, 12, 13, 14, 15] = [] := by
    rw [List.filter_eq_nil_iff]
    intro p hp hc
    have h1 := h p hc
    simp at hp
    omega
  rw [this, List.append_nil]
  exact Nat.le_trans (List.length_filter_le _ _) (by simp)

theorem famStep_le (x : Xpr) (o : List (BitVec 16)) (s : BitVec 16) : (famStep x o s).length ≤ o.length + 1 := by
  unfold famStep
  split
  · omega
  · split
    · simp
    · omega
theorem famFold_le (x : Xpr) : ∀ (l o : List (BitVec 16)), (l.foldl (famStep x) o).length ≤ o.length + l.length := by
  intro l
  induction l with
  | nil => intro o; simp
  | cons s l ih =>
    intro o
    rw [List.foldl_cons, List.length_cons]
    have := ih (famStep x o s)
    have := famStep_le x o s
    omega
/-- the family of an expression, its error -/
def famS (x : Xpr) : List (BitVec 16) := famOf x (subsS (srvX x))
def famE (x : Xpr) : List (BitVec 16) × Int := if xprE x ≠ 0 then ([], xprE x) else if 400 < (famS x).length then ([], 3) else (famS x, 0)
theorem famS_holds {x : Xpr} (h : XprOk x) (s : BitVec 16) : accS (famS x) s = holdX x s := fam_holds h (fun _s hs => mem_subs hs) s
theorem famS_in {x : Xpr} {F : BitVec 16} (hF : F ∈ famS x) : ∀ i, hasB F i = true → hasB (srvX x) i = true := by
  rcases fam_only x _ [] F hF with h | h
  · cases h
  · exact subs_mem h.1
theorem famS_le (x : Xpr) : (famS x).length ≤ 2 ^ cnt (srvX x) := by
  have := famFold_le x (subsS (srvX x)) []
  rw [subsM_len, List.length_nil, Nat.zero_add] at this
  exact this
theorem famE_six {x : Xpr} (h : xprE x = 0) (h6 : ∀ p, hasB (srvX x) p = true → p < 6) : famE x = (famS x, 0) := by
  have h1 := famS_le x
  have h2 : 2 ^ cnt (srvX x) ≤ 2 ^ 6 := Nat.pow_le_pow_right (by decide) (cnt_six h6)
  unfold famE
  rw [if_neg (by simpa using h), if_neg (by omega)]
end Go.Proofs.YtcojmmhclklpoaaGreatDoor
namespace Go.Proofs.YtcojmmhclklpoaaGreatDoor

/-- a piece of a description -/
structure Pce where
  kind : Int
  server : Int
  need : Int
  heavy : Bool
  kids : List Int
def Pce.ok (p : Pce) : Prop := ((0 ≤ p.kind ∧ p.kind < 256) ∧ (0 ≤ p.server ∧ p.server < 256) ∧ (0 ≤ p.need ∧ p.need < 256)) ∧ ∀ z ∈ p.kids, 0 ≤ z ∧ z < 256
def pce0 : Pce := ⟨0, 0, 0, false, []⟩

/-- the sum of the weights of the first k kids -/
def sumTo (nd : Nod) : Nat → Int
  | 0 => 0
  | k + 1 => sumTo nd k + wgtN nd k
def sumN (nd : Nod) : Int := sumTo nd nd.kids.length
/-- the kids and weights of a piece at an index, of the first k -/
def mkdTo (p : Pce) (i k : Nat) : List Int := (p.kids.take k).map fun z => z % (i : Int)
def mwtTo (p : Pce) (k : Nat) : List Int := if p.heavy = true then (p.kids.take k).map fun z => 1 + z / 16 % 4 else []
def mk5 (p : Pce) : Nat := min p.kids.length 5
def madK (p : Pce) (i : Nat) : Nod := ⟨2, 0, 0, mwtTo p (mk5 p), mkdTo p i (mk5 p)⟩
def madN (p : Pce) (i : Nat) : Nod := if i = 0 ∨ p.kind % 3 = 0 then ⟨1, p.server % 6, 0, [], []⟩ else ⟨2, 0, p.need % (sumN (madK p i) + 2), mwtTo p (mk5 p), mkdTo p i (mk5 p)⟩
def madT (ps : List Pce) (k : Nat) : List Nod := (List.range k).map fun i => madN (ps.getD i pce0) i
def mad9 (ps : List Pce) : Nat := min ps.length 9
def srv0 : Nod := ⟨1, 0, 0, [], []⟩
def madX (ps : List Pce) : Xpr := if ps = [] then ⟨[srv0], 0⟩ else ⟨madT ps (mad9 ps), (mad9 ps : Int) - 1⟩

theorem mkdTo_succ {p : Pce} {i k : Nat} {z : Int} (h : p.kids[k]? = some z) : mkdTo p i (k + 1) = mkdTo p i k ++ [z % (i : Int)] := by
  unfold mkdTo; rw [List.take_add_one, h]; simp
theorem mwtTo_succ {p : Pce} {k : Nat} {z : Int} (h : p.kids[k]? = some z) (hh : p.heavy = true) : mwtTo p (k + 1) = mwtTo p k ++ [1 + z / 16 % 4] := by
  unfold mwtTo; rw [if_pos hh, if_pos hh, List.take_add_one, h]; simp
theorem mwtTo_light {p : Pce} (k : Nat) (hh : p.heavy = false) : mwtTo p k = [] := by unfold mwtTo; rw [if_neg (by rw [hh]; decide)]
theorem madT_succ (ps : List Pce) (k : Nat) : madT ps (k + 1) = madT ps k ++ [madN (ps.getD k pce0) k] := by
  unfold madT; rw [List.range_succ, List.map_append]; rfl
theorem madT_len (ps : List Pce) (k : Nat) : (madT ps k).length = k := by unfold madT; rw [List.length_map, List.length_range]
theorem mkdTo_len (p : Pce) (i k : Nat) (h : k ≤ p.kids.length) : (mkdTo p i k).length = k := by unfold mkdTo; rw [List.length_map, List.length_take]; omega
theorem madT_at {ps : List Pce} {k i : Nat} {nd : Nod} (h : (madT ps k)[i]? = some nd) : i < k ∧ nd = madN (ps.getD i pce0) i := by
  have h1 := (List.getElem?_eq_some_iff.1 h).1
  rw [madT_len] at h1
  unfold madT at h
  rw [List.getElem?_map, List.getElem?_range h1] at h
  simp at h
  exact ⟨h1, h.symm⟩
theorem sum_bd {nd : Nod} (h : ∀ w ∈ nd.weights, 1 ≤ w ∧ w ≤ 4) (hl : nd.weights = [] ∨ nd.weights.length = nd.kids.length) : ∀ k, k ≤ nd.kids.length → (k : Int) ≤ sumTo nd k ∧ sumTo nd k ≤ 4 * k := by
  intro k
  induction k with
  | zero => intro _; exact ⟨by simp [sumTo], by simp [sumTo]⟩
  | succ k ih =>
    intro hk
    have h1 := ih (by omega)
    have h2 : 1 ≤ wgtN nd k ∧ wgtN nd k ≤ 4 := by
      unfold wgtN
      split
      · omega
      · rename_i hw
        have hkl : k < nd.weights.length := by rcases hl with h3 | h3
                                               · exact absurd h3 hw
                                               · omega
        rw [List.getD_eq_getElem?_getD, List.getElem?_eq_getElem hkl]
        exact h _ (List.getElem_mem hkl)
    unfold sumTo
    omega
theorem mwt_rng (p : Pce) (hp : ∀ z ∈ p.kids, 0 ≤ z ∧ z < 256) (k : Nat) : ∀ w ∈ mwtTo p k, 1 ≤ w ∧ w ≤ 4 := by
  intro w hw
  unfold mwtTo at hw
  split at hw
  · obtain ⟨z, hz, rfl⟩ := List.mem_map.1 hw
    have := hp z (List.mem_of_mem_take hz)
    omega
  · cases hw
theorem mwt_len (p : Pce) (i : Nat) (k : Nat) : mwtTo p k = [] ∨ (mwtTo p k).length = (mkdTo p i k).length := by
  unfold mwtTo mkdTo
  split
  · right; rw [List.length_map, List.length_map]
  · left; rfl
theorem sum_madK (p : Pce) (hp : ∀ z ∈ p.kids, 0 ≤ z ∧ z < 256) (i : Nat) : 0 ≤ sumN (madK p i) ∧ sumN (madK p i) ≤ 20 := by
  have h := sum_bd (nd := madK p i) (mwt_rng p hp _) (mwt_len p i _) (madK p i).kids.length (Nat.le_refl _)
  have hl : (madK p i).kids.length = mk5 p := mkdTo_len p i _ (Nat.min_le_left _ _)
  have : mk5 p ≤ 5 := Nat.min_le_right _ _
  unfold sumN
  omega
theorem madN_ok (p : Pce) (hp : p.ok) (i : Nat) : nodE (madN p i) i = 0 := by
  obtain ⟨⟨h1, h2, h3⟩, h4⟩ := hp
  unfold madN
  by_cases hc : i = 0 ∨ p.kind % 3 = 0
  · rw [if_pos hc]
    have a1 : 0 ≤ p.server % 6 := Int.emod_nonneg _ (by decide)
    have a2 : p.server % 6 < 6 := Int.emod_lt_of_pos _ (by decide)
    unfold nodE
    simp
    omega
  · rw [if_neg hc]
    have hs := sum_madK p h4 i
    have a1 : 0 ≤ p.need % (sumN (madK p i) + 2) := Int.emod_nonneg _ (by omega)
    have a2 : p.need % (sumN (madK p i) + 2) < sumN (madK p i) + 2 := Int.emod_lt_of_pos _ (by omega)
    have hv : (mwtTo p (mk5 p)).any hvyB = false := by
      rw [List.any_eq_false]
      intro w hw
      have := mwt_rng p h4 _ w hw
      unfold hvyB
      simp; omega
    have hk : (mkdTo p i (mk5 p)).any (unkB i) = false := by
      rw [List.any_eq_false]
      intro w hw
      unfold mkdTo at hw
      obtain ⟨z, hz, rfl⟩ := List.mem_map.1 hw
      have b1 : 0 ≤ z % (i : Int) := Int.emod_nonneg _ (by omega)
      have b2 : z % (i : Int) < (i : Int) := Int.emod_lt_of_pos _ (by omega)
      unfold unkB
      simp; omega
    unfold nodE
    rw [if_neg (by simp), if_neg (by rw [hv]; simp; omega), if_neg ?_, if_neg (by rw [hk]; decide)]
    rintro ⟨c1, c2⟩
    rcases mwt_len p i (mk5 p) with h | h
    · exact c1 h
    · exact c2 h
theorem nodsE_zero : ∀ (l : List Nod) (i : Nat), (∀ (k : Nat) nd, l[k]? = some nd → nodE nd (i + k) = 0) → nodsE l i = 0 := by
  intro l
  induction l with
  | nil => intro i _; rfl
  | cons y l ih =>
    intro i h
    have h0 := h 0 y rfl
    unfold nodsE
    rw [if_neg (by simpa using h0)]
    exact ih (i + 1) fun k nd hk => by
      have := h (k + 1) nd (by simpa using hk)
      rw [show i + 1 + k = i + (k + 1) by omega]; exact this
theorem madX_ok {ps : List Pce} (h : ∀ p ∈ ps, p.ok) : xprE (madX ps) = 0 ∧ (madX ps).nodes.length ≤ 9 ∧ ∀ q, hasB (srvX (madX ps)) q = true → q < 6 := by
  unfold madX
  by_cases h0 : ps = []
  · rw [if_pos h0]
    refine ⟨by decide, by simp, fun q hq => ?_⟩
    have e : srvX ⟨[srv0], 0⟩ = 1#16 := by decide
    rw [e] at hq
    have hq16 := hasB_lt hq
    have : ∀ q : Fin 16, hasB 1#16 q.val = true → q.val < 6 := by decide
    exact this ⟨q, hq16⟩ hq
  · rw [if_neg h0]
    have hl : 1 ≤ mad9 ps ∧ mad9 ps ≤ 9 ∧ mad9 ps ≤ ps.length := by
      unfold mad9
      have : ps.length ≠ 0 := fun hc => h0 (List.eq_nil_of_length_eq_zero hc)
      omega
    have hlen := madT_len ps (mad9 ps)
    have hall : ∀ (k : Nat) nd, (madT ps (mad9 ps))[k]? = some nd → ∃ p, p.ok ∧ nd = madN p k := fun k nd hk => by
      obtain ⟨h1, h2⟩ := madT_at hk
      refine ⟨_, ?_, h2⟩
      rw [List.getD_eq_getElem?_getD, List.getElem?_eq_getElem (by omega)]
      exact h _ (List.getElem_mem _)
    have hE : nodsE (madT ps (mad9 ps)) 0 = 0 := nodsE_zero _ _ fun k nd hk => by
      obtain ⟨p, hp, rfl⟩ := hall k nd hk
      rw [Nat.zero_add]; exact madN_ok p hp k
    have hX : xprE ⟨madT ps (mad9 ps), (mad9 ps : Int) - 1⟩ = 0 := by
      unfold xprE
      show (if madT ps (mad9 ps) = [] then 9 else if 60 < (madT ps (mad9 ps)).length then 3 else if nodsE (madT ps (mad9 ps)) 0 ≠ 0 then nodsE (madT ps (mad9 ps)) 0 else if (mad9 ps : Int) - 1 < 0 ∨ ((madT ps (mad9 ps)).length : Int) ≤ (mad9 ps : Int) - 1 then 4 else 0) = 0
      rw [if_neg (fun hc => by rw [hc] at hlen; simp at hlen; omega), hlen, if_neg (by omega), hE, if_neg (by simp), if_neg (by omega)]
    refine ⟨hX, by show (madT ps (mad9 ps)).length ≤ 9; omega, fun q hq => ?_⟩
    obtain ⟨nd, hnd, hk, hs⟩ := (srvX_has (xprE_ok hX)).1 hq
    obtain ⟨k, hk2⟩ := List.mem_iff_getElem?.1 hnd
    obtain ⟨p, hp, rfl⟩ := hall k nd hk2
    have a1 : p.server % 6 < 6 := Int.emod_lt_of_pos _ (by decide)
    unfold madN at hk hs
    split at hk
    · rename_i hc
      rw [if_pos hc] at hs
      have : p.server % 6 = (q : Int) := hs
      omega
    · exact absurd (show (2 : Int) = 1 from hk) (by decide)
end Go.Proofs.YtcojmmhclklpoaaGreatDoor
namespace Go.Proofs.YtcojmmhclklpoaaGreatDoor

mutual
def ET.ok : ET → Prop
  | .srv s => 0 ≤ s ∧ s < 12
  | .thr n ws ks => (0 ≤ n ∧ n ≤ 100000) ∧ (∀ w ∈ ws, 1 ≤ w ∧ w ≤ 1000) ∧ (ws = [] ∨ ws.length = ks.length) ∧ ETs.ok ks
def ETs.ok : List ET → Prop
  | [] => True
  | t :: ts => t.ok ∧ ETs.ok ts
end
theorem ETs.ok_iff : ∀ (ts : List ET), ETs.ok ts ↔ ∀ t ∈ ts, t.ok
  | [] => by simp [ETs.ok]
  | t :: ts => by rw [ETs.ok, ETs.ok_iff ts]; simp
theorem ETs.sz_mem : ∀ (ts : List ET) (t : ET), t ∈ ts → t.sz ≤ ETs.sz ts
  | [], _, h => by cases h
  | t :: ts, u, h => by
    rw [ETs.sz]
    rcases List.mem_cons.1 h with rfl | h
    · omega
    · have := ETs.sz_mem ts u h; omega
theorem ETs.sz_ge : ∀ (ts : List ET), ts.length ≤ ETs.sz ts
  | [] => by simp [ETs.sz]
  | t :: ts => by have := ETs.sz_ge ts; have := t.sz_pos; rw [ETs.sz, List.length_cons]; omega
theorem nodE_srv {s : Int} {i : Nat} (h : 0 ≤ s ∧ s < 12) : nodE ⟨1, s, 0, [], []⟩ i = 0 := by
  unfold nodE; simp; omega
theorem nodE_thr {n : Int} {ws ks : List Int} {i : Nat} (hn : 0 ≤ n ∧ n ≤ 100000) (hw : ∀ w ∈ ws, 1 ≤ w ∧ w ≤ 1000) (hl : ws = [] ∨ ws.length = ks.length) (hk : ∀ k ∈ ks, 0 ≤ k ∧ k < (i : Int)) : nodE ⟨2, 0, n, ws, ks⟩ i = 0 := by
  have hv : ws.any hvyB = false := by
    rw [List.any_eq_false]
    intro w h
    have := hw w h
    unfold hvyB
    simp; omega
  have hu : ks.any (unkB i) = false := by
    rw [List.any_eq_false]
    intro k h
    have := hk k h
    unfold unkB
    simp; omega
  unfold nodE
  rw [if_neg (by simp), if_neg (by rw [hv]; simp; omega), if_neg ?_, if_neg (by rw [hu]; decide)]
  rintro ⟨c1, c2⟩
  rcases hl with h | h
  · exact c1 h
  · exact c2 h
mutual
theorem ET.post_ok (t : ET) (h : t.ok) : ∀ (b j : Nat) nd, (t.post b)[j]? = some nd → nodE nd (b + j) = 0 := by
  intro b j nd hj
  cases t with
  | srv s =>
    rw [ET.post] at hj
    have hj0 : j = 0 := by have := (List.getElem?_eq_some_iff.1 hj).1; simpa using this
    subst hj0
    cases hj
    rw [ET.ok] at h
    exact nodE_srv h
  | thr n ws ks =>
    rw [ET.ok] at h
    obtain ⟨h1, h2, h3, h4⟩ := h
    rw [ET.post] at hj
    have hl := ETs.post_len ks b
    by_cases hlt : j < ETs.sz ks
    · rw [List.getElem?_append_left (by omega)] at hj
      exact ETs.post_ok ks h4 b j nd hj
    · have hje : j = ETs.sz ks := by have := (List.getElem?_eq_some_iff.1 hj).1; simp [hl] at this; omega
      subst hje
      rw [List.getElem?_append_right (by omega), hl, Nat.sub_self] at hj
      cases hj
      refine nodE_thr h1 h2 (by rw [ETs.idx_len]; exact h3) (fun k hk => ?_)
      have := ETs.idx_lt ks b k hk
      omega
theorem ETs.post_ok (ts : List ET) (h : ETs.ok ts) : ∀ (b j : Nat) nd, (ETs.post ts b)[j]? = some nd → nodE nd (b + j) = 0 := by
  intro b j nd hj
  cases ts with
  | nil => rw [ETs.post] at hj; simp at hj
  | cons t ts =>
    rw [ETs.ok] at h
    rw [ETs.post] at hj
    have hl := t.post_len b
    by_cases hlt : j < t.sz
    · rw [List.getElem?_append_left (by omega)] at hj
      exact ET.post_ok t h.1 b j nd hj
    · rw [List.getElem?_append_right (by omega), hl] at hj
      have := ETs.post_ok ts h.2 (b + t.sz) (j - t.sz) nd hj
      rwa [show b + t.sz + (j - t.sz) = b + j by omega] at this
end
/-- the expression of a valid tree is valid -/
theorem xpr_ok {t : ET} (h : t.ok) (hs : t.sz ≤ 60) : xprE t.xpr = 0 := by
  have hl := t.post_len 0
  have hp := t.sz_pos
  have hE : nodsE (t.post 0) 0 = 0 := nodsE_zero _ _ fun k nd hk => ET.post_ok t h 0 k nd hk
  unfold xprE ET.xpr
  show (if t.post 0 = [] then 9 else if 60 < (t.post 0).length then 3 else if nodsE (t.post 0) 0 ≠ 0 then nodsE (t.post 0) 0 else if ((t.sz - 1 : Nat) : Int) < 0 ∨ ((t.post 0).length : Int) ≤ ((t.sz - 1 : Nat) : Int) then 4 else 0) = 0
  rw [if_neg (fun e => by rw [e] at hl; simp at hl; omega), hl, if_neg (by omega), hE, if_neg (by simp), if_neg (by omega)]
/-- the tree of a valid expression is valid -/
theorem tre_ok {x : Xpr} (h : XprOk x) : ∀ (f i : Nat), i < f → i < x.nodes.length → (treF x.nodes noSub f i).ok := by
  intro f
  induction f with
  | zero => intro i hi; omega
  | succ f ih =>
    intro i hi hl
    obtain ⟨nd, hnd⟩ : ∃ nd, x.nodes[i]? = some nd := ⟨_, List.getElem?_eq_getElem hl⟩
    have e : x.nodes.getD i nod0 = nd := by rw [List.getD_eq_getElem?_getD, hnd]; rfl
    have ok := h.node i nd hnd
    rw [treF, e]
    by_cases hk : nd.kind = 1
    · rw [if_pos hk]
      show (ET.srv nd.server).ok
      rw [ET.ok]; exact ok.server
    · rw [if_neg hk, ET.ok]
      refine ⟨ok.need, ok.weights, by rw [List.length_map]; exact ok.arity, (ETs.ok_iff _).2 fun t ht => ?_⟩
      obtain ⟨k, hkk, rfl⟩ := List.mem_map.1 ht
      have hr := ok.kids k hkk
      exact ih k.toNat (by omega) (by omega)
theorem treX_ok {x : Xpr} (h : XprOk x) : (treX x).ok := by
  obtain ⟨r, hr⟩ := Int.eq_ofNat_of_zero_le h.root.1
  have h2 := h.root.2
  unfold treX
  rw [hr, Int.toNat_natCast]
  exact tre_ok h (r + 1) r (Nat.lt_succ_self r) (by omega)
end Go.Proofs.YtcojmmhclklpoaaGreatDoor
namespace Go.Proofs.YtcojmmhclklpoaaGreatDoor

structure Cho where
  server : Int
  first : Int
  second : Int
structure Tre where
  nodes : List Cho
  root : Int
def cho0 : Cho := ⟨0, 0, 0⟩
def leafC (c : Cho) : Bool := decide (c.server = -1) || decide (c.server = -2)
/-- a node with an index is right -/
def nodC (c : Cho) (i : Nat) : Bool := if leafC c = true then decide (c.first = 0) && decide (c.second = 0) else ((decide (0 ≤ c.server) && decide (c.server < 12)) && (decide (0 ≤ c.first) && decide (c.first < (i : Int)))) && (decide (0 ≤ c.second) && decide (c.second < (i : Int)))
/-- the numbers of parents -/
def bumpS (ps : List Int) (j : Int) : List Int := ps.set j.toNat (ps.getD j.toNat 0 + 1)
def parStep (ps : List Int) (c : Cho) : List Int := if leafC c = true then ps else bumpS (bumpS ps c.first) c.second
def parTo (nodes : List Cho) (k : Nat) : List Int := (nodes.take k).foldl parStep (List.replicate nodes.length 0)
def nodsC (nodes : List Cho) : Bool := (List.range nodes.length).all fun i => nodC (nodes.getD i cho0) i
def parB (root : Int) (ps : List Int) (i : Nat) : Bool := if (i : Int) = root then ps.getD i 0 == 0 else ps.getD i 0 == 1
def parsB (t : Tre) : Bool := (List.range t.nodes.length).all (parB t.root (parTo t.nodes t.nodes.length))
def sizeC (t : Tre) : Bool := ((decide (1 ≤ t.nodes.length) && decide (t.nodes.length ≤ 8191)) && decide (0 ≤ t.root)) && decide (t.root < (t.nodes.length : Int))
/-- a tree is well formed -/
def formC (t : Tre) : Bool := (sizeC t && nodsC t.nodes) && parsB t

theorem parTo_succ {nodes : List Cho} {k : Nat} {c : Cho} (h : nodes[k]? = some c) : parTo nodes (k + 1) = parStep (parTo nodes k) c := by
  unfold parTo; rw [List.take_add_one, h]; simp
theorem bump_len (ps : List Int) (j : Int) : (bumpS ps j).length = ps.length := by unfold bumpS; rw [List.length_set]
theorem parStep_len (ps : List Int) (c : Cho) : (parStep ps c).length = ps.length := by
  unfold parStep; split
  · rfl
  · rw [bump_len, bump_len]
theorem parTo_len (nodes : List Cho) (k : Nat) : (parTo nodes k).length = nodes.length := by
  unfold parTo
  have : ∀ (l : List Cho) (o : List Int), (l.foldl parStep o).length = o.length := by
    intro l
    induction l with
    | nil => intro o; rfl
    | cons c l ih => intro o; rw [List.foldl_cons, ih, parStep_len]
  rw [this, List.length_replicate]

/-! right trees -/
def allV : BitVec 16 := 4095#16
def rightF (x y : Xpr) (b : BitVec 16) (nodes : List Cho) : Nat → Int → BitVec 16 → BitVec 16 → Bool
  | 0, _, _, _ => false
  | f + 1, i, p, q =>
    if (nodes.getD i.toNat cho0).server = -1 then !holdX x (allV &&& ~~~q)
    else if (nodes.getD i.toNat cho0).server = -2 then !holdX y (allV &&& ~~~p)
    else if ((bitS (nodes.getD i.toNat cho0).server.toNat &&& (b ||| p ||| q)) == 0#16) = true then
      rightF x y b nodes f (nodes.getD i.toNat cho0).first (p ||| bitS (nodes.getD i.toNat cho0).server.toNat) q && rightF x y b nodes f (nodes.getD i.toNat cho0).second p (q ||| bitS (nodes.getD i.toNat cho0).server.toNat)
    else false
/-- a tree is a certificate (for valid expressions) -/
def certC (x y : Xpr) (b : BitVec 16) (t : Tre) : Bool := formC t && rightF x y b t.nodes t.nodes.length t.root 0#16 0#16
def viol (x y b : BitVec 16) : Bool := x &&& y &&& ~~~b == 0#16
def famsB (f g : List (BitVec 16)) (b : BitVec 16) : Bool := f.all fun x => g.all fun y => !viol x y b

theorem hasB_not (x : BitVec 16) (i : Nat) (h : i < 16) : hasB (~~~x) i = !hasB x i := by unfold hasB; rw [BitVec.getLsbD_not]; simp [h]
theorem hasB_all (i : Nat) : hasB allV i = decide (i < 12) := by
  by_cases h : i < 16
  · have : ∀ i : Fin 16, hasB allV i.val = decide (i.val < 12) := by decide +kernel
    exact this ⟨i, h⟩
  · rw [decide_eq_false (by omega)]
    cases hq : hasB allV i
    · rfl
    · exact absurd (hasB_lt hq) h
theorem hasB_allnot (q : BitVec 16) (i : Nat) : hasB (allV &&& ~~~q) i = (decide (i < 12) && !hasB q i) := by
  rw [hasB_and, hasB_all]
  by_cases h : i < 12
  · rw [hasB_not _ _ (by omega)]
  · rw [decide_eq_false h]; rfl
theorem viol_iff (x y b : BitVec 16) : viol x y b = true ↔ ∀ i, hasB x i = true → hasB y i = true → hasB b i = true := by
  unfold viol
  rw [beq_iff_eq]
  constructor
  · intro h i hx hy
    cases hb : hasB b i
    · exfalso
      have h1 : hasB (x &&& y &&& ~~~b) i = true := by rw [hasB_and, hasB_and, hx, hy, hasB_not _ _ (hasB_lt hx), hb]; rfl
      rw [h, hasB_zero] at h1; cases h1
    · rfl
  · intro h
    refine hasB_ext fun i hi => ?_
    rw [hasB_zero, hasB_and, hasB_and, hasB_not _ _ hi]
    cases hx : hasB x i
    · rfl
    · cases hy : hasB y i
      · rfl
      · rw [h i hx hy]; rfl
theorem nodsC_at {nodes : List Cho} (h : nodsC nodes = true) {i : Nat} (hi : i < nodes.length) : nodC (nodes.getD i cho0) i = true := List.all_eq_true.1 h i (List.mem_range.2 hi)
/-- a certificate shows that there is no violating pair -/
theorem right_sound {x y : Xpr} (hx : XprOk x) (hy : XprOk y) {b F G : BitVec 16} (hF : holdX x F = true) (hG : holdX y G = true) (hFG : ∀ i, hasB F i = true → hasB G i = true → hasB b i = true) (hF12 : ∀ i, hasB F i = true → i < 12) (hG12 : ∀ i, hasB G i = true → i < 12) (nodes : List Cho) :
    ∀ (f : Nat) (i : Int) (p q : BitVec 16), (∀ j, hasB p j = true → hasB G j = false) → (∀ j, hasB q j = true → hasB F j = false) → (∀ c ∈ nodes, leafC c = false → 0 ≤ c.server ∧ c.server < 12) → 0 ≤ i → (i.toNat < nodes.length) → rightF x y b nodes f i p q = true → (∀ (k : Nat) c, nodes[k]? = some c → leafC c = false → (0 ≤ c.first ∧ c.first.toNat < k) ∧ 0 ≤ c.second ∧ c.second.toNat < k) → False := by
  intro f
  induction f with
  | zero => intro i p q _ _ _ _ _ h _; cases h
  | succ f ih =>
    intro i p q hp hq hsv hi0 hin h hk
    have hc : nodes[i.toNat]? = some (nodes.getD i.toNat cho0) := by rw [List.getD_eq_getElem?_getD, List.getElem?_eq_getElem hin]; rfl
    obtain ⟨c, hce⟩ : ∃ c, nodes.getD i.toNat cho0 = c := ⟨_, rfl⟩
    unfold rightF at h
    rw [hce] at h hc
    by_cases h1 : c.server = -1
    · rw [if_pos h1] at h
      have : holdX x (allV &&& ~~~q) = true := holdX_mono hx (fun j hj => by
        rw [hasB_allnot, decide_eq_true (hF12 j hj)]
        cases hqj : hasB q j
        · rfl
        · rw [hq j hqj] at hj; cases hj) hF
      rw [this] at h; cases h
    · rw [if_neg h1] at h
      by_cases h2 : c.server = -2
      · rw [if_pos h2] at h
        have : holdX y (allV &&& ~~~p) = true := holdX_mono hy (fun j hj => by
          rw [hasB_allnot, decide_eq_true (hG12 j hj)]
          cases hpj : hasB p j
          · rfl
          · rw [hp j hpj] at hj; cases hj) hG
        rw [this] at h; cases h
      · rw [if_neg h2] at h
        have hlf : leafC c = false := by unfold leafC; rw [decide_eq_false h1, decide_eq_false h2]; rfl
        obtain ⟨hs0, hs12⟩ := hsv c (List.mem_of_getElem? hc) hlf
        obtain ⟨⟨f0, fl⟩, s0, sl⟩ := hk _ c hc hlf
        split at h
        · rename_i hz
          rw [Bool.and_eq_true] at h
          have hsb : hasB b c.server.toNat = false := by
            cases hq2 : hasB b c.server.toNat
            · rfl
            · exfalso
              have h9 : hasB (bitS c.server.toNat &&& (b ||| p ||| q)) c.server.toNat = true := by rw [hasB_and, hasB_bit _ _ (by omega), hasB_or, hasB_or, hq2]; simp
              rw [eq_of_beq hz, hasB_zero] at h9; cases h9
          cases hG2 : hasB G c.server.toNat
          · refine ih c.first _ q (fun j hj => ?_) hq hsv f0 (by omega) h.1 hk
            rw [hasB_or, Bool.or_eq_true, hasB_bit _ _ (by omega), decide_eq_true_eq] at hj
            rcases hj with hj | rfl
            · exact hp j hj
            · exact hG2
          · refine ih c.second p _ hp (fun j hj => ?_) hsv s0 (by omega) h.2 hk
            rw [hasB_or, Bool.or_eq_true, hasB_bit _ _ (by omega), decide_eq_true_eq] at hj
            rcases hj with hj | rfl
            · exact hq j hj
            · cases hF2 : hasB F c.server.toNat
              · rfl
              · have := hFG _ hF2 hG2; rw [hsb] at this; cases this
        · cases h
theorem formC_parts {t : Tre} (h : formC t = true) : (1 ≤ t.nodes.length ∧ t.nodes.length ≤ 8191 ∧ 0 ≤ t.root ∧ t.root < (t.nodes.length : Int)) ∧ nodsC t.nodes = true ∧ parsB t = true := by
  unfold formC sizeC at h
  simp only [Bool.and_eq_true, decide_eq_true_eq] at h
  exact ⟨⟨h.1.1.1.1.1, h.1.1.1.1.2, h.1.1.1.2, h.1.1.2⟩, h.1.2, h.2⟩
theorem nodC_leaf {c : Cho} {i : Nat} (h : nodC c i = true) (hl : leafC c = false) : (0 ≤ c.server ∧ c.server < 12) ∧ (0 ≤ c.first ∧ c.first < (i : Int)) ∧ 0 ≤ c.second ∧ c.second < (i : Int) := by
  unfold nodC at h
  rw [hl, if_neg (by decide)] at h
  simp only [Bool.and_eq_true, decide_eq_true_eq] at h
  omega
theorem cert_sound {x y : Xpr} (hx : XprOk x) (hy : XprOk y) {b : BitVec 16} {t : Tre} (h : certC x y b t = true) {f g : List (BitVec 16)} (hf : ∀ F ∈ f, holdX x F = true ∧ ∀ i, hasB F i = true → i < 12) (hg : ∀ G ∈ g, holdX y G = true ∧ ∀ i, hasB G i = true → i < 12) : famsB f g b = true := by
  unfold certC at h
  rw [Bool.and_eq_true] at h
  obtain ⟨⟨h1, h2, h3, h4⟩, hn, _⟩ := formC_parts h.1
  refine List.all_eq_true.2 fun F hF => List.all_eq_true.2 fun G hG => ?_
  cases hv : viol F G b
  · rfl
  · exfalso
    refine right_sound hx hy (hf F hF).1 (hg G hG).1 ((viol_iff _ _ _).1 hv) (hf F hF).2 (hg G hG).2 t.nodes _ t.root 0#16 0#16 (fun j hj => by rw [hasB_zero] at hj; cases hj) (fun j hj => by rw [hasB_zero] at hj; cases hj) (fun c hc hl => ?_) h3 (by omega) h.2 (fun k c hk hl => ?_)
    · obtain ⟨k, hk⟩ := List.mem_iff_getElem?.1 hc
      have hk2 := (List.getElem?_eq_some_iff.1 hk).1
      have := nodsC_at hn hk2
      rw [List.getD_eq_getElem?_getD, hk, Option.getD_some] at this
      exact (nodC_leaf this hl).1
    · have hk2 := (List.getElem?_eq_some_iff.1 hk).1
      have := nodsC_at hn hk2
      rw [List.getD_eq_getElem?_getD, hk, Option.getD_some] at this
      have := (nodC_leaf this hl).2
      omega
/-- a certificate outside of a set is one outside of each part -/
theorem right_part {x y : Xpr} {b b' : BitVec 16} (hb : ∀ i, hasB b' i = true → hasB b i = true) (nodes : List Cho) : ∀ (f : Nat) (i : Int) (p q : BitVec 16), rightF x y b nodes f i p q = true → rightF x y b' nodes f i p q = true := by
  intro f
  induction f with
  | zero => intro i p q h; cases h
  | succ f ih =>
    intro i p q h
    unfold rightF at h ⊢
    split
    · rename_i h1; rw [if_pos h1] at h; exact h
    · rename_i h1
      rw [if_neg h1] at h
      split
      · rename_i h2; rw [if_pos h2] at h; exact h
      · rename_i h2
        rw [if_neg h2] at h
        split at h
        · rename_i hz
          rw [Bool.and_eq_true] at h
          rw [if_pos, ih _ _ _ h.1, ih _ _ _ h.2]
          · rfl
          · rw [beq_iff_eq]
            refine hasB_ext fun j hj => ?_
            have h9 := congrArg (fun v => hasB v j) (eq_of_beq hz)
            simp only [hasB_and, hasB_or, hasB_zero] at h9 ⊢
            cases hs : hasB (bitS (nodes.getD i.toNat cho0).server.toNat) j
            · rfl
            · rw [hs] at h9
              simp only [Bool.true_and, Bool.or_eq_false_iff] at h9 ⊢
              refine ⟨⟨?_, h9.1.2⟩, h9.2⟩
              cases hq : hasB b' j
              · rfl
              · rw [hb j hq] at h9; cases h9.1.1
        · cases h
theorem cert_part {x y : Xpr} {b b' : BitVec 16} (hb : ∀ i, hasB b' i = true → hasB b i = true) {t : Tre} (h : certC x y b t = true) : certC x y b' t = true := by
  unfold certC at h ⊢
  rw [Bool.and_eq_true] at h ⊢
  exact ⟨h.1, right_part hb _ _ _ _ _ h.2⟩
theorem fams_part {f g : List (BitVec 16)} {b b' : BitVec 16} (hb : ∀ i, hasB b' i = true → hasB b i = true) (h : famsB f g b = true) : famsB f g b' = true := by
  refine List.all_eq_true.2 fun F hF => List.all_eq_true.2 fun G hG => ?_
  have := List.all_eq_true.1 (List.all_eq_true.1 h F hF) G hG
  cases hv : viol F G b'
  · rfl
  · exfalso
    have h1 := (viol_iff F G b).2 fun i h2 h3 => hb i ((viol_iff F G b').1 hv i h2 h3)
    rw [h1] at this; cases this
end Go.Proofs.YtcojmmhclklpoaaGreatDoor
namespace Go.Proofs.YtcojmmhclklpoaaGreatDoor

inductive CT where
  | fx : CT
  | fy : CT
  | nd : Nat → CT → CT → CT
def CT.sz : CT → Nat
  | .fx => 1
  | .fy => 1
  | .nd _ l r => l.sz + r.sz + 1
/-- the nodes of a tree, the first one having an index -/
def CT.bod : CT → Nat → List Cho
  | .fx, _ => [⟨-1, 0, 0⟩]
  | .fy, _ => [⟨-2, 0, 0⟩]
  | .nd i l r, k => l.bod k ++ r.bod (k + l.sz) ++ [⟨i, ((k + l.sz - 1 : Nat) : Int), ((k + l.sz + r.sz - 1 : Nat) : Int)⟩]
theorem CT.sz_pos (T : CT) : 1 ≤ T.sz := by cases T <;> simp [CT.sz]
theorem CT.bod_len (T : CT) : ∀ k, (T.bod k).length = T.sz := by
  induction T with
  | fx => intro k; rfl
  | fy => intro k; rfl
  | nd i l r h1 h2 => intro k; simp [CT.bod, CT.sz, h1, h2]; omega
def CT.top : CT → Cho → Prop
  | .fx, c => c = ⟨-1, 0, 0⟩
  | .fy, c => c = ⟨-2, 0, 0⟩
  | .nd i _ _, c => c.server = (i : Int)

/-- the search: members that are left, what was given to both sides -/
def proveL (x y : Xpr) : List Nat → BitVec 16 → BitVec 16 → Option CT
  | [], a, b => if holdX x (allV &&& ~~~b) = false then some .fx else if holdX y (allV &&& ~~~a) = false then some .fy else none
  | i :: l, a, b => if holdX x (allV &&& ~~~b) = false then some .fx else if holdX y (allV &&& ~~~a) = false then some .fy else
    match proveL x y l (a ||| bitS i) b with
    | none => none
    | some T => match proveL x y l a (b ||| bitS i) with
      | none => none
      | some U => some (.nd i T U)
def rightT (x y : Xpr) (b0 : BitVec 16) : CT → BitVec 16 → BitVec 16 → Bool
  | .fx, _, q => !holdX x (allV &&& ~~~q)
  | .fy, p, _ => !holdX y (allV &&& ~~~p)
  | .nd i l r, p, q => (bitS i &&& (b0 ||| p ||| q) == 0#16) && (rightT x y b0 l (p ||| bitS i) q && rightT x y b0 r p (q ||| bitS i))
def CT.low : CT → Prop
  | .fx => True
  | .fy => True
  | .nd i l r => i < 12 ∧ l.low ∧ r.low

theorem proveL_sz {x y : Xpr} : ∀ (l : List Nat) (a b : BitVec 16) (T : CT), proveL x y l a b = some T → T.sz + 1 ≤ 2 ^ (l.length + 1) := by
  intro l
  induction l with
  | nil =>
    intro a b T h
    unfold proveL at h
    split at h
    · cases h; decide
    · split at h
      · cases h; decide
      · cases h
  | cons i l ih =>
    intro a b T h
    have h2 : 2 ≤ 2 ^ (l.length + 1) := by
      have := Nat.one_le_two_pow (n := l.length)
      rw [Nat.pow_succ]; omega
    unfold proveL at h
    rw [List.length_cons, Nat.pow_succ]
    split at h
    · cases h; show 1 + 1 ≤ _; omega
    · split at h
      · cases h; show 1 + 1 ≤ _; omega
      · split at h
        · cases h
        · rename_i T1 h3
          split at h
          · cases h
          · rename_i U1 h4
            cases h
            have := ih _ _ _ h3
            have := ih _ _ _ h4
            show T1.sz + U1.sz + 1 + 1 ≤ _
            omega
theorem proveL_low {x y : Xpr} : ∀ (l : List Nat) (a b : BitVec 16) (T : CT), (∀ i ∈ l, i < 12) → proveL x y l a b = some T → T.low := by
  intro l
  induction l with
  | nil =>
    intro a b T _ h
    unfold proveL at h
    split at h
    · cases h; trivial
    · split at h
      · cases h; trivial
      · cases h
  | cons i l ih =>
    intro a b T hl h
    unfold proveL at h
    split at h
    · cases h; trivial
    · split at h
      · cases h; trivial
      · split at h
        · cases h
        · rename_i T1 h3
          split at h
          · cases h
          · rename_i U1 h4
            cases h
            exact ⟨hl i (List.mem_cons_self ..), ih _ _ _ (fun j hj => hl j (List.mem_cons_of_mem _ hj)) h3, ih _ _ _ (fun j hj => hl j (List.mem_cons_of_mem _ hj)) h4⟩
theorem bit_free {b0 a b : BitVec 16} {i : Nat} (hi : i < 16) (h0 : hasB b0 i = false) (h1 : hasB a i = false) (h2 : hasB b i = false) : (bitS i &&& (b0 ||| a ||| b) == 0#16) = true := by
  rw [beq_iff_eq]
  refine hasB_ext fun j hj => ?_
  rw [hasB_zero, hasB_and, hasB_bit _ _ hi]
  by_cases h : j = i
  · subst h; rw [hasB_or, hasB_or, h0, h1, h2]; simp
  · rw [decide_eq_false h]; rfl
theorem proveL_right {x y : Xpr} {b0 : BitVec 16} : ∀ (l : List Nat) (a b : BitVec 16) (T : CT), l.Nodup → (∀ i ∈ l, i < 12 ∧ hasB b0 i = false ∧ hasB a i = false ∧ hasB b i = false) → proveL x y l a b = some T → rightT x y b0 T a b = true := by
  intro l
  induction l with
  | nil =>
    intro a b T _ _ h
    unfold proveL at h
    split at h
    · rename_i h1; cases h; unfold rightT; rw [h1]; rfl
    · split at h
      · rename_i h1; cases h; unfold rightT; rw [h1]; rfl
      · cases h
  | cons i l ih =>
    intro a b T hnd hl h
    unfold proveL at h
    split at h
    · rename_i h1; cases h; unfold rightT; rw [h1]; rfl
    · split at h
      · rename_i h1; cases h; unfold rightT; rw [h1]; rfl
      · split at h
        · cases h
        · rename_i T1 h3
          split at h
          · cases h
          · rename_i U1 h4
            cases h
            obtain ⟨hi, hi0, hia, hib⟩ := hl i (List.mem_cons_self ..)
            have hnd1 := List.nodup_cons.1 hnd
            have hsub : ∀ j ∈ l, j ≠ i := fun j hj e => hnd1.1 (by rw [← e]; exact hj)
            have r1 := ih _ _ _ hnd1.2 (fun j hj => by
              obtain ⟨g1, g2, g3, g4⟩ := hl j (List.mem_cons_of_mem _ hj)
              exact ⟨g1, g2, by rw [hasB_or, g3, hasB_bit _ _ (by omega), decide_eq_false (hsub j hj)]; rfl, g4⟩) h3
            have r2 := ih _ _ _ hnd1.2 (fun j hj => by
              obtain ⟨g1, g2, g3, g4⟩ := hl j (List.mem_cons_of_mem _ hj)
              exact ⟨g1, g2, g3, by rw [hasB_or, g4, hasB_bit _ _ (by omega), decide_eq_false (hsub j hj)]; rfl⟩) h4
            show ((bitS i &&& (b0 ||| a ||| b) == 0#16) && (rightT x y b0 T1 (a ||| bitS i) b && rightT x y b0 U1 a (b ||| bitS i))) = true
            rw [bit_free (by omega) hi0 hia hib, r1, r2]; rfl
/-- where the search fails, everything can be given so that both sides are still satisfied -/
theorem proveL_none {x y : Xpr} (_hx : XprOk x) (_hy : XprOk y) : ∀ (l : List Nat) (a b : BitVec 16), (∀ i ∈ l, i < 16) → proveL x y l a b = none → ∃ A B : BitVec 16, holdX x (allV &&& ~~~B) = true ∧ holdX y (allV &&& ~~~A) = true ∧ (∀ i, hasB a i = true ∨ hasB b i = true ∨ i ∈ l → hasB A i = true ∨ hasB B i = true) := by
  intro l
  induction l with
  | nil =>
    intro a b _ h
    unfold proveL at h
    split at h
    · cases h
    · rename_i h1
      split at h
      · cases h
      · rename_i h2
        refine ⟨a, b, by simpa using h1, by simpa using h2, fun i hi => ?_⟩
        rcases hi with hi | hi | hi
        · exact .inl hi
        · exact .inr hi
        · cases hi
  | cons i l ih =>
    intro a b hl h
    have hi16 := hl i (List.mem_cons_self ..)
    have hl' : ∀ j ∈ l, j < 16 := fun j hj => hl j (List.mem_cons_of_mem _ hj)
    unfold proveL at h
    split at h
    · cases h
    · split at h
      · cases h
      · split at h
        · rename_i h3
          obtain ⟨A, B, q1, q2, q3⟩ := ih _ _ hl' h3
          refine ⟨A, B, q1, q2, fun j hj => q3 j ?_⟩
          rw [hasB_or, Bool.or_eq_true, hasB_bit _ _ hi16, decide_eq_true_eq]
          rcases hj with hj | hj | hj
          · exact .inl (.inl hj)
          · exact .inr (.inl hj)
          · rcases List.mem_cons.1 hj with rfl | hj
            · exact .inl (.inr rfl)
            · exact .inr (.inr hj)
        · split at h
          · rename_i h4
            obtain ⟨A, B, q1, q2, q3⟩ := ih _ _ hl' h4
            refine ⟨A, B, q1, q2, fun j hj => q3 j ?_⟩
            rw [hasB_or, Bool.or_eq_true, hasB_bit _ _ hi16, decide_eq_true_eq]
            rcases hj with hj | hj | hj
            · exact .inl hj
            · exact .inr (.inl (.inl hj))
            · rcases List.mem_cons.1 hj with rfl | hj
              · exact .inr (.inl (.inr rfl))
              · exact .inr (.inr hj)
          · cases h

/-! the nodes of a tree are well formed -/
theorem bod_last (T : CT) (k : Nat) : ∃ c, (T.bod k)[T.sz - 1]? = some c ∧ T.top c := by
  cases T with
  | fx => exact ⟨_, rfl, rfl⟩
  | fy => exact ⟨_, rfl, rfl⟩
  | nd i l r =>
    refine ⟨⟨i, ((k + l.sz - 1 : Nat) : Int), ((k + l.sz + r.sz - 1 : Nat) : Int)⟩, ?_, rfl⟩
    show (l.bod k ++ r.bod (k + l.sz) ++ _)[l.sz + r.sz + 1 - 1]? = _
    rw [List.getElem?_append_right (by simp [CT.bod_len])]
    simp [CT.bod_len]
theorem bod_nodes (T : CT) (hT : T.low) : ∀ (k j : Nat) (c : Cho), (T.bod k)[j]? = some c → nodC c (k + j) = true := by
  induction T with
  | fx => intro k j c h; match j, h with
    | 0, h => cases h; rfl
  | fy => intro k j c h; match j, h with
    | 0, h => cases h; rfl
  | nd i l r h1 h2 =>
    intro k j c h
    obtain ⟨hi, hl, hr⟩ := hT
    have hls := l.sz_pos
    have hrs := r.sz_pos
    unfold CT.bod at h
    by_cases q1 : j < l.sz
    · rw [List.append_assoc, List.getElem?_append_left (by rw [CT.bod_len]; exact q1)] at h
      exact h1 hl k j c h
    · by_cases q2 : j < l.sz + r.sz
      · rw [List.getElem?_append_left (by rw [List.length_append, CT.bod_len, CT.bod_len]; exact q2), List.getElem?_append_right (by rw [CT.bod_len]; omega), CT.bod_len] at h
        have := h2 hr (k + l.sz) (j - l.sz) c h
        rwa [show k + l.sz + (j - l.sz) = k + j by omega] at this
      · rw [List.getElem?_append_right (by rw [List.length_append, CT.bod_len, CT.bod_len]; omega), List.length_append, CT.bod_len, CT.bod_len] at h
        have hj : j = l.sz + r.sz := by
          have := (List.getElem?_eq_some_iff.1 h).1
          simp at this; omega
        rw [hj, Nat.sub_self] at h
        simp only [List.getElem?_cons_zero, Option.some.injEq] at h
        subst h
        have hlf : leafC ⟨i, ((k + l.sz - 1 : Nat) : Int), ((k + l.sz + r.sz - 1 : Nat) : Int)⟩ = false := by
          unfold leafC
          rw [Bool.or_eq_false_iff, decide_eq_false_iff_not, decide_eq_false_iff_not]
          show ¬ (i : Int) = -1 ∧ ¬ (i : Int) = -2
          omega
        unfold nodC
        rw [hlf, if_neg (by decide)]
        simp only [Bool.and_eq_true, decide_eq_true_eq]
        omega
theorem getD_set {ps : List Int} {i j : Nat} {v : Int} (hi : i < ps.length) : (ps.set i v).getD j 0 = if j = i then v else ps.getD j 0 := by
  rw [List.getD_eq_getElem?_getD, List.getElem?_set]
  by_cases h : i = j
  · subst h; rw [if_pos rfl, if_pos hi, if_pos rfl]; rfl
  · rw [if_neg h, if_neg (fun e => h e.symm), List.getD_eq_getElem?_getD]
theorem bod_pars (T : CT) (hT : T.low) : ∀ (k : Nat) (ps : List Int), k + T.sz ≤ ps.length → (∀ j, k ≤ j → j < k + T.sz → ps.getD j 0 = 0) →
    ((T.bod k).foldl parStep ps).length = ps.length ∧ ∀ j, ((T.bod k).foldl parStep ps).getD j 0 = if k ≤ j ∧ j + 1 < k + T.sz then 1 else ps.getD j 0 := by
  induction T with
  | fx =>
    intro k ps _ _
    refine ⟨rfl, fun j => ?_⟩
    rw [if_neg (by show ¬ (k ≤ j ∧ j + 1 < k + 1); omega)]; rfl
  | fy =>
    intro k ps _ _
    refine ⟨rfl, fun j => ?_⟩
    rw [if_neg (by show ¬ (k ≤ j ∧ j + 1 < k + 1); omega)]; rfl
  | nd i l r h1 h2 =>
    intro k ps hlen hz
    obtain ⟨hi, hl, hr⟩ := hT
    have hls := l.sz_pos
    have hrs := r.sz_pos
    have hsz : (CT.nd i l r).sz = l.sz + r.sz + 1 := rfl
    rw [hsz] at hlen hz ⊢
    obtain ⟨a1, a2⟩ := h1 hl k ps (by omega) (fun j q1 q2 => hz j q1 (by omega))
    obtain ⟨b1, b2⟩ := h2 hr (k + l.sz) _ (by rw [a1]; omega) (fun j q1 q2 => by rw [a2, if_neg (by omega)]; exact hz j (by omega) (by omega))
    unfold CT.bod
    rw [List.foldl_append, List.foldl_append, List.foldl_cons, List.foldl_nil]
    obtain ⟨qs, hqs⟩ : ∃ qs, List.foldl parStep (List.foldl parStep ps (l.bod k)) (r.bod (k + l.sz)) = qs := ⟨_, rfl⟩
    rw [hqs] at b1 b2 ⊢
    have hlf : leafC ⟨i, ((k + l.sz - 1 : Nat) : Int), ((k + l.sz + r.sz - 1 : Nat) : Int)⟩ = false := by
      unfold leafC
      rw [Bool.or_eq_false_iff, decide_eq_false_iff_not, decide_eq_false_iff_not]
      show ¬ (i : Int) = -1 ∧ ¬ (i : Int) = -2
      omega
    rw [parStep_len]
    refine ⟨by omega, fun j => ?_⟩
    unfold parStep
    rw [hlf, if_neg (by decide)]
    unfold bumpS
    simp only [Int.toNat_natCast]
    rw [getD_set (by rw [List.length_set]; omega), getD_set (by omega), getD_set (by omega)]
    have e1 : qs.getD (k + l.sz - 1) 0 = 0 := by rw [b2, if_neg (by omega), a2, if_neg (by omega)]; exact hz _ (by omega) (by omega)
    have e2 : qs.getD (k + l.sz + r.sz - 1) 0 = 0 := by rw [b2, if_neg (by omega), a2, if_neg (by omega)]; exact hz _ (by omega) (by omega)
    rw [e1, e2]
    by_cases q1 : j = k + l.sz + r.sz - 1
    · rw [if_pos q1, if_neg (by omega), if_pos (by omega)]; rfl
    · rw [if_neg q1]
      by_cases q2 : j = k + l.sz - 1
      · rw [if_pos q2, if_pos (by omega)]; rfl
      · rw [if_neg q2, b2]
        by_cases q3 : k + l.sz ≤ j ∧ j + 1 < k + l.sz + r.sz
        · rw [if_pos q3, if_pos (by omega)]
        · rw [if_neg q3, a2]
          by_cases q4 : k ≤ j ∧ j + 1 < k + l.sz
          · rw [if_pos q4, if_pos (by omega)]
          · rw [if_neg q4, if_neg (by omega)]
/-- the tree as a value -/
def CT.tre (T : CT) : Tre := ⟨T.bod 0, ((T.sz - 1 : Nat) : Int)⟩
theorem tre_form (T : CT) (hT : T.low) (hs : T.sz ≤ 8191) : formC T.tre = true := by
  have hp := T.sz_pos
  have hl : T.tre.nodes.length = T.sz := T.bod_len 0
  unfold formC sizeC
  rw [hl]
  simp only [Bool.and_eq_true, decide_eq_true_eq]
  refine ⟨⟨⟨⟨⟨by omega, hs⟩, by show (0 : Int) ≤ ((T.sz - 1 : Nat) : Int); omega⟩, by show ((T.sz - 1 : Nat) : Int) < _; omega⟩, ?_⟩, ?_⟩
  · unfold nodsC
    refine List.all_eq_true.2 fun i hi => ?_
    have hi2 := List.mem_range.1 hi
    have hc : T.tre.nodes[i]? = some (T.tre.nodes.getD i cho0) := by rw [List.getD_eq_getElem?_getD, List.getElem?_eq_getElem hi2]; rfl
    have := bod_nodes T hT 0 i _ hc
    rwa [Nat.zero_add] at this
  · unfold parsB
    refine List.all_eq_true.2 fun i hi => ?_
    have hi2 := List.mem_range.1 hi
    rw [hl] at hi2
    have hb := (bod_pars T hT 0 (List.replicate T.sz 0) (by simp) (fun j _ _ => by rw [List.getD_eq_getElem?_getD, List.getElem?_replicate]; split <;> rfl)).2 i
    have hpt : parTo T.tre.nodes T.tre.nodes.length = (T.bod 0).foldl parStep (List.replicate T.sz 0) := by
      unfold parTo
      rw [List.take_length, hl]; rfl
    unfold parB
    rw [hpt, hb]
    by_cases q : (i : Int) = T.tre.root
    · have q' : i = T.sz - 1 := by have : (i : Int) = ((T.sz - 1 : Nat) : Int) := q; omega
      rw [if_pos q, if_neg (by omega), List.getD_eq_getElem?_getD, List.getElem?_replicate]; split <;> rfl
    · have q' : i ≠ T.sz - 1 := fun e => q (by show (i : Int) = ((T.sz - 1 : Nat) : Int); omega)
      rw [if_neg q, if_pos (by omega)]; rfl
theorem tre_right {x y : Xpr} {b0 : BitVec 16} (T : CT) (hT : T.low) : ∀ (k f : Nat) (N : List Cho) (p q : BitVec 16), T.sz ≤ f → (∀ j c, (T.bod k)[j]? = some c → N[k + j]? = some c) → rightF x y b0 N f ((k + T.sz - 1 : Nat) : Int) p q = rightT x y b0 T p q := by
  induction T with
  | fx =>
    intro k f N p q hf hN
    obtain ⟨f, rfl⟩ : ∃ g, f = g + 1 := ⟨f - 1, by have : 1 ≤ f := hf; omega⟩
    have hc := hN 0 _ rfl
    have hg : N.getD (((k + CT.fx.sz - 1 : Nat) : Int)).toNat cho0 = ⟨-1, 0, 0⟩ := by
      rw [Int.toNat_natCast, List.getD_eq_getElem?_getD, show k + CT.fx.sz - 1 = k + 0 by show k + 1 - 1 = k + 0; omega, hc]; rfl
    unfold rightF
    rw [hg]
    rfl
  | fy =>
    intro k f N p q hf hN
    obtain ⟨f, rfl⟩ : ∃ g, f = g + 1 := ⟨f - 1, by have : 1 ≤ f := hf; omega⟩
    have hc := hN 0 _ rfl
    have hg : N.getD (((k + CT.fy.sz - 1 : Nat) : Int)).toNat cho0 = ⟨-2, 0, 0⟩ := by
      rw [Int.toNat_natCast, List.getD_eq_getElem?_getD, show k + CT.fy.sz - 1 = k + 0 by show k + 1 - 1 = k + 0; omega, hc]; rfl
    unfold rightF
    rw [hg]
    rfl
  | nd i l r h1 h2 =>
    intro k f N p q hf hN
    obtain ⟨hi, hl, hr⟩ := hT
    have hls := l.sz_pos
    have hrs := r.sz_pos
    have hsz : (CT.nd i l r).sz = l.sz + r.sz + 1 := rfl
    rw [hsz] at hf ⊢
    obtain ⟨f, rfl⟩ : ∃ g, f = g + 1 := ⟨f - 1, by omega⟩
    have hc : N[k + (l.sz + r.sz)]? = some ⟨i, ((k + l.sz - 1 : Nat) : Int), ((k + l.sz + r.sz - 1 : Nat) : Int)⟩ := by
      refine hN (l.sz + r.sz) _ ?_
      show (l.bod k ++ r.bod (k + l.sz) ++ _)[l.sz + r.sz]? = _
      rw [List.getElem?_append_right (by simp [CT.bod_len])]
      simp [CT.bod_len]
    have hNl : ∀ j c, (l.bod k)[j]? = some c → N[k + j]? = some c := fun j c h => hN j c (by
      show (l.bod k ++ r.bod (k + l.sz) ++ _)[j]? = _
      have := (List.getElem?_eq_some_iff.1 h).1
      rw [List.append_assoc, List.getElem?_append_left this]; exact h)
    have hNr : ∀ j c, (r.bod (k + l.sz))[j]? = some c → N[k + l.sz + j]? = some c := fun j c h => by
      have := hN (l.sz + j) c (by
        show (l.bod k ++ r.bod (k + l.sz) ++ _)[l.sz + j]? = _
        have hjl := (List.getElem?_eq_some_iff.1 h).1
        rw [List.getElem?_append_left (by rw [List.length_append, CT.bod_len]; omega), List.getElem?_append_right (by rw [CT.bod_len]; omega), CT.bod_len]
        rw [show l.sz + j - l.sz = j by omega]; exact h)
      rwa [← Nat.add_assoc] at this
    unfold rightF
    have hg : N.getD (((k + (l.sz + r.sz + 1) - 1 : Nat) : Int)).toNat cho0 = ⟨i, ((k + l.sz - 1 : Nat) : Int), ((k + l.sz + r.sz - 1 : Nat) : Int)⟩ := by
      rw [Int.toNat_natCast, List.getD_eq_getElem?_getD, show k + (l.sz + r.sz + 1) - 1 = k + (l.sz + r.sz) by omega, hc]; rfl
    rw [hg]
    simp only
    rw [if_neg (by omega), if_neg (by omega), Int.toNat_natCast, h1 hl k f N _ q (by omega) hNl]
    have := h2 hr (k + l.sz) f N p (q ||| bitS i) (by omega) hNr
    rw [this]
    show _ = ((bitS i &&& (b0 ||| p ||| q) == 0#16) && (rightT x y b0 l (p ||| bitS i) q && rightT x y b0 r p (q ||| bitS i)))
    cases hz : (bitS i &&& (b0 ||| p ||| q) == 0#16)
    · rfl
    · rfl
theorem tre_cert {x y : Xpr} {b0 : BitVec 16} (T : CT) (hT : T.low) (hs : T.sz ≤ 8191) (hr : rightT x y b0 T 0#16 0#16 = true) : certC x y b0 T.tre = true := by
  unfold certC
  rw [tre_form T hT hs]
  have := tre_right (x := x) (y := y) (b0 := b0) T hT 0 T.sz (T.bod 0) 0#16 0#16 (Nat.le_refl _) (fun j c h => by rwa [Nat.zero_add])
  rw [Nat.zero_add] at this
  show (true && rightF x y b0 (T.bod 0) (T.bod 0).length ((T.sz - 1 : Nat) : Int) 0#16 0#16) = true
  rw [T.bod_len, this, hr]; rfl
/-- what a search returns -/
def prvS (x y : Xpr) (l : List Nat) : Tre × Int := match proveL x y l 0#16 0#16 with
  | some T => (T.tre, 0)
  | none => (⟨[], 0⟩, 12)
/-- the search decides whether the families intersect -/
theorem prove_iff {x y : Xpr} (hx : XprOk x) (hy : XprOk y) {b0 : BitVec 16} {l : List Nat} (hnd : l.Nodup) (hl : ∀ i ∈ l, i < 12 ∧ hasB b0 i = false) (hll : l.length ≤ 12) (hall : ∀ i, i < 12 → hasB (srvX x) i = true ∨ hasB (srvX y) i = true → hasB b0 i = false → i ∈ l)
    {f g : List (BitVec 16)} (hf : ∀ s, accS f s = holdX x s) (hg : ∀ s, accS g s = holdX y s) (hfs : ∀ F ∈ f, ∀ i, hasB F i = true → hasB (srvX x) i = true) (hgs : ∀ G ∈ g, ∀ i, hasB G i = true → hasB (srvX y) i = true) :
    (famsB f g b0 = true → ∃ T, proveL x y l 0#16 0#16 = some T ∧ certC x y b0 T.tre = true) ∧ (famsB f g b0 = false → proveL x y l 0#16 0#16 = none) := by
  have key : ∀ T, proveL x y l 0#16 0#16 = some T → certC x y b0 T.tre = true := fun T h => by
    have h1 := proveL_sz l _ _ T h
    have h2 : 2 ^ (l.length + 1) ≤ 2 ^ 13 := Nat.pow_le_pow_right (by decide) (by omega)
    exact tre_cert T (proveL_low l _ _ T (fun i hi => (hl i hi).1) h) (by omega) (proveL_right l _ _ T hnd (fun i hi => ⟨(hl i hi).1, (hl i hi).2, hasB_zero i, hasB_zero i⟩) h)
  have hfh : ∀ F ∈ f, holdX x F = true ∧ ∀ i, hasB F i = true → i < 12 := fun F hF => by
    refine ⟨?_, fun i hi => srvX_12 hx (hfs F hF i hi)⟩
    rw [← hf]; exact List.any_eq_true.2 ⟨F, hF, (subB_iff F F).2 fun _ h => h⟩
  have hgh : ∀ G ∈ g, holdX y G = true ∧ ∀ i, hasB G i = true → i < 12 := fun G hG => by
    refine ⟨?_, fun i hi => srvX_12 hy (hgs G hG i hi)⟩
    rw [← hg]; exact List.any_eq_true.2 ⟨G, hG, (subB_iff G G).2 fun _ h => h⟩
  constructor
  · intro hfam
    cases hp : proveL x y l 0#16 0#16 with
    | some T => exact ⟨T, rfl, key T hp⟩
    | none =>
      exfalso
      obtain ⟨A, B, h1, h2, h3⟩ := proveL_none hx hy l _ _ (fun i hi => by have := (hl i hi).1; omega) hp
      rw [← hf] at h1
      rw [← hg] at h2
      obtain ⟨F, hF, hFs⟩ := List.any_eq_true.1 h1
      obtain ⟨G, hG, hGs⟩ := List.any_eq_true.1 h2
      have hv := List.all_eq_true.1 (List.all_eq_true.1 hfam F hF) G hG
      have : viol F G b0 = true := (viol_iff _ _ _).2 fun i hi hj => by
        have f1 := (subB_iff _ _).1 hFs i hi
        have g1 := (subB_iff _ _).1 hGs i hj
        rw [hasB_allnot, Bool.and_eq_true, decide_eq_true_eq, Bool.not_eq_true'] at f1 g1
        cases hb : hasB b0 i
        · exfalso
          have := hall i f1.1 (.inl (hfs F hF i hi)) hb
          rcases h3 i (.inr (.inr this)) with h | h
          · rw [g1.2] at h; cases h
          · rw [f1.2] at h; cases h
        · rfl
      rw [this] at hv; cases hv
  · intro hfam
    cases hp : proveL x y l 0#16 0#16 with
    | none => rfl
    | some T =>
      exfalso
      have := cert_sound hx hy (key T hp) hfh hgh
      rw [hfam] at this; cases this
end Go.Proofs.YtcojmmhclklpoaaGreatDoor
namespace Go.Proofs.YtcojmmhclklpoaaGreatDoor

abbrev Byts := List UInt8
/-- the tree from a node on -/
def ctF (nodes : List Cho) : Nat → Int → CT
  | 0, _ => .fx
  | f + 1, i => if (nodes.getD i.toNat cho0).server = -1 then .fx else if (nodes.getD i.toNat cho0).server = -2 then .fy
    else .nd (nodes.getD i.toNat cho0).server.toNat (ctF nodes f (nodes.getD i.toNat cho0).first) (ctF nodes f (nodes.getD i.toNat cho0).second)
def CT.txt : CT → Byts
  | .fx => [120]
  | .fy => [121]
  | .nd i l r => Lib.decDigits i ++ [40] ++ l.txt ++ [44, 32] ++ r.txt ++ [41]
def txtF (nodes : List Cho) : Nat → Int → Byts
  | 0, _ => [120]
  | f + 1, i => if (nodes.getD i.toNat cho0).server = -1 then [120] else if (nodes.getD i.toNat cho0).server = -2 then [121]
    else Lib.decDigits (nodes.getD i.toNat cho0).server.toNat ++ [40] ++ txtF nodes f (nodes.getD i.toNat cho0).first ++ [44, 32] ++ txtF nodes f (nodes.getD i.toNat cho0).second ++ [41]
theorem txt_ct (nodes : List Cho) : ∀ (f : Nat) (i : Int), txtF nodes f i = (ctF nodes f i).txt := by
  intro f
  induction f with
  | zero => intro i; rfl
  | succ f ih =>
    intro i
    unfold txtF ctF
    split
    · rfl
    · split
      · rfl
      · rw [ih, ih]; rfl
/-- the text of a tree, or the error -/
def fmtC (t : Tre) : Byts × Int := if formC t = true then (txtF t.nodes t.nodes.length t.root, 0) else ([], 1)

/-! reading -/
def stripP : Byts → Byts → Option Byts
  | [], s => some s
  | c :: p, d :: s => if c = d then stripP p s else none
  | _ :: _, [] => none
theorem strip_app (p s : Byts) : stripP p (p ++ s) = some s := by
  induction p with
  | nil => rfl
  | cons c p ih => show (if c = c then stripP p (p ++ s) else none) = _; rw [if_pos rfl, ih]
theorem strip_some {p s r : Byts} (h : stripP p s = some r) : s = p ++ r := by
  induction p generalizing s with
  | nil => unfold stripP at h; cases h; rfl
  | cons c p ih =>
    cases s with
    | nil => cases h
    | cons d s =>
      unfold stripP at h
      split at h
      · rename_i e; subst e; rw [ih h]; rfl
      · cases h
/-- a number with its bracket -/
def numP (s : Byts) : Option (Nat × Byts) := (List.range 12).findSome? fun n => (stripP (Lib.decDigits n ++ [40]) s).map fun r => (n, r)
theorem dec12 : ∀ n : Fin 12, Lib.decDigits n.val = if n.val < 10 then [UInt8.ofNat (48 + n.val)] else [49, UInt8.ofNat (38 + n.val)] := by decide +kernel
theorem num_one {n m : Nat} (hn : n < 12) (hm : m < 12) {r r' : Byts} (h : Lib.decDigits n ++ [40] ++ r = Lib.decDigits m ++ [40] ++ r') : n = m ∧ r = r' := by
  have key : ∀ n m : Fin 12, (Lib.decDigits n.val ++ [40]).take 2 = (Lib.decDigits m.val ++ [40]).take 2 → n = m := by decide +kernel
  have len2 : ∀ n : Fin 12, 2 ≤ (Lib.decDigits n.val ++ [40]).length := by decide +kernel
  have e : (Lib.decDigits n ++ [40]).take 2 = (Lib.decDigits m ++ [40]).take 2 := by
    have := congrArg (List.take 2) h
    rwa [List.take_append_of_le_length (len2 ⟨n, hn⟩), List.take_append_of_le_length (len2 ⟨m, hm⟩)] at this
  have := key ⟨n, hn⟩ ⟨m, hm⟩ e
  have hnm : n = m := congrArg Fin.val this
  subst hnm
  exact ⟨rfl, List.append_cancel_left h⟩
theorem numP_app {n : Nat} (hn : n < 12) (r : Byts) : numP (Lib.decDigits n ++ [40] ++ r) = some (n, r) := by
  unfold numP
  cases h : (List.range 12).findSome? fun k => (stripP (Lib.decDigits k ++ [40]) (Lib.decDigits n ++ [40] ++ r)).map fun r => (k, r) with
  | none =>
    rw [List.findSome?_eq_none_iff] at h
    have := h n (List.mem_range.2 hn)
    rw [strip_app] at this
    cases this
  | some p =>
    obtain ⟨k, hk, hs⟩ := List.exists_of_findSome?_eq_some h
    cases hq : stripP (Lib.decDigits k ++ [40]) (Lib.decDigits n ++ [40] ++ r) with
    | none => rw [hq] at hs; cases hs
    | some r' =>
      rw [hq] at hs
      have h1 := strip_some hq
      obtain ⟨rfl, rfl⟩ := num_one hn (List.mem_range.1 hk) h1
      cases hs; rfl
theorem numP_some {s r : Byts} {n : Nat} (h : numP s = some (n, r)) : n < 12 ∧ s = Lib.decDigits n ++ [40] ++ r := by
  unfold numP at h
  obtain ⟨k, hk, hs⟩ := List.exists_of_findSome?_eq_some h
  cases hq : stripP (Lib.decDigits k ++ [40]) s with
  | none => rw [hq] at hs; cases hs
  | some r' =>
    rw [hq] at hs
    cases hs
    exact ⟨List.mem_range.1 hk, strip_some hq⟩
theorem numP_none {s : Byts} (h : numP s = none) {n : Nat} (hn : n < 12) (r : Byts) : s ≠ Lib.decDigits n ++ [40] ++ r := by
  intro e
  rw [e, numP_app hn] at h; cases h

def pnode : Nat → Byts → List Cho → Option (Byts × List Cho)
  | 0, _, _ => none
  | f + 1, s, ns =>
    match stripP [120] s with
    | some r => some (r, ns ++ [⟨-1, 0, 0⟩])
    | none => match stripP [121] s with
      | some r => some (r, ns ++ [⟨-2, 0, 0⟩])
      | none => match numP s with
        | none => none
        | some (n, r) => match pnode f r ns with
          | none => none
          | some (r2, n2) => match stripP [44, 32] r2 with
            | none => none
            | some r3 => match pnode f r3 n2 with
              | none => none
              | some (r4, n4) => match stripP [41] r4 with
                | none => none
                | some r5 => some (r5, n4 ++ [⟨n, ((n2.length - 1 : Nat) : Int), ((n4.length - 1 : Nat) : Int)⟩])
/-- the tree with a text, or the error -/
def parC (s : Byts) : Tre × Int := match pnode (s.length + 1) s [] with
  | some ([], ns) => if ns.length ≤ 8191 then (⟨ns, ((ns.length - 1 : Nat) : Int)⟩, 0) else (⟨[], 0⟩, 2)
  | _ => (⟨[], 0⟩, 2)
theorem dec_head : ∀ n : Fin 12, ∃ c r, Lib.decDigits n.val = c :: r ∧ c ≠ 120 ∧ c ≠ 121 := by
  intro n
  have h1 := dec12 n
  have h2 : ∀ n : Fin 12, (if n.val < 10 then [UInt8.ofNat (48 + n.val)] else [49, UInt8.ofNat (38 + n.val)] : Byts).headD 120 ≠ 120 ∧ (if n.val < 10 then [UInt8.ofNat (48 + n.val)] else [49, UInt8.ofNat (38 + n.val)] : Byts).headD 120 ≠ 121 := by decide +kernel
  have h3 := h2 n
  rw [← h1] at h3
  cases hd : Lib.decDigits n.val with
  | nil => rw [hd] at h3; exact absurd rfl h3.1
  | cons c r => rw [hd] at h3; exact ⟨c, r, rfl, h3.1, h3.2⟩
theorem txt_len (T : CT) : T.sz ≤ T.txt.length := by
  induction T with
  | fx => exact Nat.le_refl _
  | fy => exact Nat.le_refl _
  | nd i l r h1 h2 => simp only [CT.txt, CT.sz, List.length_append, List.length_cons, List.length_nil]; omega
/-- the text of a tree leads back to it -/
theorem pnode_txt (T : CT) (hT : T.low) : ∀ (f : Nat) (rest : Byts) (ns : List Cho), T.sz ≤ f → pnode f (T.txt ++ rest) ns = some (rest, ns ++ T.bod ns.length) := by
  induction T with
  | fx => intro f rest ns hf; obtain ⟨f, rfl⟩ : ∃ g, f = g + 1 := ⟨f - 1, by have : 1 ≤ f := hf; omega⟩; rfl
  | fy => intro f rest ns hf; obtain ⟨f, rfl⟩ : ∃ g, f = g + 1 := ⟨f - 1, by have : 1 ≤ f := hf; omega⟩; rfl
  | nd i l r h1 h2 =>
    intro f rest ns hf
    obtain ⟨hi, hl, hr⟩ := hT
    have hls := l.sz_pos
    have hrs := r.sz_pos
    have hsz : (CT.nd i l r).sz = l.sz + r.sz + 1 := rfl
    rw [hsz] at hf
    obtain ⟨f, rfl⟩ : ∃ g, f = g + 1 := ⟨f - 1, by omega⟩
    obtain ⟨c, cr, hc, hcx, hcy⟩ := dec_head ⟨i, hi⟩
    have e : (CT.nd i l r).txt ++ rest = Lib.decDigits i ++ [40] ++ (l.txt ++ ([44, 32] ++ (r.txt ++ ([41] ++ rest)))) := by simp [CT.txt]
    have hx : stripP [120] (Lib.decDigits i ++ [40] ++ (l.txt ++ ([44, 32] ++ (r.txt ++ ([41] ++ rest))))) = none := by
      simp only at hc
      rw [hc]; show (if (120 : UInt8) = c then _ else none) = none; rw [if_neg (fun e => hcx e.symm)]
    have hy : stripP [121] (Lib.decDigits i ++ [40] ++ (l.txt ++ ([44, 32] ++ (r.txt ++ ([41] ++ rest))))) = none := by
      simp only at hc
      rw [hc]; show (if (121 : UInt8) = c then _ else none) = none; rw [if_neg (fun e => hcy e.symm)]
    unfold pnode
    rw [e, hx, hy, numP_app hi]
    simp only
    rw [h1 hl f _ ns (by omega)]
    simp only
    rw [strip_app]
    simp only
    rw [h2 hr f _ _ (by omega)]
    simp only
    rw [strip_app]
    simp [CT.bod, CT.bod_len, Nat.add_assoc]
theorem parC_txt (T : CT) (hT : T.low) (hs : T.sz ≤ 8191) : parC T.txt = (T.tre, 0) := by
  unfold parC
  have := pnode_txt T hT (T.txt.length + 1) [] [] (by have := txt_len T; omega)
  rw [List.append_nil, List.nil_append, List.length_nil] at this
  rw [this]
  simp only
  rw [if_pos (by rw [CT.bod_len]; exact hs), CT.bod_len]; rfl
/-! formed trees -/
theorem ct_low {nodes : List Cho} (hn : nodsC nodes = true) : ∀ (f : Nat) (i : Int), 0 ≤ i → i.toNat < nodes.length → i.toNat < f → (ctF nodes f i).low := by
  intro f
  induction f with
  | zero => intro i _ _ h; omega
  | succ f ih =>
    intro i h0 h1 h2
    unfold ctF
    have hc := nodsC_at hn h1
    split
    · trivial
    · rename_i q1
      split
      · trivial
      · rename_i q2
        have hlf : leafC (nodes.getD i.toNat cho0) = false := by unfold leafC; rw [decide_eq_false q1, decide_eq_false q2]; rfl
        obtain ⟨hs, hf, hsc⟩ := nodC_leaf hc hlf
        exact ⟨by omega, ih _ hf.1 (by omega) (by omega), ih _ hsc.1 (by omega) (by omega)⟩
/-- the sizes of the trees from the first nodes on -/
def szTo (nodes : List Cho) : Nat → List Nat
  | 0 => []
  | k + 1 => szTo nodes k ++ [if leafC (nodes.getD k cho0) = true then 1 else (szTo nodes k).getD (nodes.getD k cho0).first.toNat 0 + (szTo nodes k).getD (nodes.getD k cho0).second.toNat 0 + 1]
theorem szTo_len (nodes : List Cho) : ∀ k, (szTo nodes k).length = k := by
  intro k
  induction k with
  | zero => rfl
  | succ k ih => rw [szTo, List.length_append, ih]; rfl
theorem szTo_get (nodes : List Cho) {i : Nat} : ∀ k, i < k → (szTo nodes k).getD i 0 = (szTo nodes (i + 1)).getD i 0 := by
  intro k
  induction k with
  | zero => intro h; omega
  | succ k ih =>
    intro h
    by_cases h1 : i < k
    · rw [szTo, List.getD_eq_getElem?_getD, List.getElem?_append_left (by rw [szTo_len]; exact h1), ← List.getD_eq_getElem?_getD]
      exact ih h1
    · obtain rfl : i = k := by omega
      rfl
theorem szTo_at (nodes : List Cho) (k : Nat) : (szTo nodes (k + 1)).getD k 0 = if leafC (nodes.getD k cho0) = true then 1 else (szTo nodes k).getD (nodes.getD k cho0).first.toNat 0 + (szTo nodes k).getD (nodes.getD k cho0).second.toNat 0 + 1 := by
  rw [szTo, List.getD_eq_getElem?_getD, List.getElem?_append_right (by rw [szTo_len]; exact Nat.le_refl _), szTo_len, Nat.sub_self]; rfl
theorem ct_sz {nodes : List Cho} (hn : nodsC nodes = true) : ∀ (f : Nat) (i : Int), 0 ≤ i → i.toNat < nodes.length → i.toNat < f → (ctF nodes f i).sz = (szTo nodes nodes.length).getD i.toNat 0 := by
  intro f
  induction f with
  | zero => intro i _ _ h; omega
  | succ f ih =>
    intro i h0 h1 h2
    rw [szTo_get nodes _ h1, szTo_at]
    unfold ctF
    have hc := nodsC_at hn h1
    by_cases q1 : (nodes.getD i.toNat cho0).server = -1
    · have hlf : leafC (nodes.getD i.toNat cho0) = true := by unfold leafC; rw [decide_eq_true q1]; rfl
      rw [if_pos q1, if_pos hlf]; rfl
    · rw [if_neg q1]
      by_cases q2 : (nodes.getD i.toNat cho0).server = -2
      · have hlf : leafC (nodes.getD i.toNat cho0) = true := by unfold leafC; rw [decide_eq_true q2, Bool.or_true]
        rw [if_pos q2, if_pos hlf]; rfl
      · have hlf : leafC (nodes.getD i.toNat cho0) = false := by unfold leafC; rw [decide_eq_false q1, decide_eq_false q2]; rfl
        obtain ⟨hs, hf, hsc⟩ := nodC_leaf hc hlf
        rw [if_neg q2, hlf, if_neg (by decide)]
        show (ctF nodes f _).sz + (ctF nodes f _).sz + 1 = _
        rw [ih _ hf.1 (by omega) (by omega), ih _ hsc.1 (by omega) (by omega), szTo_get nodes _ (show _ < nodes.length by omega), szTo_get nodes _ (show (nodes.getD i.toNat cho0).second.toNat < nodes.length by omega),
          ← szTo_get nodes i.toNat (by omega), ← szTo_get nodes i.toNat (by omega)]
/-- the sum of the sizes of what has no parent yet -/
def pend (nodes : List Cho) (ps : List Int) : Nat → Nat
  | 0 => 0
  | j + 1 => pend nodes ps j + (if ps.getD j 0 = 0 then (szTo nodes (j + 1)).getD j 0 else 0)
theorem pend_congr {nodes : List Cho} {ps qs : List Int} : ∀ k, (∀ j, j < k → (ps.getD j 0 = 0 ↔ qs.getD j 0 = 0)) → pend nodes ps k = pend nodes qs k := by
  intro k
  induction k with
  | zero => intro _; rfl
  | succ k ih =>
    intro h
    unfold pend
    rw [ih fun j hj => h j (by omega)]
    have := h k (by omega)
    by_cases q : ps.getD k 0 = 0
    · rw [if_pos q, if_pos (this.1 q)]
    · rw [if_neg q, if_neg (fun e => q (this.2 e))]
theorem pend_set {nodes : List Cho} {ps : List Int} {a : Nat} (ha : ps.getD a 0 = 0) : ∀ k, a < k → k ≤ ps.length → pend nodes (ps.set a 1) k + (szTo nodes (a + 1)).getD a 0 = pend nodes ps k := by
  intro k
  induction k with
  | zero => intro h; omega
  | succ k ih =>
    intro h hk
    unfold pend
    rw [getD_set (by omega)]
    by_cases q : k = a
    · subst q
      rw [if_pos rfl, if_neg (by decide), ha, if_pos rfl]
      rw [pend_congr (ps := ps.set k 1) (qs := ps) k fun j hj => by rw [getD_set (by omega), if_neg (by omega)]]
      omega
    · rw [if_neg q]
      have := ih (by omega) (by omega)
      omega
theorem bump_ge (ps : List Int) (a : Int) (j : Nat) : ps.getD j 0 ≤ (bumpS ps a).getD j 0 := by
  unfold bumpS
  by_cases h : a.toNat < ps.length
  · rw [getD_set h]
    split
    · rename_i e; subst e; omega
    · exact Int.le_refl _
  · rw [List.set_eq_of_length_le (by omega)]; exact Int.le_refl _
theorem par_ge (ps : List Int) (c : Cho) (j : Nat) : ps.getD j 0 ≤ (parStep ps c).getD j 0 := by
  unfold parStep
  split
  · exact Int.le_refl _
  · exact Int.le_trans (bump_ge _ _ _) (bump_ge _ _ _)
theorem parTo_ge (nodes : List Cho) {k m : Nat} (h : k ≤ m) (j : Nat) : (parTo nodes k).getD j 0 ≤ (parTo nodes m).getD j 0 := by
  induction m with
  | zero => obtain rfl : k = 0 := by omega
            exact Int.le_refl _
  | succ m ih =>
    by_cases hk : k ≤ m
    · refine Int.le_trans (ih hk) ?_
      cases hc : nodes[m]? with
      | none => unfold parTo; rw [List.take_add_one, hc]; simp
      | some c => rw [parTo_succ hc]; exact par_ge _ _ _
    · obtain rfl : k = m + 1 := by omega
      exact Int.le_refl _
theorem parTo_nonneg (nodes : List Cho) (k j : Nat) : 0 ≤ (parTo nodes k).getD j 0 := by
  have := parTo_ge nodes (Nat.zero_le k) j
  have e : (parTo nodes 0).getD j 0 = 0 := by
    unfold parTo
    rw [List.take_zero, List.foldl_nil, List.getD_eq_getElem?_getD, List.getElem?_replicate]; split <;> rfl
  omega
/-- nodes that no one has come to yet have no parent -/
theorem parTo_late {nodes : List Cho} (hn : nodsC nodes = true) : ∀ k, k ≤ nodes.length → ∀ j, k ≤ j → (parTo nodes k).getD j 0 = 0 := by
  intro k
  induction k with
  | zero =>
    intro _ j _
    unfold parTo
    rw [List.take_zero, List.foldl_nil, List.getD_eq_getElem?_getD, List.getElem?_replicate]; split <;> rfl
  | succ k ih =>
    intro hk j hj
    have hc : nodes[k]? = some (nodes.getD k cho0) := by rw [List.getD_eq_getElem?_getD, List.getElem?_eq_getElem (by omega)]; rfl
    rw [parTo_succ hc]
    have hnc := nodsC_at hn (show k < nodes.length by omega)
    have h0 := ih (by omega) j (by omega)
    unfold parStep
    cases hlf : leafC (nodes.getD k cho0)
    · obtain ⟨_, hf, hs⟩ := nodC_leaf hnc hlf
      rw [if_neg (by decide)]
      unfold bumpS
      rw [getD_set (by rw [List.length_set, parTo_len]; omega), if_neg (by omega), getD_set (by rw [parTo_len]; omega), if_neg (by omega)]
      exact h0
    · rw [if_pos rfl]; exact h0
theorem pend_all {t : Tre} (h : formC t = true) : ∀ k, k ≤ t.nodes.length → pend t.nodes (parTo t.nodes k) k = k := by
  obtain ⟨⟨h1, h2, h3, h4⟩, hn, hp⟩ := formC_parts h
  have hfin : ∀ j, j < t.nodes.length → (parTo t.nodes t.nodes.length).getD j 0 ≤ 1 := fun j hj => by
    have := List.all_eq_true.1 hp j (List.mem_range.2 hj)
    unfold parB at this
    split at this
    · have := eq_of_beq this; omega
    · have := eq_of_beq this; omega
  intro k
  induction k with
  | zero => intro _; rfl
  | succ k ih =>
    intro hk
    have hc : t.nodes[k]? = some (t.nodes.getD k cho0) := by rw [List.getD_eq_getElem?_getD, List.getElem?_eq_getElem (by omega)]; rfl
    have hnc := nodsC_at hn (show k < t.nodes.length by omega)
    have hih := ih (by omega)
    have hlate := parTo_late hn (k + 1) hk k
    unfold pend
    have hk0 : (parTo t.nodes (k + 1)).getD k 0 = 0 := by
      rw [parTo_succ hc]
      have h0 := parTo_late hn k (by omega) k (Nat.le_refl _)
      unfold parStep
      cases hlf : leafC (t.nodes.getD k cho0)
      · obtain ⟨_, hf, hs⟩ := nodC_leaf hnc hlf
        rw [if_neg (by decide)]
        unfold bumpS
        rw [getD_set (by rw [List.length_set, parTo_len]; omega), if_neg (by omega), getD_set (by rw [parTo_len]; omega), if_neg (by omega)]
        exact h0
      · rw [if_pos rfl]; exact h0
    rw [if_pos hk0, szTo_at]
    cases hlf : leafC (t.nodes.getD k cho0)
    · obtain ⟨_, hf, hs⟩ := nodC_leaf hnc hlf
      rw [if_neg (by decide)]
      obtain ⟨a, ha⟩ : ∃ a, (t.nodes.getD k cho0).first.toNat = a := ⟨_, rfl⟩
      obtain ⟨b, hb⟩ : ∃ b, (t.nodes.getD k cho0).second.toNat = b := ⟨_, rfl⟩
      have hak : a < k := by omega
      have hbk : b < k := by omega
      have hstep : parTo t.nodes (k + 1) = ((parTo t.nodes k).set a ((parTo t.nodes k).getD a 0 + 1)).set b (((parTo t.nodes k).set a ((parTo t.nodes k).getD a 0 + 1)).getD b 0 + 1) := by
        rw [parTo_succ hc]; unfold parStep; rw [hlf, if_neg (by decide)]; unfold bumpS; rw [ha, hb]
      have hlen := parTo_len t.nodes k
      have f1 := hfin a (by omega)
      have f2 := hfin b (by omega)
      have g1 := parTo_ge t.nodes hk a
      have g2 := parTo_ge t.nodes hk b
      have p1 := parTo_nonneg t.nodes k a
      have p2 := parTo_nonneg t.nodes k b
      rw [hstep] at g1 g2
      rw [getD_set (by rw [List.length_set]; omega), getD_set (by omega)] at g1
      rw [getD_set (by rw [List.length_set]; omega), if_pos rfl, getD_set (by omega)] at g2
      have hab : a ≠ b := by
        intro e; subst e
        rw [if_pos rfl] at g2
        omega
      rw [if_neg (fun e => hab e), getD_set (by omega), if_pos rfl] at g1
      rw [if_neg (fun e => hab e.symm)] at g2
      have a0 : (parTo t.nodes k).getD a 0 = 0 := by omega
      have b0 : (parTo t.nodes k).getD b 0 = 0 := by omega
      rw [hstep, a0, getD_set (by omega), if_neg (fun e => hab e.symm), b0]
      have e1 := pend_set (nodes := t.nodes) a0 k hak (by omega)
      have e2 := pend_set (nodes := t.nodes) (ps := (parTo t.nodes k).set a 1) (a := b) (by rw [getD_set (by omega), if_neg (fun e => hab e.symm)]; exact b0) k hbk (by rw [List.length_set]; omega)
      rw [ha, hb, szTo_get t.nodes k hak, szTo_get t.nodes k hbk]
      show pend t.nodes (((parTo t.nodes k).set a (0 + 1)).set b (0 + 1)) k + _ = k + 1
      rw [Int.zero_add]
      omega
    · rw [if_pos rfl]
      have : parTo t.nodes (k + 1) = parTo t.nodes k := by rw [parTo_succ hc]; unfold parStep; rw [hlf, if_pos rfl]
      rw [this, hih]
theorem pend_one {nodes : List Cho} {ps : List Int} {r : Nat} (hr : ps.getD r 0 = 0) : ∀ k, (∀ j, j < k → j ≠ r → ps.getD j 0 ≠ 0) → pend nodes ps k = if r < k then (szTo nodes (r + 1)).getD r 0 else 0 := by
  intro k
  induction k with
  | zero => intro _; rfl
  | succ k ih =>
    intro h
    unfold pend
    rw [ih fun j hj => h j (by omega)]
    by_cases q : k = r
    · subst q; rw [if_neg (by omega), if_pos hr, if_pos (by omega)]; omega
    · rw [if_neg (h k (by omega) q)]
      by_cases q2 : r < k
      · rw [if_pos q2, if_pos (by omega)]; rfl
      · rw [if_neg q2, if_neg (by omega)]
/-- a formed tree comes to each of its nodes once -/
theorem form_sz {t : Tre} (h : formC t = true) : (ctF t.nodes t.nodes.length t.root).sz = t.nodes.length := by
  obtain ⟨⟨h1, h2, h3, h4⟩, hn, hp⟩ := formC_parts h
  rw [ct_sz hn _ _ h3 (by omega) (by omega), szTo_get t.nodes _ (by omega)]
  have hall := pend_all h _ (Nat.le_refl _)
  have hpar : ∀ j, j < t.nodes.length → parB t.root (parTo t.nodes t.nodes.length) j = true := fun j hj => List.all_eq_true.1 hp j (List.mem_range.2 hj)
  rw [pend_one (r := t.root.toNat)] at hall
  · rw [if_pos (by omega)] at hall; exact hall
  · have := hpar t.root.toNat (by omega)
    unfold parB at this
    rw [if_pos (by omega)] at this
    exact eq_of_beq this
  · intro j hj hne
    have := hpar j hj
    unfold parB at this
    rw [if_neg (by omega)] at this
    rw [eq_of_beq this]; decide
theorem txtF_tre (T : CT) (hT : T.low) : ∀ (k f : Nat) (N : List Cho), T.sz ≤ f → (∀ j c, (T.bod k)[j]? = some c → N[k + j]? = some c) → txtF N f ((k + T.sz - 1 : Nat) : Int) = T.txt := by
  induction T with
  | fx =>
    intro k f N hf hN
    obtain ⟨f, rfl⟩ : ∃ g, f = g + 1 := ⟨f - 1, by have : 1 ≤ f := hf; omega⟩
    have hc := hN 0 _ rfl
    have hg : N.getD (((k + CT.fx.sz - 1 : Nat) : Int)).toNat cho0 = ⟨-1, 0, 0⟩ := by
      rw [Int.toNat_natCast, List.getD_eq_getElem?_getD, show k + CT.fx.sz - 1 = k + 0 by show k + 1 - 1 = k + 0; omega, hc]; rfl
    unfold txtF
    rw [hg]; rfl
  | fy =>
    intro k f N hf hN
    obtain ⟨f, rfl⟩ : ∃ g, f = g + 1 := ⟨f - 1, by have : 1 ≤ f := hf; omega⟩
    have hc := hN 0 _ rfl
    have hg : N.getD (((k + CT.fy.sz - 1 : Nat) : Int)).toNat cho0 = ⟨-2, 0, 0⟩ := by
      rw [Int.toNat_natCast, List.getD_eq_getElem?_getD, show k + CT.fy.sz - 1 = k + 0 by show k + 1 - 1 = k + 0; omega, hc]; rfl
    unfold txtF
    rw [hg]; rfl
  | nd i l r h1 h2 =>
    intro k f N hf hN
    obtain ⟨hi, hl, hr⟩ := hT
    have hls := l.sz_pos
    have hrs := r.sz_pos
    have hsz : (CT.nd i l r).sz = l.sz + r.sz + 1 := rfl
    rw [hsz] at hf ⊢
    obtain ⟨f, rfl⟩ : ∃ g, f = g + 1 := ⟨f - 1, by omega⟩
    have hc : N[k + (l.sz + r.sz)]? = some ⟨i, ((k + l.sz - 1 : Nat) : Int), ((k + l.sz + r.sz - 1 : Nat) : Int)⟩ := by
      refine hN (l.sz + r.sz) _ ?_
      show (l.bod k ++ r.bod (k + l.sz) ++ _)[l.sz + r.sz]? = _
      rw [List.getElem?_append_right (by simp [CT.bod_len])]
      simp [CT.bod_len]
    have hNl : ∀ j c, (l.bod k)[j]? = some c → N[k + j]? = some c := fun j c h => hN j c (by
      show (l.bod k ++ r.bod (k + l.sz) ++ _)[j]? = _
      have := (List.getElem?_eq_some_iff.1 h).1
      rw [List.append_assoc, List.getElem?_append_left this]; exact h)
    have hNr : ∀ j c, (r.bod (k + l.sz))[j]? = some c → N[k + l.sz + j]? = some c := fun j c h => by
      have := hN (l.sz + j) c (by
        show (l.bod k ++ r.bod (k + l.sz) ++ _)[l.sz + j]? = _
        have hjl := (List.getElem?_eq_some_iff.1 h).1
        rw [List.getElem?_append_left (by rw [List.length_append, CT.bod_len]; omega), List.getElem?_append_right (by rw [CT.bod_len]; omega), CT.bod_len]
        rw [show l.sz + j - l.sz = j by omega]; exact h)
      rwa [← Nat.add_assoc] at this
    have hg : N.getD (((k + (l.sz + r.sz + 1) - 1 : Nat) : Int)).toNat cho0 = ⟨i, ((k + l.sz - 1 : Nat) : Int), ((k + l.sz + r.sz - 1 : Nat) : Int)⟩ := by
      rw [Int.toNat_natCast, List.getD_eq_getElem?_getD, show k + (l.sz + r.sz + 1) - 1 = k + (l.sz + r.sz) by omega, hc]; rfl
    unfold txtF
    rw [hg]
    simp only
    rw [if_neg (by omega), if_neg (by omega), Int.toNat_natCast, h1 hl k f N (by omega) hNl, h2 hr (k + l.sz) f N (by omega) hNr]
    rfl
theorem fmt_tre (T : CT) (hT : T.low) (hs : T.sz ≤ 8191) : fmtC T.tre = (T.txt, 0) := by
  unfold fmtC
  rw [if_pos (tre_form T hT hs)]
  have := txtF_tre T hT 0 T.sz (T.bod 0) (Nat.le_refl _) (fun j c h => by rwa [Nat.zero_add])
  rw [Nat.zero_add] at this
  show (txtF (T.bod 0) (T.bod 0).length ((T.sz - 1 : Nat) : Int), (0 : Int)) = _
  rw [T.bod_len, this]
/-- the text of a formed tree leads to a tree with as many nodes and the same text -/
theorem text_back {t : Tre} (h : formC t = true) : ∃ u, parC (fmtC t).1 = (u, 0) ∧ fmtC u = ((fmtC t).1, 0) ∧ u.nodes.length = t.nodes.length := by
  obtain ⟨⟨h1, h2, h3, h4⟩, hn, _⟩ := formC_parts h
  have hlow := ct_low hn t.nodes.length t.root h3 (by omega) (by omega)
  have hsz := form_sz h
  have e : (fmtC t).1 = (ctF t.nodes t.nodes.length t.root).txt := by unfold fmtC; rw [if_pos h]; exact txt_ct _ _ _
  refine ⟨(ctF t.nodes t.nodes.length t.root).tre, ?_, ?_, ?_⟩
  · rw [e]; exact parC_txt _ hlow (by omega)
  · rw [e]; exact fmt_tre _ hlow (by omega)
  · show ((ctF t.nodes t.nodes.length t.root).bod 0).length = _
    rw [CT.bod_len, hsz]
end Go.Proofs.YtcojmmhclklpoaaGreatDoor
namespace Go.Proofs.YtcojmmhclklpoaaGreatDoor

theorem strip_trim : ∀ (p s : Byts), stripP p s = if Lib.hasPrefix s p = true then some (Lib.trimPrefix s p) else none := by
  intro p
  induction p with
  | nil => intro s; unfold Lib.trimPrefix Lib.hasPrefix; simp [stripP]
  | cons c p ih =>
    intro s
    cases s with
    | nil => unfold Lib.hasPrefix; simp [stripP]
    | cons d s =>
      have h := ih s
      unfold Lib.trimPrefix Lib.hasPrefix at h ⊢
      unfold stripP
      by_cases e : c = d
      · subst e
        rw [if_pos rfl, h]
        have e : (c :: p).isPrefixOf (c :: s) = p.isPrefixOf s := by simp [List.isPrefixOf]
        rw [e]
        cases p.isPrefixOf s <;> rfl
      · rw [if_neg e, if_neg (by simp [List.isPrefixOf, e])]
theorem strip_yes {p s r : Byts} (h : stripP p s = some r) : Lib.hasPrefix s p = true ∧ Lib.trimPrefix s p = r := by
  rw [strip_trim] at h
  split at h
  · rename_i e; exact ⟨e, Option.some.inj h⟩
  · cases h
theorem strip_no {p s : Byts} (h : stripP p s = none) : Lib.hasPrefix s p = false ∧ Lib.trimPrefix s p = s := by
  rw [strip_trim] at h
  split at h
  · cases h
  · rename_i e
    have e' : Lib.hasPrefix s p = false := by simpa using e
    exact ⟨e', by unfold Lib.trimPrefix; rw [if_neg (by rw [e']; decide)]⟩
theorem strip_len {p s r : Byts} (h : stripP p s = some r) : p.length + r.length = s.length := by rw [strip_some h, List.length_append]

theorem dec_atoi (n : Nat) (hn : n < 12) : Lib.atoiAll (Lib.decDigits n) = .ok (n : Int) := by
  have h1 := dec12 ⟨n, hn⟩
  simp only at h1
  rw [h1]
  have : ∀ n : Fin 12, Lib.atoiAll (if n.val < 10 then [UInt8.ofNat (48 + n.val)] else [49, UInt8.ofNat (38 + n.val)] : Byts) = .ok (n.val : Int) := by decide +kernel
  exact this ⟨n, hn⟩
theorem dec_no40 (n : Nat) (hn : n < 12) : (40 : UInt8) ∉ Lib.decDigits n := by
  have h1 := dec12 ⟨n, hn⟩
  simp only at h1
  rw [h1]
  have : ∀ n : Fin 12, (40 : UInt8) ∉ (if n.val < 10 then [UInt8.ofNat (48 + n.val)] else [49, UInt8.ofNat (38 + n.val)] : Byts) := by decide +kernel
  exact this ⟨n, hn⟩
theorem num_nobr {s : Byts} (h : Lib.indexByte s 40 = -1) : numP s = none := by
  cases hq : numP s with
  | none => rfl
  | some p =>
    obtain ⟨n, r⟩ := p
    obtain ⟨_, e⟩ := numP_some hq
    have := Lib.indexByte_none h (Lib.decDigits n).length
    rw [e] at this
    exact absurd (by simp) this
theorem idx_split {s : Byts} {k : Nat} (h : Lib.indexByte s 40 = (k : Int)) : k < s.length ∧ s = s.take k ++ [40] ++ s.drop (k + 1) := by
  obtain ⟨h1, _⟩ := Lib.indexByte_some h
  obtain ⟨hk, e⟩ := List.getElem?_eq_some_iff.1 h1
  refine ⟨hk, ?_⟩
  have := List.drop_eq_getElem_cons hk
  rw [e] at this
  rw [List.append_assoc, List.singleton_append, ← this, List.take_append_drop]
theorem num_pre {s r : Byts} {n k : Nat} (h : Lib.indexByte s 40 = (k : Int)) (hq : numP s = some (n, r)) : n < 12 ∧ s.take k = Lib.decDigits n ∧ s.drop (k + 1) = r := by
  obtain ⟨hn, e⟩ := numP_some hq
  obtain ⟨h1, h2⟩ := Lib.indexByte_some h
  have hlen : (Lib.decDigits n).length = k := by
    rcases Nat.lt_trichotomy k (Lib.decDigits n).length with hl | hl | hl
    · exfalso
      rw [e, List.append_assoc, List.getElem?_append_left hl] at h1
      exact dec_no40 n hn (List.mem_of_getElem? h1)
    · exact hl.symm
    · exfalso
      refine h2 _ hl ?_
      rw [e]; simp
  refine ⟨hn, ?_, ?_⟩
  · rw [e, List.append_assoc, ← hlen]; simp
  · rw [e, ← hlen]; simp
theorem num_yes {s : Byts} {n k : Nat} (h : Lib.indexByte s 40 = (k : Int)) (hn : n < 12) (hp : Lib.decDigits n = s.take k) : numP s = some (n, s.drop (k + 1)) := by
  have e := (idx_split h).2
  have := numP_app hn (s.drop (k + 1))
  rw [hp, ← e] at this
  exact this
theorem num_err {s : Byts} {k : Nat} (h : Lib.indexByte s 40 = (k : Int)) (ha : ∀ v, Lib.atoiAll (s.take k) ≠ .ok v) : numP s = none := by
  cases hq : numP s with
  | none => rfl
  | some p =>
    obtain ⟨n, r⟩ := p
    obtain ⟨hn, e, _⟩ := num_pre h hq
    exact absurd (by rw [e]; exact dec_atoi n hn) (ha (n : Int))
theorem num_out {s : Byts} {k : Nat} {v : Int} (h : Lib.indexByte s 40 = (k : Int)) (ha : Lib.atoiAll (s.take k) = .ok v) (hv : v < 0 ∨ 12 ≤ v) : numP s = none := by
  cases hq : numP s with
  | none => rfl
  | some p =>
    obtain ⟨n, r⟩ := p
    obtain ⟨hn, e, _⟩ := num_pre h hq
    rw [e, dec_atoi n hn] at ha
    cases ha; omega
theorem num_other {s : Byts} {k : Nat} {n : Nat} (h : Lib.indexByte s 40 = (k : Int)) (ha : Lib.atoiAll (s.take k) = .ok (n : Int)) (hv : Lib.decDigits n ≠ s.take k) : numP s = none := by
  cases hq : numP s with
  | none => rfl
  | some p =>
    obtain ⟨m, r⟩ := p
    obtain ⟨hm, e, _⟩ := num_pre h hq
    rw [e, dec_atoi m hm] at ha
    have : m = n := by cases ha; rfl
    subst this
    exact absurd e.symm hv
theorem num_len {s r : Byts} {n : Nat} (h : numP s = some (n, r)) : r.length + 2 ≤ s.length := by
  obtain ⟨hn, e⟩ := numP_some h
  have h1 : 1 ≤ (Lib.decDigits n).length := by
    obtain ⟨c, r', hc, _⟩ := dec_head ⟨n, hn⟩
    simp only at hc
    rw [hc]; simp
  rw [e]; simp; omega

/-! one node -/
section
variable {f : Nat} {s : Byts} {ns : List Cho}
theorem pn_x {r : Byts} (h : stripP [120] s = some r) : pnode (f + 1) s ns = some (r, ns ++ [⟨-1, 0, 0⟩]) := by unfold pnode; rw [h]
theorem pn_y {r : Byts} (h0 : stripP [120] s = none) (h : stripP [121] s = some r) : pnode (f + 1) s ns = some (r, ns ++ [⟨-2, 0, 0⟩]) := by unfold pnode; rw [h0, h]
theorem pn_0 (h0 : stripP [120] s = none) (h1 : stripP [121] s = none) (h : numP s = none) : pnode (f + 1) s ns = none := by unfold pnode; rw [h0, h1, h]
theorem pn_1 {n : Nat} {r : Byts} (h0 : stripP [120] s = none) (h1 : stripP [121] s = none) (h2 : numP s = some (n, r)) (h : pnode f r ns = none) : pnode (f + 1) s ns = none := by
  unfold pnode; rw [h0, h1, h2]; simp only; rw [h]
theorem pn_2 {n : Nat} {r r2 : Byts} {n2 : List Cho} (h0 : stripP [120] s = none) (h1 : stripP [121] s = none) (h2 : numP s = some (n, r)) (h3 : pnode f r ns = some (r2, n2)) (h : stripP [44, 32] r2 = none) : pnode (f + 1) s ns = none := by
  unfold pnode; rw [h0, h1, h2]; simp only; rw [h3]; simp only; rw [h]
theorem pn_3 {n : Nat} {r r2 r3 : Byts} {n2 : List Cho} (h0 : stripP [120] s = none) (h1 : stripP [121] s = none) (h2 : numP s = some (n, r)) (h3 : pnode f r ns = some (r2, n2)) (h4 : stripP [44, 32] r2 = some r3) (h : pnode f r3 n2 = none) : pnode (f + 1) s ns = none := by
  unfold pnode; rw [h0, h1, h2]; simp only; rw [h3]; simp only; rw [h4]; simp only; rw [h]
theorem pn_4 {n : Nat} {r r2 r3 r4 : Byts} {n2 n4 : List Cho} (h0 : stripP [120] s = none) (h1 : stripP [121] s = none) (h2 : numP s = some (n, r)) (h3 : pnode f r ns = some (r2, n2)) (h4 : stripP [44, 32] r2 = some r3) (h5 : pnode f r3 n2 = some (r4, n4)) (h : stripP [41] r4 = none) : pnode (f + 1) s ns = none := by
  unfold pnode; rw [h0, h1, h2]; simp only; rw [h3]; simp only; rw [h4]; simp only; rw [h5]; simp only; rw [h]
theorem pn_5 {n : Nat} {r r2 r3 r4 r5 : Byts} {n2 n4 : List Cho} (h0 : stripP [120] s = none) (h1 : stripP [121] s = none) (h2 : numP s = some (n, r)) (h3 : pnode f r ns = some (r2, n2)) (h4 : stripP [44, 32] r2 = some r3) (h5 : pnode f r3 n2 = some (r4, n4)) (h : stripP [41] r4 = some r5) :
    pnode (f + 1) s ns = some (r5, n4 ++ [⟨n, ((n2.length - 1 : Nat) : Int), ((n4.length - 1 : Nat) : Int)⟩]) := by
  unfold pnode; rw [h0, h1, h2]; simp only; rw [h3]; simp only; rw [h4]; simp only; rw [h5]; simp only; rw [h]
end
theorem pn_len : ∀ (f : Nat) (s : Byts) (ns : List Cho) (r : Byts) (n2 : List Cho), pnode f s ns = some (r, n2) → r.length < s.length ∧ n2.length + r.length ≤ ns.length + s.length ∧ 1 ≤ n2.length := by
  intro f
  induction f with
  | zero => intro s ns r n2 h; cases h
  | succ f ih =>
    intro s ns r n2 h
    cases h0 : stripP [120] s with
    | some r0 =>
      rw [pn_x h0] at h
      cases h
      have := strip_len h0
      simp at this ⊢; omega
    | none =>
      cases h1 : stripP [121] s with
      | some r0 =>
        rw [pn_y h0 h1] at h
        cases h
        have := strip_len h1
        simp at this ⊢; omega
      | none =>
        cases h2 : numP s with
        | none => rw [pn_0 h0 h1 h2] at h; cases h
        | some p =>
          obtain ⟨n, r1⟩ := p
          have l2 := num_len h2
          cases h3 : pnode f r1 ns with
          | none => rw [pn_1 h0 h1 h2 h3] at h; cases h
          | some p =>
            obtain ⟨r2, n2'⟩ := p
            have l3 := ih _ _ _ _ h3
            cases h4 : stripP [44, 32] r2 with
            | none => rw [pn_2 h0 h1 h2 h3 h4] at h; cases h
            | some r3 =>
              have l4 := strip_len h4
              cases h5 : pnode f r3 n2' with
              | none => rw [pn_3 h0 h1 h2 h3 h4 h5] at h; cases h
              | some p =>
                obtain ⟨r4, n4⟩ := p
                have l5 := ih _ _ _ _ h5
                cases h6 : stripP [41] r4 with
                | none => rw [pn_4 h0 h1 h2 h3 h4 h5 h6] at h; cases h
                | some r5 =>
                  have l6 := strip_len h6
                  rw [pn_5 h0 h1 h2 h3 h4 h5 h6] at h
                  cases h
                  simp at l4 l6 ⊢; omega

/-! bytes -/
theorem bs_ext {a b : ByteArray} (h : a.toList = b.toList) : a = b := by
  rw [ByteArray.toList_eq, ByteArray.toList_eq] at h
  exact ByteArray.ext (Array.toList_inj.1 h)
theorem bs_same (a : ByteArray) : (a.toList == a.toList) = true := by simp
theorem bs_diff {a b : ByteArray} (h : a ≠ b) : (a.toList == b.toList) = false := by
  rw [beq_eq_false_iff_ne]; exact fun e => h (bs_ext e)
def mkB (l : Byts) : ByteArray := ⟨l.toArray⟩
theorem mkB_list (l : Byts) : (mkB l).data.toList = l := rfl
theorem mkB_size (l : Byts) : (mkB l).size = l.length := by show l.toArray.size = _; simp
theorem mkB_of (s : ByteArray) : mkB s.data.toList = s := rfl
theorem mkB_extract (l : Byts) (a b : Nat) : (mkB l).extract a b = mkB ((l.drop a).take (b - a)) := by
  have h : ((mkB l).extract a b).data = (mkB ((l.drop a).take (b - a))).data := by
    rw [ByteArray.data_extract]
    unfold mkB
    simp [List.take_drop]
  exact congrArg ByteArray.mk h
end Go.Proofs.YtcojmmhclklpoaaGreatDoor
namespace Go.Proofs.YtcojmmhclklpoaaGreatDoor

mutual
def ET.txt : ET → Byts
  | .srv s => 115 :: Lib.decDigits s.toNat
  | .thr n ws ks => Lib.decDigits n.toNat ++ (40 :: (ETs.txt ks ws 0 ++ [41]))
def ETs.txt : List ET → List Int → Nat → Byts
  | [], _, _ => []
  | t :: ts, ws, k => (if k = 0 then [] else [44, 32]) ++ (t.txt ++ ((if ws = [] then [] else 42 :: Lib.decDigits (ws.getD k 0).toNat) ++ ETs.txt ts ws (k + 1)))
end
def digB (c : UInt8) : Bool := decide (48 ≤ c) && decide (c ≤ 57)
def nonD (s : Byts) : Prop := ∀ c r, s = c :: r → digB c = false

section
variable (num : Byts → Option (Nat × Byts)) (full : Nat → Bool)
mutual
def pE : Nat → Byts → List Nod → Option (Byts × List Nod)
  | 0, _, _ => none
  | f + 1, s, ns => match stripP [115] s with
    | some r => match num r with
      | none => none
      | some p => some (p.2, ns ++ [⟨1, (p.1 : Int), 0, [], []⟩])
    | none => match num s with
      | none => none
      | some p => match stripP [40] p.2 with
        | none => none
        | some r => pL f r ns p.1 [] []
def pL : Nat → Byts → List Nod → Nat → List Int → List Int → Option (Byts × List Nod)
  | 0, _, _, _, _, _ => none
  | f + 1, s, ns, v, ws, ks => match stripP [41] s with
    | some r => some (r, ns ++ [⟨2, 0, (v : Int), ws, ks⟩])
    | none => match (if ks = [] then some s else stripP [44, 32] s) with
      | none => none
      | some s1 => if full ns.length = true then none else
        match pE f s1 ns with
        | none => none
        | some q => match stripP [42] q.1 with
          | none => pL f q.1 q.2 v ws (ks ++ [((q.2.length - 1 : Nat) : Int)])
          | some r1 => match num r1 with
            | none => none
            | some p => pL f p.2 q.2 v (ws ++ [(p.1 : Int)]) (ks ++ [((q.2.length - 1 : Nat) : Int)])
end
end

/-- a reader of numbers reads what is written -/
structure NumRd (num : Byts → Option (Nat × Byts)) : Prop where
  rd : ∀ (v : Nat) (r : Byts), v ≤ 100000 → nonD r → num (Lib.decDigits v ++ r) = some (v, r)
/-- .. and reads nothing else -/
structure NumEx (num : Byts → Option (Nat × Byts)) : Prop where
  ex : ∀ (s r : Byts) (v : Nat), num s = some (v, r) → s = Lib.decDigits v ++ r ∧ v ≤ 100000

theorem dec_cons (v : Nat) : ∃ c r, Lib.decDigits v = c :: r ∧ digB c = true := by
  rw [Lib.decDigits_eq]
  have hp := Lib.nDigits_pos v
  obtain ⟨m, hm⟩ : ∃ m, Lib.nDigits v = m + 1 := ⟨Lib.nDigits v - 1, by omega⟩
  rw [hm, List.range_succ_eq_map, List.map_cons]
  refine ⟨_, _, rfl, ?_⟩
  have key : ∀ d : Fin 10, digB (UInt8.ofNat (48 + d.val)) = true := by decide +kernel
  have : Lib.dg v (m + 1 - 1 - 0) = UInt8.ofNat (48 + (v / 10 ^ (m + 1 - 1 - 0) % 10)) := rfl
  rw [this]
  exact key ⟨_, Nat.mod_lt _ (by decide)⟩
theorem dec_len1 (v : Nat) : 1 ≤ (Lib.decDigits v).length := by obtain ⟨c, r, h, _⟩ := dec_cons v; rw [h]; simp
theorem strip_no1 {c d : UInt8} {r : Byts} (h : c ≠ d) : stripP [c] (d :: r) = none := by
  show (if c = d then stripP [] r else none) = none
  rw [if_neg h]
theorem strip_no2 {c c2 d : UInt8} {r : Byts} (h : c ≠ d) : stripP [c, c2] (d :: r) = none := by
  show (if c = d then stripP [c2] r else none) = none
  rw [if_neg h]
theorem strip_one (c : UInt8) (r : Byts) : stripP [c] (c :: r) = some r := by
  show (if c = c then stripP [] r else none) = some r
  rw [if_pos rfl]; rfl
theorem strip_two (c d : UInt8) (r : Byts) : stripP [c, d] (c :: d :: r) = some r := by
  show (if c = c then (if d = d then stripP [] r else none) else none) = some r
  rw [if_pos rfl, if_pos rfl]; rfl
theorem ET.txt_cons (t : ET) : ∃ c r, t.txt = c :: r ∧ (c = 115 ∨ digB c = true) := by
  cases t with
  | srv s => exact ⟨115, _, by rw [ET.txt], .inl rfl⟩
  | thr n ws ks =>
    obtain ⟨c, r, h, hd⟩ := dec_cons n.toNat
    exact ⟨c, r ++ (40 :: (ETs.txt ks ws 0 ++ [41])), by rw [ET.txt, h]; rfl, .inr hd⟩
theorem ET.txt_len (t : ET) : 1 ≤ t.txt.length := by obtain ⟨c, r, h, _⟩ := t.txt_cons; rw [h]; simp
theorem nonD_sep {c : UInt8} {r : Byts} (h : digB c = false) : nonD (c :: r) := fun d r' e => by injection e with e1 _; rw [← e1]; exact h
theorem nonD_nil : nonD [] := fun c r e => by cases e
theorem digB_ne {c d : UInt8} (h : digB c = true) (h2 : digB d = false) : d ≠ c := fun e => by rw [e, h] at h2; cases h2
theorem rest_head (ts : List ET) (ws : List Int) (k : Nat) (hk : k ≠ 0) (r : Byts) : ∃ c r', ETs.txt ts ws k ++ (41 :: r) = c :: r' ∧ (c = 41 ∨ c = 44) := by
  cases ts with
  | nil => exact ⟨41, r, by rw [ETs.txt]; rfl, .inl rfl⟩
  | cons t ts => exact ⟨44, _, by rw [ETs.txt, if_neg hk]; rfl, .inr rfl⟩

section
variable {num : Byts → Option (Nat × Byts)} {full : Nat → Bool}
mutual
theorem pE_txt (hn : NumRd num) (hf : ∀ n, n < 60 → full n = false) (t : ET) (ht : t.ok) : ∀ (f : Nat) (rest : Byts) (ns : List Nod), t.txt.length ≤ f → nonD rest → ns.length + t.sz ≤ 60 → pE num full f (t.txt ++ rest) ns = some (rest, ns ++ t.post ns.length) := by
  intro f rest ns hfl hrest hsz
  have hl1 := t.txt_len
  obtain ⟨f, rfl⟩ : ∃ g, f = g + 1 := ⟨f - 1, by omega⟩
  cases t with
  | srv s =>
    rw [ET.ok] at ht
    obtain ⟨s, rfl⟩ := Int.eq_ofNat_of_zero_le ht.1
    rw [ET.txt, List.cons_append, pE, strip_one]
    simp only
    rw [Int.toNat_natCast, hn.rd s rest (by omega) hrest]
    rfl
  | thr n ws ks =>
    rw [ET.ok] at ht
    obtain ⟨hn1, hw, hl, hk⟩ := ht
    obtain ⟨n, rfl⟩ := Int.eq_ofNat_of_zero_le hn1.1
    obtain ⟨c, r, hc, hd⟩ := dec_cons n
    have hlen := dec_len1 n
    rw [ET.txt, Int.toNat_natCast] at hfl ⊢
    simp only [List.length_append, List.length_cons, List.length_nil] at hfl
    rw [ET.sz] at hsz
    have h115 : stripP [115] (Lib.decDigits n ++ (40 :: (ETs.txt ks ws 0 ++ [41])) ++ rest) = none := by rw [hc]; exact strip_no1 (digB_ne hd (by decide))
    rw [pE, h115]
    simp only
    rw [List.append_assoc, List.cons_append, hn.rd n _ (by omega) (nonD_sep (by decide))]
    simp only
    rw [strip_one]
    simp only
    have := pL_txt hn hf ks hk ws 0 [] n f rest ns List.take_zero hw (hl.imp id (fun e => by omega)) (by omega) (by omega) rfl
    rw [List.take_zero, List.nil_append] at this
    rw [List.append_assoc, List.singleton_append, this]
    rw [ET.post, List.append_assoc]
theorem pL_txt (hn : NumRd num) (hf : ∀ n, n < 60 → full n = false) (ts : List ET) (ht : ETs.ok ts) : ∀ (ws : List Int) (k : Nat) (ks : List Int) (v f : Nat) (rest : Byts) (ns : List Nod), ws.take 0 = [] → (∀ w ∈ ws, 1 ≤ w ∧ w ≤ 1000) → (ws = [] ∨ ws.length = k + ts.length) → (ETs.txt ts ws k).length + 2 ≤ f → ns.length + ETs.sz ts + 1 ≤ 60 → ks.length = k →
    pL num full f (ETs.txt ts ws k ++ (41 :: rest)) ns v (ws.take k) ks = some (rest, ns ++ ETs.post ts ns.length ++ [⟨2, 0, (v : Int), ws, ks ++ ETs.idx ts ns.length⟩]) := by
  intro ws k ks v f rest ns _ hw hl hfl hsz hks
  obtain ⟨f, rfl⟩ : ∃ g, f = g + 1 := ⟨f - 1, by omega⟩
  cases ts with
  | nil =>
    rw [ETs.txt, List.nil_append, pL, strip_one]
    have : ws.take k = ws := by
      rcases hl with e | e
      · rw [e]; simp
      · rw [List.take_of_length_le (by simp at e; omega)]
    rw [this, ETs.post, ETs.idx, List.append_nil, List.append_nil]
  | cons t ts =>
    rw [ETs.ok] at ht
    rw [ETs.sz] at hsz
    rw [List.length_cons] at hl
    rw [ETs.txt] at hfl ⊢
    simp only [List.length_append] at hfl
    have htl := t.txt_len
    have hpost := t.post_len ns.length
    have hszp := t.sz_pos
    obtain ⟨c, r, hc, hd⟩ := t.txt_cons
    -- what stands behind the kid
    obtain ⟨B, hB⟩ : ∃ B, (if ws = [] then ([] : Byts) else 42 :: Lib.decDigits (ws.getD k 0).toNat) ++ ETs.txt ts ws (k + 1) ++ (41 :: rest) = B := ⟨_, rfl⟩
    have hBn : nonD B := by
      rw [← hB]
      by_cases e : ws = []
      · rw [if_pos e, List.nil_append]
        obtain ⟨c', r', h1, h2⟩ := rest_head ts ws (k + 1) (by omega) rest
        rw [h1]
        rcases h2 with rfl | rfl <;> exact nonD_sep (by decide)
      · rw [if_neg e]; exact nonD_sep (by decide)
    have hs : (if k = 0 then ([] : Byts) else [44, 32]) ++ (t.txt ++ ((if ws = [] then ([] : Byts) else 42 :: Lib.decDigits (ws.getD k 0).toNat) ++ ETs.txt ts ws (k + 1))) ++ (41 :: rest) = (if k = 0 then ([] : Byts) else [44, 32]) ++ (t.txt ++ B) := by
      rw [← hB]; simp only [List.append_assoc]
    rw [hs, pL]
    have h41 : stripP [41] ((if k = 0 then ([] : Byts) else [44, 32]) ++ (t.txt ++ B)) = none := by
      by_cases e : k = 0
      · rw [if_pos e, List.nil_append, hc]
        rcases hd with rfl | hd
        · exact strip_no1 (by decide)
        · exact strip_no1 (digB_ne hd (by decide))
      · rw [if_neg e]; exact strip_no1 (by decide)
    rw [h41]
    simp only
    have hsep : (if ks = [] then some ((if k = 0 then ([] : Byts) else [44, 32]) ++ (t.txt ++ B)) else stripP [44, 32] ((if k = 0 then ([] : Byts) else [44, 32]) ++ (t.txt ++ B))) = some (t.txt ++ B) := by
      by_cases e : k = 0
      · have : ks = [] := List.eq_nil_of_length_eq_zero (by omega)
        rw [if_pos this, if_pos e, List.nil_append]
      · have : ks ≠ [] := fun h => e (by rw [h] at hks; simpa using hks.symm)
        rw [if_neg this, if_neg e]; exact strip_two 44 32 _
    rw [hsep]
    simp only
    rw [hf ns.length (by omega), if_neg (by decide), pE_txt hn hf t ht.1 f B ns (by omega) hBn (by omega)]
    simp only
    have hnl : (ns ++ t.post ns.length).length = ns.length + t.sz := by rw [List.length_append, hpost]
    rw [hnl]
    have hend : ns ++ t.post ns.length ++ ETs.post ts (ns.length + t.sz) ++ [⟨2, 0, (v : Int), ws, ks ++ [((ns.length + t.sz - 1 : Nat) : Int)] ++ ETs.idx ts (ns.length + t.sz)⟩] = ns ++ ETs.post (t :: ts) ns.length ++ [⟨2, 0, (v : Int), ws, ks ++ ETs.idx (t :: ts) ns.length⟩] := by
      rw [ETs.post, ETs.idx]; simp only [List.append_assoc, List.singleton_append]
    by_cases e : ws = []
    · have hB2 : B = ETs.txt ts ws (k + 1) ++ (41 :: rest) := by rw [← hB, if_pos e, List.nil_append]
      have h42 : stripP [42] B = none := by
        obtain ⟨c', r', h1, h2⟩ := rest_head ts ws (k + 1) (by omega) rest
        rw [hB2, h1]
        rcases h2 with rfl | rfl <;> exact strip_no1 (by decide)
      rw [h42]
      simp only
      have ih := pL_txt hn hf ts ht.2 ws (k + 1) (ks ++ [((ns.length + t.sz - 1 : Nat) : Int)]) v f rest (ns ++ t.post ns.length) (by simp) hw (.inl e) (by omega) (by rw [hnl]; omega) (by simp; omega)
      rw [hnl] at ih
      rw [show ws.take k = ws.take (k + 1) by rw [e]; simp, hB2, ih, hend]
    · have hl' := hl.resolve_left e
      have hkl : k < ws.length := by omega
      have hB2 : B = 42 :: (Lib.decDigits (ws.getD k 0).toNat ++ (ETs.txt ts ws (k + 1) ++ (41 :: rest))) := by rw [← hB, if_neg e]; simp only [List.cons_append, List.append_assoc]
      rw [hB2, strip_one]
      simp only
      have hg : ws.getD k 0 = ws[k] := by rw [List.getD_eq_getElem?_getD, List.getElem?_eq_getElem hkl]; rfl
      have hwk := hw _ (List.getElem_mem hkl)
      obtain ⟨w, hwe⟩ := Int.eq_ofNat_of_zero_le (show 0 ≤ ws[k] by omega)
      obtain ⟨c', r', h1, h2⟩ := rest_head ts ws (k + 1) (by omega) rest
      rw [hg, hwe, Int.toNat_natCast, hn.rd w _ (by omega) (by rw [h1]; rcases h2 with rfl | rfl <;> exact nonD_sep (by decide))]
      simp only
      have ih := pL_txt hn hf ts ht.2 ws (k + 1) (ks ++ [((ns.length + t.sz - 1 : Nat) : Int)]) v f rest (ns ++ t.post ns.length) (by simp) hw (.inr (by omega)) (by rw [if_neg e] at hfl; simp at hfl; omega) (by rw [hnl]; omega) (by simp; omega)
      rw [hnl] at ih
      rw [show ws.take k ++ [(w : Int)] = ws.take (k + 1) by rw [List.take_add_one, List.getElem?_eq_getElem hkl, hwe]; rfl, ih, hend]
end
end

/-- the converse: what is read is a text -/
def arC (nd : Nod) : Prop := nd.weights = [] ∨ nd.weights.length = nd.kids.length
theorem pE_back {num : Byts → Option (Nat × Byts)} {full : Nat → Bool} (hn : NumEx num) : ∀ (f : Nat),
    (∀ (s r : Byts) (ns ns' : List Nod), pE num full f s ns = some (r, ns') → (∀ nd ∈ ns', arC nd) → ∃ t : ET, s = t.txt ++ r ∧ ns' = ns ++ t.post ns.length) ∧
    (∀ (s r : Byts) (ns ns' : List Nod) (v : Nat) (ws ks : List Int), pL num full f s ns v ws ks = some (r, ns') → (∀ nd ∈ ns', arC nd) → ws.length ≤ ks.length →
      ∃ (ts : List ET) (W : List Int), (W = [] ∨ W.length = ks.length + ts.length) ∧ ws = W.take ks.length ∧ s = ETs.txt ts W ks.length ++ (41 :: r) ∧ ns' = ns ++ ETs.post ts ns.length ++ [⟨2, 0, (v : Int), W, ks ++ ETs.idx ts ns.length⟩]) := by
  intro f
  induction f with
  | zero => exact ⟨(fun s r ns ns' h => by rw [pE] at h; cases h), (fun s r ns ns' v ws ks h => by rw [pL] at h; cases h)⟩
  | succ f ih =>
    obtain ⟨ihE, ihL⟩ := ih
    refine ⟨fun s r ns ns' h har => ?_, fun s r ns ns' v ws ks h har hwk => ?_⟩
    · rw [pE] at h
      cases h1 : stripP [115] s with
      | some s1 =>
        rw [h1] at h
        simp only at h
        cases h2 : num s1 with
        | none => rw [h2] at h; cases h
        | some p =>
          obtain ⟨v, r1⟩ := p
          rw [h2] at h
          cases h
          obtain ⟨e, _⟩ := hn.ex _ _ _ h2
          refine ⟨.srv v, ?_, by rw [ET.post]⟩
          rw [strip_some h1, e, ET.txt, Int.toNat_natCast]; rfl
      | none =>
        rw [h1] at h
        simp only at h
        cases h2 : num s with
        | none => rw [h2] at h; cases h
        | some p =>
          obtain ⟨v, r1⟩ := p
          rw [h2] at h
          simp only at h
          obtain ⟨e, _⟩ := hn.ex _ _ _ h2
          cases h3 : stripP [40] r1 with
          | none => rw [h3] at h; cases h
          | some r2 =>
            rw [h3] at h
            simp only at h
            obtain ⟨ts, W, _, _, hs, hns⟩ := ihL _ _ _ _ _ _ _ h har (Nat.le_refl _)
            refine ⟨.thr v W ts, ?_, by rw [hns, ET.post]; simp only [List.nil_append, List.append_assoc]⟩
            rw [e, strip_some h3, hs, ET.txt, Int.toNat_natCast]
            simp
    · rw [pL] at h
      cases h1 : stripP [41] s with
      | some s1 =>
        rw [h1] at h
        simp only [Option.some.injEq, Prod.mk.injEq] at h
        obtain ⟨rfl, rfl⟩ := h
        have ha := har ⟨2, 0, (v : Int), ws, ks⟩ (by simp)
        refine ⟨[], ws, ?_, ?_, ?_, ?_⟩
        · rcases ha with e | e
          · exact .inl e
          · exact .inr e
        · rcases ha with e | e
          · have : ws = [] := e
            rw [this]; simp
          · have : ws.length = ks.length := e
            rw [List.take_of_length_le (by omega)]
        · rw [ETs.txt, List.nil_append]; exact strip_some (p := [41]) h1
        · rw [ETs.post, ETs.idx, List.append_nil, List.append_nil]
      | none =>
        rw [h1] at h
        simp only at h
        cases h2 : (if ks = [] then some s else stripP [44, 32] s) with
        | none => rw [h2] at h; cases h
        | some s1 =>
          rw [h2] at h
          simp only at h
          have hs1 : s = (if ks.length = 0 then ([] : Byts) else [44, 32]) ++ s1 := by
            by_cases e : ks = []
            · rw [if_pos e] at h2; cases h2; rw [e]; rfl
            · rw [if_neg e] at h2
              rw [if_neg (fun h0 => e (List.eq_nil_of_length_eq_zero h0))]
              exact strip_some h2
          split at h
          · cases h
          · cases h3 : pE num full f s1 ns with
            | none => rw [h3] at h; cases h
            | some q =>
              obtain ⟨r1, n1⟩ := q
              rw [h3] at h
              simp only at h
              cases h4 : stripP [42] r1 with
              | none =>
                rw [h4] at h
                simp only at h
                obtain ⟨ts, W, hW, hws, hs, hns⟩ := ihL _ _ _ _ _ _ _ h har (by simp; omega)
                obtain ⟨t, ht, hn1⟩ := ihE _ _ _ _ h3 (fun nd hnd => har nd (by rw [hns]; simp [hnd]))
                have hW0 : W = [] := by
                  rcases hW with e | e
                  · exact e
                  · exfalso
                    rw [List.length_append, List.length_singleton] at hws e
                    have := congrArg List.length hws
                    rw [List.length_take] at this; omega
                subst hW0
                have hl1 : n1.length = ns.length + t.sz := by rw [hn1, List.length_append, t.post_len]
                refine ⟨t :: ts, [], .inl rfl, by rw [hws]; simp, ?_, ?_⟩
                · rw [hs1, ht, hs, ETs.txt, List.length_append, List.length_singleton]
                  simp
                · rw [hns, hl1, hn1, ETs.post, ETs.idx]
                  simp only [List.append_assoc, List.singleton_append]
              | some r2 =>
                rw [h4] at h
                simp only at h
                cases h5 : num r2 with
                | none => rw [h5] at h; cases h
                | some p =>
                  obtain ⟨w, r3⟩ := p
                  rw [h5] at h
                  simp only at h
                  obtain ⟨ts, W, hW, hws, hs, hns⟩ := ihL _ _ _ _ _ _ _ h har (by simp; omega)
                  obtain ⟨t, ht, hn1⟩ := ihE _ _ _ _ h3 (fun nd hnd => har nd (by rw [hns]; simp [hnd]))
                  obtain ⟨e5, _⟩ := hn.ex _ _ _ h5
                  have hl1 : n1.length = ns.length + t.sz := by rw [hn1, List.length_append, t.post_len]
                  rw [List.length_append, List.length_singleton] at hws hW hs
                  have hWne : W ≠ [] := fun e => by rw [e] at hws; simp at hws
                  have hWl := hW.resolve_left hWne
                  have hlen : ws.length = ks.length := by
                    have := congrArg List.length hws
                    rw [List.length_append, List.length_singleton, List.length_take] at this; omega
                  have hkW : ks.length < W.length := by omega
                  rw [List.take_add_one, List.getElem?_eq_getElem hkW] at hws
                  have hsp := List.append_inj hws (by rw [List.length_take]; omega)
                  have hwe : (w : Int) = W[ks.length] := by simpa using hsp.2
                  refine ⟨t :: ts, W, .inr (by rw [List.length_cons]; omega), hsp.1, ?_, ?_⟩
                  · have hg : (W.getD ks.length 0).toNat = w := by rw [List.getD_eq_getElem?_getD, List.getElem?_eq_getElem hkW]; show W[ks.length].toNat = w; omega
                    rw [hs1, ht, strip_some h4, e5, hs, ETs.txt, if_neg hWne, hg]
                    simp
                  · rw [hns, hl1, hn1, ETs.post, ETs.idx]
                    simp only [List.append_assoc, List.singleton_append]
end Go.Proofs.YtcojmmhclklpoaaGreatDoor
