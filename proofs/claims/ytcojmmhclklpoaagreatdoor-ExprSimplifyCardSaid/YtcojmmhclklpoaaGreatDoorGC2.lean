/- Texts laid together. The expression of a description, plain. No program. Layer 10, plain: valid trees. No program. Layer 20, plain: decision trees, certificates. No program. Layer 20, plain: the search for a certificate. No program. Layer 20, plain: the texts of trees. No program. Layer 20, plain: reading a tree's text, step by step. No program. Layer 10, plain: texts of trees and their readers. No program. Numbers in texts, plain: what the readers of numbers read. No program. Reading slices of elements of k cells. Plain lemmas over the model, no program. strings.Builder's copyCheck and WriteString (turned from the shelf's worked proofs), a builder with its bytes. Package family: Accepts, Support, Valid; slices.Contains, ContainsFunc of sets. Of, plain: the expression of a family, step by step. No program. Expressions and trees in memory. Plain lemmas over the model, no program. family.Valid. -/
import Derived.Test.YtcojmmhclklpoaaGreatDoorGC1
import Derived.Test.YtcojmmhclklpoaaGreatDoorProg
import Derived.Lib.ItoaNum
import Derived.Lib.AtoiAll
import Derived.Lib.IndexLaws
import Derived.Lib.AtoiTie
import Derived.Maps.AppendAt
import Derived.Shelf.Strings.BuilderK
import Derived.Shelf.GgClosure.Gives
namespace Go.Proofs.YtcojmmhclklpoaaGreatDoor

/-- a piece of a description -/
structure Pce where
  kind : Int
  server : Int
  need : Int
  heavy : Bool
  kids : List Int
def Pce.ok (p : Pce) : Prop := ((0 ≤ p.kind ∧ p.kind < 256) ∧ (0 ≤ p.server ∧ p.server < 256) ∧ (0 ≤ p.need ∧ p.need < 256)) ∧ ∀ z ∈ p.kids, 0 ≤ z ∧ z < 256
def pce0 : Pce := ⟨0, 0, 0, false, []⟩

/-- the sum of the weights of the first k kids -/
def sumTo (nd : Nod) : Nat → Int
  | 0 => 0
  | k + 1 => sumTo nd k + wgtN nd k
def sumN (nd : Nod) : Int := sumTo nd nd.kids.length
/-- the kids and weights of a piece at an index, of the first k -/
def mkdTo (p : Pce) (i k : Nat) : List Int := (p.kids.take k).map fun z => z % (i : Int)
def mwtTo (p : Pce) (k : Nat) : List Int := if p.heavy = true then (p.kids.take k).map fun z => 1 + z / 16 % 4 else []
def mk5 (p : Pce) : Nat := min p.kids.length 5
def madK (p : Pce) (i : Nat) : Nod := ⟨2, 0, 0, mwtTo p (mk5 p), mkdTo p i (mk5 p)⟩
def madN (p : Pce) (i : Nat) : Nod := if i = 0 ∨ p.kind % 3 = 0 then ⟨1, p.server % 6, 0, [], []⟩ else ⟨2, 0, p.need % (sumN (madK p i) + 2), mwtTo p (mk5 p), mkdTo p i (mk5 p)⟩
def madT (ps : List Pce) (k : Nat) : List Nod := (List.range k).map fun i => madN (ps.getD i pce0) i
def mad9 (ps : List Pce) : Nat := min ps.length 9
def srv0 : Nod := ⟨1, 0, 0, [], []⟩
def madX (ps : List Pce) : Xpr := if ps = [] then ⟨[srv0], 0⟩ else ⟨madT ps (mad9 ps), (mad9 ps : Int) - 1⟩

theorem mkdTo_succ {p : Pce} {i k : Nat} {z : Int} (h : p.kids[k]? = some z) : mkdTo p i (k + 1) = mkdTo p i k ++ [z % (i : Int)] := by
  unfold mkdTo; rw [List.take_add_one, h]; simp
theorem mwtTo_succ {p : Pce} {k : Nat} {z : Int} (h : p.kids[k]? = some z) (hh : p.heavy = true) : mwtTo p (k + 1) = mwtTo p k ++ [1 + z / 16 % 4] := by
  unfold mwtTo; rw [if_pos hh, if_pos hh, List.take_add_one, h]; simp
theorem mwtTo_light {p : Pce} (k : Nat) (hh : p.heavy = false) : mwtTo p k = [] := by unfold mwtTo; rw [if_neg (by rw [hh]; decide)]
theorem madT_succ (ps : List Pce) (k : Nat) : madT ps (k + 1) = madT ps k ++ [madN (ps.getD k pce0) k] := by
  unfold madT; rw [List.range_succ, List.map_append]; rfl
theorem madT_len (ps : List Pce) (k : Nat) : (madT ps k).length = k := by unfold madT; rw [List.length_map, List.length_range]
theorem mkdTo_len (p : Pce) (i k : Nat) (h : k ≤ p.kids.length) : (mkdTo p i k).length = k := by unfold mkdTo; rw [List.length_map, List.length_take]; omega
theorem madT_at {ps : List Pce} {k i : Nat} {nd : Nod} (h : (madT ps k)[i]? = some nd) : i < k ∧ nd = madN (ps.getD i pce0) i := by
  have h1 := (List.getElem?_eq_some_iff.1 h).1
  rw [madT_len] at h1
  unfold madT at h
  rw [List.getElem?_map, List.getElem?_range h1] at h
  simp at h
  exact ⟨h1, h.symm⟩
theorem sum_bd {nd : Nod} (h : ∀ w ∈ nd.weights, 1 ≤ w ∧ w ≤ 4) (hl : nd.weights = [] ∨ nd.weights.length = nd.kids.length) : ∀ k, k ≤ nd.kids.length → (k : Int) ≤ sumTo nd k ∧ sumTo nd k ≤ 4 * k := by
  intro k
  induction k with
  | zero => intro _; exact ⟨by simp [sumTo], by simp [sumTo]⟩
  | succ k ih =>
    intro hk
    have h1 := ih (by omega)
    have h2 : 1 ≤ wgtN nd k ∧ wgtN nd k ≤ 4 := by
      unfold wgtN
      split
      · omega
      · rename_i hw
        have hkl : k < nd.weights.length := by rcases hl with h3 | h3
                                               · exact absurd h3 hw
                                               · omega
        rw [List.getD_eq_getElem?_getD, List.getElem?_eq_getElem hkl]
        exact h _ (List.getElem_mem hkl)
    unfold sumTo
    omega
theorem mwt_rng (p : Pce) (hp : ∀ z ∈ p.kids, 0 ≤ z ∧ z < 256) (k : Nat) : ∀ w ∈ mwtTo p k, 1 ≤ w ∧ w ≤ 4 := by
  intro w hw
  unfold mwtTo at hw
  split at hw
  · obtain ⟨z, hz, rfl⟩ := List.mem_map.1 hw
    have := hp z (List.mem_of_mem_take hz)
    omega
  · cases hw
theorem mwt_len (p : Pce) (i : Nat) (k : Nat) : mwtTo p k = [] ∨ (mwtTo p k).length = (mkdTo p i k).length := by
  unfold mwtTo mkdTo
  split
  · right; rw [List.length_map, List.length_map]
  · left; rfl
theorem sum_madK (p : Pce) (hp : ∀ z ∈ p.kids, 0 ≤ z ∧ z < 256) (i : Nat) : 0 ≤ sumN (madK p i) ∧ sumN (madK p i) ≤ 20 := by
  have h := sum_bd (nd := madK p i) (mwt_rng p hp _) (mwt_len p i _) (madK p i).kids.length (Nat.le_refl _)
  have hl : (madK p i).kids.length = mk5 p := mkdTo_len p i _ (Nat.min_le_left _ _)
  have : mk5 p ≤ 5 := Nat.min_le_right _ _
  unfold sumN
  omega
theorem madN_ok (p : Pce) (hp : p.ok) (i : Nat) : nodE (madN p i) i = 0 := by
  obtain ⟨⟨h1, h2, h3⟩, h4⟩ := hp
  unfold madN
  by_cases hc : i = 0 ∨ p.kind % 3 = 0
  · rw [if_pos hc]
    have a1 : 0 ≤ p.server % 6 := Int.emod_nonneg _ (by decide)
    have a2 : p.server % 6 < 6 := Int.emod_lt_of_pos _ (by decide)
    unfold nodE
    simp
    omega
  · rw [if_neg hc]
    have hs := sum_madK p h4 i
    have a1 : 0 ≤ p.need % (sumN (madK p i) + 2) := Int.emod_nonneg _ (by omega)
    have a2 : p.need % (sumN (madK p i) + 2) < sumN (madK p i) + 2 := Int.emod_lt_of_pos _ (by omega)
    have hv : (mwtTo p (mk5 p)).any hvyB = false := by
      rw [List.any_eq_false]
      intro w hw
      have := mwt_rng p h4 _ w hw
      unfold hvyB
      simp; omega
    have hk : (mkdTo p i (mk5 p)).any (unkB i) = false := by
      rw [List.any_eq_false]
      intro w hw
      unfold mkdTo at hw
      obtain ⟨z, hz, rfl⟩ := List.mem_map.1 hw
      have b1 : 0 ≤ z % (i : Int) := Int.emod_nonneg _ (by omega)
      have b2 : z % (i : Int) < (i : Int) := Int.emod_lt_of_pos _ (by omega)
      unfold unkB
      simp; omega
    unfold nodE
    rw [if_neg (by simp), if_neg (by rw [hv]; simp; omega), if_neg ?_, if_neg (by rw [hk]; decide)]
    rintro ⟨c1, c2⟩
    rcases mwt_len p i (mk5 p) with h | h
    · exact c1 h
    · exact c2 h
theorem nodsE_zero : ∀ (l : List Nod) (i : Nat), (∀ (k : Nat) nd, l[k]? = some nd → nodE nd (i + k) = 0) → nodsE l i = 0 := by
  intro l
  induction l with
  | nil => intro i _; rfl
  | cons y l ih =>
    intro i h
    have h0 := h 0 y rfl
    unfold nodsE
    rw [if_neg (by simpa using h0)]
    exact ih (i + 1) fun k nd hk => by
      have := h (k + 1) nd (by simpa using hk)
      rw [show i + 1 + k = i + (k + 1) by omega]; exact this
theorem madX_ok {ps : List Pce} (h : ∀ p ∈ ps, p.ok) : xprE (madX ps) = 0 ∧ (madX ps).nodes.length ≤ 9 ∧ ∀ q, hasB (srvX (madX ps)) q = true → q < 6 := by
  unfold madX
  by_cases h0 : ps = []
  · rw [if_pos h0]
    refine ⟨by decide, by simp, fun q hq => ?_⟩
    have e : srvX ⟨[srv0], 0⟩ = 1#16 := by decide
    rw [e] at hq
    have hq16 := hasB_lt hq
    have : ∀ q : Fin 16, hasB 1#16 q.val = true → q.val < 6 := by decide
    exact this ⟨q, hq16⟩ hq
  · rw [if_neg h0]
    have hl : 1 ≤ mad9 ps ∧ mad9 ps ≤ 9 ∧ mad9 ps ≤ ps.length := by
      unfold mad9
      have : ps.length ≠ 0 := fun hc => h0 (List.eq_nil_of_length_eq_zero hc)
      omega
    have hlen := madT_len ps (mad9 ps)
    have hall : ∀ (k : Nat) nd, (madT ps (mad9 ps))[k]? = some nd → ∃ p, p.ok ∧ nd = madN p k := fun k nd hk => by
      obtain ⟨h1, h2⟩ := madT_at hk
      refine ⟨_, ?_, h2⟩
      rw [List.getD_eq_getElem?_getD, List.getElem?_eq_getElem (by omega)]
      exact h _ (List.getElem_mem _)
    have hE : nodsE (madT ps (mad9 ps)) 0 = 0 := nodsE_zero _ _ fun k nd hk => by
      obtain ⟨p, hp, rfl⟩ := hall k nd hk
      rw [Nat.zero_add]; exact madN_ok p hp k
    have hX : xprE ⟨madT ps (mad9 ps), (mad9 ps : Int) - 1⟩ = 0 := by
      unfold xprE
      show (if madT ps (mad9 ps) = [] then 9 else if 60 < (madT ps (mad9 ps)).length then 3 else if nodsE (madT ps (mad9 ps)) 0 ≠ 0 then nodsE (madT ps (mad9 ps)) 0 else if (mad9 ps : Int) - 1 < 0 ∨ ((madT ps (mad9 ps)).length : Int) ≤ (mad9 ps : Int) - 1 then 4 else 0) = 0
      rw [if_neg (fun hc => by rw [hc] at hlen; simp at hlen; omega), hlen, if_neg (by omega), hE, if_neg (by simp), if_neg (by omega)]
    refine ⟨hX, by show (madT ps (mad9 ps)).length ≤ 9; omega, fun q hq => ?_⟩
    obtain ⟨nd, hnd, hk, hs⟩ := (srvX_has (xprE_ok hX)).1 hq
    obtain ⟨k, hk2⟩ := List.mem_iff_getElem?.1 hnd
    obtain ⟨p, hp, rfl⟩ := hall k nd hk2
    have a1 : p.server % 6 < 6 := Int.emod_lt_of_pos _ (by decide)
    unfold madN at hk hs
    split at hk
    · rename_i hc
      rw [if_pos hc] at hs
      have : p.server % 6 = (q : Int) := hs
      omega
    · exact absurd (show (2 : Int) = 1 from hk) (by decide)
end Go.Proofs.YtcojmmhclklpoaaGreatDoor
namespace Go.Proofs.YtcojmmhclklpoaaGreatDoor

mutual
def ET.ok : ET → Prop
  | .srv s => 0 ≤ s ∧ s < 12
  | .thr n ws ks => (0 ≤ n ∧ n ≤ 100000) ∧ (∀ w ∈ ws, 1 ≤ w ∧ w ≤ 1000) ∧ (ws = [] ∨ ws.length = ks.length) ∧ ETs.ok ks
def ETs.ok : List ET → Prop
  | [] => True
  | t :: ts => t.ok ∧ ETs.ok ts
end
theorem ETs.ok_iff : ∀ (ts : List ET), ETs.ok ts ↔ ∀ t ∈ ts, t.ok
  | [] => by simp [ETs.ok]
  | t :: ts => by rw [ETs.ok, ETs.ok_iff ts]; simp
theorem ETs.sz_mem : ∀ (ts : List ET) (t : ET), t ∈ ts → t.sz ≤ ETs.sz ts
  | [], _, h => by cases h
  | t :: ts, u, h => by
    rw [ETs.sz]
    rcases List.mem_cons.1 h with rfl | h
    · omega
    · have := ETs.sz_mem ts u h; omega
theorem ETs.sz_ge : ∀ (ts : List ET), ts.length ≤ ETs.sz ts
  | [] => by simp [ETs.sz]
  | t :: ts => by have := ETs.sz_ge ts; have := t.sz_pos; rw [ETs.sz, List.length_cons]; omega
theorem nodE_srv {s : Int} {i : Nat} (h : 0 ≤ s ∧ s < 12) : nodE ⟨1, s, 0, [], []⟩ i = 0 := by
  unfold nodE; simp; omega
theorem nodE_thr {n : Int} {ws ks : List Int} {i : Nat} (hn : 0 ≤ n ∧ n ≤ 100000) (hw : ∀ w ∈ ws, 1 ≤ w ∧ w ≤ 1000) (hl : ws = [] ∨ ws.length = ks.length) (hk : ∀ k ∈ ks, 0 ≤ k ∧ k < (i : Int)) : nodE ⟨2, 0, n, ws, ks⟩ i = 0 := by
  have hv : ws.any hvyB = false := by
    rw [List.any_eq_false]
    intro w h
    have := hw w h
    unfold hvyB
    simp; omega
  have hu : ks.any (unkB i) = false := by
    rw [List.any_eq_false]
    intro k h
    have := hk k h
    unfold unkB
    simp; omega
  unfold nodE
  rw [if_neg (by simp), if_neg (by rw [hv]; simp; omega), if_neg ?_, if_neg (by rw [hu]; decide)]
  rintro ⟨c1, c2⟩
  rcases hl with h | h
  · exact c1 h
  · exact c2 h
mutual
theorem ET.post_ok (t : ET) (h : t.ok) : ∀ (b j : Nat) nd, (t.post b)[j]? = some nd → nodE nd (b + j) = 0 := by
  intro b j nd hj
  cases t with
  | srv s =>
    rw [ET.post] at hj
    have hj0 : j = 0 := by have := (List.getElem?_eq_some_iff.1 hj).1; simpa using this
    subst hj0
    cases hj
    rw [ET.ok] at h
    exact nodE_srv h
  | thr n ws ks =>
    rw [ET.ok] at h
    obtain ⟨h1, h2, h3, h4⟩ := h
    rw [ET.post] at hj
    have hl := ETs.post_len ks b
    by_cases hlt : j < ETs.sz ks
    · rw [List.getElem?_append_left (by omega)] at hj
      exact ETs.post_ok ks h4 b j nd hj
    · have hje : j = ETs.sz ks := by have := (List.getElem?_eq_some_iff.1 hj).1; simp [hl] at this; omega
      subst hje
      rw [List.getElem?_append_right (by omega), hl, Nat.sub_self] at hj
      cases hj
      refine nodE_thr h1 h2 (by rw [ETs.idx_len]; exact h3) (fun k hk => ?_)
      have := ETs.idx_lt ks b k hk
      omega
theorem ETs.post_ok (ts : List ET) (h : ETs.ok ts) : ∀ (b j : Nat) nd, (ETs.post ts b)[j]? = some nd → nodE nd (b + j) = 0 := by
  intro b j nd hj
  cases ts with
  | nil => rw [ETs.post] at hj; simp at hj
  | cons t ts =>
    rw [ETs.ok] at h
    rw [ETs.post] at hj
    have hl := t.post_len b
    by_cases hlt : j < t.sz
    · rw [List.getElem?_append_left (by omega)] at hj
      exact ET.post_ok t h.1 b j nd hj
    · rw [List.getElem?_append_right (by omega), hl] at hj
      have := ETs.post_ok ts h.2 (b + t.sz) (j - t.sz) nd hj
      rwa [show b + t.sz + (j - t.sz) = b + j by omega] at this
end
/-- the expression of a valid tree is valid -/
theorem xpr_ok {t : ET} (h : t.ok) (hs : t.sz ≤ 60) : xprE t.xpr = 0 := by
  have hl := t.post_len 0
  have hp := t.sz_pos
  have hE : nodsE (t.post 0) 0 = 0 := nodsE_zero _ _ fun k nd hk => ET.post_ok t h 0 k nd hk
  unfold xprE ET.xpr
  show (if t.post 0 = [] then 9 else if 60 < (t.post 0).length then 3 else if nodsE (t.post 0) 0 ≠ 0 then nodsE (t.post 0) 0 else if ((t.sz - 1 : Nat) : Int) < 0 ∨ ((t.post 0).length : Int) ≤ ((t.sz - 1 : Nat) : Int) then 4 else 0) = 0
  rw [if_neg (fun e => by rw [e] at hl; simp at hl; omega), hl, if_neg (by omega), hE, if_neg (by simp), if_neg (by omega)]
/-- the tree of a valid expression is valid -/
theorem tre_ok {x : Xpr} (h : XprOk x) : ∀ (f i : Nat), i < f → i < x.nodes.length → (treF x.nodes noSub f i).ok := by
  intro f
  induction f with
  | zero => intro i hi; omega
  | succ f ih =>
    intro i hi hl
    obtain ⟨nd, hnd⟩ : ∃ nd, x.nodes[i]? = some nd := ⟨_, List.getElem?_eq_getElem hl⟩
    have e : x.nodes.getD i nod0 = nd := by rw [List.getD_eq_getElem?_getD, hnd]; rfl
    have ok := h.node i nd hnd
    rw [treF, e]
    by_cases hk : nd.kind = 1
    · rw [if_pos hk]
      show (ET.srv nd.server).ok
      rw [ET.ok]; exact ok.server
    · rw [if_neg hk, ET.ok]
      refine ⟨ok.need, ok.weights, by rw [List.length_map]; exact ok.arity, (ETs.ok_iff _).2 fun t ht => ?_⟩
      obtain ⟨k, hkk, rfl⟩ := List.mem_map.1 ht
      have hr := ok.kids k hkk
      exact ih k.toNat (by omega) (by omega)
theorem treX_ok {x : Xpr} (h : XprOk x) : (treX x).ok := by
  obtain ⟨r, hr⟩ := Int.eq_ofNat_of_zero_le h.root.1
  have h2 := h.root.2
  unfold treX
  rw [hr, Int.toNat_natCast]
  exact tre_ok h (r + 1) r (Nat.lt_succ_self r) (by omega)
end Go.Proofs.YtcojmmhclklpoaaGreatDoor
namespace Go.Proofs.YtcojmmhclklpoaaGreatDoor

structure Cho where
  server : Int
  first : Int
  second : Int
structure Tre where
  nodes : List Cho
  root : Int
/-! right trees -/
end Go.Proofs.YtcojmmhclklpoaaGreatDoor
namespace Go.Proofs.YtcojmmhclklpoaaGreatDoor

inductive CT where
  | fx : CT
  | fy : CT
  | nd : Nat → CT → CT → CT
def CT.sz : CT → Nat
  | .fx => 1
  | .fy => 1
  | .nd _ l r => l.sz + r.sz + 1
theorem CT.sz_pos (T : CT) : 1 ≤ T.sz := by cases T <;> simp [CT.sz]
def CT.top : CT → Cho → Prop
  | .fx, c => c = ⟨-1, 0, 0⟩
  | .fy, c => c = ⟨-2, 0, 0⟩
  | .nd i _ _, c => c.server = (i : Int)

/-! the nodes of a tree are well formed -/
end Go.Proofs.YtcojmmhclklpoaaGreatDoor
namespace Go.Proofs.YtcojmmhclklpoaaGreatDoor

abbrev Byts := List UInt8
def CT.txt : CT → Byts
  | .fx => [120]
  | .fy => [121]
  | .nd i l r => Lib.decDigits i ++ [40] ++ l.txt ++ [44, 32] ++ r.txt ++ [41]
/-! reading -/
def stripP : Byts → Byts → Option Byts
  | [], s => some s
  | c :: p, d :: s => if c = d then stripP p s else none
  | _ :: _, [] => none
theorem strip_some {p s r : Byts} (h : stripP p s = some r) : s = p ++ r := by
  induction p generalizing s with
  | nil => unfold stripP at h; cases h; rfl
  | cons c p ih =>
    cases s with
    | nil => cases h
    | cons d s =>
      unfold stripP at h
      split at h
      · rename_i e; subst e; rw [ih h]; rfl
      · cases h
theorem txt_len (T : CT) : T.sz ≤ T.txt.length := by
  induction T with
  | fx => exact Nat.le_refl _
  | fy => exact Nat.le_refl _
  | nd i l r h1 h2 => simp only [CT.txt, CT.sz, List.length_append, List.length_cons, List.length_nil]; omega
/-! formed trees -/
end Go.Proofs.YtcojmmhclklpoaaGreatDoor
namespace Go.Proofs.YtcojmmhclklpoaaGreatDoor

theorem strip_trim : ∀ (p s : Byts), stripP p s = if Lib.hasPrefix s p = true then some (Lib.trimPrefix s p) else none := by
  intro p
  induction p with
  | nil => intro s; unfold Lib.trimPrefix Lib.hasPrefix; simp [stripP]
  | cons c p ih =>
    intro s
    cases s with
    | nil => unfold Lib.hasPrefix; simp [stripP]
    | cons d s =>
      have h := ih s
      unfold Lib.trimPrefix Lib.hasPrefix at h ⊢
      unfold stripP
      by_cases e : c = d
      · subst e
        rw [if_pos rfl, h]
        have e : (c :: p).isPrefixOf (c :: s) = p.isPrefixOf s := by simp [List.isPrefixOf]
        rw [e]
        cases p.isPrefixOf s <;> rfl
      · rw [if_neg e, if_neg (by simp [List.isPrefixOf, e])]
theorem strip_yes {p s r : Byts} (h : stripP p s = some r) : Lib.hasPrefix s p = true ∧ Lib.trimPrefix s p = r := by
  rw [strip_trim] at h
  split at h
  · rename_i e; exact ⟨e, Option.some.inj h⟩
  · cases h
theorem strip_no {p s : Byts} (h : stripP p s = none) : Lib.hasPrefix s p = false ∧ Lib.trimPrefix s p = s := by
  rw [strip_trim] at h
  split at h
  · cases h
  · rename_i e
    have e' : Lib.hasPrefix s p = false := by simpa using e
    exact ⟨e', by unfold Lib.trimPrefix; rw [if_neg (by rw [e']; decide)]⟩
theorem strip_len {p s r : Byts} (h : stripP p s = some r) : p.length + r.length = s.length := by rw [strip_some h, List.length_append]

/-! one node -/
section
variable {f : Nat} {s : Byts} {ns : List Cho}
end
/-! bytes -/
theorem bs_ext {a b : ByteArray} (h : a.toList = b.toList) : a = b := by
  rw [ByteArray.toList_eq, ByteArray.toList_eq] at h
  exact ByteArray.ext (Array.toList_inj.1 h)
theorem bs_same (a : ByteArray) : (a.toList == a.toList) = true := by simp
theorem bs_diff {a b : ByteArray} (h : a ≠ b) : (a.toList == b.toList) = false := by
  rw [beq_eq_false_iff_ne]; exact fun e => h (bs_ext e)
def mkB (l : Byts) : ByteArray := ⟨l.toArray⟩
theorem mkB_list (l : Byts) : (mkB l).data.toList = l := rfl
theorem mkB_size (l : Byts) : (mkB l).size = l.length := by show l.toArray.size = _; simp
theorem mkB_extract (l : Byts) (a b : Nat) : (mkB l).extract a b = mkB ((l.drop a).take (b - a)) := by
  have h : ((mkB l).extract a b).data = (mkB ((l.drop a).take (b - a))).data := by
    rw [ByteArray.data_extract]
    unfold mkB
    simp [List.take_drop]
  exact congrArg ByteArray.mk h
end Go.Proofs.YtcojmmhclklpoaaGreatDoor
namespace Go.Proofs.YtcojmmhclklpoaaGreatDoor

mutual
def ET.txt : ET → Byts
  | .srv s => 115 :: Lib.decDigits s.toNat
  | .thr n ws ks => Lib.decDigits n.toNat ++ (40 :: (ETs.txt ks ws 0 ++ [41]))
def ETs.txt : List ET → List Int → Nat → Byts
  | [], _, _ => []
  | t :: ts, ws, k => (if k = 0 then [] else [44, 32]) ++ (t.txt ++ ((if ws = [] then [] else 42 :: Lib.decDigits (ws.getD k 0).toNat) ++ ETs.txt ts ws (k + 1)))
end
def digB (c : UInt8) : Bool := decide (48 ≤ c) && decide (c ≤ 57)
def nonD (s : Byts) : Prop := ∀ c r, s = c :: r → digB c = false

section
variable (num : Byts → Option (Nat × Byts)) (full : Nat → Bool)
mutual
def pE : Nat → Byts → List Nod → Option (Byts × List Nod)
  | 0, _, _ => none
  | f + 1, s, ns => match stripP [115] s with
    | some r => match num r with
      | none => none
      | some p => some (p.2, ns ++ [⟨1, (p.1 : Int), 0, [], []⟩])
    | none => match num s with
      | none => none
      | some p => match stripP [40] p.2 with
        | none => none
        | some r => pL f r ns p.1 [] []
def pL : Nat → Byts → List Nod → Nat → List Int → List Int → Option (Byts × List Nod)
  | 0, _, _, _, _, _ => none
  | f + 1, s, ns, v, ws, ks => match stripP [41] s with
    | some r => some (r, ns ++ [⟨2, 0, (v : Int), ws, ks⟩])
    | none => match (if ks = [] then some s else stripP [44, 32] s) with
      | none => none
      | some s1 => if full ns.length = true then none else
        match pE f s1 ns with
        | none => none
        | some q => match stripP [42] q.1 with
          | none => pL f q.1 q.2 v ws (ks ++ [((q.2.length - 1 : Nat) : Int)])
          | some r1 => match num r1 with
            | none => none
            | some p => pL f p.2 q.2 v (ws ++ [(p.1 : Int)]) (ks ++ [((q.2.length - 1 : Nat) : Int)])
end
end

/-- a reader of numbers reads what is written -/
structure NumRd (num : Byts → Option (Nat × Byts)) : Prop where
  rd : ∀ (v : Nat) (r : Byts), v ≤ 100000 → nonD r → num (Lib.decDigits v ++ r) = some (v, r)
/-- .. and reads nothing else -/
structure NumEx (num : Byts → Option (Nat × Byts)) : Prop where
  ex : ∀ (s r : Byts) (v : Nat), num s = some (v, r) → s = Lib.decDigits v ++ r ∧ v ≤ 100000

theorem dec_cons (v : Nat) : ∃ c r, Lib.decDigits v = c :: r ∧ digB c = true := by
  rw [Lib.decDigits_eq]
  have hp := Lib.nDigits_pos v
  obtain ⟨m, hm⟩ : ∃ m, Lib.nDigits v = m + 1 := ⟨Lib.nDigits v - 1, by omega⟩
  rw [hm, List.range_succ_eq_map, List.map_cons]
  refine ⟨_, _, rfl, ?_⟩
  have key : ∀ d : Fin 10, digB (UInt8.ofNat (48 + d.val)) = true := by decide +kernel
  have : Lib.dg v (m + 1 - 1 - 0) = UInt8.ofNat (48 + (v / 10 ^ (m + 1 - 1 - 0) % 10)) := rfl
  rw [this]
  exact key ⟨_, Nat.mod_lt _ (by decide)⟩
theorem dec_len1 (v : Nat) : 1 ≤ (Lib.decDigits v).length := by obtain ⟨c, r, h, _⟩ := dec_cons v; rw [h]; simp
theorem strip_no1 {c d : UInt8} {r : Byts} (h : c ≠ d) : stripP [c] (d :: r) = none := by
  show (if c = d then stripP [] r else none) = none
  rw [if_neg h]
theorem strip_one (c : UInt8) (r : Byts) : stripP [c] (c :: r) = some r := by
  show (if c = c then stripP [] r else none) = some r
  rw [if_pos rfl]; rfl
theorem strip_two (c d : UInt8) (r : Byts) : stripP [c, d] (c :: d :: r) = some r := by
  show (if c = c then (if d = d then stripP [] r else none) else none) = some r
  rw [if_pos rfl, if_pos rfl]; rfl
theorem ET.txt_cons (t : ET) : ∃ c r, t.txt = c :: r ∧ (c = 115 ∨ digB c = true) := by
  cases t with
  | srv s => exact ⟨115, _, by rw [ET.txt], .inl rfl⟩
  | thr n ws ks =>
    obtain ⟨c, r, h, hd⟩ := dec_cons n.toNat
    exact ⟨c, r ++ (40 :: (ETs.txt ks ws 0 ++ [41])), by rw [ET.txt, h]; rfl, .inr hd⟩
theorem ET.txt_len (t : ET) : 1 ≤ t.txt.length := by obtain ⟨c, r, h, _⟩ := t.txt_cons; rw [h]; simp
theorem nonD_sep {c : UInt8} {r : Byts} (h : digB c = false) : nonD (c :: r) := fun d r' e => by injection e with e1 _; rw [← e1]; exact h
theorem digB_ne {c d : UInt8} (h : digB c = true) (h2 : digB d = false) : d ≠ c := fun e => by rw [e, h] at h2; cases h2
theorem rest_head (ts : List ET) (ws : List Int) (k : Nat) (hk : k ≠ 0) (r : Byts) : ∃ c r', ETs.txt ts ws k ++ (41 :: r) = c :: r' ∧ (c = 41 ∨ c = 44) := by
  cases ts with
  | nil => exact ⟨41, r, by rw [ETs.txt]; rfl, .inl rfl⟩
  | cons t ts => exact ⟨44, _, by rw [ETs.txt, if_neg hk]; rfl, .inr rfl⟩

section
variable {num : Byts → Option (Nat × Byts)} {full : Nat → Bool}
mutual
theorem pE_txt (hn : NumRd num) (hf : ∀ n, n < 60 → full n = false) (t : ET) (ht : t.ok) : ∀ (f : Nat) (rest : Byts) (ns : List Nod), t.txt.length ≤ f → nonD rest → ns.length + t.sz ≤ 60 → pE num full f (t.txt ++ rest) ns = some (rest, ns ++ t.post ns.length) := by
  intro f rest ns hfl hrest hsz
  have hl1 := t.txt_len
  obtain ⟨f, rfl⟩ : ∃ g, f = g + 1 := ⟨f - 1, by omega⟩
  cases t with
  | srv s =>
    rw [ET.ok] at ht
    obtain ⟨s, rfl⟩ := Int.eq_ofNat_of_zero_le ht.1
    rw [ET.txt, List.cons_append, pE, strip_one]
    simp only
    rw [Int.toNat_natCast, hn.rd s rest (by omega) hrest]
    rfl
  | thr n ws ks =>
    rw [ET.ok] at ht
    obtain ⟨hn1, hw, hl, hk⟩ := ht
    obtain ⟨n, rfl⟩ := Int.eq_ofNat_of_zero_le hn1.1
    obtain ⟨c, r, hc, hd⟩ := dec_cons n
    have hlen := dec_len1 n
    rw [ET.txt, Int.toNat_natCast] at hfl ⊢
    simp only [List.length_append, List.length_cons, List.length_nil] at hfl
    rw [ET.sz] at hsz
    have h115 : stripP [115] (Lib.decDigits n ++ (40 :: (ETs.txt ks ws 0 ++ [41])) ++ rest) = none := by rw [hc]; exact strip_no1 (digB_ne hd (by decide))
    rw [pE, h115]
    simp only
    rw [List.append_assoc, List.cons_append, hn.rd n _ (by omega) (nonD_sep (by decide))]
    simp only
    rw [strip_one]
    simp only
    have := pL_txt hn hf ks hk ws 0 [] n f rest ns List.take_zero hw (hl.imp id (fun e => by omega)) (by omega) (by omega) rfl
    rw [List.take_zero, List.nil_append] at this
    rw [List.append_assoc, List.singleton_append, this]
    rw [ET.post, List.append_assoc]
theorem pL_txt (hn : NumRd num) (hf : ∀ n, n < 60 → full n = false) (ts : List ET) (ht : ETs.ok ts) : ∀ (ws : List Int) (k : Nat) (ks : List Int) (v f : Nat) (rest : Byts) (ns : List Nod), ws.take 0 = [] → (∀ w ∈ ws, 1 ≤ w ∧ w ≤ 1000) → (ws = [] ∨ ws.length = k + ts.length) → (ETs.txt ts ws k).length + 2 ≤ f → ns.length + ETs.sz ts + 1 ≤ 60 → ks.length = k →
    pL num full f (ETs.txt ts ws k ++ (41 :: rest)) ns v (ws.take k) ks = some (rest, ns ++ ETs.post ts ns.length ++ [⟨2, 0, (v : Int), ws, ks ++ ETs.idx ts ns.length⟩]) := by
  intro ws k ks v f rest ns _ hw hl hfl hsz hks
  obtain ⟨f, rfl⟩ : ∃ g, f = g + 1 := ⟨f - 1, by omega⟩
  cases ts with
  | nil =>
    rw [ETs.txt, List.nil_append, pL, strip_one]
    have : ws.take k = ws := by
      rcases hl with e | e
      · rw [e]; simp
      · rw [List.take_of_length_le (by simp at e; omega)]
    rw [this, ETs.post, ETs.idx, List.append_nil, List.append_nil]
  | cons t ts =>
    rw [ETs.ok] at ht
    rw [ETs.sz] at hsz
    rw [List.length_cons] at hl
    rw [ETs.txt] at hfl ⊢
    simp only [List.length_append] at hfl
    have htl := t.txt_len
    have hpost := t.post_len ns.length
    have hszp := t.sz_pos
    obtain ⟨c, r, hc, hd⟩ := t.txt_cons
    -- what stands behind the kid
    obtain ⟨B, hB⟩ : ∃ B, (if ws = [] then ([] : Byts) else 42 :: Lib.decDigits (ws.getD k 0).toNat) ++ ETs.txt ts ws (k + 1) ++ (41 :: rest) = B := ⟨_, rfl⟩
    have hBn : nonD B := by
      rw [← hB]
      by_cases e : ws = []
      · rw [if_pos e, List.nil_append]
        obtain ⟨c', r', h1, h2⟩ := rest_head ts ws (k + 1) (by omega) rest
        rw [h1]
        rcases h2 with rfl | rfl <;> exact nonD_sep (by decide)
      · rw [if_neg e]; exact nonD_sep (by decide)
    have hs : (if k = 0 then ([] : Byts) else [44, 32]) ++ (t.txt ++ ((if ws = [] then ([] : Byts) else 42 :: Lib.decDigits (ws.getD k 0).toNat) ++ ETs.txt ts ws (k + 1))) ++ (41 :: rest) = (if k = 0 then ([] : Byts) else [44, 32]) ++ (t.txt ++ B) := by
      rw [← hB]; simp only [List.append_assoc]
    rw [hs, pL]
    have h41 : stripP [41] ((if k = 0 then ([] : Byts) else [44, 32]) ++ (t.txt ++ B)) = none := by
      by_cases e : k = 0
      · rw [if_pos e, List.nil_append, hc]
        rcases hd with rfl | hd
        · exact strip_no1 (by decide)
        · exact strip_no1 (digB_ne hd (by decide))
      · rw [if_neg e]; exact strip_no1 (by decide)
    rw [h41]
    simp only
    have hsep : (if ks = [] then some ((if k = 0 then ([] : Byts) else [44, 32]) ++ (t.txt ++ B)) else stripP [44, 32] ((if k = 0 then ([] : Byts) else [44, 32]) ++ (t.txt ++ B))) = some (t.txt ++ B) := by
      by_cases e : k = 0
      · have : ks = [] := List.eq_nil_of_length_eq_zero (by omega)
        rw [if_pos this, if_pos e, List.nil_append]
      · have : ks ≠ [] := fun h => e (by rw [h] at hks; simpa using hks.symm)
        rw [if_neg this, if_neg e]; exact strip_two 44 32 _
    rw [hsep]
    simp only
    rw [hf ns.length (by omega), if_neg (by decide), pE_txt hn hf t ht.1 f B ns (by omega) hBn (by omega)]
    simp only
    have hnl : (ns ++ t.post ns.length).length = ns.length + t.sz := by rw [List.length_append, hpost]
    rw [hnl]
    have hend : ns ++ t.post ns.length ++ ETs.post ts (ns.length + t.sz) ++ [⟨2, 0, (v : Int), ws, ks ++ [((ns.length + t.sz - 1 : Nat) : Int)] ++ ETs.idx ts (ns.length + t.sz)⟩] = ns ++ ETs.post (t :: ts) ns.length ++ [⟨2, 0, (v : Int), ws, ks ++ ETs.idx (t :: ts) ns.length⟩] := by
      rw [ETs.post, ETs.idx]; simp only [List.append_assoc, List.singleton_append]
    by_cases e : ws = []
    · have hB2 : B = ETs.txt ts ws (k + 1) ++ (41 :: rest) := by rw [← hB, if_pos e, List.nil_append]
      have h42 : stripP [42] B = none := by
        obtain ⟨c', r', h1, h2⟩ := rest_head ts ws (k + 1) (by omega) rest
        rw [hB2, h1]
        rcases h2 with rfl | rfl <;> exact strip_no1 (by decide)
      rw [h42]
      simp only
      have ih := pL_txt hn hf ts ht.2 ws (k + 1) (ks ++ [((ns.length + t.sz - 1 : Nat) : Int)]) v f rest (ns ++ t.post ns.length) (by simp) hw (.inl e) (by omega) (by rw [hnl]; omega) (by simp; omega)
      rw [hnl] at ih
      rw [show ws.take k = ws.take (k + 1) by rw [e]; simp, hB2, ih, hend]
    · have hl' := hl.resolve_left e
      have hkl : k < ws.length := by omega
      have hB2 : B = 42 :: (Lib.decDigits (ws.getD k 0).toNat ++ (ETs.txt ts ws (k + 1) ++ (41 :: rest))) := by rw [← hB, if_neg e]; simp only [List.cons_append, List.append_assoc]
      rw [hB2, strip_one]
      simp only
      have hg : ws.getD k 0 = ws[k] := by rw [List.getD_eq_getElem?_getD, List.getElem?_eq_getElem hkl]; rfl
      have hwk := hw _ (List.getElem_mem hkl)
      obtain ⟨w, hwe⟩ := Int.eq_ofNat_of_zero_le (show 0 ≤ ws[k] by omega)
      obtain ⟨c', r', h1, h2⟩ := rest_head ts ws (k + 1) (by omega) rest
      rw [hg, hwe, Int.toNat_natCast, hn.rd w _ (by omega) (by rw [h1]; rcases h2 with rfl | rfl <;> exact nonD_sep (by decide))]
      simp only
      have ih := pL_txt hn hf ts ht.2 ws (k + 1) (ks ++ [((ns.length + t.sz - 1 : Nat) : Int)]) v f rest (ns ++ t.post ns.length) (by simp) hw (.inr (by omega)) (by rw [if_neg e] at hfl; simp at hfl; omega) (by rw [hnl]; omega) (by simp; omega)
      rw [hnl] at ih
      rw [show ws.take k ++ [(w : Int)] = ws.take (k + 1) by rw [List.take_add_one, List.getElem?_eq_getElem hkl, hwe]; rfl, ih, hend]
end
end

end Go.Proofs.YtcojmmhclklpoaaGreatDoor
namespace Go.Proofs.YtcojmmhclklpoaaGreatDoor

/-- what the program's number reads -/
def numX (s : Byts) : Option (Nat × Byts) := match Lib.atoiAll (s.takeWhile digB) with
  | .ok v => if v ≤ 100000 ∧ Lib.itoa v = s.takeWhile digB then some (v.toNat, s.dropWhile digB) else none
  | _ => none
theorem itoa_dig {v : Int} {d : Byts} (h : Lib.itoa v = d) (hd : ∀ c ∈ d, digB c = true) : 0 ≤ v ∧ d = Lib.decDigits v.toNat := by
  unfold Lib.itoa at h
  by_cases hv : v < 0
  · rw [if_pos hv] at h
    have := hd 45 (by rw [← h]; simp)
    exact absurd this (by decide)
  · rw [if_neg hv] at h
    exact ⟨by omega, h.symm⟩
theorem tw_dig (s : Byts) : ∀ c ∈ s.takeWhile digB, digB c = true := by
  induction s with
  | nil => intro c h; simp at h
  | cons a s ih =>
    intro c h
    by_cases ha : digB a = true
    · rw [List.takeWhile_cons_of_pos ha] at h
      rcases List.mem_cons.1 h with rfl | h
      · exact ha
      · exact ih c h
    · rw [List.takeWhile_cons_of_neg ha] at h; cases h
theorem numX_ex : NumEx numX := ⟨fun s r v h => by
  unfold numX at h
  cases ha : Lib.atoiAll (s.takeWhile digB)
  · rename_i z
    rw [ha] at h
    simp only at h
    split at h
    · rename_i hc
      simp only [Option.some.injEq, Prod.mk.injEq] at h
      obtain ⟨rfl, rfl⟩ := h
      obtain ⟨h1, h2⟩ := itoa_dig hc.2 (tw_dig s)
      exact ⟨by rw [← h2, List.takeWhile_append_dropWhile], by omega⟩
    · cases h
  · rw [ha] at h; cases h
  · rw [ha] at h; cases h⟩
/-- a number is read by at least one byte -/
theorem numX_len {s r : Byts} {v : Nat} (h : numX s = some (v, r)) : r.length + 1 ≤ s.length := by
  obtain ⟨h1, _⟩ := numX_ex.ex s r v h
  rw [h1, List.length_append]
  have := dec_len1 v
  omega
end Go.Proofs.YtcojmmhclklpoaaGreatDoor
namespace Go.Proofs.YtcojmmhclklpoaaGreatDoor
open Go.RowKit

/-- The slice value '.slice a n c' reads, in w, as n elements of k cells, these the list l of all cells. -/
structure RdK (k : Nat) (w : World) (a : Option Addr) (n c : Nat) (l : List Value) : Prop where
  len : n * k = l.length
  le : n ≤ c
  max : c ≤ maxLen
  nil : a = none → c = 0
  at' : 0 < n → ∃ b o, a = some ⟨b, o, none⟩ ∧ ∀ i v, l[i]? = some v → w.cell? ⟨b, o + i, none⟩ = some v

theorem RdK.none_ (k : Nat) (w : World) : RdK k w none 0 0 [] := ⟨by simp, Nat.le_refl _, by simp [maxLen], fun _ => rfl, fun h => absurd h (by decide)⟩
theorem RdK.below {k : Nat} {w w' : World} {a : Option Addr} {n c : Nat} {l : List Value} (h : RdK k w a n c l) (hb : Below w.heap.size w w') : RdK k w' a n c l := by
  refine ⟨h.len, h.le, h.max, h.nil, fun hn => ?_⟩
  obtain ⟨b, o, ha, hc⟩ := h.at' hn
  refine ⟨b, o, ha, fun i v hv => ?_⟩
  have := hc i v hv
  exact (hb.cell (p := ⟨b, o + i, none⟩) (cell_lt this)).trans this
/-- a row of the call's own, elements of k cells, read -/
theorem rdK_of_row {k : Nat} {w : World} {B n : Nat} {e : TypeId} {v : Value} {l : List Value} (h : w.ownsRow B e k v n l) : ∃ a c, v = .slice a n c ∧ RdK k w a n c l := by
  have hl := h.1
  obtain ⟨h1, h2⟩ := h
  rcases h2 with ⟨rfl, h0⟩ | ⟨g, cap, cur, rfl, hb, hg, hle, hm, hs, ht⟩
  · subst h0
    obtain rfl := List.eq_nil_of_length_eq_zero (by simpa using h1)
    exact ⟨none, 0, rfl, RdK.none_ _ _⟩
  · refine ⟨some ⟨g, 0, none⟩, cap, rfl, hl.symm, hle, hm, fun h => (by cases h), fun _ => ⟨g, 0, rfl, fun i v hv => ?_⟩⟩
    have := World.ownsRow.cells (w := w) (base := B) (e := e) (size := k) (v := .slice (some ⟨g, 0, none⟩) n cap) (n := n) (xs := l) ⟨h1, .inr ⟨g, cap, cur, rfl, hb, hg, hle, hm, hs, ht⟩⟩ (g := g) rfl i v hv
    rw [Addr.add_lit] at this; simpa using this
theorem rowK_below {k : Nat} {w w' : World} {B n : Nat} {e : TypeId} {v : Value} {l : List Value} (h : w.ownsRow B e k v n l) (hb : Below w.heap.size w w') : w'.ownsRow B e k v n l := by
  obtain ⟨h1, h2⟩ := h
  refine ⟨h1, ?_⟩
  rcases h2 with h2 | ⟨g, cap, cur, hv, hb', hg, r⟩
  · exact .inl h2
  · exact .inr ⟨g, cap, cur, hv, hb', by rw [hb.block g (Array.getElem?_eq_some_iff.1 hg).1]; exact hg, r⟩
theorem rowK_mono {k : Nat} {w : World} {B B' n : Nat} {e : TypeId} {v : Value} {l : List Value} (h : w.ownsRow B e k v n l) (hs : B' ≤ B) : w.ownsRow B' e k v n l := by
  obtain ⟨h1, h2⟩ := h
  refine ⟨h1, ?_⟩
  rcases h2 with h2 | ⟨g, cap, cur, hv, hb', r⟩
  · exact .inl h2
  · exact .inr ⟨g, cap, cur, hv, Nat.le_trans hs hb', r⟩
/-- a slice literal of elements of k cells -/
theorem RdK.lit' (k : Nat) (w : World) (cs : Array Value) (e : TypeId) (n : Nat) (l : List Value) (hl : cs.toList = l) (hn : n * k = l.length) (hm : n ≤ 1000000) {b : Nat} (hb : b = w.heap.size) : RdK k (w.alloc (.cells cs e)) (some ⟨b, 0, none⟩) n n l := by
  subst hl hb
  refine ⟨hn, Nat.le_refl _, by unfold maxLen; omega, fun h => (by cases h), fun _ => ⟨_, _, rfl, fun i v hv => ?_⟩⟩
  rw [Nat.zero_add]
  exact cell_new w cs e i v (by simpa using hv)

/-- the cells of elements, one behind another -/
theorem flat_at {α : Type} (k : Nat) (enc : α → List Value) (hk : ∀ x, (enc x).length = k) : ∀ (L : List α) (i j : Nat) (x : α), L[i]? = some x → j < k → (L.flatMap enc)[i * k + j]? = (enc x)[j]? := by
  intro L
  induction L with
  | nil => intro i j x h; simp at h
  | cons y L ih =>
    intro i j x h hj
    rw [List.flatMap_cons]
    cases i with
    | zero =>
      simp at h; subst h
      rw [Nat.zero_mul, Nat.zero_add, List.getElem?_append_left (by rw [hk]; exact hj)]
    | succ i =>
      have h' : L[i]? = some x := by simpa using h
      rw [List.getElem?_append_right (by rw [hk, Nat.succ_mul]; omega), hk, show (i + 1) * k + j - k = i * k + j by rw [Nat.succ_mul]; omega]
      exact ih i j x h' hj
theorem flat_len {α : Type} (k : Nat) (enc : α → List Value) (hk : ∀ x, (enc x).length = k) (L : List α) : (L.flatMap enc).length = L.length * k := by
  induction L with
  | nil => simp
  | cons y L ih => rw [List.flatMap_cons, List.length_append, ih, hk, List.length_cons, Nat.succ_mul, Nat.add_comm]
/-- the cells of one element -/
theorem RdK.cells {k : Nat} {w : World} {a : Option Addr} {n c : Nat} {α : Type} {enc : α → List Value} {L : List α} (h : RdK k w a n c (L.flatMap enc)) (hk : ∀ x, (enc x).length = k) (hn : 0 < n) :
    ∃ b o, a = some ⟨b, o, none⟩ ∧ ∀ i x, L[i]? = some x → ∀ j, j < k → w.cell? ⟨b, o + i * k + j, none⟩ = (enc x)[j]? := by
  obtain ⟨b, o, ha, hc⟩ := h.at' hn
  refine ⟨b, o, ha, fun i x hx j hj => ?_⟩
  have h1 := flat_at k enc hk L i j x hx hj
  have h2 : (enc x)[j]? = some ((enc x)[j]'(by rw [hk]; exact hj)) := List.getElem?_eq_getElem _
  rw [h2] at h1
  rw [Nat.add_assoc, hc _ _ h1, h2]

theorem heap_set_at {w : World} {B : Nat} {cs : Array Value} {t : TypeId} {f : Nat × Nat} (h : w.heap[B]? = some (.cells cs t f)) (i : Nat) (v : Value) :
    (w.setCell ⟨B, i, none⟩ v).heap[B]? = some (.cells (cs.setIfInBounds i v) t f) := by
  unfold World.setCell; simp [Array.getElem?_modify, h]
theorem heap_alloc_at {w : World} {B : Nat} {ob : Obj} (h : w.heap[B]? = some ob) (o : Obj) : (w.alloc o).heap[B]? = some ob :=
  (Below.heap_alloc w o B (Array.getElem?_eq_some_iff.1 h).1).trans h
theorem heap_set_other {w : World} {B B' : Nat} (hne : B ≠ B') (i : Nat) (v : Value) {ob : Obj} (h : w.heap[B]? = some ob) : (w.setCell ⟨B', i, none⟩ v).heap[B]? = some ob :=
  (Below.heap_setCell _ _ _ _ hne).trans h
theorem heap_below {w w' : World} {B : Nat} {ob : Obj} (hb : Below w.heap.size w w') (h : w.heap[B]? = some ob) : w'.heap[B]? = some ob :=
  (hb.block B (Array.getElem?_eq_some_iff.1 h).1).trans h

theorem below_drew {B : Nat} {a w : World} (h : Below B a w) : Below B a w.drew := ⟨h.os, h.tape, h.output, h.size, h.block⟩
theorem below_undrew {w w' : World} (h : Below w.drew.heap.size w.drew w') : Below w.heap.size w w' := ⟨h.os, h.tape, h.output, h.size, h.block⟩
/-- the row of a slice being built does not lie where another is read -/
def Clear (n : Nat) (v : Value) (a : Option Addr) : Prop := 0 < n → ∀ b o, a = some ⟨b, o, none⟩ → v.ownBlock ≠ some b
theorem Rd.grown {w w' : World} {a : Option Addr} {n c : Nat} {l : List Value} {v : Value} (h : Rd w a n c l) (hg : w.grownBy w' v.ownBlock) (hc : Clear n v a) : Rd w' a n c l := by
  refine ⟨h.len, h.le, h.max, h.nil, fun hn => ?_⟩
  obtain ⟨b, o, ha, hcell⟩ := h.at' hn
  exact ⟨b, o, ha, fun i x hx => hg.cell (hcell i x hx) (fun e => hc hn b o ha e.symm)⟩
theorem RdK.grown {k : Nat} {w w' : World} {a : Option Addr} {n c : Nat} {l : List Value} {v : Value} (h : RdK k w a n c l) (hg : w.grownBy w' v.ownBlock) (hc : Clear n v a) : RdK k w' a n c l := by
  refine ⟨h.len, h.le, h.max, h.nil, fun hn => ?_⟩
  obtain ⟨b, o, ha, hcell⟩ := h.at' hn
  exact ⟨b, o, ha, fun i x hx => hg.cell (hcell i x hx) (fun e => hc hn b o ha e.symm)⟩
theorem Clear.step {w : World} {a : Option Addr} {n c : Nat} {l : List Value} {v v' : Value} (h : Clear n v a) (hr : Rd w a n c l) (hv : ∀ g, v'.ownBlock = some g → v.ownBlock = some g ∨ w.heap.size ≤ g) : Clear n v' a := by
  intro hn b o ha e
  rcases hv b e with h1 | h1
  · exact h hn b o ha h1
  · obtain ⟨b', o', ha', hcell⟩ := hr.at' hn
    rw [ha] at ha'; cases ha'
    have hl := hr.len
    have := cell_lt (hcell 0 _ (List.getElem?_eq_getElem (show 0 < l.length by omega)))
    omega
theorem Clear.own {w w1 : World} {B k m n c : Nat} {e e' : TypeId} {v : Value} {xs l : List Value} {am : Option Addr} (hmo : Own w w1 e (.slice am n c) l) (h : w.ownsRow B e' k v m xs) : Clear n v am := by
  intro hn b o ha he
  rcases hmo.2 with ⟨h0, _⟩ | ⟨g, cap, cur, h0, hg, _⟩
  · injection h0 with h1; rw [ha] at h1; cases h1
  · injection h0 with h1
    rw [ha] at h1
    injection h1 with h1
    injection h1 with h1
    have := (h.lt _ he).2
    omega

/-- 'out = append(out, x)', and where the new row lies. -/
theorem wpList_appK2 {P : Program} {ops : Array Oper} {rest : List Oper} {o : Oper} {a : Act} {Q : Exit → Act → World → Prop} {B : Nat} {w0 wr : World} {e : TypeId} {v : Value} {l : List Value} {n : Nat}
    (k : Nat) (s xo : Operand) (t : TypeId) (bytes : Nat) (z : Value) (x : List Value) (ty : TypeId)
    (ht : P.underlying t = some (.slice e)) (hi : (P.info? e).map (fun i => (i.zero, i.size, i.bytes)) = some (some z, k, bytes)) (hz : z.cells.size = k) (hk : 0 < k)
    (hown : wr.ownsRow B e k v n l) (hb : Below B w0 wr) (hB : B ≤ w0.heap.size)
    (hg : o.guard = none) (hop : o.op = Op.call { callee := Callee.builtin Builtin.append, args := #[s, xo], argTypes := #[t, t] })
    (hs : a.eval s = v) (hx : a.eval xo = .slice (some ⟨wr.heap.size, 0, none⟩) 1 1) (hxl : x.length = k) (h1 : ∀ u ∈ x, u.oneCell' = true)
    (hlen : n + 1 ≤ maxLen) (hby : (n + 1) * bytes ≤ 140737488355328)
    (hK : ∀ v' w1, w1.ownsRow B e k v' (n + 1) (l ++ x) → Below B w0 w1 → wr.grownBy w1 v.ownBlock → wr.heap.size < w1.heap.size → (∀ g, v'.ownBlock = some g → v.ownBlock = some g ∨ wr.heap.size ≤ g) → wpList P ops Q rest (a.put o.dst v') w1) :
    wpList P ops Q (o :: rest) a (wr.alloc (.cells x.toArray ty)) := by
  obtain ⟨i, hi1, hi2, hi3, hi4⟩ := info_parts hi
  have hsz := hb.size
  refine wpList_append_own_at _ hg s xo t hop B e i z k bytes ht hi1 hi2 hi3 hi4 hz hk v n l hs (hown.alloc _) ⟨wr.heap.size, 0, none⟩ 1 1 x hx (by rw [Nat.one_mul]; exact hxl) ?_ h1 hlen hby (by simp; omega) ?_
  · intro j u hj
    rw [Addr.add_lit, Nat.zero_add]
    exact cell_new wr x.toArray ty j u (by simpa using hj)
  · intro v' w1 h2 h3 _ h5
    have h4 := h3.size
    simp only [World.size_alloc] at h4
    refine hK v' w1 h2 ((hb.alloc (by omega) _).grown h3 (by simp; omega) fun k hk => (hown.lt k hk).1) ?_ (by omega) ?_
    · exact ⟨h3.os, h3.tape, h3.output, by omega, fun k hk hne => (h3.block k (by simp; omega) hne).trans (Below.heap_alloc wr _ k hk)⟩
    · intro g hg
      rcases h5 with h5 | h5
      · exact .inl (h5 ▸ hg)
      · rw [h5] at hg; simp at hg; omega
end Go.Proofs.YtcojmmhclklpoaaGreatDoor
namespace Go.Proofs.YtcojmmhclklpoaaGreatDoor
open Go.RowKit Go.Shelf

theorem Tryz.infoByt : (Tryz.prog.info? 5).map (fun i => (i.zero, i.size, i.bytes)) = some (some (.int .u8 0), 1, 1) := by kernel_rfl
theorem Tryz.sizeBld : (Tryz.prog.info? 92).map (·.size) = some 2 := by kernel_rfl
theorem Tryz.liesBld : liesAt Tryz.prog Tryz.prog.depth 92 (2 / Tryz.prog.cellsOf 92) 0 92 1 = true := by kernel_rfl
abbrev bldT : TypeId := 92
abbrev bytT : TypeId := 5

set_option maxHeartbeats 1000000 in
set_option maxRecDepth 100000 in
theorem bcopy_used (b : Nat) (w : World) (h0 : w.cell? ⟨b, 0, none⟩ = some (.pointer (some ⟨b, 0, none⟩))) :
    Calls Tryz.prog 119 #[.pointer (some ⟨b, 0, none⟩)] w fun e w' => e = .returned (.tuple #[]) ∧ w' = w := by
  obtain ⟨j, hj, _⟩ := Option.map_eq_some_iff.1 Tryz.sizeBld
  go_enter Tryz.func119, Tryz.ntmps119
  go_wp2
  rw [Lib.run_neq_ptr_same w _ Tryz.underlying90 hj]
  go_wp2
  go_end0
  exact ⟨rfl, rfl⟩

set_option maxHeartbeats 1000000 in
set_option maxRecDepth 100000 in
theorem bcopy_fresh (b : Nat) (w : World) (h0 : w.cell? ⟨b, 0, none⟩ = some (.pointer none)) (hsh : w.shape? b = some (92, 2)) (hfz : w.frozen? ⟨b, 0, none⟩ = false) :
    Calls Tryz.prog 119 #[.pointer (some ⟨b, 0, none⟩)] w fun e w' => e = .returned (.tuple #[]) ∧ w' = w.setCell ⟨b, 0, none⟩ (.pointer (some ⟨b, 0, none⟩)) := by
  obtain ⟨j, hj, hjs⟩ := Option.map_eq_some_iff.1 Tryz.sizeBld
  go_enter Tryz.func119, Tryz.ntmps119
  go_wp2
  rw [Lib.run_to_unsafe w ⟨b, 0, none⟩ Tryz.underlying90 Tryz.underlying151 hj (by rw [hjs]; decide) hsh (Nat.zero_lt_succ 1)]
  simp only [Result.andThen]
  rw [Oper.upon_value]
  go_wp2
  rw [run_callFunc_extern Tryz.func128 (by kernel_rfl) (by kernel_rfl) (by kernel_rfl) (e := Extern.AbiNoEscape.same) (by kernel_rfl)]
  rw [Lib.run_noEscape]
  simp only [Result.andThen]
  rw [Oper.upon_value]
  go_wp2
  rw [Lib.run_from_unsafe w ⟨b, 0, none⟩ Tryz.underlying151 Tryz.underlying90 hj hsh Tryz.liesBld]
  simp only [Result.andThen]
  rw [Oper.upon_value]
  go_wp2
  go_end0
  exact ⟨rfl, rfl⟩

theorem bcopy_k (B b : Nat) (bs : List Value) (w : World) (h : Lib.IsBuilderF bldT bytT B b bs w) :
    Calls Tryz.prog 119 #[.pointer (some ⟨b, 0, none⟩)] w fun e w' => e = .returned (.tuple #[]) ∧ (Lib.BuilderAtF bldT bytT B b (.pointer (some ⟨b, 0, none⟩)) bs w' ∧ Below B w w' ∧ Lib.OthersKept bytT (some b) w w') := by
  rcases h with h | h
  · refine (bcopy_fresh b w h.cell0 h.shape h.frozen0).mono ?_
    rintro e w' ⟨rfl, rfl⟩
    exact ⟨rfl, h.used _, (Below.refl B w).setCell (p := ⟨b, 0, none⟩) h.1 _, (Lib.OthersKept.refl _ _ w).setCell ⟨b, 0, none⟩ rfl _⟩
  · refine (bcopy_used b w h.cell0).mono ?_
    rintro e w' ⟨rfl, rfl⟩
    exact ⟨rfl, h, Below.refl B _, Lib.OthersKept.refl _ _ _⟩

set_option maxHeartbeats 2000000 in
set_option maxRecDepth 100000 in
theorem bwrite_k (B b : Nat) (bs : List Value) (s : ByteArray) (w : World) (h : Lib.IsBuilderF bldT bytT B b bs w) (hlen : bs.length + s.size ≤ 140737488355328) (hBw : B ≤ w.heap.size) :
    Calls Tryz.prog 93 #[.pointer (some ⟨b, 0, none⟩), .string s] w fun e w' => e = .returned (.tuple #[.int .i64 s.size, .nilIface]) ∧ (Lib.BuilderAtF bldT bytT B b (.pointer (some ⟨b, 0, none⟩)) (bs ++ Lib.strCells s) w' ∧ Below B w w' ∧ Lib.OthersKept bytT (some b) w w') := by
  obtain ⟨i0, hi, hz0, hz1, hz2⟩ := info_parts Tryz.infoByt
  go_enter Tryz.func93, Tryz.ntmps93
  go_wp2_with (go_at_call 119; refine (bcopy_k B b bs _ h).mono ?_)
  rintro e w1 ⟨rfl, h1, hb1, hk1⟩
  obtain ⟨hB, v, hbk, hown, hne⟩ := h1
  have c0 : w1.cell? ⟨b, 0, none⟩ = some (.pointer (some ⟨b, 0, none⟩)) := by rw [Lib.cell_of_heap hbk]; rfl
  have c1 : w1.cell? ⟨b, 1, none⟩ = some v := by rw [Lib.cell_of_heap hbk]; rfl
  go_wp2_with (at_builtin; refine Lib.wpList_append_own_stringF _ rfl _ _ 66 9 rfl B bytT i0 Tryz.underlying66 Tryz.underlying9 hi hz0 hz1 hz2 _ _ _ rfl hown s rfl ?c3 ?c4 ?c5 ?_)
  case c3 => unfold maxLen; omega
  case c4 => omega
  case c5 => have := hb1.size; omega
  intro v' w2 hown' hgrow _
  have hlt : b < w1.heap.size := by
    rcases Nat.lt_or_ge b w1.heap.size with h' | h'
    · exact h'
    · simp [Array.getElem?_eq_none h'] at hbk
  have hb2 : w2.heap[b]? = some (.cells #[.pointer (some ⟨b, 0, none⟩), v] bldT (0, 0)) := by
    rw [hgrow.block b hlt (fun e => hne e.symm)]
    exact hbk
  have d0 : w2.cell? ⟨b, 0, none⟩ = some (.pointer (some ⟨b, 0, none⟩)) := by rw [Lib.cell_of_heap hb2]; rfl
  have d1 : w2.cell? ⟨b, 1, none⟩ = some v := by rw [Lib.cell_of_heap hb2]; rfl
  have f1 : w2.frozen? ⟨b, 1, none⟩ = false := Lib.frozen_of_heap hb2 1
  obtain ⟨ao, n', cap, rfl⟩ : ∃ ao n' cap, v' = .slice ao n' cap := by
    rcases hown'.2 with ⟨hv, _⟩ | ⟨g, cap, cur, fz, hv, _⟩
    · exact ⟨_, _, _, hv⟩
    · exact ⟨_, _, _, hv⟩
  go_wp2
  go_ret2
  refine ⟨rfl, ?_, ?_, (hk1.grown hgrow (Lib.ownsRowF_kind hown)).setCell ⟨b, 1, none⟩ rfl _⟩
  · exact Lib.BuilderAtF.put (T := bldT) (e := bytT) hB hb2 (bs' := bs ++ Lib.strCells s) (by simpa [Lib.strCells_length] using hown') (by decide)
  · exact (hb1.grown hgrow (by have := hb1.size; omega) (fun k hk => (hown.lt k hk).1)).setCell (p := ⟨b, 1, none⟩) hB _
end Go.Proofs.YtcojmmhclklpoaaGreatDoor
namespace Go.Proofs.YtcojmmhclklpoaaGreatDoor
open Go.RowKit Go.Shelf

def setV2 (x : BitVec 16) : Value := .int .u16 (U x)

theorem at_some {l : List (BitVec 16)} {k : Nat} (h : k < l.length) : l[k]? = some (l.getD k 0#16) := by rw [List.getElem?_eq_getElem h, getD_at h]
theorem at_cell {l : List (BitVec 16)} {k : Nat} (h : k < l.length) : (l.map setV2)[k]? = some (.int .u16 (U (l.getD k 0#16))) := by rw [List.getElem?_map, at_some h]; rfl
theorem any_hit {p : BitVec 16 → Bool} {l : List (BitVec 16)} {k : Nat} (h : k < l.length) (hp : p (l.getD k 0#16) = true) : l.any p = true :=
  List.any_eq_true.2 ⟨_, by rw [getD_at h]; exact List.getElem_mem h, hp⟩
theorem any_none {p : BitVec 16 → Bool} {l : List (BitVec 16)} (h : ∀ j, j < l.length → p (l.getD j 0#16) = false) : l.any p = false := by
  rw [Bool.eq_false_iff]
  intro hc
  obtain ⟨x, hx, hp⟩ := List.any_eq_true.1 hc
  obtain ⟨j, hj, rfl⟩ := List.mem_iff_getElem.1 hx
  rw [← getD_at hj, h j hj] at hp; cases hp

/-- the first place of a set, or -1 -/
def idxS (p : BitVec 16 → Bool) (l : List (BitVec 16)) : Int := if l.any p then (l.findIdx p : Int) else -1
theorem idxS_hit {p : BitVec 16 → Bool} {l : List (BitVec 16)} {k : Nat} (hk : k < l.length) (h : ∀ j, j < k → p (l.getD j 0#16) = false) (hp : p (l.getD k 0#16) = true) : idxS p l = k := by
  unfold idxS
  rw [if_pos (any_hit hk hp)]
  have : l.findIdx p = k := by
    rw [List.findIdx_eq hk]
    refine ⟨by rw [← getD_at hk]; exact hp, fun j hj => ?_⟩
    have := h j hj
    rw [getD_at (by omega)] at this
    exact this
  rw [this]
theorem idxS_none {p : BitVec 16 → Bool} {l : List (BitVec 16)} (h : ∀ j, j < l.length → p (l.getD j 0#16) = false) : idxS p l = -1 := by
  unfold idxS; rw [any_none h]; rfl
theorem idxS_ge (p : BitVec 16 → Bool) (l : List (BitVec 16)) : decide (0 ≤ idxS p l) = l.any p := by
  unfold idxS
  cases l.any p <;> simp

set_option maxRecDepth 100000 in
set_option maxHeartbeats 1000000 in
theorem idxF_c (g : Nat) (lb : Array Value) (eg : ∀ args w, (callFunc g args).run Tryz.prog w = .ok (.enter g args) w) (p : BitVec 16 → Bool) (l : List (BitVec 16)) (a : Option Addr) (n c : Nat) (w : World)
    (h : Rd w a n c (l.map setV2)) (hp : PredAt Tryz.prog g lb setV2 p w) :
    Calls Tryz.prog 113 #[.slice a n c, .func (.func g) #[] lb] w fun e w' => e = .returned (.int .i64 (idxS p l)) ∧ Below w.heap.size w w' := by
  have hn : n ≤ l.length ∧ l.length ≤ n := by have := h.len; simp at this; omega
  obtain ⟨hn1, hn2⟩ := hn
  have hm := h.max
  have hle := h.le
  unfold maxLen at hm
  have HP := Lib.hid hp
  have HR := Lib.hid h
  clear hp h
  go_enter Tryz.func113, Tryz.ntmps113
  go_wp2_with fail
  go_loopw [8] (fun i wr => ∃ k : Nat, k ≤ n ∧ i = .int .i64 k ∧ Hid (∀ j, j < k → p (l.getD j 0#16) = false) ∧ Below w.heap.size w wr) (fun i _ => n - (intOf i).toNat)
  case atStart => exact ⟨0, Nat.zero_le _, rfl, Lib.hid (fun j hj => by omega), Below.refl _ _⟩
  case round =>
    obtain ⟨k, hk, rfl, hno, hb⟩ := hrel
    by_cases hlt : k < n
    · obtain ⟨b, o, ha, hcell⟩ := (HR.out.below hb).at' (by omega)
      have hc := hcell k _ (at_cell (by omega))
      subst ha
      have HF : Hid (Calls Tryz.prog g (#[.int .u16 (U (l.getD k 0#16))] ++ lb) wr fun e w' => e = .returned (.bool (p (l.getD k 0#16))) ∧ ∃ q, w' = wr.drewN q) := HP.out wr (l.getD k 0#16) hb
      cases hq : p (l.getD k 0#16)
      · have hno' : Hid (∀ j, j < k + 1 → p (l.getD j 0#16) = false) := Lib.hid (fun j hj => by
          by_cases h1 : j < k
          · exact hno.out j h1
          · obtain rfl : j = k := by omega
            exact hq)
        rw [hq] at HF
        obtain ⟨x, hx⟩ : ∃ x, l.getD k 0#16 = x := ⟨_, rfl⟩
        rw [hx] at hc HF
        clear hq hcell hno hx
        go_wp2_with (go_at_fn g; refine HF.out.mono ?_; rintro e w' ⟨rfl, q, rfl⟩)
        go_roundw
        case rel => exact ⟨k + 1, by omega, by go_num, hno', below_drewN hb⟩
        case measure => simp [intOf]; omega
      · have hI : Hid (idxS p l = k) := idxS_hit (by omega) hno.out hq
        rw [hq] at HF
        obtain ⟨x, hx⟩ : ∃ x, l.getD k 0#16 = x := ⟨_, rfl⟩
        rw [hx] at hc HF
        clear hq hcell hno hx
        go_wp2_with (go_at_fn g; refine HF.out.mono ?_; rintro e w' ⟨rfl, q, rfl⟩)
        go_ret
        exact ⟨ret_int hI.out.symm, below_drewN hb⟩
    · have hI : Hid (idxS p l = -1) := idxS_none (fun j hj => hno.out j (by omega))
      clear hno
      go_wp2_with fail
      go_ret
      exact ⟨ret_int hI.out.symm, hb⟩

set_option maxRecDepth 100000 in
set_option maxHeartbeats 1000000 in
theorem containsF_c (g : Nat) (lb : Array Value) (eg : ∀ args w, (callFunc g args).run Tryz.prog w = .ok (.enter g args) w) (p : BitVec 16 → Bool) (l : List (BitVec 16)) (a : Option Addr) (n c : Nat) (w : World)
    (h : Rd w a n c (l.map setV2)) (hp : PredAt Tryz.prog g lb setV2 p w) :
    Calls Tryz.prog 84 #[.slice a n c, .func (.func g) #[] lb] w fun e w' => e = .returned (.bool (l.any p)) ∧ Below w.heap.size w w' := by
  have HC := Lib.hid (idxF_c g lb eg p l a n c w h hp)
  have hi := idxS_ge p l
  clear h hp eg
  obtain ⟨i, hi2⟩ : ∃ i, idxS p l = i := ⟨_, rfl⟩
  rw [hi2] at HC hi
  have HI := Lib.hid hi
  clear hi hi2
  go_enter Tryz.func84, Tryz.ntmps84
  go_wp2_with fail
  refine HC.out.mono ?_
  rintro e w1 ⟨rfl, hb⟩
  go_wp2_with fail
  go_ret
  exact ⟨ret_bool HI.out, hb⟩

set_option maxHeartbeats 400000 in
theorem contains_c (x y : BitVec 16) (w : World) :
    Calls Tryz.prog 86 #[.int .u16 (U x), .int .u16 (U y)] w fun e w' => e = .returned (.bool (subB x y)) ∧ w' = w := by
  go_enter Tryz.func86, Tryz.ntmps86
  go_wp2
  go_ret
  exact ⟨rfl, rfl⟩

theorem accepts1_at (w : World) (B : Nat) (s : BitVec 16) (hc : w.cell? ⟨B, 0, none⟩ = some (.int .u16 (U s))) :
    PredAt Tryz.prog 85 #[.pointer (some ⟨B, 0, none⟩)] setV2 (fun x => subB s x) w := fun W x hb => by
  have hc' : W.cell? ⟨B, 0, none⟩ = some (.int .u16 (U s)) := (hb.cell (p := ⟨B, 0, none⟩) (cell_lt hc)).trans hc
  unfold FnGives setV2
  clear hb hc
  go_enter Tryz.func85, Tryz.ntmps85
  go_wp2_with fail
  refine (contains_c s x _).mono ?_
  rintro e w1 ⟨rfl, rfl⟩
  go_wp2_with fail
  go_ret
  exact ⟨rfl, 0, rfl⟩

set_option maxRecDepth 100000 in
set_option maxHeartbeats 1000000 in
theorem accepts_c (l : List (BitVec 16)) (s : BitVec 16) (a : Option Addr) (n c : Nat) (w : World) (h : Rd w a n c (l.map setV2)) :
    Calls Tryz.prog 44 #[.slice a n c, .int .u16 (U s)] w fun e w' => e = .returned (.bool (accS l s)) ∧ Below w.heap.size w w' := by
  have hb0 : Below w.heap.size w (w.alloc (.cells #[.int .u16 (U s)] 37)) := (Below.refl _ w).alloc (Nat.le_refl _) _
  have HC := Lib.hid (containsF_c 85 #[.pointer (some ⟨w.heap.size, 0, none⟩)] (enters_of Tryz.func85 (by kernel_rfl) rfl) (fun x => subB s x) l a n c _ (h.below hb0) (accepts1_at _ w.heap.size s (cell_new _ _ _ 0 _ rfl)))
  have HB := Lib.hid hb0
  clear h hb0
  go_enter Tryz.func44, Tryz.ntmps44
  go_wp2_with fail
  refine HC.out.mono ?_
  rintro e w1 ⟨rfl, hb⟩
  go_wp2_with fail
  go_ret
  exact ⟨rfl, Below.next HB.out hb⟩

/-- the union -/
def supS (l : List (BitVec 16)) : BitVec 16 := l.foldl (· ||| ·) 0#16
theorem supS_take {l : List (BitVec 16)} {k : Nat} (h : k < l.length) : supS (l.take (k + 1)) = supS (l.take k) ||| l.getD k 0#16 := by
  unfold supS; rw [List.take_add_one, at_some h]; simp

set_option maxRecDepth 100000 in
set_option maxHeartbeats 1000000 in
theorem support_c (l : List (BitVec 16)) (a : Option Addr) (n c : Nat) (w : World) (h : Rd w a n c (l.map setV2)) :
    Calls Tryz.prog 63 #[.slice a n c] w fun e w' => e = .returned (.int .u16 (U (supS l))) ∧ w' = w := by
  have hn : n ≤ l.length ∧ l.length ≤ n := by have := h.len; simp at this; omega
  obtain ⟨hn1, hn2⟩ := hn
  have hm := h.max
  have hle := h.le
  unfold maxLen at hm
  go_enter Tryz.func63, Tryz.ntmps63
  go_wp2_with fail
  go_loop [3, 8] (fun v i => ∃ (k : Nat) (s : BitVec 16), k ≤ n ∧ i = .int .i64 k ∧ v = .int .u16 (U s) ∧ Hid (s = supS (l.take k))) (fun _ i => n - (intOf i).toNat)
  case atStart => exact ⟨0, 0#16, Nat.zero_le _, rfl, rfl, rfl⟩
  case round =>
    obtain ⟨k, s, hk, rfl, rfl, hs⟩ := hrel
    by_cases hlt : k < n
    · obtain ⟨b, o, ha, hcell⟩ := h.at' (by omega)
      have hc := hcell k _ (at_cell (by omega))
      have HS := Lib.hid (supS_take (l := l) (k := k) (by omega))
      obtain ⟨x, hx⟩ : ∃ x, l.getD k 0#16 = x := ⟨_, rfl⟩
      rw [hx] at hc HS
      subst ha
      clear hcell h hx
      go_wp2_with fail
      go_round
      case rel => exact ⟨k + 1, s ||| x, by omega, by go_num, rfl, by show _ = _; rw [HS.out, hs.out]⟩
      case measure => simp [intOf]; omega
    · have hE : Hid (l.take k = l) := List.take_of_length_le (by omega)
      clear h
      go_wp2_with fail
      go_ret
      exact ⟨by rw [hs.out, hE.out]; rfl, rfl⟩

end Go.Proofs.YtcojmmhclklpoaaGreatDoor
namespace Go.Proofs.YtcojmmhclklpoaaGreatDoor

/-- the servers' nodes -/
def srvN (mem : List Nat) : List Nod := mem.map fun (m : Nat) => ⟨1, (m : Int), 0, [], []⟩
/-- the indices of a set's members -/
def kidsO (mem : List Nat) (s : BitVec 16) : List Int := (memS s).map fun m => ((mem.idxOf m : Nat) : Int)
def stepO (mem : List Nat) (st : List Nod × List Int) (s : BitVec 16) : List Nod × List Int :=
  if (kidsO mem s).length = 1 then (st.1, st.2 ++ kidsO mem s) else (st.1 ++ [⟨2, 0, ((kidsO mem s).length : Int), [], kidsO mem s⟩], st.2 ++ [(st.1.length : Int)])
def memO (f : List (BitVec 16)) : List Nat := memS (supS f)
def ofT (f : List (BitVec 16)) (j : Nat) : List Nod × List Int := (f.take j).foldl (stepO (memO f)) (srvN (memO f), [])
def ofX (f : List (BitVec 16)) : Xpr :=
  if (ofT f f.length).2.length = 1 then ⟨(ofT f f.length).1, (ofT f f.length).2.getD 0 0⟩ else ⟨(ofT f f.length).1 ++ [⟨2, 0, 1, [], (ofT f f.length).2⟩], ((ofT f f.length).1.length : Int)⟩
/-- what Of answers -/
def ofE (f : List (BitVec 16)) : Xpr × Int := if valS f ≠ 0 then (⟨[], 0⟩, valS f) else if 60 < (ofX f).nodes.length then (⟨[], 0⟩, 3) else (ofX f, 0)
theorem ofT_zero (f : List (BitVec 16)) : ofT f 0 = (srvN (memO f), []) := rfl
theorem ofT_succ {f : List (BitVec 16)} {j : Nat} {s : BitVec 16} (h : f[j]? = some s) : ofT f (j + 1) = stepO (memO f) (ofT f j) s := by
  unfold ofT
  rw [List.take_add_one, h, List.foldl_append]; rfl
theorem srvN_succ {mem : List Nat} {k m : Nat} (h : mem[k]? = some m) : srvN (mem.take (k + 1)) = srvN (mem.take k) ++ [⟨1, (m : Int), 0, [], []⟩] := by
  unfold srvN
  rw [List.take_add_one, h, List.map_append]; rfl
theorem srvN_len (mem : List Nat) : (srvN mem).length = mem.length := List.length_map _
theorem kidsO_len (mem : List Nat) (s : BitVec 16) : (kidsO mem s).length = (memS s).length := List.length_map _
theorem step_len (mem : List Nat) (st : List Nod × List Int) (s : BitVec 16) : (stepO mem st s).1.length ≤ st.1.length + 1 ∧ (stepO mem st s).2.length = st.2.length + 1 := by
  unfold stepO
  split
  · rename_i h; exact ⟨Nat.le_succ _, by rw [List.length_append, h]⟩
  · simp
theorem ofT_len (f : List (BitVec 16)) : ∀ j, j ≤ f.length → (ofT f j).1.length ≤ (memO f).length + j ∧ (ofT f j).2.length = j := by
  intro j
  induction j with
  | zero => intro _; rw [ofT_zero]; exact ⟨by rw [srvN_len]; omega, rfl⟩
  | succ j ih =>
    intro hj
    have h1 := ih (by omega)
    rw [ofT_succ (List.getElem?_eq_getElem (show j < f.length by omega))]
    have h2 := step_len (memO f) (ofT f j) f[j]
    omega
/-! the places of servers -/
def plA (mem : List Nat) (k : Nat) : Array Value := ((List.range 12).map fun s => Value.int .i64 ((if s ∈ mem.take k then mem.idxOf s else 0 : Nat) : Int)).toArray
theorem plA_zero (mem : List Nat) : plA mem 0 = Array.replicate 12 (.int .i64 0) := by unfold plA; simp [List.range_succ, Array.replicate_succ]
theorem plA_size (mem : List Nat) (k : Nat) : (plA mem k).size = 12 := by simp [plA]
theorem plA_at (mem : List Nat) (k s : Nat) (h : s < 12) : (plA mem k)[s]? = some (.int .i64 ((if s ∈ mem.take k then mem.idxOf s else 0 : Nat) : Int)) := by
  unfold plA
  rw [List.getElem?_toArray, List.getElem?_map, List.getElem?_range h]; rfl
theorem plA_step {mem : List Nat} (hn : mem.Nodup) {k m : Nat} (h : mem[k]? = some m) (hm : m < 12) : (plA mem k).setIfInBounds m (.int .i64 (k : Int)) = plA mem (k + 1) := by
  have hk := (List.getElem?_eq_some_iff.1 h).1
  have hid : mem.idxOf m = k := by
    have e : mem[k] = m := (List.getElem?_eq_some_iff.1 h).2
    rw [← e]
    exact List.Nodup.idxOf_getElem hn k hk
  apply Array.ext_getElem?
  intro i
  rw [Array.getElem?_setIfInBounds]
  by_cases hi : i < 12
  · rw [plA_at mem (k + 1) i hi, plA_at mem k i hi, plA_size]
    by_cases e : m = i
    · subst e
      rw [if_pos rfl, if_pos hm, if_pos, hid]
      rw [List.take_add_one, h]; simp
    · rw [if_neg e]
      congr 2
      rw [List.take_add_one, h]
      have : (i ∈ mem.take k ++ (some m).toList) ↔ i ∈ mem.take k := by
        simp
        intro e2; exact absurd e2.symm e
      by_cases h3 : i ∈ mem.take k
      · rw [if_pos h3, if_pos (this.2 h3)]
      · rw [if_neg h3, if_neg (fun h4 => h3 (this.1 h4))]
  · have e1 : (plA mem (k + 1))[i]? = none := Array.getElem?_eq_none (by rw [plA_size]; omega)
    have e2 : (plA mem k)[i]? = none := Array.getElem?_eq_none (by rw [plA_size]; omega)
    rw [if_neg (by omega), e1, e2]
theorem memO_nodup (f : List (BitVec 16)) : (memO f).Nodup := by
  exact (memS_sorted _).imp (fun h => Nat.ne_of_lt h)
/-- servers of a valid family -/
theorem supS_has (l : List (BitVec 16)) (p : Nat) : hasB (supS l) p = true ↔ ∃ s ∈ l, hasB s p = true := by
  unfold supS
  have h : ∀ (l : List (BitVec 16)) (o : BitVec 16), hasB (l.foldl (fun o x => o ||| x) o) p = true ↔ (hasB o p = true ∨ ∃ s ∈ l, hasB s p = true) := by
    intro l
    induction l with
    | nil => intro o; simp
    | cons a l ih =>
      intro o
      rw [List.foldl_cons, ih]
      have : hasB (o ||| a) p = (hasB o p || hasB a p) := by unfold hasB; simp
      rw [this]
      simp only [Bool.or_eq_true, List.mem_cons]
      constructor
      · rintro ((h | h) | ⟨s, h1, h2⟩)
        · exact .inl h
        · exact .inr ⟨a, .inl rfl, h⟩
        · exact .inr ⟨s, .inr h1, h2⟩
      · rintro (h | ⟨s, h1 | h1, h2⟩)
        · exact .inl (.inl h)
        · subst h1; exact .inl (.inr h2)
        · exact .inr ⟨s, h1, h2⟩
  have := h l 0#16
  rw [this]
  constructor
  · rintro (h | h)
    · exact absurd h (by unfold hasB; simp)
    · exact h
  · exact .inr
theorem valS_ok {l : List (BitVec 16)} (h : valS l = 0) : l.length ≤ 400 ∧ (∀ j, j < l.length → e1 l j = 0) ∧ overB l = false := by
  unfold valS at h
  by_cases h1 : 400 < l.length
  · rw [if_pos h1] at h; cases h
  · rw [if_neg h1] at h
    by_cases h2 : firstE (e1 l) l.length ≠ 0
    · rw [if_pos h2] at h; exact absurd h h2
    · rw [if_neg h2] at h
      refine ⟨by omega, firstE_zero _ _ (by simpa using h2), ?_⟩
      cases ho : overB l
      · rfl
      · rw [ho] at h; cases h
theorem valS_lt {l : List (BitVec 16)} (h : valS l = 0) : ∀ s ∈ l, s.toNat < 4096 := by
  obtain ⟨_, h2, _⟩ := valS_ok h
  intro s hs
  obtain ⟨j, hj⟩ := List.getElem?_of_mem hs
  have hl := (List.getElem?_eq_some_iff.1 hj).1
  have h3 := (e1_zero (h2 j hl)).1
  rw [List.getD_eq_getElem?_getD, hj] at h3
  simp only [Option.getD_some] at h3
  unfold U at h3; omega
theorem has_lt12 {s : BitVec 16} (h : s.toNat < 4096) {p : Nat} (hp : hasB s p = true) : p < 12 := by
  refine Classical.byContradiction fun hc => ?_
  unfold hasB at hp
  rw [BitVec.getLsbD, Nat.testBit_lt_two_pow (Nat.lt_of_lt_of_le h (Nat.pow_le_pow_right (n := 2) (by omega) (show 12 ≤ p by omega)))] at hp
  cases hp
theorem mem12 {l : List (BitVec 16)} (h : valS l = 0) : ∀ m ∈ memO l, m < 12 := by
  intro m hm
  unfold memO at hm
  obtain ⟨s, hs, hp⟩ := (supS_has l m).1 (mem_memS.1 hm)
  exact has_lt12 (valS_lt h s hs) hp
theorem memO_mem {l : List (BitVec 16)} (_h : valS l = 0) {s : BitVec 16} (hs : s ∈ l) {m : Nat} (hm : m ∈ memS s) : m ∈ memO l := by
  have h1 := (mem_memS.1 hm)
  exact mem_memS.2 ((supS_has l m).2 ⟨s, hs, h1⟩)
theorem sub12 {L : List Nat} (hs : L.Pairwise (· < ·)) (h : ∀ m ∈ L, m < 12) : L.length ≤ 12 := by
  have : ∀ (L : List Nat) (b : Nat), L.Pairwise (· < ·) → (∀ m ∈ L, b ≤ m ∧ m < 12) → L.length ≤ 12 - b := by
    intro L
    induction L with
    | nil => intro b _ _; simp
    | cons a L ih =>
      intro b hp hm
      obtain ⟨h1, h2⟩ := List.pairwise_cons.1 hp
      have ha := hm a (by simp)
      have := ih (a + 1) h2 (fun m hm' => ⟨h1 m hm', (hm m (List.mem_cons_of_mem _ hm')).2⟩)
      rw [List.length_cons]; omega
  exact this L 0 hs (fun m hm => ⟨Nat.zero_le _, h m hm⟩)
theorem memO_len {l : List (BitVec 16)} (h : valS l = 0) : (memO l).length ≤ 12 := sub12 (memS_sorted _) (mem12 h)
theorem kids12 {l : List (BitVec 16)} (h : valS l = 0) {s : BitVec 16} (hs : s ∈ l) : (memS s).length ≤ 12 := sub12 (memS_sorted _) fun _m hm => has_lt12 (valS_lt h s hs) (mem_memS.1 hm)
end Go.Proofs.YtcojmmhclklpoaaGreatDoor
namespace Go.Proofs.YtcojmmhclklpoaaGreatDoor
open Go.RowKit

/-- the five cells of a node -/
structure NodM (w : World) (b o : Nat) (nd : Nod) : Prop where
  c0 : w.cell? ⟨b, o, none⟩ = some (.int .i64 nd.kind)
  c1 : w.cell? ⟨b, o + 1, none⟩ = some (.int .i64 nd.server)
  c2 : w.cell? ⟨b, o + 2, none⟩ = some (.int .i64 nd.need)
  ws : ∃ a n c, w.cell? ⟨b, o + 3, none⟩ = some (.slice a n c) ∧ Rd w a n c (nd.weights.map (Value.int .i64))
  ks : ∃ a n c, w.cell? ⟨b, o + 4, none⟩ = some (.slice a n c) ∧ Rd w a n c (nd.kids.map (Value.int .i64))
/-- the slice value '.slice a n c' reads as these nodes -/
structure XM (w : World) (a : Option Addr) (n c : Nat) (nodes : List Nod) : Prop where
  len : nodes.length = n
  le : n ≤ c
  max : c ≤ maxLen
  nil : a = none → c = 0
  at' : 0 < n → ∃ b o, a = some ⟨b, o, none⟩ ∧ ∀ i nd, nodes[i]? = some nd → NodM w b (o + i * 5) nd
theorem XM.none_ (w : World) : XM w none 0 0 [] := ⟨rfl, Nat.le_refl _, by simp [maxLen], fun _ => rfl, fun h => absurd h (by decide)⟩

theorem cell_keep {w w' : World} {b o : Nat} {v : Value} (hb : Below w.heap.size w w') (h : w.cell? ⟨b, o, none⟩ = some v) : w'.cell? ⟨b, o, none⟩ = some v :=
  (hb.cell (p := ⟨b, o, none⟩) (cell_lt h)).trans h
theorem NodM.below {w w' : World} {b o : Nat} {nd : Nod} (h : NodM w b o nd) (hb : Below w.heap.size w w') : NodM w' b o nd := by
  obtain ⟨a, n, c, h3, r3⟩ := h.ws
  obtain ⟨a', n', c', h4, r4⟩ := h.ks
  exact ⟨cell_keep hb h.c0, cell_keep hb h.c1, cell_keep hb h.c2, ⟨a, n, c, cell_keep hb h3, r3.below hb⟩, ⟨a', n', c', cell_keep hb h4, r4.below hb⟩⟩
theorem XM.below {w w' : World} {a : Option Addr} {n c : Nat} {nodes : List Nod} (h : XM w a n c nodes) (hb : Below w.heap.size w w') : XM w' a n c nodes := by
  refine ⟨h.len, h.le, h.max, h.nil, fun hn => ?_⟩
  obtain ⟨b, o, ha, hc⟩ := h.at' hn
  exact ⟨b, o, ha, fun i nd hi => (hc i nd hi).below hb⟩
theorem NodM.drewN {w : World} {b o : Nat} {nd : Nod} (h : NodM w b o nd) (q : Nat) : NodM (w.drewN q) b o nd := by
  obtain ⟨a, n, c, h3, r3⟩ := h.ws
  obtain ⟨a', n', c', h4, r4⟩ := h.ks
  exact ⟨h.c0, h.c1, h.c2, ⟨a, n, c, h3, ⟨r3.len, r3.le, r3.max, r3.nil, r3.at'⟩⟩, ⟨a', n', c', h4, ⟨r4.len, r4.le, r4.max, r4.nil, r4.at'⟩⟩⟩
theorem XM.drewN {w : World} {a : Option Addr} {n c : Nat} {nodes : List Nod} (h : XM w a n c nodes) (q : Nat) : XM (w.drewN q) a n c nodes := by
  refine ⟨h.len, h.le, h.max, h.nil, fun hn => ?_⟩
  obtain ⟨b, o, ha, hc⟩ := h.at' hn
  exact ⟨b, o, ha, fun i nd hi => (hc i nd hi).drewN q⟩
theorem XM.take {w : World} {a : Option Addr} {n c : Nat} {nodes : List Nod} (h : XM w a n c nodes) (k : Nat) (hk : k ≤ n) : XM w a k c (nodes.take k) := by
  refine ⟨by rw [List.length_take, h.len]; omega, by have := h.le; omega, h.max, h.nil, fun hn => ?_⟩
  obtain ⟨b, o, ha, hc⟩ := h.at' (by omega)
  refine ⟨b, o, ha, fun i nd hi => hc i nd ?_⟩
  rw [List.getElem?_take] at hi
  split at hi
  · exact hi
  · cases hi

/-! nodes as values, in a row of the call's own -/
structure NodV where
  kind : Int
  server : Int
  need : Int
  wv : Value
  kv : Value
def nodVC (p : NodV) : List Value := [.int .i64 p.kind, .int .i64 p.server, .int .i64 p.need, p.wv, p.kv]
theorem nodVC_len (p : NodV) : (nodVC p).length = 5 := rfl
/-- a node's value reads as the node -/
structure NodR (w : World) (p : NodV) (nd : Nod) : Prop where
  e0 : p.kind = nd.kind
  e1 : p.server = nd.server
  e2 : p.need = nd.need
  ws : ∃ a n c, p.wv = .slice a n c ∧ Rd w a n c (nd.weights.map (Value.int .i64))
  ks : ∃ a n c, p.kv = .slice a n c ∧ Rd w a n c (nd.kids.map (Value.int .i64))
theorem NodR.below {w w' : World} {p : NodV} {nd : Nod} (h : NodR w p nd) (hb : Below w.heap.size w w') : NodR w' p nd := by
  obtain ⟨a, n, c, h3, r3⟩ := h.ws
  obtain ⟨a', n', c', h4, r4⟩ := h.ks
  exact ⟨h.e0, h.e1, h.e2, ⟨a, n, c, h3, r3.below hb⟩, ⟨a', n', c', h4, r4.below hb⟩⟩
theorem XM.of_rdK {w : World} {a : Option Addr} {n c : Nat} {V : List NodV} {nodes : List Nod} (h : RdK 5 w a n c (V.flatMap nodVC)) (hn : V.length = nodes.length) (hV : ∀ (i : Nat) p nd, V[i]? = some p → nodes[i]? = some nd → NodR w p nd) : XM w a n c nodes := by
  have hl := h.len
  rw [flat_len 5 nodVC nodVC_len] at hl
  have hVn : V.length = n := by omega
  refine ⟨by omega, h.le, h.max, h.nil, fun h0 => ?_⟩
  obtain ⟨b, o, ha, hc⟩ := RdK.cells h nodVC_len h0
  refine ⟨b, o, ha, fun i nd hi => ?_⟩
  have hil := (List.getElem?_eq_some_iff.1 hi).1
  obtain ⟨p, hp⟩ : ∃ p, V[i]? = some p := ⟨_, List.getElem?_eq_getElem (by omega)⟩
  have r := hV i p nd hp hi
  have g := hc i p hp
  obtain ⟨a3, n3, c3, h3, r3⟩ := r.ws
  obtain ⟨a4, n4, c4, h4, r4⟩ := r.ks
  refine ⟨?_, ?_, ?_, ⟨a3, n3, c3, ?_, r3⟩, ⟨a4, n4, c4, ?_, r4⟩⟩
  · rw [← r.e0]; exact g 0 (by omega)
  · rw [← r.e1]; exact g 1 (by omega)
  · rw [← r.e2]; exact g 2 (by omega)
  · rw [← h3]; exact g 3 (by omega)
  · rw [← h4]; exact g 4 (by omega)
theorem XM.of_row {w : World} {B n : Nat} {e : TypeId} {v : Value} {V : List NodV} {nodes : List Nod} (h : w.ownsRow B e 5 v n (V.flatMap nodVC)) (hn : V.length = nodes.length) (hV : ∀ (i : Nat) p nd, V[i]? = some p → nodes[i]? = some nd → NodR w p nd) : ∃ a c, v = .slice a n c ∧ XM w a n c nodes := by
  obtain ⟨a, c, hv, hr⟩ := rdK_of_row h
  exact ⟨a, c, hv, .of_rdK hr hn hV⟩

/-! trees -/
def choC (c : Cho) : List Value := [.int .i64 c.server, .int .i64 c.first, .int .i64 c.second]
theorem choC_len (c : Cho) : (choC c).length = 3 := rfl
abbrev TM (w : World) (a : Option Addr) (n c : Nat) (nodes : List Cho) : Prop := RdK 3 w a n c (nodes.flatMap choC)
theorem TM.len {w : World} {a : Option Addr} {n c : Nat} {nodes : List Cho} (h : TM w a n c nodes) : nodes.length = n := by
  have := RdK.len h; rw [flat_len 3 choC choC_len] at this; omega
end Go.Proofs.YtcojmmhclklpoaaGreatDoor
namespace Go.Proofs.YtcojmmhclklpoaaGreatDoor
open Go.RowKit Go.Shelf

theorem Rd.take {w : World} {a : Option Addr} {n c : Nat} {l : List Value} (h : Rd w a n c l) (k : Nat) (hk : k ≤ n) : Rd w a k c (l.take k) := by
  refine ⟨by rw [List.length_take, ← h.len]; omega, by have := h.le; omega, h.max, h.nil, fun hn => ?_⟩
  obtain ⟨b, o, ha, hc⟩ := h.at' (by omega)
  refine ⟨b, o, ha, fun i v hv => hc i v ?_⟩
  rw [List.getElem?_take] at hv
  split at hv
  · exact hv
  · cases hv

@[go_sem] theorem bv16_and_out (x : BitVec 16) : bits .and .u16 (U x) 61440 = U (x &&& 61440#16) := by
  have := bv16_and x 61440#16
  rwa [show U 61440#16 = 61440 by decide] at this
theorem out_iff (x : BitVec 16) : (x &&& 61440#16 != 0#16) = decide (4096 ≤ U x) := by
  rw [Bool.eq_iff_iff, bne_iff_ne, decide_eq_true_iff]
  have hx := x.isLt
  constructor
  · intro h
    refine Classical.byContradiction fun hc => h ?_
    have hlt : x.toNat < 2 ^ 12 := by unfold U at hc; omega
    apply BitVec.eq_of_getLsbD_eq
    intro i hi
    simp only [BitVec.getLsbD_and, BitVec.getLsbD_zero]
    by_cases h12 : i < 12
    · have : ∀ i : Fin 12, (61440#16).getLsbD i.val = false := by decide
      rw [this ⟨i, h12⟩, Bool.and_false]
    · have : x.getLsbD i = false := Nat.testBit_lt_two_pow (Nat.lt_of_lt_of_le hlt (Nat.pow_le_pow_right (by decide) (by omega)))
      rw [this, Bool.false_and]
  · intro h hc
    have hlt : x.toNat < 2 ^ 12 := by
      apply Nat.lt_pow_two_of_testBit
      intro i hi
      by_cases h16 : i < 16
      · have h1 := congrArg (fun y => y.getLsbD i) hc
        simp only [BitVec.getLsbD_and, BitVec.getLsbD_zero] at h1
        have : ∀ i : Fin 4, (61440#16).getLsbD (i.val + 12) = true := by decide
        have h2 := this ⟨i - 12, by omega⟩
        simp only [show i - 12 + 12 = i by omega] at h2
        rw [h2, Bool.and_true] at h1
        exact h1
      · exact Nat.testBit_lt_two_pow (Nat.lt_of_lt_of_le hx (Nat.pow_le_pow_right (by decide) (by omega)))
    unfold U at h; omega

theorem valS_first {l : List (BitVec 16)} {k : Nat} (hn : ¬ 400 < l.length) (hk : k < l.length) (h : ∀ j, j < k → e1 l j = 0) (he : e1 l k ≠ 0) : valS l = e1 l k := by
  unfold valS
  rw [if_neg hn, firstE_hit _ _ k hk h he, if_pos he]
theorem valS_over {l : List (BitVec 16)} (hn : ¬ 400 < l.length) (h : ∀ j, j < l.length → e1 l j = 0) : valS l = if overB l then 1 else 0 := by
  unfold valS
  rw [if_neg hn, firstE_none _ _ h]; rfl
theorem e1_out {l : List (BitVec 16)} {k : Nat} (h : 4096 ≤ U (l.getD k 0#16)) : e1 l k = 7 := by unfold e1; rw [if_pos h]
theorem e1_zero0 {l : List (BitVec 16)} (h : ¬ 4096 ≤ U (l.getD 0 0#16)) : e1 l 0 = 0 := by unfold e1; rw [if_neg h, if_neg (by omega)]
theorem e1_next {l : List (BitVec 16)} {k : Nat} (h : ¬ 4096 ≤ U (l.getD (k + 1) 0#16)) : e1 l (k + 1) = if 0 ≤ cmpS (l.getD k 0#16) (l.getD (k + 1) 0#16) then 1 else 0 := by
  unfold e1; rw [if_neg h]
  by_cases hc : 0 ≤ cmpS (l.getD k 0#16) (l.getD (k + 1) 0#16)
  · rw [if_pos ⟨by omega, by simpa using hc⟩, if_pos hc]
  · rw [if_neg (fun h => hc (by simpa using h.2)), if_neg hc]

set_option maxRecDepth 100000 in
set_option maxHeartbeats 2000000 in
theorem valid_c (l : List (BitVec 16)) (a : Option Addr) (n c : Nat) (w : World) (h : Rd w a n c (l.map setV2)) :
    Calls Tryz.prog 61 #[.slice a n c] w fun e w' => e = .returned (.int .i64 (valS l)) ∧ Below w.heap.size w w' := by
  have hnl : l.length = n := by have := h.len; simp at this; omega
  have hm := h.max
  have hle := h.le
  unfold maxLen at hm
  have HR := Lib.hid h
  have HN := Lib.hid hnl
  clear h hnl
  by_cases h400 : (400 : Int) < (n : Int)
  · have hV : Hid (valS l = 3) := by show _ = _; unfold valS; rw [if_pos (by have := HN.out; omega)]
    go_enter Tryz.func61, Tryz.ntmps61
    go_wp2_with fail
    go_ret
    exact ⟨by rw [hV.out]; rfl, Below.refl _ _⟩
  · have hd4 : decide ((400 : Int) < (n : Int)) = false := by simpa using h400
    have h400' : Hid (¬ 400 < l.length) := by show ¬ _; have := HN.out; omega
    clear h400
    go_enter Tryz.func61, Tryz.ntmps61
    go_wp2_with fail
    go_loopw [12] (fun i wr => ∃ k : Nat, k ≤ n ∧ i = .int .i64 k ∧ Hid (∀ j, j < k → e1 l j = 0) ∧ Below w.heap.size w wr) (fun i _ => n - (intOf i).toNat)
    case atStart => exact ⟨0, Nat.zero_le _, rfl, Lib.hid (fun j hj => by omega), Below.refl _ _⟩
    case round =>
      obtain ⟨k, hk, rfl, hno, hb⟩ := hrel
      by_cases hlt : k < n
      · obtain ⟨b, o, ha, hcell⟩ := (HR.out.below hb).at' (by omega)
        have hc := hcell k _ (at_cell (by have := HN.out; omega))
        have hlen : Hid (k < l.length) := by show k < _; have := HN.out; omega
        subst ha
        by_cases ho : 4096 ≤ U (l.getD k 0#16)
        · have hV : Hid (valS l = 7) := by show _ = _; rw [valS_first h400'.out hlen.out hno.out (by rw [e1_out ho]; decide), e1_out ho]
          have ho1 := out_iff (l.getD k 0#16)
          obtain ⟨x, hx⟩ : ∃ x, l.getD k 0#16 = x := ⟨_, rfl⟩
          rw [hx] at ho ho1 hc
          rw [decide_eq_true ho] at ho1
          clear hcell hx ho hno
          go_wp2_with fail
          go_ret
          exact ⟨by rw [hV.out]; rfl, hb⟩
        · have ho1 := out_iff (l.getD k 0#16)
          rw [decide_eq_false ho] at ho1
          cases k with
          | zero =>
            have hno' : Hid (∀ j, j < 0 + 1 → e1 l j = 0) := Lib.hid (fun j hj => by obtain rfl : j = 0 := (by omega); exact e1_zero0 ho)
            obtain ⟨x, hx⟩ : ∃ x, l.getD 0 0#16 = x := ⟨_, rfl⟩
            rw [hx] at ho1 hc
            rw [Nat.add_zero] at hc
            clear hcell hx ho hno
            go_wp2_with fail
            go_roundw
            case rel => exact ⟨0 + 1, by omega, rfl, hno', hb⟩
            case measure => simp [intOf]; omega
          | succ k =>
            have hc0 := hcell k _ (at_cell (by have := hlen.out; omega))
            have he := e1_next ho
            by_cases hcmp : 0 ≤ cmpS (l.getD k 0#16) (l.getD (k + 1) 0#16)
            · rw [if_pos hcmp] at he
              have hV : Hid (valS l = 1) := by show _ = _; rw [valS_first h400'.out hlen.out hno.out (by rw [he]; decide), he]
              obtain ⟨x, hx⟩ : ∃ x, l.getD k 0#16 = x := ⟨_, rfl⟩
              obtain ⟨y, hy⟩ : ∃ y, l.getD (k + 1) 0#16 = y := ⟨_, rfl⟩
              have HC := Lib.hid (fun w => compare_c x y _ _ w rfl rfl)
              rw [hx, hy] at hcmp
              rw [hx] at hc0
              rw [hy] at hc ho1
              clear hcell hx hy ho hno he
              go_wp2_with fail
              refine (HC.out _).mono ?_
              rintro e w2 ⟨rfl, hb2⟩
              go_wp2_with fail
              go_ret
              exact ⟨by rw [hV.out]; rfl, Below.next hb hb2⟩
            · rw [if_neg hcmp] at he
              have hno' : Hid (∀ j, j < k + 1 + 1 → e1 l j = 0) := Lib.hid (fun j hj => by
                by_cases h1 : j < k + 1
                · exact hno.out j h1
                · obtain rfl : j = k + 1 := by omega
                  exact he)
              obtain ⟨x, hx⟩ : ∃ x, l.getD k 0#16 = x := ⟨_, rfl⟩
              obtain ⟨y, hy⟩ : ∃ y, l.getD (k + 1) 0#16 = y := ⟨_, rfl⟩
              have HC := Lib.hid (fun w => compare_c x y _ _ w rfl rfl)
              rw [hx, hy] at hcmp
              rw [hx] at hc0
              rw [hy] at hc ho1
              have hcm : decide (0 ≤ cmpS x y) = false := by simpa using hcmp
              clear hcell hx hy ho hno he hcmp
              go_wp2_with fail
              refine (HC.out _).mono ?_
              rintro e w2 ⟨rfl, hb2⟩
              have hb3 := Below.next hb hb2
              clear hb hb2
              go_wp2_with fail
              go_roundw
              case rel => exact ⟨k + 1 + 1, by omega, by go_num, hno', hb3⟩
              case measure => simp [intOf]; omega
      · have hall : Hid (∀ j, j < l.length → e1 l j = 0) := Lib.hid (fun j hj => hno.out j (by have := HN.out; omega))
        clear hno
        go_wp2_with fail
        go_loopw [37] (fun i wr => ∃ k : Nat, k ≤ n ∧ i = .int .i64 k ∧ Hid (∀ j, j < k → accS (l.take j) (l.getD j 0#16) = false) ∧ Below w.heap.size w wr) (fun i _ => n - (intOf i).toNat)
        case atStart => exact ⟨0, Nat.zero_le _, rfl, Lib.hid (fun j hj => by omega), hb⟩
        case round =>
          clear hb
          obtain ⟨i, hi, rfl, hno, hb⟩ := hrel
          by_cases hlt2 : i < n
          · have hRw := HR.out.below hb
            obtain ⟨b, o, ha, hcell⟩ := hRw.at' (by omega)
            have hc := hcell i _ (at_cell (by have := HN.out; omega))
            have hT := hRw.take i (by omega)
            rw [← List.map_take] at hT
            subst ha
            have HA := Lib.hid (accepts_c (l.take i) (l.getD i 0#16) _ i c _ hT)
            cases hq : accS (l.take i) (l.getD i 0#16)
            · have hno' : Hid (∀ j, j < i + 1 → accS (l.take j) (l.getD j 0#16) = false) := Lib.hid (fun j hj => by
                by_cases h1 : j < i
                · exact hno.out j h1
                · obtain rfl : j = i := by omega
                  exact hq)
              rw [hq] at HA
              obtain ⟨x, hx⟩ : ∃ x, l.getD i 0#16 = x := ⟨_, rfl⟩
              rw [hx] at HA hc
              clear hcell hx hq hno hT hRw
              go_wp2_with fail
              refine HA.out.mono ?_
              rintro e w2 ⟨rfl, hb2⟩
              have hb3 := Below.next hb hb2
              clear hb hb2
              go_wp2_with fail
              go_roundw
              case rel => exact ⟨i + 1, by omega, by go_num, hno', hb3⟩
              case measure => simp [intOf]; omega
            · have hV : Hid (valS l = 1) := by
                show _ = _
                rw [valS_over h400'.out hall.out, if_pos]
                unfold overB
                exact List.any_eq_true.2 ⟨i, List.mem_range.2 (by have := HN.out; omega), hq⟩
              rw [hq] at HA
              obtain ⟨x, hx⟩ : ∃ x, l.getD i 0#16 = x := ⟨_, rfl⟩
              rw [hx] at HA hc
              clear hcell hx hq hno hT hRw
              go_wp2_with fail
              refine HA.out.mono ?_
              rintro e w2 ⟨rfl, hb2⟩
              have hb3 := Below.next hb hb2
              clear hb hb2
              go_wp2_with fail
              go_ret
              exact ⟨by rw [hV.out]; rfl, hb3⟩
          · have hV : Hid (valS l = 0) := by
              show _ = _
              rw [valS_over h400'.out hall.out, if_neg]
              intro hc
              unfold overB at hc
              obtain ⟨j, hj, hq⟩ := List.any_eq_true.1 hc
              have := hno.out j (by have := List.mem_range.1 hj; have := HN.out; omega)
              rw [this] at hq; cases hq
            clear hno
            go_wp2_with fail
            go_ret
            exact ⟨by rw [hV.out]; rfl, hb⟩
end Go.Proofs.YtcojmmhclklpoaaGreatDoor
