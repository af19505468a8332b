/- Texts laid together. Layer 10, plain: expressions as trees. No program. Layer 10, plain: valid trees. No program. Layer 10, plain: the nodes of a tree, one step. No program. A handed slice of integers, as a law's frame opens it. slices.Clone of ints as a row; a list of expressions in memory. Writing the nodes of a tree: what the memory looks like on the way. Plain lemmas over the model, no program. Layer 10, plain: simplified trees. No program. Layer 10, plain: simplifying keeps what a tree means, keeps it valid, and does nothing the second time. No program. Layer 10, plain: a simplified tree is simple, and stays as it is. No program. Trees in memory, and rows of what lies in several cells. Plain lemmas over the model, no program. The reference's weight and sum of layer 10. A region that draws its order: operations that stay in a class of worlds, and behind them, in one forced order, a tail that writes. Over any program. -/
import Derived.Test.YtmjgdnpfgkpaoaaGreatDoorGC1
import Derived.Test.YtmjgdnpfgkpaoaaGreatDoorGC2
import Derived.Test.YtmjgdnpfgkpaoaaGreatDoorGC3
import Derived.Test.YtmjgdnpfgkpaoaaGreatDoorGC8
import Derived.Lib.SliceRun
import Derived.Deep.OwnRows
import Derived.StillTail
import Derived.Deep.Quiet
import Derived.Deep.QuietTactic
namespace Go.Proofs.YtmjgdnpfgkpaoaaGreatDoor

inductive ET where
  | srv : Int → ET
  | thr : Int → List Int → List ET → ET
mutual
/-- the number of nodes -/
def ET.sz : ET → Nat
  | .srv _ => 1
  | .thr _ _ ks => ETs.sz ks + 1
def ETs.sz : List ET → Nat
  | [] => 0
  | t :: ts => t.sz + ETs.sz ts
end
/-- the indices of the roots of trees that are laid one behind another -/
def ETs.idx : List ET → Nat → List Int
  | [], _ => []
  | t :: ts, b => ((b + t.sz - 1 : Nat) : Int) :: ETs.idx ts (b + t.sz)
mutual
/-- the nodes of a tree, the first one having an index -/
def ET.post : ET → Nat → List Nod
  | .srv s, _ => [⟨1, s, 0, [], []⟩]
  | .thr n ws ks, b => ETs.post ks b ++ [⟨2, 0, n, ws, ETs.idx ks b⟩]
def ETs.post : List ET → Nat → List Nod
  | [], _ => []
  | t :: ts, b => t.post b ++ ETs.post ts (b + t.sz)
end
/-- the expression of a tree -/
def ET.xpr (t : ET) : Xpr := ⟨t.post 0, ((t.sz - 1 : Nat) : Int)⟩
/-- the weight of a kid -/
def wgtW (ws : List Int) (k : Nat) : Int := if ws = [] then 1 else ws.getD k 0
mutual
/-- a set satisfies a tree -/
def ET.hold : ET → BitVec 16 → Bool
  | .srv s, S => hasB S s.toNat
  | .thr n ws ks, S => decide (n ≤ ETs.got ks S ws 0)
/-- the weights of the satisfied trees, the first one being the k-th -/
def ETs.got : List ET → BitVec 16 → List Int → Nat → Int
  | [], _, _, _ => 0
  | t :: ts, S, ws, k => (if t.hold S = true then wgtW ws k else 0) + ETs.got ts S ws (k + 1)
end
/-- the tree of a node; a server may stand for another tree -/
def treF (nodes : List Nod) (sub : Nat → Option ET) : Nat → Nat → ET
  | 0, _ => .srv 0
  | f + 1, i =>
    if (nodes.getD i nod0).kind = 1 then (sub (nodes.getD i nod0).server.toNat).getD (.srv (nodes.getD i nod0).server)
    else .thr (nodes.getD i nod0).need (nodes.getD i nod0).weights ((nodes.getD i nod0).kids.map fun k => treF nodes sub f k.toNat)
def noSub : Nat → Option ET := fun _ => none
def treX (x : Xpr) : ET := treF x.nodes noSub (x.root.toNat + 1) x.root.toNat

theorem ET.sz_pos (t : ET) : 1 ≤ t.sz := by cases t <;> simp [ET.sz]
mutual
theorem ET.post_len (t : ET) (b : Nat) : (t.post b).length = t.sz := by
  cases t with
  | srv s => simp [ET.post, ET.sz]
  | thr n ws ks => rw [ET.post, ET.sz, List.length_append, ETs.post_len ks b]; rfl
theorem ETs.post_len (ts : List ET) (b : Nat) : (ETs.post ts b).length = ETs.sz ts := by
  cases ts with
  | nil => simp [ETs.post, ETs.sz]
  | cons t ts => rw [ETs.post, ETs.sz, List.length_append, ET.post_len t b, ETs.post_len ts (b + t.sz)]
end
theorem ETs.idx_len : ∀ (ts : List ET) (b : Nat), (ETs.idx ts b).length = ts.length
  | [], _ => rfl
  | t :: ts, b => by rw [ETs.idx, List.length_cons, List.length_cons, ETs.idx_len ts]
theorem ETs.sz_app (l m : List ET) : ETs.sz (l ++ m) = ETs.sz l + ETs.sz m := by
  induction l with
  | nil => simp [ETs.sz]
  | cons t l ih => rw [List.cons_append, ETs.sz, ETs.sz, ih]; omega
theorem ETs.idx_app : ∀ (l m : List ET) (b : Nat), ETs.idx (l ++ m) b = ETs.idx l b ++ ETs.idx m (b + ETs.sz l)
  | [], m, b => by simp [ETs.idx, ETs.sz]
  | t :: l, m, b => by rw [List.cons_append, ETs.idx, ETs.idx, ETs.idx_app l m, ETs.sz, List.cons_append, Nat.add_assoc]
theorem ETs.post_app : ∀ (l m : List ET) (b : Nat), ETs.post (l ++ m) b = ETs.post l b ++ ETs.post m (b + ETs.sz l)
  | [], m, b => by simp [ETs.post, ETs.sz]
  | t :: l, m, b => by rw [List.cons_append, ETs.post, ETs.post, ETs.post_app l m, ETs.sz, List.append_assoc, Nat.add_assoc]
/-- the kids' roots lie among the kids' nodes -/
theorem ETs.idx_lt : ∀ (ts : List ET) (b : Nat), ∀ k ∈ ETs.idx ts b, (b : Int) ≤ k ∧ k < ((b + ETs.sz ts : Nat) : Int)
  | [], _, k, h => by cases h
  | t :: ts, b, k, h => by
    have hp := t.sz_pos
    rw [ETs.idx] at h
    rcases List.mem_cons.1 h with rfl | h
    · rw [ETs.sz]; omega
    · have := ETs.idx_lt ts (b + t.sz) k h
      rw [ETs.sz]; omega

/-! the tree of the nodes of a tree -/
mutual
theorem tre_post (t : ET) : ∀ (b f : Nat) (N : List Nod), t.sz ≤ f → (∀ j nd, (t.post b)[j]? = some nd → N[b + j]? = some nd) → treF N noSub f (b + t.sz - 1) = t := by
  intro b f N hf hN
  cases t with
  | srv s =>
    obtain ⟨f, rfl⟩ : ∃ g, f = g + 1 := ⟨f - 1, by simp only [ET.sz] at hf; omega⟩
    have h0 := hN 0 _ (show (ET.post (.srv s) b)[0]? = some ⟨1, s, 0, [], []⟩ from rfl)
    rw [treF, show b + (ET.srv s).sz - 1 = b + 0 by simp [ET.sz], List.getD_eq_getElem?_getD, h0]
    rfl
  | thr n ws ks =>
    obtain ⟨f, rfl⟩ : ∃ g, f = g + 1 := ⟨f - 1, by simp only [ET.sz] at hf; omega⟩
    have hl := ETs.post_len ks b
    have h0 := hN (ETs.sz ks) ⟨2, 0, n, ws, ETs.idx ks b⟩ (by rw [ET.post, List.getElem?_append_right (by omega), hl, Nat.sub_self]; rfl)
    rw [treF, show b + (ET.thr n ws ks).sz - 1 = b + ETs.sz ks by rw [ET.sz]; omega, List.getD_eq_getElem?_getD, h0]
    show ET.thr n ws ((ETs.idx ks b).map fun k => treF N noSub f k.toNat) = ET.thr n ws ks
    rw [tres_post ks b f N (by rw [ET.sz] at hf; omega) (fun j nd h => hN j nd (by rw [ET.post, List.getElem?_append_left (by have := (List.getElem?_eq_some_iff.1 h).1; omega)]; exact h))]
theorem tres_post (ts : List ET) : ∀ (b f : Nat) (N : List Nod), ETs.sz ts ≤ f → (∀ j nd, (ETs.post ts b)[j]? = some nd → N[b + j]? = some nd) → ((ETs.idx ts b).map fun k => treF N noSub f k.toNat) = ts := by
  intro b f N hf hN
  cases ts with
  | nil => rfl
  | cons t ts =>
    have hl := t.post_len b
    rw [ETs.sz] at hf
    rw [ETs.idx, List.map_cons, Int.toNat_natCast]
    rw [tre_post t b f N (by omega) (fun j nd h => hN j nd (by rw [ETs.post, List.getElem?_append_left (by have := (List.getElem?_eq_some_iff.1 h).1; omega)]; exact h))]
    rw [tres_post ts (b + t.sz) f N (by omega) (fun j nd h => by
      rw [Nat.add_assoc]
      exact hN (t.sz + j) nd (by rw [ETs.post, List.getElem?_append_right (by omega), hl, Nat.add_sub_cancel_left]; exact h))]
end
/-- a tree comes back from its expression -/
theorem treX_xpr (t : ET) : treX t.xpr = t := by
  unfold treX ET.xpr
  have hp := t.sz_pos
  have := tre_post t 0 (t.sz - 1 + 1) (t.post 0) (by omega) (fun j nd h => by rw [Nat.zero_add]; exact h)
  rw [Nat.zero_add] at this
  simpa using this

/-! an expression holds as its tree does -/
theorem got_tre (nodes : List Nod) (S : BitVec 16) (is : List Bool) (ws : List Int) (g : Int → ET) : ∀ (ks : List Int) (a : Nat) (ks0 : List Int), (∀ k ∈ ks, (g k).hold S = is.getD k.toNat false) → ks0.drop a = ks →
    gotTo ⟨2, 0, 0, ws, ks0⟩ is a + ETs.got (ks.map g) S ws a = gotTo ⟨2, 0, 0, ws, ks0⟩ is (a + ks.length)
  | [], a, ks0, _, _ => by simp [ETs.got]
  | k :: ks, a, ks0, h, hd => by
    have hk : ks0[a]? = some k := by
      have := congrArg (fun l => l[0]?) hd
      simpa using this
    have e : ks0.getD a 0 = k := by rw [List.getD_eq_getElem?_getD, hk]; rfl
    have hd2 : ks0.drop (a + 1) = ks := by
      have := congrArg List.tail hd
      simpa using this
    have ih := got_tre nodes S is ws g ks (a + 1) ks0 (fun k' h' => h k' (List.mem_cons_of_mem _ h')) hd2
    rw [List.map_cons, ETs.got, List.length_cons, h k (by simp)]
    rw [gotTo] at ih
    simp only [e] at ih
    have hw : wgtN ⟨2, 0, 0, ws, ks0⟩ a = wgtW ws a := rfl
    rw [hw] at ih
    rw [show a + (ks.length + 1) = a + 1 + ks.length by omega, ← ih]
    omega
theorem tre_hold {x : Xpr} (h : XprOk x) (S : BitVec 16) : ∀ (f i : Nat), i < f → i < x.nodes.length → (treF x.nodes noSub f i).hold S = (holdTo x.nodes S (i + 1)).getD i false := by
  intro f
  induction f with
  | zero => intro i hi; omega
  | succ f ih =>
    intro i hi hl
    obtain ⟨nd, hnd⟩ : ∃ nd, x.nodes[i]? = some nd := ⟨_, List.getElem?_eq_getElem hl⟩
    have e : x.nodes.getD i nod0 = nd := by rw [List.getD_eq_getElem?_getD, hnd]; rfl
    have ok := h.node i nd hnd
    rw [holdTo_get (i + 1) (Nat.lt_succ_self i), treF, e]
    obtain ⟨kind, server, need, ws, ks⟩ := nd
    by_cases hk : kind = 1
    · simp only [hk, if_true]
      show (ET.srv server).hold S = valN _ _ S
      unfold valN
      rw [ET.hold, if_pos rfl]
    · simp only [if_neg hk]
      unfold valN
      rw [if_neg hk, ET.hold]
      have hg := got_tre x.nodes S (holdTo x.nodes S i) ws (fun k => treF x.nodes noSub f k.toNat) ks 0 ks (fun k hkk => by
        have hkr := ok.kids k hkk
        obtain ⟨kn, rfl⟩ := Int.eq_ofNat_of_zero_le hkr.1
        have hlt : kn < i := by omega
        rw [Int.toNat_natCast, ih kn (by omega) (by omega), holdTo_get i hlt, holdTo_get (kn + 1) (Nat.lt_succ_self kn)]) (by simp)
      rw [Nat.zero_add] at hg
      have h0 : gotTo ⟨2, 0, 0, ws, ks⟩ (holdTo x.nodes S i) 0 = 0 := rfl
      rw [h0, Int.zero_add] at hg
      rw [hg]
      have hgg : ∀ k, gotTo ⟨2, 0, 0, ws, ks⟩ (holdTo x.nodes S i) k = gotTo ⟨kind, server, need, ws, ks⟩ (holdTo x.nodes S i) k := by
        intro k
        induction k with
        | zero => rfl
        | succ k ihk => rw [gotTo, gotTo, ihk]; rfl
      rw [hgg]
theorem treX_hold {x : Xpr} (h : XprOk x) (S : BitVec 16) : (treX x).hold S = holdX x S := by
  obtain ⟨r, hr⟩ := Int.eq_ofNat_of_zero_le h.root.1
  have h2 := h.root.2
  have hl : r < x.nodes.length := by omega
  unfold treX
  rw [hr, Int.toNat_natCast, tre_hold h S (r + 1) r (Nat.lt_succ_self r) hl, holdX_root hr hl]
end Go.Proofs.YtmjgdnpfgkpaoaaGreatDoor
namespace Go.Proofs.YtmjgdnpfgkpaoaaGreatDoor

mutual
def ET.ok : ET → Prop
  | .srv s => 0 ≤ s ∧ s < 12
  | .thr n ws ks => (0 ≤ n ∧ n ≤ 100000) ∧ (∀ w ∈ ws, 1 ≤ w ∧ w ≤ 1000) ∧ (ws = [] ∨ ws.length = ks.length) ∧ ETs.ok ks
def ETs.ok : List ET → Prop
  | [] => True
  | t :: ts => t.ok ∧ ETs.ok ts
end
theorem ETs.ok_iff : ∀ (ts : List ET), ETs.ok ts ↔ ∀ t ∈ ts, t.ok
  | [] => by simp [ETs.ok]
  | t :: ts => by rw [ETs.ok, ETs.ok_iff ts]; simp
theorem ETs.sz_mem : ∀ (ts : List ET) (t : ET), t ∈ ts → t.sz ≤ ETs.sz ts
  | [], _, h => by cases h
  | t :: ts, u, h => by
    rw [ETs.sz]
    rcases List.mem_cons.1 h with rfl | h
    · omega
    · have := ETs.sz_mem ts u h; omega
theorem ETs.sz_ge : ∀ (ts : List ET), ts.length ≤ ETs.sz ts
  | [] => by simp [ETs.sz]
  | t :: ts => by have := ETs.sz_ge ts; have := t.sz_pos; rw [ETs.sz, List.length_cons]; omega
theorem nodE_srv {s : Int} {i : Nat} (h : 0 ≤ s ∧ s < 12) : nodE ⟨1, s, 0, [], []⟩ i = 0 := by
  unfold nodE; simp; omega
theorem nodE_thr {n : Int} {ws ks : List Int} {i : Nat} (hn : 0 ≤ n ∧ n ≤ 100000) (hw : ∀ w ∈ ws, 1 ≤ w ∧ w ≤ 1000) (hl : ws = [] ∨ ws.length = ks.length) (hk : ∀ k ∈ ks, 0 ≤ k ∧ k < (i : Int)) : nodE ⟨2, 0, n, ws, ks⟩ i = 0 := by
  have hv : ws.any hvyB = false := by
    rw [List.any_eq_false]
    intro w h
    have := hw w h
    unfold hvyB
    simp; omega
  have hu : ks.any (unkB i) = false := by
    rw [List.any_eq_false]
    intro k h
    have := hk k h
    unfold unkB
    simp; omega
  unfold nodE
  rw [if_neg (by simp), if_neg (by rw [hv]; simp; omega), if_neg ?_, if_neg (by rw [hu]; decide)]
  rintro ⟨c1, c2⟩
  rcases hl with h | h
  · exact c1 h
  · exact c2 h
mutual
theorem ET.post_ok (t : ET) (h : t.ok) : ∀ (b j : Nat) nd, (t.post b)[j]? = some nd → nodE nd (b + j) = 0 := by
  intro b j nd hj
  cases t with
  | srv s =>
    rw [ET.post] at hj
    have hj0 : j = 0 := by have := (List.getElem?_eq_some_iff.1 hj).1; simpa using this
    subst hj0
    cases hj
    rw [ET.ok] at h
    exact nodE_srv h
  | thr n ws ks =>
    rw [ET.ok] at h
    obtain ⟨h1, h2, h3, h4⟩ := h
    rw [ET.post] at hj
    have hl := ETs.post_len ks b
    by_cases hlt : j < ETs.sz ks
    · rw [List.getElem?_append_left (by omega)] at hj
      exact ETs.post_ok ks h4 b j nd hj
    · have hje : j = ETs.sz ks := by have := (List.getElem?_eq_some_iff.1 hj).1; simp [hl] at this; omega
      subst hje
      rw [List.getElem?_append_right (by omega), hl, Nat.sub_self] at hj
      cases hj
      refine nodE_thr h1 h2 (by rw [ETs.idx_len]; exact h3) (fun k hk => ?_)
      have := ETs.idx_lt ks b k hk
      omega
theorem ETs.post_ok (ts : List ET) (h : ETs.ok ts) : ∀ (b j : Nat) nd, (ETs.post ts b)[j]? = some nd → nodE nd (b + j) = 0 := by
  intro b j nd hj
  cases ts with
  | nil => rw [ETs.post] at hj; simp at hj
  | cons t ts =>
    rw [ETs.ok] at h
    rw [ETs.post] at hj
    have hl := t.post_len b
    by_cases hlt : j < t.sz
    · rw [List.getElem?_append_left (by omega)] at hj
      exact ET.post_ok t h.1 b j nd hj
    · rw [List.getElem?_append_right (by omega), hl] at hj
      have := ETs.post_ok ts h.2 (b + t.sz) (j - t.sz) nd hj
      rwa [show b + t.sz + (j - t.sz) = b + j by omega] at this
end
/-- the expression of a valid tree is valid -/
theorem xpr_ok {t : ET} (h : t.ok) (hs : t.sz ≤ 60) : xprE t.xpr = 0 := by
  have hl := t.post_len 0
  have hp := t.sz_pos
  have hE : nodsE (t.post 0) 0 = 0 := nodsE_zero _ _ fun k nd hk => ET.post_ok t h 0 k nd hk
  unfold xprE ET.xpr
  show (if t.post 0 = [] then 9 else if 60 < (t.post 0).length then 3 else if nodsE (t.post 0) 0 ≠ 0 then nodsE (t.post 0) 0 else if ((t.sz - 1 : Nat) : Int) < 0 ∨ ((t.post 0).length : Int) ≤ ((t.sz - 1 : Nat) : Int) then 4 else 0) = 0
  rw [if_neg (fun e => by rw [e] at hl; simp at hl; omega), hl, if_neg (by omega), hE, if_neg (by simp), if_neg (by omega)]
/-- the tree of a valid expression is valid -/
theorem tre_ok {x : Xpr} (h : XprOk x) : ∀ (f i : Nat), i < f → i < x.nodes.length → (treF x.nodes noSub f i).ok := by
  intro f
  induction f with
  | zero => intro i hi; omega
  | succ f ih =>
    intro i hi hl
    obtain ⟨nd, hnd⟩ : ∃ nd, x.nodes[i]? = some nd := ⟨_, List.getElem?_eq_getElem hl⟩
    have e : x.nodes.getD i nod0 = nd := by rw [List.getD_eq_getElem?_getD, hnd]; rfl
    have ok := h.node i nd hnd
    rw [treF, e]
    by_cases hk : nd.kind = 1
    · rw [if_pos hk]
      show (ET.srv nd.server).ok
      rw [ET.ok]; exact ok.server
    · rw [if_neg hk, ET.ok]
      refine ⟨ok.need, ok.weights, by rw [List.length_map]; exact ok.arity, (ETs.ok_iff _).2 fun t ht => ?_⟩
      obtain ⟨k, hkk, rfl⟩ := List.mem_map.1 ht
      have hr := ok.kids k hkk
      exact ih k.toNat (by omega) (by omega)
theorem treX_ok {x : Xpr} (h : XprOk x) : (treX x).ok := by
  obtain ⟨r, hr⟩ := Int.eq_ofNat_of_zero_le h.root.1
  have h2 := h.root.2
  unfold treX
  rw [hr, Int.toNat_natCast]
  exact tre_ok h (r + 1) r (Nat.lt_succ_self r) (by omega)
end Go.Proofs.YtmjgdnpfgkpaoaaGreatDoor
namespace Go.Proofs.YtmjgdnpfgkpaoaaGreatDoor

theorem nodE_thr0 {nd : Nod} {i : Nat} (h : nodE nd i = 0) (hk : nd.kind ≠ 1) : nd.server = 0 := by
  have h2 := (nodE_ok h).kind
  unfold nodE at h
  split at h
  · cases h
  · rename_i h1
    exact Classical.byContradiction fun hn => h1 (.inr (.inr ⟨by omega, hn⟩))
theorem xprE_thr0 {x : Xpr} (h : xprE x = 0) : ∀ (k : Nat) (nd : Nod), x.nodes[k]? = some nd → nd.kind ≠ 1 → nd.server = 0 := by
  intro k nd hk
  unfold xprE at h
  split at h
  · cases h
  · split at h
    · cases h
    · split at h
      · rename_i h3; exact absurd h h3
      · rename_i h3
        have := nodsE_ok (by simpa using h3) k nd hk
        exact nodE_thr0 this
/-- the kids' trees of a node -/
def kidT (nodes : List Nod) (sub : Nat → Option ET) (f : Nat) (ks : List Int) : List ET := ks.map fun k => treF nodes sub f k.toNat
theorem kidT_len (nodes : List Nod) (sub : Nat → Option ET) (f : Nat) (ks : List Int) : (kidT nodes sub f ks).length = ks.length := List.length_map _
theorem kidT_take (nodes : List Nod) (sub : Nat → Option ET) (f : Nat) (ks : List Int) (j : Nat) (k : Int) (h : ks[j]? = some k) : (kidT nodes sub f ks).take (j + 1) = (kidT nodes sub f ks).take j ++ [treF nodes sub f k.toNat] := by
  rw [List.take_add_one]
  unfold kidT
  rw [List.getElem?_map, h]
  rfl
theorem treF_plain {x : Xpr} (hx : xprE x = 0) (sub : Nat → Option ET) (f i : Nat) (nd : Nod) (hi : x.nodes[i]? = some nd) (hs : nd.kind = 1 → sub nd.server.toNat = none) (b : Nat) :
    (treF x.nodes sub (f + 1) i).post b = ETs.post (kidT x.nodes sub f nd.kids) b ++ [⟨nd.kind, nd.server, nd.need, nd.weights, ETs.idx (kidT x.nodes sub f nd.kids) b⟩] ∧ (treF x.nodes sub (f + 1) i).sz = ETs.sz (kidT x.nodes sub f nd.kids) + 1 := by
  have ok := (xprE_ok hx).node i nd hi
  have e : x.nodes.getD i nod0 = nd := by rw [List.getD_eq_getElem?_getD, hi]; rfl
  rw [treF, e]
  by_cases hk : nd.kind = 1
  · obtain ⟨l1, l2, l3⟩ := ok.leaf hk
    rw [if_pos hk, hs hk, l1, l2, l3, hk]
    exact ⟨rfl, rfl⟩
  · have hs0 := xprE_thr0 hx i nd hi hk
    have hk2 := ok.kind.resolve_left hk
    rw [if_neg hk, hk2, hs0]
    exact ⟨rfl, rfl⟩
theorem treF_sub {nodes : List Nod} (sub : Nat → Option ET) (f i : Nat) (nd : Nod) (hi : nodes[i]? = some nd) (hk : nd.kind = 1) {T : ET} (hs : sub nd.server.toNat = some T) : treF nodes sub (f + 1) i = T := by
  have e : nodes.getD i nod0 = nd := by rw [List.getD_eq_getElem?_getD, hi]; rfl
  rw [treF, e, if_pos hk, hs]
  rfl
/-- a kid more -/
theorem post_step (l : List ET) (t : ET) (b : Nat) : ETs.post (l ++ [t]) b = ETs.post l b ++ t.post (b + ETs.sz l) ∧ ETs.idx (l ++ [t]) b = ETs.idx l b ++ [((b + ETs.sz l + t.sz - 1 : Nat) : Int)] ∧ ETs.sz (l ++ [t]) = ETs.sz l + t.sz := by
  refine ⟨?_, ?_, ?_⟩
  · rw [ETs.post_app]; simp [ETs.post]
  · rw [ETs.idx_app]; simp [ETs.idx]
  · rw [ETs.sz_app]; simp [ETs.sz]
theorem sz_take (l : List ET) (k : Nat) : ETs.sz (l.take k) ≤ ETs.sz l := by
  have := ETs.sz_app (l.take k) (l.drop k)
  rw [List.take_append_drop] at this
  omega
end Go.Proofs.YtmjgdnpfgkpaoaaGreatDoor
namespace Go.Proofs.YtmjgdnpfgkpaoaaGreatDoor
open Go.RowKit

inductive IsInts (k : IntKind) (W : World) : Option Addr → Nat → Nat → List Int → Prop
  | nil : IsInts k W none 0 0 []
  | row {a : Addr} {len cap : Nat} {zs : List Int} (hl : len ≤ cap) (hm : cap ≤ maxLen) (hz : zs.length = cap)
      (hcell : ∀ i, i < zs.length → W.cell? (a.add i) = some (.int k (zs.getD i 0))) (hwz : ∀ n ∈ zs, (Lit.int k n).wf = true) : IsInts k W (some a) len cap (zs.take len)

theorem IsInts.rd {k : IntKind} {W : World} {a : Option Addr} {n c : Nat} {l : List Int} (h : IsInts k W a n c l) : Rd W a n c (l.map (Value.int k)) := by
  cases h with
  | nil => exact Rd.none_ W
  | @row a len cap zs hl hm hz hcell hwz =>
    refine ⟨by simp; omega, hl, hm, fun h => (by cases h), fun hn => ?_⟩
    have h0 := hcell 0 (by omega)
    have ha : a = ⟨a.block, a.off, none⟩ := by
      have : a.add 0 = a := by simp [Addr.add]
      rw [this] at h0
      unfold World.cell? at h0
      cases hs : a.spot with
      | none => cases a; simp_all
      | some s => rw [hs] at h0; split at h0 <;> simp at h0
    refine ⟨a.block, a.off, by rw [← ha], fun i v hv => ?_⟩
    have hi := (List.getElem?_eq_some_iff.1 hv).1
    have hi : i < n ∧ i < zs.length := by simp at hi; omega
    have h1 := hcell i (by omega)
    rw [ha] at h1
    rw [Addr.add_lit] at h1
    rw [h1]
    rw [List.getElem?_map, List.getElem?_take_of_lt hi.1, List.getElem?_eq_getElem hi.2] at hv
    simp at hv
    simp [List.getD, List.getElem?_eq_getElem hi.2, hv]
theorem IsInts.wf {k : IntKind} {W : World} {a : Option Addr} {n c : Nat} {l : List Int} (h : IsInts k W a n c l) : ∀ z ∈ l, (Lit.int k z).wf = true := by
  cases h with
  | nil => intro z hz; cases hz
  | row hl hm hz hcell hwz => exact fun z hz => hwz z (List.mem_of_mem_take hz)
theorem IsInts.len {k : IntKind} {W : World} {a : Option Addr} {n c : Nat} {l : List Int} (h : IsInts k W a n c l) : l.length = n := by
  cases h with
  | nil => rfl
  | row hl hm hz hcell hwz => simp; omega
end Go.Proofs.YtmjgdnpfgkpaoaaGreatDoor
namespace Go.Proofs.YtmjgdnpfgkpaoaaGreatDoor
open Go.RowKit Go.Shelf

/-- the slice value '.slice a n c' reads as these expressions -/
structure LM (w : World) (a : Option Addr) (n c : Nat) (ys : List Xpr) : Prop where
  len : ys.length = n
  le : n ≤ c
  max : c ≤ maxLen
  nil : a = none → c = 0
  at' : 0 < n → ∃ b o, a = some ⟨b, o, none⟩ ∧ ∀ i y, ys[i]? = some y → ∃ a' n' c', w.cell? ⟨b, o + i * 2, none⟩ = some (.slice a' n' c') ∧ XM w a' n' c' y.nodes ∧ w.cell? ⟨b, o + i * 2 + 1, none⟩ = some (.int .i64 y.root)
theorem LM.none_ (w : World) : LM w none 0 0 [] := ⟨rfl, Nat.le_refl _, by simp [maxLen], fun _ => rfl, fun h => absurd h (by decide)⟩
theorem LM.below {w w' : World} {a : Option Addr} {n c : Nat} {ys : List Xpr} (h : LM w a n c ys) (hb : Below w.heap.size w w') : LM w' a n c ys := by
  refine ⟨h.len, h.le, h.max, h.nil, fun hn => ?_⟩
  obtain ⟨b, o, ha, hc⟩ := h.at' hn
  refine ⟨b, o, ha, fun i y hy => ?_⟩
  obtain ⟨a', n', c', h1, h2, h3⟩ := hc i y hy
  exact ⟨a', n', c', cell_keep hb h1, h2.below hb, cell_keep hb h3⟩
/-- what servers stand for -/
def subL (ys : List Xpr) : Nat → Option ET := fun s => (ys[s]?).map treX
theorem subL_nil : subL [] = noSub := rfl
/-- a node's row of kids and its weights, in the blocks of S -/
theorem nodS_of {S : Nat → Prop} {w : World} {B : Nat} {p : NodV} {nd : Nod} {m n : Nat} (e0 : p.kind = nd.kind) (e1 : p.server = nd.server) (e2 : p.need = nd.need) (hw : w.ownsRow B 3 1 p.wv m (nd.weights.map (Value.int .i64))) (hk : w.ownsRow B 3 1 p.kv n (nd.kids.map (Value.int .i64))) (sw : ∀ g, p.wv.ownBlock = some g → S g) (sk : ∀ g, p.kv.ownBlock = some g → S g) : NodS S w p nd := by
  intro w2 ha
  obtain ⟨a, c, h1, h2⟩ := row_alone hw w2 (fun g hg => ha g (sw g hg))
  obtain ⟨a', c', h3, h4⟩ := row_alone hk w2 (fun g hg => ha g (sk g hg))
  exact ⟨e0, e1, e2, ⟨a, m, c, h1, h2⟩, ⟨a', n, c', h3, h4⟩⟩
/-- .. of a node without lists -/
theorem nodS_srv (S : Nat → Prop) (w : World) (k s : Int) : NodS S w ⟨k, s, 0, .slice none 0 0, .slice none 0 0⟩ ⟨k, s, 0, [], []⟩ :=
  fun _w2 _ => ⟨rfl, rfl, rfl, ⟨none, 0, 0, rfl, Rd.none_ _⟩, ⟨none, 0, 0, rfl, Rd.none_ _⟩⟩
end Go.Proofs.YtmjgdnpfgkpaoaaGreatDoor
namespace Go.Proofs.YtmjgdnpfgkpaoaaGreatDoor
open Go.RowKit

/-- a slice value that reads as these numbers by the blocks of a set alone -/
def SlS (S : Nat → Prop) (w : World) (v : Value) (ws : List Int) : Prop := ∀ w2 : World, Ag S w w2 → ∃ a c, v = .slice a ws.length c ∧ Rd w2 a ws.length c (ws.map (Value.int .i64))
theorem SlS.move {S : Nat → Prop} {w w' : World} {v : Value} {ws : List Int} (h : SlS S w v ws) (ha : Ag S w w') : SlS S w' v ws := fun w2 h2 => h w2 fun g hg => (h2 g hg).trans (ha g hg)
theorem SlS.mono {S S' : Nat → Prop} {w : World} {v : Value} {ws : List Int} (h : SlS S w v ws) (hs : ∀ g, S g → S' g) : SlS S' w v ws := fun w2 h2 => h w2 fun g hg => h2 g (hs g hg)
theorem SlS.of_row {w : World} {B n : Nat} {e : TypeId} {v : Value} {ws : List Int} (h : w.ownsRow B e 1 v n (ws.map (Value.int .i64))) : SlS (fun g => v.ownBlock = some g) w v ws := fun w2 h2 => by
  have hl : n = ws.length := by obtain ⟨a, c, rfl, r⟩ := rd_of_row h; have := r.len; simpa using this
  subst hl
  exact row_alone h w2 fun g hg => h2 g hg
theorem SlS.nil (S : Nat → Prop) (w : World) : SlS S w (.slice none 0 0) [] := fun _ _ => ⟨none, 0, rfl, Rd.none_ _⟩

/-- a row of nodes whose blocks all lie from a bound on -/
theorem XB.xmr {S : Nat → Prop} {B lo : Nat} {w : World} {v : Value} {t : TypeId} {nodes : List Nod} (h : XB S B w v t nodes) (hS : ∀ g, S g → lo ≤ g) (hB : lo ≤ B) : ∃ a c, v = .slice a nodes.length c ∧ XMR lo w.heap.size w a nodes.length c nodes := by
  obtain ⟨a, c, rfl, _⟩ := h.shape
  refine ⟨a, c, rfl, fun w2 hg => ?_⟩
  obtain ⟨V, h1, h2, h3⟩ := h.row
  obtain ⟨a', c', e, hx⟩ := XM.of_row (rowK_at h2 fun g hgv => hg g (by have := (h2.lt g hgv).1; omega) (h2.lt g hgv).2) h1 fun i p nd hp hn => (h3 i p nd hp hn) w2 fun g hg' => hg g (hS g hg') (h.lt g hg')
  cases e
  exact hx
section
variable {w0 w W2 : World} {OB B N s : Nat} {E S SW : Nat → Prop} {v : Value} {nodes : List Nod} {k0 k1 k2 : Value} {wv : Value} {ws : List Int} {v' r kv : Value} {S' : Nat → Prop} {add : List Nod} {ids : List Int} {wr : World}
end
end Go.Proofs.YtmjgdnpfgkpaoaaGreatDoor
namespace Go.Proofs.YtmjgdnpfgkpaoaaGreatDoor

def ET.constB : ET → Bool
  | .srv _ => false
  | .thr _ _ ks => ks.isEmpty
def ET.needOf : ET → Int
  | .srv _ => 0
  | .thr n _ _ => n
def ET.kidsOf : ET → List ET
  | .srv _ => []
  | .thr _ _ ks => ks
def ET.anyB : ET → Bool
  | .srv _ => false
  | .thr n ws ks => (!ks.isEmpty && ws.isEmpty) && decide (n = 1)
def ET.allB : ET → Bool
  | .srv _ => false
  | .thr n ws ks => (!ks.isEmpty && ws.isEmpty) && decide (n = (ks.length : Int))
def mergT (form : ET → Bool) (ks : List ET) : List ET := ks.flatMap fun k => if form k = true then k.kidsOf else [k]
def leastL : List Int → Int
  | [] => 0
  | a :: l => l.foldl min a
def greatL : List Int → Int
  | [] => 0
  | a :: l => l.foldl max a
def sumL (l : List Int) : Int := l.foldr (· + ·) 0
def lightT (need sum : Int) (ws : List Int) (ks : List ET) : ET :=
  if need ≤ leastL ws then .thr 1 [] ks else if sum - leastL ws < need then .thr ks.length [] ks
  else if leastL ws = greatL ws then .thr ((need + leastL ws - 1) / leastL ws) [] ks else .thr need ws ks
structure SS where
  need : Int
  ks : List ET
  ws : List Int
  sum : Int
def stepS (st : SS) (k : ET) (w : Int) : SS :=
  if k.constB = false then ⟨st.need, st.ks ++ [k], st.ws ++ [w], st.sum + w⟩
  else if k.needOf = 0 then ⟨max 0 (st.need - w), st.ks, st.ws, st.sum⟩ else st
def mergA (out : ET) : ET :=
  if out.anyB = true then .thr out.needOf [] (mergT ET.anyB out.kidsOf)
  else if out.allB = true then .thr (mergT ET.allB out.kidsOf).length [] (mergT ET.allB out.kidsOf) else out
/-- the one kid, or the tree -/
def oneOf : List ET → ET → ET
  | [k], _ => k
  | _, X => X
theorem oneOf_two {ks : List ET} (h : 2 ≤ ks.length) (X : ET) : oneOf ks X = X := by
  match ks, h with
  | _ :: _ :: _, _ => rfl
theorem oneOf_cases (ks : List ET) (X : ET) (h : ks ≠ []) : (∃ k, ks = [k] ∧ oneOf ks X = k) ∨ (2 ≤ ks.length ∧ oneOf ks X = X) := by
  match ks, h with
  | [k], _ => exact .inl ⟨k, rfl, rfl⟩
  | a :: b :: l, _ => exact .inr ⟨by simp, rfl⟩
def finS (st : SS) : ET :=
  if st.need = 0 then .thr 0 [] [] else if st.sum < st.need then .thr 1 [] []
  else oneOf st.ks (mergA (lightT st.need st.sum st.ws st.ks))
mutual
def ET.simp : ET → ET
  | .srv s => .srv s
  | .thr n ws ks => finS (ETs.simpF ks ws 0 ⟨n, [], [], 0⟩)
def ETs.simpF : List ET → List Int → Nat → SS → SS
  | [], _, _, st => st
  | t :: ts, ws, k, st => ETs.simpF ts ws (k + 1) (stepS st t.simp (wgtW ws k))
end

/-! least and greatest -/
theorem foldl_min (l : List Int) : ∀ a, l.foldl min a ≤ a ∧ (∀ w ∈ l, l.foldl min a ≤ w) ∧ (l.foldl min a = a ∨ l.foldl min a ∈ l) := by
  induction l with
  | nil => intro a; exact ⟨Int.le_refl _, (fun w h => by cases h), Or.inl rfl⟩
  | cons b l ih =>
    intro a
    obtain ⟨h1, h2, h3⟩ := ih (min a b)
    rw [List.foldl_cons]
    refine ⟨by omega, fun w hw => ?_, ?_⟩
    · rcases List.mem_cons.1 hw with rfl | hw
      · omega
      · exact h2 w hw
    · rcases h3 with h3 | h3
      · by_cases hab : a ≤ b
        · left; rw [h3]; omega
        · right; rw [h3, show min a b = b by omega]; simp
      · right; exact List.mem_cons_of_mem _ h3
theorem foldl_max (l : List Int) : ∀ a, a ≤ l.foldl max a ∧ (∀ w ∈ l, w ≤ l.foldl max a) ∧ (l.foldl max a = a ∨ l.foldl max a ∈ l) := by
  induction l with
  | nil => intro a; exact ⟨Int.le_refl _, (fun w h => by cases h), Or.inl rfl⟩
  | cons b l ih =>
    intro a
    obtain ⟨h1, h2, h3⟩ := ih (max a b)
    rw [List.foldl_cons]
    refine ⟨by omega, fun w hw => ?_, ?_⟩
    · rcases List.mem_cons.1 hw with rfl | hw
      · omega
      · exact h2 w hw
    · rcases h3 with h3 | h3
      · by_cases hab : b ≤ a
        · left; rw [h3]; omega
        · right; rw [h3, show max a b = b by omega]; simp
      · right; exact List.mem_cons_of_mem _ h3
theorem least_le {l : List Int} : ∀ w ∈ l, leastL l ≤ w := by
  cases l with
  | nil => intro w h; cases h
  | cons a l =>
    intro w hw
    obtain ⟨h1, h2, _⟩ := foldl_min l a
    rcases List.mem_cons.1 hw with rfl | hw
    · exact h1
    · exact h2 w hw
theorem great_ge {l : List Int} : ∀ w ∈ l, w ≤ greatL l := by
  cases l with
  | nil => intro w h; cases h
  | cons a l =>
    intro w hw
    obtain ⟨h1, h2, _⟩ := foldl_max l a
    rcases List.mem_cons.1 hw with rfl | hw
    · exact h1
    · exact h2 w hw
theorem least_mem {l : List Int} (h : l ≠ []) : leastL l ∈ l := by
  cases l with
  | nil => exact absurd rfl h
  | cons a l =>
    rcases (foldl_min l a).2.2 with e | e
    · show l.foldl min a ∈ _; rw [e]; simp
    · exact List.mem_cons_of_mem _ e
theorem great_mem {l : List Int} (h : l ≠ []) : greatL l ∈ l := by
  cases l with
  | nil => exact absurd rfl h
  | cons a l =>
    rcases (foldl_max l a).2.2 with e | e
    · show l.foldl max a ∈ _; rw [e]; simp
    · exact List.mem_cons_of_mem _ e
theorem all_eq {l : List Int} (h : leastL l = greatL l) : ∀ w ∈ l, w = leastL l := fun w hw => by
  have := least_le w hw; have := great_ge w hw; omega

/-! the weights of satisfied trees -/
def gotZ : List ET → List Int → BitVec 16 → Int
  | t :: ts, w :: ws, S => (if t.hold S = true then w else 0) + gotZ ts ws S
  | _, _, _ => 0
def ETs.wts : List ET → List Int → Nat → List Int
  | [], _, _ => []
  | _ :: ts, ws, k => wgtW ws k :: ETs.wts ts ws (k + 1)
theorem got_wts (S : BitVec 16) (ws : List Int) : ∀ (ts : List ET) (k : Nat), ETs.got ts S ws k = gotZ ts (ETs.wts ts ws k) S
  | [], _ => by simp [ETs.got, gotZ]
  | t :: ts, k => by rw [ETs.got, ETs.wts, gotZ, got_wts S ws ts]
theorem wts_len (ws : List Int) : ∀ (ts : List ET) (k : Nat), (ETs.wts ts ws k).length = ts.length
  | [], _ => rfl
  | t :: ts, k => by rw [ETs.wts, List.length_cons, List.length_cons, wts_len ws ts]
theorem wts_self {ws : List Int} (h : ws ≠ []) : ∀ (ts : List ET) (k : Nat), ws.length = k + ts.length → ETs.wts ts ws k = ws.drop k
  | [], k, hl => by rw [ETs.wts, List.drop_eq_nil_of_le (by simp at hl; omega)]
  | t :: ts, k, hl => by
    rw [List.length_cons] at hl
    rw [ETs.wts, wts_self h ts (k + 1) (by omega), List.drop_eq_getElem_cons (show k < ws.length by omega)]
    unfold wgtW
    rw [if_neg h, List.getD_eq_getElem?_getD, List.getElem?_eq_getElem (show k < ws.length by omega)]
    rfl
theorem wts_nil : ∀ (ts : List ET) (k : Nat), ETs.wts ts [] k = List.replicate ts.length 1
  | [], _ => rfl
  | t :: ts, k => by rw [ETs.wts, wts_nil ts (k + 1)]; rfl
/-- how many are satisfied -/
def cntT (ks : List ET) (S : BitVec 16) : Nat := (ks.filter fun t => t.hold S).length
theorem gotZ_same (S : BitVec 16) (m : Int) : ∀ (ts : List ET) (ws : List Int), ws.length = ts.length → (∀ w ∈ ws, w = m) → gotZ ts ws S = m * (cntT ts S : Int)
  | [], ws, _, _ => by unfold cntT; cases ws <;> simp [gotZ]
  | t :: ts, [], h, _ => by simp at h
  | t :: ts, w :: ws, h, hw => by
    have e : w = m := hw w (by simp)
    subst e
    have ih := gotZ_same S w ts ws (by simpa using h) (fun v hv => hw v (List.mem_cons_of_mem _ hv))
    rw [gotZ, ih]
    unfold cntT
    cases ht : t.hold S
    · rw [List.filter_cons_of_neg (by simp [ht])]; simp
    · rw [List.filter_cons_of_pos (by simpa using ht), List.length_cons]
      simp only [if_true]
      rw [Int.natCast_add, Int.mul_add]; omega
theorem gotZ_ones (S : BitVec 16) (ts : List ET) : gotZ ts (List.replicate ts.length 1) S = (cntT ts S : Int) := by
  rw [gotZ_same S 1 ts _ (by simp) (fun w hw => (List.mem_replicate.1 hw).2), Int.one_mul]
theorem got_cnt (S : BitVec 16) (ts : List ET) (k : Nat) : ETs.got ts S [] k = (cntT ts S : Int) := by
  rw [got_wts, wts_nil, gotZ_ones]
theorem gotZ_rng (S : BitVec 16) : ∀ (ts : List ET) (ws : List Int), (∀ w ∈ ws, 1 ≤ w) → 0 ≤ gotZ ts ws S ∧ gotZ ts ws S ≤ sumL ws
  | [], ws, h => by
    have : 0 ≤ sumL ws := by
      clear S
      induction ws with
      | nil => exact Int.le_refl _
      | cons w ws ih => have := ih (fun v hv => h v (List.mem_cons_of_mem _ hv)); have := h w (by simp); unfold sumL at *; rw [List.foldr_cons]; omega
    cases ws <;> simp only [gotZ] <;> omega
  | t :: ts, [], _ => by simp [gotZ, sumL]
  | t :: ts, w :: ws, h => by
    have ih := gotZ_rng S ts ws (fun v hv => h v (List.mem_cons_of_mem _ hv))
    have := h w (by simp)
    rw [gotZ]
    unfold sumL at *
    rw [List.foldr_cons]
    split <;> omega
theorem sumL_app (l : List Int) (w : Int) : sumL (l ++ [w]) = sumL l + w := by
  induction l with
  | nil => simp [sumL]
  | cons a l ih => unfold sumL at *; rw [List.cons_append, List.foldr_cons, List.foldr_cons, ih]; omega
theorem gotZ_app (S : BitVec 16) (k : ET) (w : Int) : ∀ (ts : List ET) (ws : List Int), ws.length = ts.length → gotZ (ts ++ [k]) (ws ++ [w]) S = gotZ ts ws S + (if k.hold S = true then w else 0)
  | [], ws, h => by
    obtain rfl : ws = [] := List.eq_nil_of_length_eq_zero (by simpa using h)
    simp [gotZ]
  | t :: ts, [], h => by simp at h
  | t :: ts, v :: ws, h => by
    rw [List.cons_append, List.cons_append, gotZ, gotZ, gotZ_app S k w ts ws (by simpa using h)]; omega
/-- a satisfied one weighs -/
theorem gotZ_some (S : BitVec 16) : ∀ (ts : List ET) (ws : List Int), ws.length = ts.length → (∀ w ∈ ws, 1 ≤ w) → (∃ t ∈ ts, t.hold S = true) → leastL ws ≤ gotZ ts ws S := by
  intro ts ws hl hw ⟨t, ht, hh⟩
  have key : ∀ (m : Int) (ts : List ET) (ws : List Int), ws.length = ts.length → (∀ w ∈ ws, 1 ≤ w ∧ m ≤ w) → t ∈ ts → m ≤ gotZ ts ws S := by
    intro m ts
    induction ts with
    | nil => intro ws _ _ h; cases h
    | cons u ts ih =>
      intro ws hl hw h
      cases ws with
      | nil => simp at hl
      | cons w ws =>
        have hr := gotZ_rng S ts ws (fun v hv => (hw v (List.mem_cons_of_mem _ hv)).1)
        have hw0 := hw w (by simp)
        rw [gotZ]
        rcases List.mem_cons.1 h with rfl | h
        · rw [if_pos hh]; omega
        · have := ih ws (by simpa using hl) (fun v hv => hw v (List.mem_cons_of_mem _ hv)) h
          split <;> omega
  exact key _ ts ws hl (fun w h => ⟨hw w h, least_le w h⟩) ht
/-- one that is not satisfied is missing -/
theorem gotZ_miss (S : BitVec 16) : ∀ (ts : List ET) (ws : List Int), ws.length = ts.length → (∀ w ∈ ws, 1 ≤ w) → (∃ t ∈ ts, t.hold S = false) → gotZ ts ws S ≤ sumL ws - leastL ws := by
  intro ts ws hl hw ⟨t, ht, hh⟩
  have key : ∀ (m : Int) (ts : List ET) (ws : List Int), ws.length = ts.length → (∀ w ∈ ws, 1 ≤ w ∧ m ≤ w) → t ∈ ts → gotZ ts ws S ≤ sumL ws - m := by
    intro m ts
    induction ts with
    | nil => intro ws _ _ h; cases h
    | cons u ts ih =>
      intro ws hl hw h
      cases ws with
      | nil => simp at hl
      | cons w ws =>
        have hr := gotZ_rng S ts ws (fun v hv => (hw v (List.mem_cons_of_mem _ hv)).1)
        have hw0 := hw w (by simp)
        have hs : sumL (w :: ws) = w + sumL ws := rfl
        rw [gotZ, hs]
        rcases List.mem_cons.1 h with rfl | h
        · rw [if_neg (by rw [hh]; decide)]; omega
        · have := ih ws (by simpa using hl) (fun v hv => hw v (List.mem_cons_of_mem _ hv)) h
          split <;> omega
  exact key _ ts ws hl (fun w h => ⟨hw w h, least_le w h⟩) ht
theorem cntT_le (ts : List ET) (S : BitVec 16) : cntT ts S ≤ ts.length := List.length_filter_le _ _
theorem cntT_some {ts : List ET} {S : BitVec 16} : 1 ≤ cntT ts S ↔ ∃ t ∈ ts, t.hold S = true := by
  unfold cntT
  constructor
  · intro h
    obtain ⟨t, ht⟩ := List.exists_mem_of_ne_nil _ (show (ts.filter fun t => t.hold S) ≠ [] from fun e => by rw [e] at h; simp at h)
    obtain ⟨h1, h2⟩ := List.mem_filter.1 ht
    exact ⟨t, h1, h2⟩
  · rintro ⟨t, h1, h2⟩
    exact List.length_pos_of_mem (List.mem_filter.2 ⟨h1, h2⟩)
theorem cntT_all {ts : List ET} {S : BitVec 16} : ts.length ≤ cntT ts S ↔ ∀ t ∈ ts, t.hold S = true := by
  unfold cntT
  constructor
  · intro h t ht
    have hle := List.length_filter_le (fun t : ET => t.hold S) ts
    have := List.length_filter_eq_length_iff.1 (show (ts.filter fun t => t.hold S).length = ts.length by omega) t ht
    exact this
  · intro h
    exact Nat.le_of_eq (List.length_filter_eq_length_iff.2 (fun t ht => h t ht)).symm
theorem thr_hold (n : Int) (ks : List ET) (S : BitVec 16) : (ET.thr n [] ks).hold S = decide (n ≤ (cntT ks S : Int)) := by rw [ET.hold, got_cnt]
theorem thr_holdw (n : Int) {ws : List Int} (h : ws ≠ []) {ks : List ET} (hl : ws.length = ks.length) (S : BitVec 16) : (ET.thr n ws ks).hold S = decide (n ≤ gotZ ks ws S) := by
  rw [ET.hold, got_wts, wts_self h ks 0 (by omega)]; rfl
theorem thr_one (ks : List ET) (S : BitVec 16) : (ET.thr 1 [] ks).hold S = ks.any fun t => t.hold S := by
  rw [thr_hold, Bool.eq_iff_iff, decide_eq_true_iff, List.any_eq_true]
  rw [← cntT_some]; omega
theorem thr_all (ks : List ET) (S : BitVec 16) : (ET.thr ks.length [] ks).hold S = ks.all fun t => t.hold S := by
  rw [thr_hold, Bool.eq_iff_iff, decide_eq_true_iff, List.all_eq_true]
  rw [← cntT_all]; omega
theorem any_any {t : ET} (h : t.anyB = true) (S : BitVec 16) : t.hold S = t.kidsOf.any fun t => t.hold S := by
  cases t with
  | srv s => cases h
  | thr n ws ks =>
    simp only [ET.anyB, Bool.and_eq_true, decide_eq_true_iff] at h
    obtain ⟨⟨_, h2⟩, rfl⟩ := h
    obtain rfl : ws = [] := by simpa using h2
    exact thr_one ks S
theorem all_all {t : ET} (h : t.allB = true) (S : BitVec 16) : t.hold S = t.kidsOf.all fun t => t.hold S := by
  cases t with
  | srv s => cases h
  | thr n ws ks =>
    simp only [ET.allB, Bool.and_eq_true, decide_eq_true_iff] at h
    obtain ⟨⟨_, h2⟩, rfl⟩ := h
    obtain rfl : ws = [] := by simpa using h2
    exact thr_all ks S
theorem merg_any (ks : List ET) (S : BitVec 16) : ((mergT ET.anyB ks).any fun t => t.hold S) = ks.any fun t => t.hold S := by
  unfold mergT
  induction ks with
  | nil => rfl
  | cons k ks ih =>
    rw [List.flatMap_cons, List.any_append, ih, List.any_cons]
    congr 1
    by_cases h : k.anyB = true
    · rw [if_pos h, any_any h]
    · rw [if_neg h]; simp
theorem merg_all (ks : List ET) (S : BitVec 16) : ((mergT ET.allB ks).all fun t => t.hold S) = ks.all fun t => t.hold S := by
  unfold mergT
  induction ks with
  | nil => rfl
  | cons k ks ih =>
    rw [List.flatMap_cons, List.all_append, ih, List.all_cons]
    congr 1
    by_cases h : k.allB = true
    · rw [if_pos h, all_all h]
    · rw [if_neg h]; simp
theorem mergA_hold (out : ET) (S : BitVec 16) : (mergA out).hold S = out.hold S := by
  unfold mergA
  by_cases h : out.anyB = true
  · rw [if_pos h]
    have h1 : out.needOf = 1 := by
      cases out with
      | srv s => cases h
      | thr n ws ks => simp only [ET.anyB, Bool.and_eq_true, decide_eq_true_iff] at h; exact h.2
    rw [h1, thr_one, merg_any, any_any h]
  · rw [if_neg h]
    by_cases h2 : out.allB = true
    · rw [if_pos h2, thr_all, merg_all, all_all h2]
    · rw [if_neg h2]
theorem light_hold {need sum : Int} {ws : List Int} {ks : List ET} (hn : 1 ≤ need) (hs : sum = sumL ws) (hle : need ≤ sum) (hw : ∀ w ∈ ws, 1 ≤ w) (hl : ws.length = ks.length) (hne : ws ≠ []) (S : BitVec 16) :
    (lightT need sum ws ks).hold S = decide (need ≤ gotZ ks ws S) := by
  have hpos : 1 ≤ leastL ws := hw _ (least_mem hne)
  have hr := gotZ_rng S ks ws hw
  unfold lightT
  by_cases h1 : need ≤ leastL ws
  · rw [if_pos h1, thr_one, Bool.eq_iff_iff, List.any_eq_true, decide_eq_true_iff]
    constructor
    · intro h; have := gotZ_some S ks ws hl hw h; omega
    · intro h
      apply Classical.byContradiction
      intro hc
      have : gotZ ks ws S = 0 := by
        have key : ∀ (ts : List ET) (ws : List Int), (∀ t ∈ ts, t.hold S = false) → gotZ ts ws S = 0 := by
          intro ts
          induction ts with
          | nil => intro ws _; cases ws <;> rfl
          | cons t ts ih =>
            intro ws h
            cases ws with
            | nil => rfl
            | cons w ws => rw [gotZ, if_neg (by rw [h t (by simp)]; decide), ih ws (fun u hu => h u (List.mem_cons_of_mem _ hu))]; rfl
        exact key ks ws (fun t ht => by
          cases hh : t.hold S
          · rfl
          · exact absurd ⟨t, ht, hh⟩ hc)
      omega
  · rw [if_neg h1]
    by_cases h2 : sum - leastL ws < need
    · rw [if_pos h2, thr_all, Bool.eq_iff_iff, List.all_eq_true, decide_eq_true_iff]
      constructor
      · intro h
        have : gotZ ks ws S = sumL ws := by
          have key : ∀ (ts : List ET) (ws : List Int), ws.length = ts.length → (∀ t ∈ ts, t.hold S = true) → gotZ ts ws S = sumL ws := by
            intro ts
            induction ts with
            | nil => intro ws h _; obtain rfl : ws = [] := List.eq_nil_of_length_eq_zero (by simpa using h); rfl
            | cons t ts ih =>
              intro ws hl h
              cases ws with
              | nil => simp at hl
              | cons w ws => rw [gotZ, if_pos (h t (by simp)), ih ws (by simpa using hl) (fun u hu => h u (List.mem_cons_of_mem _ hu))]; rfl
          exact key ks ws hl h
        omega
      · intro h t ht
        cases hh : t.hold S
        · have := gotZ_miss S ks ws hl hw ⟨t, ht, hh⟩; omega
        · rfl
    · rw [if_neg h2]
      by_cases h3 : leastL ws = greatL ws
      · rw [if_pos h3, thr_hold, gotZ_same S (leastL ws) ks ws hl (all_eq h3)]
        rw [Bool.eq_iff_iff, decide_eq_true_iff, decide_eq_true_iff]
        generalize leastL ws = m at hpos ⊢
        generalize (cntT ks S : Int) = c
        constructor
        · intro h
          have h4 : need + m - 1 < m * (c + 1) := by
            have := Int.lt_mul_of_ediv_lt (c := m) (by omega) (show (need + m - 1) / m < c + 1 by omega)
            rw [Int.mul_comm] at this; exact this
          rw [Int.mul_add] at h4; omega
        · intro h
          have h4 : need + m - 1 < (c + 1) * m := by rw [Int.add_mul, Int.mul_comm c m]; omega
          have := Int.ediv_lt_of_lt_mul (by omega) h4
          omega
      · rw [if_neg h3, thr_holdw need hne hl]

/-- what a state of the fold keeps -/
structure SOk (st : SS) : Prop where
  need : 0 ≤ st.need
  len : st.ws.length = st.ks.length
  wts : ∀ w ∈ st.ws, 1 ≤ w ∧ w ≤ 1000
  sum : st.sum = sumL st.ws
theorem fin_hold {st : SS} (h : SOk st) (S : BitVec 16) : (finS st).hold S = decide (st.need ≤ gotZ st.ks st.ws S) := by
  have hw : ∀ w ∈ st.ws, 1 ≤ w := fun w hw => (h.wts w hw).1
  have hr := gotZ_rng S st.ks st.ws hw
  have hn := h.need
  have hs := h.sum
  unfold finS
  by_cases h0 : st.need = 0
  · rw [if_pos h0, thr_hold, decide_eq_true (show st.need ≤ gotZ st.ks st.ws S by omega)]; rfl
  · rw [if_neg h0]
    by_cases h1 : st.sum < st.need
    · rw [if_pos h1, thr_hold, decide_eq_false (show ¬ st.need ≤ gotZ st.ks st.ws S by omega)]; rfl
    · rw [if_neg h1]
      have hne : st.ws ≠ [] := fun e => by rw [e] at hs; simp [sumL] at hs; omega
      have hl := h.len
      have hkne : st.ks ≠ [] := fun e => hne (List.eq_nil_of_length_eq_zero (by rw [hl, e]; rfl))
      rcases oneOf_cases st.ks (mergA (lightT st.need st.sum st.ws st.ks)) hkne with ⟨k, hk, ho⟩ | ⟨_, ho⟩
      · rw [ho]
        rw [hk] at hl ⊢
        obtain ⟨w, hwe⟩ : ∃ w, st.ws = [w] := by
          match hq : st.ws, hl with
          | [w], _ => exact ⟨w, rfl⟩
        have hw1 := hw w (by rw [hwe]; simp)
        rw [hwe] at hs ⊢
        have : sumL [w] = w := by simp [sumL]
        rw [gotZ, gotZ]
        · cases k.hold S
          · rw [decide_eq_false (by simp; omega)]
          · rw [decide_eq_true (by simp; omega)]
        · intro _ _ _ _ h; cases h
      · rw [ho, mergA_hold, light_hold (by omega) hs (by omega) hw hl hne]
theorem const_hold {t : ET} (h : t.constB = true) (S : BitVec 16) : t.hold S = decide (t.needOf ≤ 0) := by
  cases t with
  | srv s => cases h
  | thr n ws ks =>
    have : ks = [] := by simpa [ET.constB] using h
    subst this
    rw [ET.hold, ETs.got]; rfl
theorem step_ok {st : SS} (h : SOk st) {k : ET} {w : Int} (hw : 1 ≤ w ∧ w ≤ 1000) : SOk (stepS st k w) := by
  unfold stepS
  split
  · exact ⟨h.need, by simp [h.len], fun v hv => by
      rcases List.mem_append.1 hv with hv | hv
      · exact h.wts v hv
      · simp at hv; subst hv; exact hw, by show st.sum + w = _; rw [sumL_app, h.sum]⟩
  · split
    · exact ⟨by show 0 ≤ max 0 (st.need - w); omega, h.len, h.wts, h.sum⟩
    · exact h
theorem step_hold {st : SS} (h : SOk st) {k : ET} {w G : Int} (_hw : 1 ≤ w) (hk : k.constB = true → 0 ≤ k.needOf) (hG : 0 ≤ G) (S : BitVec 16) :
    decide ((stepS st k w).need ≤ gotZ (stepS st k w).ks (stepS st k w).ws S + G) = decide (st.need ≤ gotZ st.ks st.ws S + ((if k.hold S = true then w else 0) + G)) := by
  have hr := gotZ_rng S st.ks st.ws (fun w hw => (h.wts w hw).1)
  unfold stepS
  by_cases hc : k.constB = false
  · rw [if_pos hc]
    show decide (st.need ≤ gotZ (st.ks ++ [k]) (st.ws ++ [w]) S + G) = _
    rw [gotZ_app S k w st.ks st.ws h.len, Int.add_assoc]
  · have hc' : k.constB = true := by simpa using hc
    have hn := hk hc'
    rw [if_neg hc, const_hold hc']
    by_cases h0 : k.needOf = 0
    · rw [if_pos h0, h0]
      show decide (max 0 (st.need - w) ≤ gotZ st.ks st.ws S + G) = _
      simp only [Int.le_refl, decide_true, if_true]
      rw [Bool.eq_iff_iff, decide_eq_true_iff, decide_eq_true_iff]
      omega
    · rw [if_neg h0, decide_eq_false (show ¬ k.needOf ≤ 0 by omega)]
      simp
theorem wgtW_rng {ws : List Int} (h : ∀ w ∈ ws, 1 ≤ w ∧ w ≤ 1000) {k : Nat} (hk : ws = [] ∨ k < ws.length) : 1 ≤ wgtW ws k ∧ wgtW ws k ≤ 1000 := by
  unfold wgtW
  split
  · omega
  · rename_i hne
    have hl : k < ws.length := hk.resolve_left hne
    rw [List.getD_eq_getElem?_getD, List.getElem?_eq_getElem hl]
    exact h _ (List.getElem_mem hl)
end Go.Proofs.YtmjgdnpfgkpaoaaGreatDoor
namespace Go.Proofs.YtmjgdnpfgkpaoaaGreatDoor

/-! the fold -/
theorem mergT_mem {form : ET → Bool} {ks : List ET} {t : ET} (h : t ∈ mergT form ks) : (t ∈ ks ∧ form t = false) ∨ ∃ k ∈ ks, form k = true ∧ t ∈ k.kidsOf := by
  unfold mergT at h
  obtain ⟨k, hk, ht⟩ := List.mem_flatMap.1 h
  by_cases hf : form k = true
  · rw [if_pos hf] at ht; exact .inr ⟨k, hk, hf, ht⟩
  · rw [if_neg hf] at ht
    simp at ht; subst ht
    exact .inl ⟨hk, by simpa using hf⟩
theorem ok_kids {t : ET} (h : t.ok) : ∀ k ∈ t.kidsOf, k.ok := by
  cases t with
  | srv s => intro k hk; cases hk
  | thr n ws ks => rw [ET.ok] at h; exact (ETs.ok_iff ks).1 h.2.2.2
theorem ETs.sz_flat (form : ET → Bool) : ∀ ks : List ET, ETs.sz (mergT form ks) ≤ ETs.sz ks
  | [] => by simp [mergT, ETs.sz]
  | k :: ks => by
    have ih := ETs.sz_flat form ks
    unfold mergT at *
    rw [List.flatMap_cons, ETs.sz_app, ETs.sz]
    have : ETs.sz (if form k = true then k.kidsOf else [k]) ≤ k.sz := by
      split
      · cases k with
        | srv s => simp [ET.kidsOf, ETs.sz, ET.sz]
        | thr n ws ks => show ETs.sz ks ≤ _; rw [ET.sz]; omega
      · simp [ETs.sz]
    omega
theorem need_nn {t : ET} (h : t.ok) : 0 ≤ t.needOf := by
  cases t with
  | srv s => exact Int.le_refl _
  | thr n ws ks => rw [ET.ok] at h; exact h.1.1
/-- what the fold keeps: weights, valid trees, sizes -/
structure SOk2 (st : SS) (N : Int) (Z : Nat) : Prop where
  toSOk : SOk st
  top : st.need ≤ N
  ok : ETs.ok st.ks
  sz : ETs.sz st.ks ≤ Z
theorem step_ok2 {st : SS} {N : Int} {Z : Nat} (h : SOk2 st N Z) {k : ET} {w : Int} (hw : 1 ≤ w ∧ w ≤ 1000) (hk : k.ok) : SOk2 (stepS st k w) N (Z + k.sz) := by
  refine ⟨step_ok h.toSOk hw, ?_, ?_, ?_⟩
  · unfold stepS
    split
    · exact h.top
    · split
      · show max 0 (st.need - w) ≤ N
        have := h.top; have := h.toSOk.need; omega
      · exact h.top
  · unfold stepS
    split
    · show ETs.ok (st.ks ++ [k])
      rw [ETs.ok_iff]
      intro t ht
      rcases List.mem_append.1 ht with ht | ht
      · exact (ETs.ok_iff _).1 h.ok t ht
      · simp at ht; subst ht; exact hk
    · split <;> exact h.ok
  · have := h.sz
    unfold stepS
    split
    · show ETs.sz (st.ks ++ [k]) ≤ _
      rw [ETs.sz_app]; simp only [ETs.sz]; omega
    · split
      · show ETs.sz st.ks ≤ _; omega
      · omega
theorem light_ok {st : SS} {N : Int} {Z : Nat} (h : SOk2 st N Z) (hN : N ≤ 100000) (hn : 1 ≤ st.need) (hl : st.ks.length ≤ 100000) (hne : st.ws ≠ []) : (lightT st.need st.sum st.ws st.ks).ok ∧ (lightT st.need st.sum st.ws st.ks).sz ≤ Z + 1 := by
  have hw : ∀ w ∈ st.ws, 1 ≤ w := fun w hw => (h.toSOk.wts w hw).1
  have hpos : 1 ≤ leastL st.ws := hw _ (least_mem hne)
  have ht := h.top
  have hz := h.sz
  have base : ∀ n : Int, 0 ≤ n → n ≤ 100000 → (ET.thr n [] st.ks).ok := fun n h1 h2 => by
    rw [ET.ok]; exact ⟨⟨h1, h2⟩, (fun w h => by cases h), .inl rfl, h.ok⟩
  have szb : ∀ n ws, (ET.thr n ws st.ks).sz ≤ Z + 1 := fun n ws => by rw [ET.sz]; omega
  unfold lightT
  split
  · exact ⟨base 1 (by omega) (by omega), szb _ _⟩
  · split
    · exact ⟨base _ (by omega) (by omega), szb _ _⟩
    · split
      · refine ⟨base _ (Int.ediv_nonneg (by omega) (by omega)) ?_, szb _ _⟩
        have : (st.need + leastL st.ws - 1) / leastL st.ws ≤ st.need := by
          have h1 : st.need + leastL st.ws - 1 < (st.need + 1) * leastL st.ws := by
            rw [Int.add_mul]
            have : st.need * 1 ≤ st.need * leastL st.ws := Int.mul_le_mul_of_nonneg_left hpos (by omega)
            omega
          have := Int.ediv_lt_of_lt_mul (by omega) h1
          omega
        omega
      · refine ⟨?_, szb _ _⟩
        rw [ET.ok]
        exact ⟨⟨by omega, by omega⟩, h.toSOk.wts, .inr h.toSOk.len, h.ok⟩
theorem mergA_ok {out : ET} (h : out.ok) (hz : out.sz ≤ 100000) : (mergA out).ok ∧ (mergA out).sz ≤ out.sz := by
  have key : ∀ (form : ET → Bool) (n : Int), 0 ≤ n → n ≤ 100000 → (ET.thr n [] (mergT form out.kidsOf)).ok := fun form n h1 h2 => by
    rw [ET.ok]
    refine ⟨⟨h1, h2⟩, (fun w h => by cases h), .inl rfl, (ETs.ok_iff _).2 fun t ht => ?_⟩
    rcases mergT_mem ht with ⟨h3, _⟩ | ⟨k, hk, _, h4⟩
    · exact ok_kids h t h3
    · exact ok_kids (ok_kids h k hk) t h4
  have szk : ∀ (form : ET → Bool) (n : Int) (ht : out.constB = false ∨ True), (∃ m ws ks, out = .thr m ws ks) → (ET.thr n [] (mergT form out.kidsOf)).sz ≤ out.sz := fun form n _ ⟨m, ws, ks, e⟩ => by
    subst e
    have := ETs.sz_flat form ks
    show ETs.sz (mergT form ks) + 1 ≤ ETs.sz ks + 1
    omega
  unfold mergA
  split
  · rename_i ha
    have he : ∃ m ws ks, out = .thr m ws ks := by cases out with | srv s => cases ha | thr m ws ks => exact ⟨m, ws, ks, rfl⟩
    have hn : out.needOf = 1 := by
      obtain ⟨m, ws, ks, rfl⟩ := he
      simp only [ET.anyB, Bool.and_eq_true, decide_eq_true_iff] at ha; exact ha.2
    exact ⟨key _ _ (by omega) (by omega), szk _ _ (.inr trivial) he⟩
  · split
    · rename_i _ ha
      have he : ∃ m ws ks, out = .thr m ws ks := by cases out with | srv s => cases ha | thr m ws ks => exact ⟨m, ws, ks, rfl⟩
      have hlen : (mergT ET.allB out.kidsOf).length ≤ out.sz := by
        obtain ⟨m, ws, ks, rfl⟩ := he
        have h1 := ETs.sz_flat ET.allB ks
        have h2 := ETs.sz_ge (mergT ET.allB ks)
        show (mergT ET.allB ks).length ≤ ETs.sz ks + 1
        omega
      exact ⟨key _ _ (by omega) (by omega), szk _ _ (.inr trivial) he⟩
    · exact ⟨h, Nat.le_refl _⟩
theorem fin_ok {st : SS} {N : Int} {Z : Nat} (h : SOk2 st N Z) (hN : N ≤ 100000) (hZ : Z ≤ 10000) : (finS st).ok ∧ (finS st).sz ≤ Z + 1 := by
  have hs := h.toSOk.sum
  have hn := h.toSOk.need
  unfold finS
  split
  · refine ⟨?_, by simp [ET.sz, ETs.sz]⟩
    rw [ET.ok]; exact ⟨by omega, (fun w h => by cases h), .inl rfl, trivial⟩
  · rename_i h0
    split
    · refine ⟨?_, by simp [ET.sz, ETs.sz]⟩
      rw [ET.ok]; exact ⟨by omega, (fun w h => by cases h), .inl rfl, trivial⟩
    · rename_i h1
      have hne : st.ws ≠ [] := fun e => by rw [e] at hs; simp [sumL] at hs; omega
      have hkne : st.ks ≠ [] := fun e => hne (List.eq_nil_of_length_eq_zero (by rw [h.toSOk.len, e]; rfl))
      rcases oneOf_cases st.ks (mergA (lightT st.need st.sum st.ws st.ks)) hkne with ⟨k, hk, ho⟩ | ⟨_, ho⟩
      · rw [ho]
        have := h.ok
        have hz := h.sz
        rw [hk] at this hz
        rw [ETs.ok] at this
        rw [ETs.sz, ETs.sz] at hz
        exact ⟨this.1, by omega⟩
      · rw [ho]
        have hlen := ETs.sz_ge st.ks
        have hz := h.sz
        obtain ⟨h2, h3⟩ := light_ok h hN (by omega) (by omega) hne
        obtain ⟨h4, h5⟩ := mergA_ok h2 (by omega)
        exact ⟨h4, by omega⟩
mutual
theorem simp_ok (t : ET) (h : t.ok) (hz : t.sz ≤ 1000) : t.simp.ok ∧ t.simp.sz ≤ t.sz := by
  cases t with
  | srv s => rw [ET.simp]; exact ⟨h, Nat.le_refl _⟩
  | thr n ws ks =>
    rw [ET.ok] at h
    obtain ⟨h1, h2, h3, h4⟩ := h
    rw [ET.sz] at hz
    rw [ET.simp]
    have hs := simpF_ok ks ws 0 ⟨n, [], [], 0⟩ n 0 h2 (h3.imp id (by omega)) h4 (by omega) ⟨⟨h1.1, rfl, (fun w h => by cases h), rfl⟩, Int.le_refl _, trivial, Nat.le_refl _⟩
    rw [Nat.zero_add] at hs
    have := fin_ok hs h1.2 (by omega)
    rw [ET.sz]; exact this
theorem simpF_ok (ts : List ET) (ws : List Int) (k : Nat) (st : SS) (N : Int) (Z : Nat) (hw : ∀ w ∈ ws, 1 ≤ w ∧ w ≤ 1000) (hl : ws = [] ∨ k + ts.length ≤ ws.length) (hok : ETs.ok ts) (hz : ETs.sz ts ≤ 1000) (h : SOk2 st N Z) : SOk2 (ETs.simpF ts ws k st) N (Z + ETs.sz ts) := by
  cases ts with
  | nil => rw [ETs.simpF, ETs.sz]; exact h
  | cons t ts =>
    rw [ETs.ok] at hok
    rw [ETs.sz] at hz
    obtain ⟨h1, h2⟩ := simp_ok t hok.1 (by omega)
    rw [ETs.simpF, ETs.sz]
    have hst := step_ok2 h (wgtW_rng hw (k := k) (hl.imp id (fun hh => by rw [List.length_cons] at hh; omega))) h1
    have := simpF_ok ts ws (k + 1) _ N (Z + t.simp.sz) hw (hl.imp id (fun hh => by rw [List.length_cons] at hh; omega)) hok.2 (by omega) hst
    exact ⟨this.toSOk, this.top, this.ok, by have := this.sz; omega⟩
end
mutual
theorem simp_hold (t : ET) (h : t.ok) (hz : t.sz ≤ 1000) (S : BitVec 16) : t.simp.hold S = t.hold S := by
  cases t with
  | srv s => rw [ET.simp]
  | thr n ws ks =>
    rw [ET.ok] at h
    obtain ⟨h1, h2, h3, h4⟩ := h
    rw [ET.sz] at hz
    rw [ET.simp]
    have h0 : SOk2 ⟨n, [], [], 0⟩ n 0 := ⟨⟨h1.1, rfl, (fun w h => by cases h), rfl⟩, Int.le_refl _, trivial, Nat.le_refl _⟩
    have hs := simpF_ok ks ws 0 ⟨n, [], [], 0⟩ n 0 h2 (h3.imp id (by omega)) h4 (by omega) h0
    rw [fin_hold hs.toSOk, simpF_hold ks ws 0 ⟨n, [], [], 0⟩ h2 (h3.imp id (by omega)) h4 (by omega) h0.toSOk S]
    show decide (n ≤ 0 + ETs.got ks S ws 0) = _
    rw [Int.zero_add, ET.hold]
theorem simpF_hold (ts : List ET) (ws : List Int) (k : Nat) (st : SS) (hw : ∀ w ∈ ws, 1 ≤ w ∧ w ≤ 1000) (hl : ws = [] ∨ k + ts.length ≤ ws.length) (hok : ETs.ok ts) (hz : ETs.sz ts ≤ 1000) (h : SOk st) (S : BitVec 16) :
    decide ((ETs.simpF ts ws k st).need ≤ gotZ (ETs.simpF ts ws k st).ks (ETs.simpF ts ws k st).ws S) = decide (st.need ≤ gotZ st.ks st.ws S + ETs.got ts S ws k) := by
  cases ts with
  | nil => rw [ETs.simpF, ETs.got, Int.add_zero]
  | cons t ts =>
    rw [ETs.ok] at hok
    rw [ETs.sz] at hz
    obtain ⟨h1, _⟩ := simp_ok t hok.1 (by omega)
    have hwk := wgtW_rng hw (k := k) (hl.imp id (fun hh => by rw [List.length_cons] at hh; omega))
    have hG : 0 ≤ ETs.got ts S ws (k + 1) := by
      rw [got_wts]
      refine (gotZ_rng S ts _ fun w hw' => ?_).1
      have key : ∀ (ts : List ET) (k : Nat), (ws = [] ∨ k + ts.length ≤ ws.length) → ∀ w ∈ ETs.wts ts ws k, 1 ≤ w := by
        intro ts
        induction ts with
        | nil => intro k _ w h; cases h
        | cons t ts ih =>
          intro k hk w h
          rw [ETs.wts] at h
          rcases List.mem_cons.1 h with rfl | h
          · exact (wgtW_rng hw (hk.imp id (fun hh => by rw [List.length_cons] at hh; omega))).1
          · exact ih (k + 1) (hk.imp id (fun hh => by rw [List.length_cons] at hh; omega)) w h
      exact key ts (k + 1) (hl.imp id (fun hh => by rw [List.length_cons] at hh; omega)) w hw'
    rw [ETs.simpF, simpF_hold ts ws (k + 1) _ hw (hl.imp id (fun hh => by rw [List.length_cons] at hh; omega)) hok.2 (by omega) (step_ok h hwk) S,
      step_hold h hwk.1 (fun _ => need_nn h1) hG S, simp_hold t hok.1 (by omega) S, ETs.got]
end
end Go.Proofs.YtmjgdnpfgkpaoaaGreatDoor
namespace Go.Proofs.YtmjgdnpfgkpaoaaGreatDoor

/-- the forms of a simplified threshold with kids -/
def shapeT (n : Int) (ws : List Int) (ks : List ET) : Prop :=
  (ws = [] ∧ n = 1 ∧ ∀ k ∈ ks, k.anyB = false) ∨ (ws = [] ∧ n = (ks.length : Int) ∧ ∀ k ∈ ks, k.allB = false) ∨ (ws = [] ∧ 2 ≤ n ∧ n + 1 ≤ (ks.length : Int)) ∨
  (ws ≠ [] ∧ ws.length = ks.length ∧ (∀ w ∈ ws, 1 ≤ w) ∧ leastL ws < n ∧ n ≤ sumL ws - leastL ws ∧ leastL ws ≠ greatL ws)
mutual
def ET.nf : ET → Prop
  | .srv _ => True
  | .thr n ws ks => ETs.nf ks ∧ ((ks = [] ∧ ws = [] ∧ (n = 0 ∨ n = 1)) ∨ (2 ≤ ks.length ∧ (∀ k ∈ ks, k.constB = false) ∧ shapeT n ws ks))
def ETs.nf : List ET → Prop
  | [] => True
  | t :: ts => t.nf ∧ ETs.nf ts
end
theorem ETs.nf_iff : ∀ (ts : List ET), ETs.nf ts ↔ ∀ t ∈ ts, t.nf
  | [] => by simp [ETs.nf]
  | t :: ts => by rw [ETs.nf, ETs.nf_iff ts]; simp
theorem nf_kids {t : ET} (h : t.nf) : ∀ k ∈ t.kidsOf, k.nf := by
  cases t with
  | srv s => intro k hk; cases hk
  | thr n ws ks => rw [ET.nf] at h; exact (ETs.nf_iff ks).1 h.1
/-- the kids of a simplified threshold of one (or of all) are no such thresholds -/
theorem nf_any {t : ET} (h : t.nf) (ha : t.anyB = true) : 2 ≤ t.kidsOf.length ∧ ∀ k ∈ t.kidsOf, k.constB = false ∧ k.anyB = false := by
  cases t with
  | srv s => cases ha
  | thr n ws ks =>
    simp only [ET.anyB, Bool.and_eq_true, decide_eq_true_iff] at ha
    obtain ⟨⟨h1, h2⟩, rfl⟩ := ha
    have hne : ks ≠ [] := fun e => by rw [e] at h1; cases h1
    rw [ET.nf] at h
    rcases h.2 with ⟨e, _⟩ | ⟨hl, hc, hs⟩
    · exact absurd e hne
    · refine ⟨hl, fun k hk => ⟨hc k hk, ?_⟩⟩
      rcases hs with ⟨_, _, h3⟩ | ⟨_, h3, _⟩ | ⟨_, h3, _⟩ | ⟨h3, _⟩
      · exact h3 k hk
      · exfalso; omega
      · exfalso; omega
      · exact absurd (by simpa using h2) h3
theorem nf_all {t : ET} (h : t.nf) (ha : t.allB = true) : 2 ≤ t.kidsOf.length ∧ ∀ k ∈ t.kidsOf, k.constB = false ∧ k.allB = false := by
  cases t with
  | srv s => cases ha
  | thr n ws ks =>
    simp only [ET.allB, Bool.and_eq_true, decide_eq_true_iff] at ha
    obtain ⟨⟨h1, h2⟩, h3⟩ := ha
    have hne : ks ≠ [] := fun e => by rw [e] at h1; cases h1
    rw [ET.nf] at h
    rcases h.2 with ⟨e, _⟩ | ⟨hl, hc, hs⟩
    · exact absurd e hne
    · refine ⟨hl, fun k hk => ⟨hc k hk, ?_⟩⟩
      rcases hs with ⟨_, h4, _⟩ | ⟨_, _, h4⟩ | ⟨_, _, h4⟩ | ⟨h4, _⟩
      · exfalso; omega
      · exact h4 k hk
      · exfalso; omega
      · exact absurd (by simpa using h2) h4
theorem merg_len (form : ET → Bool) : ∀ ks : List ET, (∀ k ∈ ks, form k = true → 2 ≤ k.kidsOf.length) → ks.length ≤ (mergT form ks).length
  | [], _ => by simp
  | k :: ks, h => by
    have ih := merg_len form ks (fun u hu => h u (List.mem_cons_of_mem _ hu))
    unfold mergT at *
    rw [List.flatMap_cons, List.length_append, List.length_cons]
    have : 1 ≤ (if form k = true then k.kidsOf else [k]).length := by
      split
      · rename_i hf; have := h k (by simp) hf; omega
      · simp
    omega
theorem merg_none (form : ET → Bool) : ∀ ks : List ET, (∀ k ∈ ks, form k = false) → mergT form ks = ks
  | [], _ => rfl
  | k :: ks, h => by
    have ih := merg_none form ks (fun u hu => h u (List.mem_cons_of_mem _ hu))
    unfold mergT at *
    rw [List.flatMap_cons, ih, if_neg (by rw [h k (by simp)]; decide)]; rfl
/-- what the fold keeps: simplified kids that are no constants -/
structure SNf (st : SS) : Prop where
  nf : ETs.nf st.ks
  con : ∀ k ∈ st.ks, k.constB = false
theorem step_nf {st : SS} (h : SNf st) {k : ET} {w : Int} (hk : k.nf) : SNf (stepS st k w) := by
  unfold stepS
  split
  · rename_i hc
    refine ⟨(ETs.nf_iff _).2 fun t ht => ?_, fun t ht => ?_⟩
    · rcases List.mem_append.1 ht with ht | ht
      · exact (ETs.nf_iff _).1 h.nf t ht
      · simp at ht; subst ht; exact hk
    · rcases List.mem_append.1 ht with ht | ht
      · exact h.con t ht
      · simp at ht; subst ht; exact hc
  · split <;> exact ⟨h.nf, h.con⟩
theorem mergA_nf {n : Int} {ws : List Int} {ks : List ET} (hl : 2 ≤ ks.length) (hnf : ETs.nf ks) (hcon : ∀ k ∈ ks, k.constB = false)
    (hs : (ws = [] ∧ 1 ≤ n ∧ n ≤ (ks.length : Int)) ∨ (ws ≠ [] ∧ ws.length = ks.length ∧ (∀ w ∈ ws, 1 ≤ w) ∧ leastL ws < n ∧ n ≤ sumL ws - leastL ws ∧ leastL ws ≠ greatL ws)) : (mergA (.thr n ws ks)).nf := by
  have hne : ks.isEmpty = false := by cases ks with | nil => simp at hl | cons a l => rfl
  have hkn := (ETs.nf_iff ks).1 hnf
  unfold mergA
  by_cases ha : (ET.thr n ws ks).anyB = true
  · rw [if_pos ha]
    simp only [ET.anyB, Bool.and_eq_true, decide_eq_true_iff] at ha
    obtain ⟨⟨_, h2⟩, rfl⟩ := ha
    show (ET.thr 1 [] (mergT ET.anyB ks)).nf
    have hlen := merg_len ET.anyB ks (fun k hk hf => (nf_any (hkn k hk) hf).1)
    rw [ET.nf]
    refine ⟨(ETs.nf_iff _).2 fun t ht => ?_, .inr ⟨by omega, fun t ht => ?_, .inl ⟨rfl, rfl, fun t ht => ?_⟩⟩⟩
    · rcases mergT_mem ht with ⟨h3, _⟩ | ⟨k, hk, _, h4⟩
      · exact hkn t h3
      · exact nf_kids (hkn k hk) t h4
    · rcases mergT_mem ht with ⟨h3, _⟩ | ⟨k, hk, hf, h4⟩
      · exact hcon t h3
      · exact ((nf_any (hkn k hk) hf).2 t h4).1
    · rcases mergT_mem ht with ⟨_, h3⟩ | ⟨k, hk, hf, h4⟩
      · exact h3
      · exact ((nf_any (hkn k hk) hf).2 t h4).2
  · rw [if_neg ha]
    by_cases hb : (ET.thr n ws ks).allB = true
    · rw [if_pos hb]
      show (ET.thr ((mergT ET.allB ks).length : Int) [] (mergT ET.allB ks)).nf
      have hlen := merg_len ET.allB ks (fun k hk hf => (nf_all (hkn k hk) hf).1)
      rw [ET.nf]
      refine ⟨(ETs.nf_iff _).2 fun t ht => ?_, .inr ⟨by omega, fun t ht => ?_, .inr (.inl ⟨rfl, rfl, fun t ht => ?_⟩)⟩⟩
      · rcases mergT_mem ht with ⟨h3, _⟩ | ⟨k, hk, _, h4⟩
        · exact hkn t h3
        · exact nf_kids (hkn k hk) t h4
      · rcases mergT_mem ht with ⟨h3, _⟩ | ⟨k, hk, hf, h4⟩
        · exact hcon t h3
        · exact ((nf_all (hkn k hk) hf).2 t h4).1
      · rcases mergT_mem ht with ⟨_, h3⟩ | ⟨k, hk, hf, h4⟩
        · exact h3
        · exact ((nf_all (hkn k hk) hf).2 t h4).2
    · rw [if_neg hb, ET.nf]
      refine ⟨hnf, .inr ⟨hl, hcon, ?_⟩⟩
      rcases hs with ⟨rfl, h1, h2⟩ | h
      · have n1 : n ≠ 1 := fun e => ha (by simp [ET.anyB, hne, e])
        have n2 : n ≠ (ks.length : Int) := fun e => hb (by simp [ET.allB, hne, e])
        exact .inr (.inr (.inl ⟨rfl, by omega, by omega⟩))
      · exact .inr (.inr (.inr h))
theorem sumL_same {m : Int} : ∀ {l : List Int}, (∀ w ∈ l, w = m) → sumL l = m * (l.length : Int)
  | [], _ => by simp [sumL]
  | a :: l, h => by
    have e : a = m := h a (by simp)
    have ih := sumL_same (l := l) (fun w hw => h w (List.mem_cons_of_mem _ hw))
    have : sumL (a :: l) = a + sumL l := rfl
    rw [this, ih, e, List.length_cons, Int.natCast_add, Int.mul_add]; omega
theorem fin_nf {st : SS} (h : SOk st) (hn : SNf st) : (finS st).nf := by
  have hs := h.sum
  have hnn := h.need
  have hl := h.len
  unfold finS
  split
  · rw [ET.nf]; exact ⟨trivial, .inl ⟨rfl, rfl, .inl rfl⟩⟩
  · rename_i h0
    split
    · rw [ET.nf]; exact ⟨trivial, .inl ⟨rfl, rfl, .inr rfl⟩⟩
    · rename_i h1
      have hne : st.ws ≠ [] := fun e => by rw [e] at hs; simp [sumL] at hs; omega
      have hkne : st.ks ≠ [] := fun e => hne (List.eq_nil_of_length_eq_zero (by rw [hl, e]; rfl))
      rcases oneOf_cases st.ks (mergA (lightT st.need st.sum st.ws st.ks)) hkne with ⟨k, hk, ho⟩ | ⟨hl2, ho⟩
      · rw [ho]
        exact (ETs.nf_iff _).1 hn.nf k (by rw [hk]; simp)
      · rw [ho]
        have hw : ∀ w ∈ st.ws, 1 ≤ w := fun w hw => (h.wts w hw).1
        have hpos : 1 ≤ leastL st.ws := hw _ (least_mem hne)
        unfold lightT
        split
        · exact mergA_nf hl2 hn.nf hn.con (.inl ⟨rfl, by omega, by omega⟩)
        · split
          · exact mergA_nf hl2 hn.nf hn.con (.inl ⟨rfl, by omega, by omega⟩)
          · split
            · rename_i h3 h4 h5
              refine mergA_nf hl2 hn.nf hn.con (.inl ⟨rfl, ?_, ?_⟩)
              · have := Int.le_ediv_of_mul_le (a := 1) (b := st.need + leastL st.ws - 1) (c := leastL st.ws) (by omega) (by omega)
                exact this
              · have hsm := sumL_same (all_eq h5)
                rw [hl] at hsm
                generalize (st.ks.length : Int) = L at hsm ⊢
                have h6 : st.need + leastL st.ws - 1 < (L + 1) * leastL st.ws := by
                  rw [Int.add_mul, Int.mul_comm L]; omega
                have := Int.ediv_lt_of_lt_mul (by omega) h6
                omega
            · rename_i h3 h4 h5
              exact mergA_nf hl2 hn.nf hn.con (.inr ⟨hne, hl, hw, by omega, by omega, h5⟩)
mutual
theorem simp_nf (t : ET) (h : t.ok) (hz : t.sz ≤ 1000) : t.simp.nf := by
  cases t with
  | srv s => rw [ET.simp, ET.nf]; trivial
  | thr n ws ks =>
    rw [ET.ok] at h
    obtain ⟨h1, h2, h3, h4⟩ := h
    rw [ET.sz] at hz
    rw [ET.simp]
    have hs := simpF_ok ks ws 0 ⟨n, [], [], 0⟩ n 0 h2 (h3.imp id (by omega)) h4 (by omega) ⟨⟨h1.1, rfl, (fun w h => by cases h), rfl⟩, Int.le_refl _, trivial, Nat.le_refl _⟩
    exact fin_nf hs.toSOk (simpF_nf ks ws 0 _ h4 (by omega) ⟨trivial, fun k hk => by cases hk⟩)
theorem simpF_nf (ts : List ET) (ws : List Int) (k : Nat) (st : SS) (hok : ETs.ok ts) (hz : ETs.sz ts ≤ 1000) (h : SNf st) : SNf (ETs.simpF ts ws k st) := by
  cases ts with
  | nil => rw [ETs.simpF]; exact h
  | cons t ts =>
    rw [ETs.ok] at hok
    rw [ETs.sz] at hz
    rw [ETs.simpF]
    exact simpF_nf ts ws (k + 1) _ hok.2 (by omega) (step_nf h (simp_nf t hok.1 (by omega)))
end

/-! a simplified tree stays -/
theorem sumL_ones (n : Nat) : sumL (List.replicate n 1) = (n : Int) := by
  rw [sumL_same (m := 1) (fun w hw => (List.mem_replicate.1 hw).2), List.length_replicate, Int.one_mul]
theorem least_ones {n : Nat} (h : 1 ≤ n) : leastL (List.replicate n 1) = 1 := by
  have := least_mem (l := List.replicate n (1 : Int)) (fun e => by have := congrArg List.length e; simp at this; omega)
  exact (List.mem_replicate.1 this).2
theorem great_ones {n : Nat} (h : 1 ≤ n) : greatL (List.replicate n 1) = 1 := by
  have := great_mem (l := List.replicate n (1 : Int)) (fun e => by have := congrArg List.length e; simp at this; omega)
  exact (List.mem_replicate.1 this).2
theorem sumL_pos {l : List Int} (h : ∀ w ∈ l, 1 ≤ w) (hne : l ≠ []) : 1 ≤ sumL l := by
  cases l with
  | nil => exact absurd rfl hne
  | cons a l =>
    have h1 := (gotZ_rng 0#16 [] l (fun w hw => h w (List.mem_cons_of_mem _ hw)))
    have : sumL (a :: l) = a + sumL l := rfl
    have h2 := h a (by simp)
    have h3 : 0 ≤ sumL l := by have := h1.1; have := h1.2; simp [gotZ] at this; exact this
    omega
mutual
theorem nf_simp (t : ET) (h : t.nf) : t.simp = t := by
  cases t with
  | srv s => rw [ET.simp]
  | thr n ws ks =>
    rw [ET.nf] at h
    obtain ⟨hk, hs⟩ := h
    rw [ET.simp]
    rcases hs with ⟨rfl, rfl, hn⟩ | ⟨hl, hcon, hs⟩
    · rw [ETs.simpF]
      unfold finS
      rcases hn with rfl | rfl
      · rfl
      · rfl
    · rw [nfF_simp ks ws 0 ⟨n, [], [], 0⟩ hk hcon]
      simp only [List.nil_append, Int.zero_add]
      have hwne : ETs.wts ks ws 0 ≠ [] := fun e => by have := congrArg List.length e; rw [wts_len] at this; simp at this; subst this; simp at hl
      unfold finS
      simp only
      rcases hs with ⟨rfl, rfl, ha⟩ | ⟨rfl, rfl, ha⟩ | ⟨rfl, h2, h3⟩ | ⟨hw, hwl, hw1, h2, h3, h4⟩
      · rw [wts_nil, sumL_ones, if_neg (by omega), if_neg (by omega)]
        rw [oneOf_two hl]
        unfold lightT
        rw [least_ones (by omega), if_pos (by omega)]
        unfold mergA
        have hb : (ET.thr 1 [] ks).anyB = true := by
          have : ks.isEmpty = false := by cases ks with | nil => simp at hl | cons a l => rfl
          simp [ET.anyB, this]
        rw [if_pos hb]
        show ET.thr 1 [] (mergT ET.anyB ks) = _
        rw [merg_none _ _ ha]
      · rw [wts_nil, sumL_ones, if_neg (by omega), if_neg (by omega)]
        rw [oneOf_two hl]
        unfold lightT
        rw [least_ones (by omega), if_neg (by omega), if_pos (by omega)]
        unfold mergA
        have he : ks.isEmpty = false := by cases ks with | nil => simp at hl | cons a l => rfl
        have hb : (ET.thr (ks.length : Int) [] ks).allB = true := by simp [ET.allB, he]
        have hb' : ¬ (ET.thr (ks.length : Int) [] ks).anyB = true := by
          simp only [ET.anyB, Bool.and_eq_true, decide_eq_true_iff]
          rintro ⟨_, e⟩; omega
        rw [if_neg hb', if_pos hb]
        show ET.thr ((mergT ET.allB ks).length : Int) [] (mergT ET.allB ks) = _
        rw [merg_none _ _ ha]
      · rw [wts_nil, sumL_ones, if_neg (by omega), if_neg (by omega)]
        rw [oneOf_two hl]
        unfold lightT
        rw [least_ones (by omega), great_ones (by omega), if_neg (by omega), if_neg (by omega), if_pos rfl]
        rw [show (n + 1 - 1) / 1 = n by rw [Int.ediv_one]; omega]
        unfold mergA
        rw [if_neg, if_neg]
        · simp only [ET.allB, Bool.and_eq_true, decide_eq_true_iff]
          rintro ⟨_, e⟩; omega
        · simp only [ET.anyB, Bool.and_eq_true, decide_eq_true_iff]
          rintro ⟨_, e⟩; omega
      · rw [wts_self hw ks 0 (by omega), List.drop_zero]
        have hpos : 1 ≤ leastL ws := hw1 _ (least_mem hw)
        rw [if_neg (by omega), if_neg (by omega)]
        rw [oneOf_two hl]
        unfold lightT
        rw [if_neg (by omega), if_neg (by omega), if_neg h4]
        unfold mergA
        have he : ws.isEmpty = false := by cases ws with | nil => exact absurd rfl hw | cons a l => rfl
        rw [if_neg (by simp [ET.anyB, he]), if_neg (by simp [ET.allB, he])]
theorem nfF_simp (ts : List ET) (ws : List Int) (k : Nat) (st : SS) (h : ETs.nf ts) (hc : ∀ t ∈ ts, t.constB = false) :
    ETs.simpF ts ws k st = ⟨st.need, st.ks ++ ts, st.ws ++ ETs.wts ts ws k, st.sum + sumL (ETs.wts ts ws k)⟩ := by
  cases ts with
  | nil => rw [ETs.simpF, ETs.wts]; simp [sumL]
  | cons t ts =>
    rw [ETs.nf] at h
    rw [ETs.simpF, nf_simp t h.1, nfF_simp ts ws (k + 1) _ h.2 (fun u hu => hc u (List.mem_cons_of_mem _ hu)), ETs.wts]
    have h1 := hc t (by simp)
    unfold stepS
    rw [if_pos h1]
    have : sumL (wgtW ws k :: ETs.wts ts ws (k + 1)) = wgtW ws k + sumL (ETs.wts ts ws (k + 1)) := rfl
    simp only [List.append_assoc, List.singleton_append, this]
    rw [Int.add_assoc]
end
/-- simplified again it remains the same -/
theorem simp_simp {t : ET} (h : t.ok) (hz : t.sz ≤ 1000) : t.simp.simp = t.simp := nf_simp _ (simp_nf t h hz)
end Go.Proofs.YtmjgdnpfgkpaoaaGreatDoor
namespace Go.Proofs.YtmjgdnpfgkpaoaaGreatDoor
open Go.RowKit

/-! rows of elements that read something -/
section
variable {α β : Type}
def RS (R : World → β → α → Prop) (S : Nat → Prop) (w : World) (p : β) (a : α) : Prop := ∀ w2 : World, Ag S w w2 → R w2 p a
theorem RS.r {R : World → β → α → Prop} {S : Nat → Prop} {w : World} {p : β} {a : α} (h : RS R S w p a) : R w p a := h w (Ag.refl _ _)
theorem RS.move {R : World → β → α → Prop} {S : Nat → Prop} {w w' : World} {p : β} {a : α} (h : RS R S w p a) (ha : Ag S w w') : RS R S w' p a := fun w2 h2 => h w2 fun g hg => (h2 g hg).trans (ha g hg)
theorem RS.mono {R : World → β → α → Prop} {S S' : Nat → Prop} {w : World} {p : β} {a : α} (h : RS R S w p a) (hs : ∀ g, S g → S' g) : RS R S' w p a := fun w2 h2 => h w2 fun g hg => h2 g (hs g hg)
theorem RS.below {R : World → β → α → Prop} {S : Nat → Prop} {w w' : World} {p : β} {a : α} (h : RS R S w p a) (hb : Below w.heap.size w w') (hlt : ∀ g, S g → g < w.heap.size) : RS R S w' p a := h.move fun g hg => hb.block g (hlt g hg)

structure GB (k : Nat) (enc : β → List Value) (R : World → β → α → Prop) (S : Nat → Prop) (B : Nat) (w : World) (v : Value) (t : TypeId) (L : List α) : Prop where
  row : ∃ V : List β, V.length = L.length ∧ w.ownsRow B t k v L.length (V.flatMap enc) ∧ ∀ (i : Nat) p nd, V[i]? = some p → L[i]? = some nd → RS R S w p nd
  lt : ∀ g, S g → g < w.heap.size
  own : ∀ g, v.ownBlock = some g → ¬ S g
variable {k : Nat} {enc : β → List Value} {R : World → β → α → Prop}
theorem GB.nil (S : Nat → Prop) (B : Nat) (w : World) (t : TypeId) (h : ∀ g, S g → g < w.heap.size) : GB k enc R S B w (.slice none 0 0) t [] :=
  ⟨⟨[], rfl, World.ownsRow_nil _ _ _ _, fun i p nd h => by simp at h⟩, h, fun g h => by cases h⟩
theorem GB.lt_own {S : Nat → Prop} {B : Nat} {w : World} {v : Value} {t : TypeId} {L : List α} (h : GB k enc R S B w v t L) : ∀ g, v.ownBlock = some g → B ≤ g ∧ g < w.heap.size := by
  obtain ⟨V, _, h2, _⟩ := h.row
  exact fun g hg => h2.lt g hg
theorem GB.move {S : Nat → Prop} {B : Nat} {w w' : World} {v : Value} {t : TypeId} {L : List α} (h : GB k enc R S B w v t L) (ha : Ag S w w') (hv : ∀ g, v.ownBlock = some g → w'.heap[g]? = w.heap[g]?) (hs : w.heap.size ≤ w'.heap.size) : GB k enc R S B w' v t L := by
  obtain ⟨V, h1, h2, h3⟩ := h.row
  exact ⟨⟨V, h1, rowK_at h2 hv, fun i p nd hp hn => (h3 i p nd hp hn).move ha⟩, fun g hg => Nat.lt_of_lt_of_le (h.lt g hg) hs, h.own⟩
theorem GB.below {S : Nat → Prop} {B : Nat} {w w' : World} {v : Value} {t : TypeId} {L : List α} (h : GB k enc R S B w v t L) (hb : Below w.heap.size w w') : GB k enc R S B w' v t L :=
  h.move (fun g hg => hb.block g (h.lt g hg)) (fun g hg => hb.block g (h.lt_own g hg).2) hb.size
theorem GB.mono {S S' : Nat → Prop} {B : Nat} {w : World} {v : Value} {t : TypeId} {L : List α} (h : GB k enc R S B w v t L) (hs : ∀ g, S g → S' g) (hlt : ∀ g, S' g → g < w.heap.size) (hown : ∀ g, v.ownBlock = some g → ¬ S' g) : GB k enc R S' B w v t L := by
  obtain ⟨V, h1, h2, h3⟩ := h.row
  exact ⟨⟨V, h1, h2, fun i p nd hp hn => (h3 i p nd hp hn).mono hs⟩, hlt, hown⟩
theorem GB.shape {S : Nat → Prop} {B : Nat} {w : World} {v : Value} {t : TypeId} {L : List α} (h : GB k enc R S B w v t L) : ∃ a c, v = .slice a L.length c := by
  obtain ⟨V, h1, h2, h3⟩ := h.row
  obtain ⟨a, c, e, _⟩ := rdK_of_row h2
  exact ⟨a, c, e⟩
/-- an element more, or several -/
theorem GB.pushes {S SW : Nat → Prop} {B : Nat} {w x y : World} {v u : Value} {t : TypeId} {L M : List α} {V U : List β} (h : GB k enc R S B w v t L) (hV : V.length = L.length) (h3 : ∀ (i : Nat) p nd, V[i]? = some p → L[i]? = some nd → RS R S w p nd)
    (hb : Below w.heap.size w x) (hg : x.grownBy y v.ownBlock) (hU : U.length = M.length) (ho : y.ownsRow B t k u (L.length + M.length) (V.flatMap enc ++ U.flatMap enc)) (hv : ∀ g, u.ownBlock = some g → v.ownBlock = some g ∨ w.heap.size ≤ g)
    (hp : ∀ (i : Nat) p nd, U[i]? = some p → M[i]? = some nd → RS R SW w p nd) (hSW : ∀ g, SW g → g < w.heap.size ∧ v.ownBlock ≠ some g) :
    GB k enc R (fun g => S g ∨ SW g) B y u t (L ++ M) := by
  have hx := hb.size
  have hgx : w.grownBy y v.ownBlock := ⟨hg.os.trans hb.os, hg.tape.trans hb.tape, hg.output.trans hb.output, Nat.le_trans hx hg.size, fun g g1 g2 => (hg.block g (by omega) g2).trans (hb.block g g1)⟩
  have ha : Ag S w y := fun g hg' => hgx.block g (h.lt g hg') (fun e => h.own g e.symm hg')
  have ha2 : Ag SW w y := fun g hg' => hgx.block g (hSW g hg').1 (fun e => (hSW g hg').2 e.symm)
  refine ⟨⟨V ++ U, by rw [List.length_append, List.length_append, hV, hU], ?_, fun i q m hq hm => ?_⟩, fun g hg => ?_, fun g hg' hS => ?_⟩
  · rw [List.flatMap_append, List.length_append]; exact ho
  · by_cases hi : i < V.length
    · rw [List.getElem?_append_left hi] at hq
      rw [List.getElem?_append_left (by omega)] at hm
      exact ((h3 i q m hq hm).move ha).mono fun _ h => .inl h
    · rw [List.getElem?_append_right (by omega)] at hq
      rw [List.getElem?_append_right (by omega), ← hV] at hm
      exact ((hp _ q m hq hm).move ha2).mono fun _ h => .inr h
  · rcases hg with hg | hg
    · exact Nat.lt_of_lt_of_le (h.lt g hg) hgx.size
    · exact Nat.lt_of_lt_of_le (hSW g hg).1 hgx.size
  · rcases hv g hg' with h1 | h1
    · rcases hS with hS | hS
      · exact h.own g h1 hS
      · exact (hSW g hS).2 h1
    · rcases hS with hS | hS
      · have := h.lt g hS; omega
      · have := (hSW g hS).1; omega
end

/-! trees of the program: five cells -/
structure TrV where
  leaf : Bool
  server : Int
  need : Int
  wv : Value
  kv : Value
def trVC (p : TrV) : List Value := [.bool p.leaf, .int .i64 p.server, .int .i64 p.need, p.wv, p.kv]
theorem trVC_len (p : TrV) : (trVC p).length = 5 := rfl
inductive TrM (w : World) : TrV → ET → Prop where
  | srv (s : Int) : TrM w ⟨true, s, 0, .slice none 0 0, .slice none 0 0⟩ (.srv s)
  | thr (n : Int) (ws : List Int) (ks : List ET) (aw : Option Addr) (nw cw : Nat) (ak : Option Addr) (nk ck : Nat) (V : List TrV)
      (hw : Rd w aw nw cw (ws.map (Value.int .i64))) (hl : V.length = ks.length) (hk : RdK 5 w ak nk ck (V.flatMap trVC))
      (hr : ∀ (i : Nat) p t, V[i]? = some p → ks[i]? = some t → TrM w p t) : TrM w ⟨false, 0, n, .slice aw nw cw, .slice ak nk ck⟩ (.thr n ws ks)
theorem TrM.keep {w w' : World} {p : TrV} {t : ET} (h : TrM w p t) (hb : Below w.heap.size w w') : TrM w' p t := by
  induction h with
  | srv s => exact .srv s
  | thr n ws ks aw nw cw ak nk ck V hw hl hk hr ih => exact .thr n ws ks aw nw cw ak nk ck V (hw.below hb) hl (hk.below hb) ih
/-- reads by the blocks of a set alone -/
abbrev TrS (S : Nat → Prop) (w : World) (p : TrV) (t : ET) : Prop := RS TrM S w p t
/-- .. by those of a range -/
def Rng (lo hi : Nat) : Nat → Prop := fun g => lo ≤ g ∧ g < hi
theorem TrS.srv (S : Nat → Prop) (w : World) (s : Int) : TrS S w ⟨true, s, 0, .slice none 0 0, .slice none 0 0⟩ (.srv s) := fun _ _ => .srv s
end Go.Proofs.YtmjgdnpfgkpaoaaGreatDoor
namespace Go.Proofs.YtmjgdnpfgkpaoaaGreatDoor
open Go.RowKit Go.Shelf

end Go.Proofs.YtmjgdnpfgkpaoaaGreatDoor
namespace Go.Proofs.YtmjgdnpfgkpaoaaGreatDoor
open Go.RowKit
section
variable {P : Program} {ops : Array Oper} {md : Region.Mode} {C : World → Prop}

/-- the first n operations in any order, each quiet in the class; then L -/
def headQ (P : Program) (md : Region.Mode) (ops : Array Oper) (C : World → Prop) (n : Nat) (L : Array Bool → Act → Prop) : Nat → Array Bool → Act → Prop
  | 0, listed, a => L listed a
  | f + 1, listed, a => Region.ready md ops listed ≠ [] ∧ ∀ i ∈ Region.ready md ops listed, i < n ∧ qOp P ops C i (headQ P md ops C n L f (listed.setIfInBounds i true)) a

theorem any_of_headQ {n g : Nat} {L : Array Bool → Act → Prop} {Q' : Exit → Act → World → Prop} (hL : ∀ listed a w, C w → L listed a → wpAny P md ops Q' g listed a w) :
    ∀ (f : Nat) (listed : Array Bool) (a : Act) (w : World), C w → headQ P md ops C n L f listed a → wpAny P md ops Q' (f + g) listed a w
  | 0, listed, a, w, hw, h => by rw [Nat.zero_add]; exact hL _ _ _ hw h
  | f + 1, listed, a, w, hw, h => by
    rw [show f + 1 + g = (f + g) + 1 by omega]
    exact ⟨fun h0 => absurd h0 h.1, fun i hi => wpOp_of_qOp hw (fun a' w' hw' h' => any_of_headQ hL f _ a' w' hw' h') (h.2 i hi).2⟩

theorem headQ_first {n i : Nat} {oi : Oper} {v : Value} {L : Array Bool → Act → Prop} (hi : ops[i]? = some oi) (hsel : ∀ (j : Nat) (o : Oper) cs b, ops[j]? = some o → o.op ≠ .select cs b)
    (hs : Region.sinkB md ops n = true) (hc : Region.chainB md ops n = true) (hn : n < ops.size) (hin : i < n)
    (hdone : ∀ listed a, L listed a → ∀ j ∈ Region.ready md ops listed, n ≤ j) :
    ∀ (f : Nat) (listed : Array Bool) (a : Act), HeadInv md ops n listed →
      (∀ j oj, ops[j]? = some oj → j ≠ i → listed.getD j true = false → (∀ e ∈ oj.after, Region.binds md e = true → e.on ≠ i) → oi.apart ops oj = true) →
      i ∈ Region.ready md ops listed → YieldsIn P ops C oi v a →
      headQ P md ops C n L f (listed.setIfInBounds i true) (a.put oi.dst v) → headQ P md ops C n L (f + 1) listed a := by
  intro f
  induction f with
  | zero =>
    intro listed a inv _ hr hy H
    have hun := (mem_ready.1 hr).1
    refine ⟨fun h => (by rw [h] at hr; cases hr), fun j hj => ?_⟩
    have hjn : j < n := by
      rcases Nat.lt_or_ge j n with h | h
      · exact h
      · exact absurd hj (tail_waits hs hc hn inv _ i rfl hin hun j h)
    refine ⟨hjn, ?_⟩
    by_cases hji : j = i
    · subst hji; exact hy.qOp hi H
    · have := hdone _ _ H j (ready_mono hj hji)
      omega
  | succ f ih =>
    intro listed a inv hfree hr hy H
    have hun := (mem_ready.1 hr).1
    refine ⟨fun h => (by rw [h] at hr; cases hr), fun j hj => ?_⟩
    have hjn : j < n := by
      rcases Nat.lt_or_ge j n with h | h
      · exact h
      · exact absurd hj (tail_waits hs hc hn inv _ i rfl hin hun j h)
    refine ⟨hjn, ?_⟩
    by_cases hji : j = i
    · subst hji; exact hy.qOp hi H
    · have h1 := (H.2 j (ready_mono hj hji)).2
      obtain ⟨hjun, oj, hoj, hall⟩ := mem_ready.1 hj
      have hnot : ∀ e ∈ oj.after, Region.binds md e = true → e.on ≠ i := fun e he hb heq => by
        have h1 := hall e he hb
        rw [heq, getD_both hun] at h1
        cases h1
      have h2 := qOp_put hoj (hfree j oj hoj hji hjun hnot) (fun cs b => hsel i oi cs b hi) (fun cs b => hsel j oj cs b hoj) hy h1
      have hfree' : ∀ k ok, ops[k]? = some ok → k ≠ i → (listed.setIfInBounds j true).getD k true = false →
          (∀ e ∈ ok.after, Region.binds md e = true → e.on ≠ i) → oi.apart ops ok = true := fun k ok hk hki hun hno => by
        refine hfree k ok hk hki ?_ hno
        by_cases hjk : j = k
        · subst hjk; exact hjun
        · rw [getD_set_ne true hjk] at hun; exact hun
      refine qOp_mono (fun a' h3 => ih (listed.setIfInBounds j true) a' (inv.set hj hjn) hfree' (ready_mono hr (Ne.symm hji)) h3.1 ?_) h2
      rw [Array.setIfInBounds_comm _ _ hji]
      exact h3.2

theorem headQ_lex {n g : Nat} {Lq : Act → Prop} (hsel : Region.noSelect ops = true) (hs : Region.sinkB md ops n = true) (hc : Region.chainB md ops n = true) (hn : n < ops.size) :
    ∀ (l : List Oper) (k : Nat) (listed : Array Bool) (a : Act), (∀ j, j < l.length → l[j]? = ops[k + j]?) → k + l.length = n → HeadInv md ops n listed →
    Region.lexHead md ops g l.length k listed = true → wpQuiet P ops C Lq l a →
    headQ P md ops C n (fun listed' a' => Region.seqB md ops g n listed' = true ∧ Lq a') l.length listed a
  | [], k, listed, a, _, hk, _, hB, h => by
    have : k = n := by simpa using hk
    subst this
    exact ⟨by simpa [Region.lexHead] using hB, h⟩
  | o :: l, k, listed, a, hl, hk, inv, hB, h => by
    have h0 : ops[k]? = some o := by simpa using (hl 0 (by simp)).symm
    simp only [List.length_cons, Region.lexHead, Bool.and_eq_true] at hB
    obtain ⟨⟨hr, hf⟩, hB'⟩ := hB
    have hkn : k < n := by simp only [List.length_cons] at hk; omega
    have hr' : k ∈ Region.ready md ops listed := by simpa using hr
    have hst : qOp P ops C k (wpQuiet P ops C Lq l) a := by unfold qOp; simp only [h0]; exact h
    obtain ⟨v, hy, hK⟩ := yieldsIn_of_qOp h0 hst
    exact headQ_first h0 (Region.noSelect_spec hsel) hs hc hn hkn (fun listed' a' hL => seqB_ready hL.1) l.length listed a inv (Region.free_spec h0 hf) hr' hy
      (headQ_lex hsel hs hc hn l (k + 1) _ _ (fun j hj => by have := hl (j + 1) (by simp; omega); simpa [Nat.add_assoc, Nat.add_comm 1 j] using this) (by simp only [List.length_cons] at hk; omega) (inv.set hr' hkn) hB' hK)

/-- one walk in the order of the text serves every order; the tail stands behind, in any world of the class -/
theorem wp_region_quiet_tail {id : Nat} {Q : Exit → Act → World → Prop} {a : Act} {w : World} {l : List Oper} (C : World → Prop) (n : Nat) (hm : P.follows .mixedOrders = true) (hB : Region.lexTailB .any l.toArray n = true) (hC : C { w with drawn := w.drawn + 1 })
    (h : wpQuiet P l.toArray C (fun a' => ∀ w', C w' → wpList P l.toArray Q (l.drop n) a' w') (l.take n) a) : (Code.region id l.toArray true).wp P Q a w := by
  simp only [Region.lexTailB, Bool.and_eq_true, decide_eq_true_eq] at hB
  obtain ⟨⟨⟨⟨hsel, hn⟩, hs⟩, hc⟩, hlex⟩ := hB
  have hn' : n < l.length := by simpa using hn
  have htl : (l.take n).length = n := by simp; omega
  have hdl : (l.drop n).length = l.toArray.size - n := by simp
  have inv0 : HeadInv .any l.toArray n (Array.replicate l.toArray.size false) :=
    ⟨by simp, fun j oj _ hl => (by rw [getD_replicate_false] at hl; cases hl), fun t _ ht => getD_in (by simpa using ht) (getD_replicate_false _ _)⟩
  have H := headQ_lex (md := .any) (C := C) (g := l.toArray.size - n) hsel hs hc hn (l.take n) 0 _ a (fun j hj => by
    have hj' : j < n := by rw [htl] at hj; exact hj
    simp [hj']) (by simpa using htl) inv0 (by rw [htl]; exact hlex) h
  refine wp_region_any hm ?_
  have := any_of_headQ (Q' := Q) (g := l.toArray.size - n) (fun listed a' w' hw' hL => by
    have := wpAny_of_seq (md := .any) (Q' := Q) (l.drop n) n listed a' w' (fun j => by simp [List.getElem?_drop]) (by rw [hdl]; exact hL.1) (hL.2 w' hw')
    rwa [hdl] at this) _ _ _ _ hC H
  rw [htl, show n + (l.toArray.size - n) = l.toArray.size by omega] at this
  exact this
end
end Go.Proofs.YtmjgdnpfgkpaoaaGreatDoor
