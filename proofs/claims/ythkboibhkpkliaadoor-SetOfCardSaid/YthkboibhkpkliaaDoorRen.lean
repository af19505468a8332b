/- Rename undone: the plain law. -/
import Derived.Test.YthkboibhkpkliaaDoorW07d
import Derived.Test.YthkboibhkpkliaaDoorInts
namespace Go.Proofs.YthkboibhkpkliaaDoor
open Go.RowKit Go.Shelf

theorem ofS_ok : ∀ (l : List Int) (s r : BitVec 16), ofS s l = (r, 0) → ∃ ns : List Nat, l = ns.map natI ∧ ns.Nodup ∧ (∀ i ∈ ns, i < 12 ∧ hasB s i = false) ∧ r = orL s ns := by
  intro l
  induction l with
  | nil => intro s r h; refine ⟨[], rfl, List.nodup_nil, fun i hi => (by cases hi), ?_⟩; simpa [ofS, orL, eq_comm] using h
  | cons a l ih =>
    intro s r h
    rw [ofS] at h
    by_cases h1 : a < 0 ∨ 12 ≤ a
    · rw [addS, if_pos h1] at h; simp at h
    · rw [addS, if_neg h1] at h
      cases h2 : hasB s a.toNat with
      | true => rw [h2] at h; simp at h
      | false =>
        rw [h2] at h
        simp only [Bool.false_eq_true, if_false, if_true] at h
        obtain ⟨ns, e1, e2, e3, e4⟩ := ih _ _ h
        have hb : a.toNat < 12 := by omega
        refine ⟨a.toNat :: ns, ?_, ?_, ?_, e4⟩
        · rw [List.map_cons, ← e1]; congr 1; unfold natI; omega
        · refine List.nodup_cons.2 ⟨fun hm => ?_, e2⟩
          have h3 := (e3 _ hm).2
          rw [hasB_or, hasB_bit _ _ (by omega)] at h3; simp at h3
        · intro i hi
          rcases List.mem_cons.1 hi with rfl | hi
          · exact ⟨hb, h2⟩
          · have h3 := e3 i hi
            refine ⟨h3.1, ?_⟩
            have h4 := h3.2
            rw [hasB_or] at h4; simp at h4; exact h4.1
/-- 'Of' takes every list of distinct numbers of servers. -/
theorem ofS_nodup (l : List Nat) : ∀ s : BitVec 16, l.Nodup → (∀ i ∈ l, i < 12 ∧ hasB s i = false) → ofS s (l.map natI) = (orL s l, 0) := by
  induction l with
  | nil => intro s _ _; rfl
  | cons i l ih =>
    intro s hp hs
    have h0 := hs i (by simp)
    have hne := (List.nodup_cons.1 hp).1
    have e : addS s (natI i) = (s ||| bitS i, 0) := by
      unfold addS natI
      rw [if_neg (by omega), if_neg (by simp [h0.2])]
      rfl
    rw [List.map_cons, ofS, e]
    simp only [if_true]
    refine ih _ (List.nodup_cons.1 hp).2 fun j hj => ?_
    have h1 := hs j (by simp [hj])
    refine ⟨h1.1, ?_⟩
    rw [hasB_or, h1.2, hasB_bit i j (by omega), Bool.false_or]
    have : ¬ j = i := fun e => hne (e ▸ hj)
    simpa using this
theorem memS_orL (ns : List Nat) (hn : ∀ i ∈ ns, i < 16) (p : Nat) : p ∈ memS (orL 0#16 ns) ↔ p ∈ ns := by
  rw [mem_memS, hasB_orL _ _ _ hn, hasB_zero]; simp
/-- what the law lays into 'back' -/
def backTo (ns ms : List Nat) (b : List Int) : List Int := (List.zip ns ms).foldl (fun b q => b.set q.1 (natI q.2)) b
theorem backTo_len (ns : List Nat) : ∀ (ms : List Nat) (b : List Int), (backTo ns ms b).length = b.length := by
  induction ns with
  | nil => intro ms b; rfl
  | cons n ns ih =>
    intro ms b
    cases ms with
    | nil => rfl
    | cons m ms => show (backTo ns ms _).length = _; rw [ih]; simp
theorem backTo_other (ns : List Nat) : ∀ (ms : List Nat) (b : List Int) (p : Nat), p ∉ ns → (backTo ns ms b)[p]? = b[p]? := by
  induction ns with
  | nil => intro ms b p _; rfl
  | cons n ns ih =>
    intro ms b p hp
    cases ms with
    | nil => rfl
    | cons m ms =>
      show (backTo ns ms _)[p]? = _
      rw [ih _ _ _ (fun h => hp (by simp [h])), List.getElem?_set_ne (fun e => hp (by have e : n = p := e; simp [e]))]
theorem backTo_at (ns : List Nat) : ∀ (ms : List Nat) (b : List Int) (k : Nat) (n m : Nat), ns.Nodup → (∀ n ∈ ns, n < b.length) → ns[k]? = some n → ms[k]? = some m → (backTo ns ms b)[n]? = some (natI m) := by
  induction ns with
  | nil => intro ms b k n m _ _ h; simp at h
  | cons n' ns ih =>
    intro ms b k n m hd hb hn hm
    cases ms with
    | nil => simp at hm
    | cons m' ms =>
      have hd' := List.nodup_cons.1 hd
      cases k with
      | zero =>
        simp at hn hm; subst hn hm
        show (backTo ns ms _)[n']? = _
        rw [backTo_other _ _ _ _ hd'.1, List.getElem?_set_self (hb n' (by simp))]
      | succ k =>
        show (backTo ns ms _)[n]? = _
        exact ih ms _ k n m hd'.2 (fun j hj => by rw [List.length_set]; exact hb j (by simp [hj])) (by simpa using hn) (by simpa using hm)
theorem backTo_take (ns ms : List Nat) (b : List Int) (k n m : Nat) (hn : ns[k]? = some n) (hm : ms[k]? = some m) : backTo (ns.take (k + 1)) (ms.take (k + 1)) b = (backTo (ns.take k) (ms.take k) b).set n (natI m) := by
  induction ns generalizing ms b k with
  | nil => simp at hn
  | cons n' ns ih =>
    cases ms with
    | nil => simp at hm
    | cons m' ms =>
      cases k with
      | zero =>
        simp at hn hm; subst hn hm
        simp [backTo]
      | succ k =>
        show backTo (ns.take (k + 1)) (ms.take (k + 1)) _ = (backTo (ns.take k) (ms.take k) _).set n (natI m)
        exact ih _ _ _ (by simpa using hn) (by simpa using hm)
/-- RENAME UNDONE -/
theorem ren_back (x r : BitVec 16) (tt : List Int) (h : renS x tt = (r, 0)) : ∃ ns : List Nat, ns.length = cnt x ∧ ns.Nodup ∧ (∀ n ∈ ns, n < 12) ∧ (∀ (k i : Nat), (memS x)[k]? = some i → ∃ n, ns[k]? = some n ∧ tt[i]? = some (natI n)) ∧
    cnt r = cnt x ∧ (U x < 4096 → ∀ b : List Int, b.length = 12 → renS r (backTo ns (memS x) b) = (x, 0)) := by
  obtain ⟨ns, e1, e2, e3, e4⟩ := ofS_ok _ _ _ h
  have hlen : ns.length = cnt x := by have := congrArg List.length e1; rw [entries_len] at this; simpa using this.symm
  have h12 : ∀ n ∈ ns, n < 12 := fun n hn => (e3 n hn).1
  have hcr : (memS r).Perm ns := by
    rw [List.perm_ext_iff_of_nodup ((memS_sorted r).imp (fun h => Nat.ne_of_lt h)) e2]
    intro p; rw [e4]; exact memS_orL ns (fun i hi => by have := h12 i hi; omega) p
  refine ⟨ns, hlen, e2, h12, ?_, ?_, ?_⟩
  · intro k i hk
    have hk' := (List.getElem?_eq_some_iff.1 hk).1
    have h1 : (entries x tt)[k]? = some ((tt[i]?).getD (-1)) := by unfold entries; rw [List.getElem?_map, hk]; rfl
    rw [e1, List.getElem?_map] at h1
    cases h2 : ns[k]? with
    | none => rw [h2] at h1; simp at h1
    | some n =>
      rw [h2] at h1
      refine ⟨n, rfl, ?_⟩
      cases h3 : tt[i]? with
      | none => rw [h3] at h1; simp [natI] at h1
      | some z => rw [h3] at h1; simp at h1; rw [h1]
  · unfold cnt; rw [hcr.length_eq]; exact hlen
  · intro hx b hb
    have hb12 : ∀ n ∈ ns, n < b.length := fun n hn => by have := h12 n hn; omega
    -- the list of what stands behind each member of r
    have hmem : ∀ p ∈ memS r, ∃ i, i ∈ memS x ∧ (backTo ns (memS x) b)[p]? = some (natI i) ∧ ∃ k : Nat, ns[k]? = some p ∧ (memS x)[k]? = some i := by
      intro p hp
      obtain ⟨k, hk⟩ := List.getElem?_of_mem (hcr.mem_iff.1 hp)
      have hk' := (List.getElem?_eq_some_iff.1 hk).1
      have hm : k < (memS x).length := by have : (memS x).length = cnt x := rfl; omega
      have hi : (memS x)[k]? = some (memS x)[k] := List.getElem?_eq_getElem hm
      exact ⟨(memS x)[k], List.getElem_mem hm, backTo_at ns _ b k p _ e2 hb12 hk hi, k, hk, hi⟩
    let g : Nat → Nat := fun p => (((backTo ns (memS x) b)[p]?).getD (-1)).toNat
    have hg : ∀ p ∈ memS r, ∃ i, i ∈ memS x ∧ g p = i ∧ ((backTo ns (memS x) b)[p]?).getD (-1) = natI (g p) ∧ ∃ k : Nat, ns[k]? = some p ∧ (memS x)[k]? = some i := by
      intro p hp
      obtain ⟨i, h1, h2, h3⟩ := hmem p hp
      have : g p = i := by show (((backTo ns (memS x) b)[p]?).getD (-1)).toNat = i; rw [h2]; simp [natI]
      exact ⟨i, h1, this, by rw [this, h2]; rfl, h3⟩
    have he : entries r (backTo ns (memS x) b) = ((memS r).map g).map natI := by
      unfold entries; rw [List.map_map]
      exact List.map_congr_left fun p hp => by obtain ⟨i, _, _, h3, _⟩ := hg p hp; exact h3
    have hinj : ∀ p ∈ memS r, ∀ q ∈ memS r, g p = g q → p = q := by
      intro p hp q hq hpq
      obtain ⟨i, h1, h2, _, k, h4, h5⟩ := hg p hp
      obtain ⟨j, h1', h2', _, k', h4', h5'⟩ := hg q hq
      have hij : i = j := by omega
      subst hij
      have hk : k = k' := by
        have hd : (memS x).Nodup := (memS_sorted x).imp (fun h => Nat.ne_of_lt h)
        exact (List.getElem?_inj (List.getElem?_eq_some_iff.1 h5).1 hd).1 (h5.trans h5'.symm)
      subst hk
      exact Option.some.inj (h4.symm.trans h4')
    unfold renS
    rw [he, ofS_nodup]
    · congr 1
      apply hasB_ext
      intro p _
      rw [hasB_orL _ _ _ (fun i hi => ?_), hasB_zero, Bool.false_or]
      · cases hp : hasB x p with
        | true =>
          obtain ⟨k, hk⟩ := List.getElem?_of_mem (mem_memS.2 hp)
          have hk' : k < ns.length := by have := (List.getElem?_eq_some_iff.1 hk).1; have : (memS x).length = cnt x := rfl; omega
          have hq : ns[k] ∈ memS r := hcr.mem_iff.2 (List.getElem_mem hk')
          have h2 := backTo_at ns _ b k ns[k] p e2 hb12 (List.getElem?_eq_getElem hk') hk
          have : g ns[k] = p := by show (((backTo ns (memS x) b)[ns[k]]?).getD (-1)).toNat = p; rw [h2]; simp [natI]
          simp only [decide_eq_true_eq]
          exact List.mem_map.2 ⟨_, hq, this⟩
        | false =>
          simp only [decide_eq_false_iff_not]
          intro hm
          obtain ⟨q, hq, rfl⟩ := List.mem_map.1 hm
          obtain ⟨i, h1, h2, _⟩ := hg q hq
          rw [h2] at hp
          rw [mem_memS.1 h1] at hp; cases hp
      · obtain ⟨q, hq, rfl⟩ := List.mem_map.1 hi
        obtain ⟨i, h1, h2, _⟩ := hg q hq
        rw [h2]; exact memS_16 x i h1
    · have : (memS r).Nodup := (memS_sorted r).imp (fun h => Nat.ne_of_lt h)
      rw [List.Nodup, List.pairwise_map]
      exact List.Pairwise.imp_of_mem (fun {p q} hp hq hne hpq => hne (hinj p hp q hq hpq)) this
    · intro i hi
      obtain ⟨q, hq, rfl⟩ := List.mem_map.1 hi
      obtain ⟨i, h1, h2, _⟩ := hg q hq
      rw [h2]
      exact ⟨(lt12_iff x).2 hx i h1, hasB_zero i⟩
end Go.Proofs.YthkboibhkpkliaaDoor
