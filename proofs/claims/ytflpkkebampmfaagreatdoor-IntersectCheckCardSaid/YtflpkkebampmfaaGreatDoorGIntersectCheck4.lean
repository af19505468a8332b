/- Texts laid together. Layer 20, plain: the search for a certificate. No program. Layer 20, plain: pairs of sets that violate; the lists of both. No program. The reference's Of, Rename, Choose, Subsets, Same; set.Rename; slices.Equal and Clone of ints. The reference's Rename, Within, Choose, Subsets, Same; slices.Equal and Clone of ints. The reference's Choose. The reference's Subsets, Same; slices.Equal and Clone of ints. The subsets with k members, by numbers with k bits. Plain. The subsets of a set: how many, and which; the length of a family. Plain, no program. The expression of a description, plain. No program. Layer 20, plain: what the laws of certificates say. No program. -/
import Derived.Test.YtflpkkebampmfaaGreatDoorGIntersectCheck1
import Derived.Test.YtflpkkebampmfaaGreatDoorGIntersectCheck2
namespace Go.Proofs.YtflpkkebampmfaaGreatDoor

inductive CT where
  | fx : CT
  | fy : CT
  | nd : Nat → CT → CT → CT
def CT.sz : CT → Nat
  | .fx => 1
  | .fy => 1
  | .nd _ l r => l.sz + r.sz + 1
/-- the nodes of a tree, the first one having an index -/
def CT.bod : CT → Nat → List Cho
  | .fx, _ => [⟨-1, 0, 0⟩]
  | .fy, _ => [⟨-2, 0, 0⟩]
  | .nd i l r, k => l.bod k ++ r.bod (k + l.sz) ++ [⟨i, ((k + l.sz - 1 : Nat) : Int), ((k + l.sz + r.sz - 1 : Nat) : Int)⟩]
theorem CT.sz_pos (T : CT) : 1 ≤ T.sz := by cases T <;> simp [CT.sz]
theorem CT.bod_len (T : CT) : ∀ k, (T.bod k).length = T.sz := by
  induction T with
  | fx => intro k; rfl
  | fy => intro k; rfl
  | nd i l r h1 h2 => intro k; simp [CT.bod, CT.sz, h1, h2]; omega
def CT.top : CT → Cho → Prop
  | .fx, c => c = ⟨-1, 0, 0⟩
  | .fy, c => c = ⟨-2, 0, 0⟩
  | .nd i _ _, c => c.server = (i : Int)

/-- the search: members that are left, what was given to both sides -/
def proveL (x y : Xpr) : List Nat → BitVec 16 → BitVec 16 → Option CT
  | [], a, b => if holdX x (allV &&& ~~~b) = false then some .fx else if holdX y (allV &&& ~~~a) = false then some .fy else none
  | i :: l, a, b => if holdX x (allV &&& ~~~b) = false then some .fx else if holdX y (allV &&& ~~~a) = false then some .fy else
    match proveL x y l (a ||| bitS i) b with
    | none => none
    | some T => match proveL x y l a (b ||| bitS i) with
      | none => none
      | some U => some (.nd i T U)
def rightT (x y : Xpr) (b0 : BitVec 16) : CT → BitVec 16 → BitVec 16 → Bool
  | .fx, _, q => !holdX x (allV &&& ~~~q)
  | .fy, p, _ => !holdX y (allV &&& ~~~p)
  | .nd i l r, p, q => (bitS i &&& (b0 ||| p ||| q) == 0#16) && (rightT x y b0 l (p ||| bitS i) q && rightT x y b0 r p (q ||| bitS i))
def CT.low : CT → Prop
  | .fx => True
  | .fy => True
  | .nd i l r => i < 12 ∧ l.low ∧ r.low

theorem proveL_sz {x y : Xpr} : ∀ (l : List Nat) (a b : BitVec 16) (T : CT), proveL x y l a b = some T → T.sz + 1 ≤ 2 ^ (l.length + 1) := by
  intro l
  induction l with
  | nil =>
    intro a b T h
    unfold proveL at h
    split at h
    · cases h; decide
    · split at h
      · cases h; decide
      · cases h
  | cons i l ih =>
    intro a b T h
    have h2 : 2 ≤ 2 ^ (l.length + 1) := by
      have := Nat.one_le_two_pow (n := l.length)
      rw [Nat.pow_succ]; omega
    unfold proveL at h
    rw [List.length_cons, Nat.pow_succ]
    split at h
    · cases h; show 1 + 1 ≤ _; omega
    · split at h
      · cases h; show 1 + 1 ≤ _; omega
      · split at h
        · cases h
        · rename_i T1 h3
          split at h
          · cases h
          · rename_i U1 h4
            cases h
            have := ih _ _ _ h3
            have := ih _ _ _ h4
            show T1.sz + U1.sz + 1 + 1 ≤ _
            omega
theorem proveL_low {x y : Xpr} : ∀ (l : List Nat) (a b : BitVec 16) (T : CT), (∀ i ∈ l, i < 12) → proveL x y l a b = some T → T.low := by
  intro l
  induction l with
  | nil =>
    intro a b T _ h
    unfold proveL at h
    split at h
    · cases h; trivial
    · split at h
      · cases h; trivial
      · cases h
  | cons i l ih =>
    intro a b T hl h
    unfold proveL at h
    split at h
    · cases h; trivial
    · split at h
      · cases h; trivial
      · split at h
        · cases h
        · rename_i T1 h3
          split at h
          · cases h
          · rename_i U1 h4
            cases h
            exact ⟨hl i (List.mem_cons_self ..), ih _ _ _ (fun j hj => hl j (List.mem_cons_of_mem _ hj)) h3, ih _ _ _ (fun j hj => hl j (List.mem_cons_of_mem _ hj)) h4⟩
theorem bit_free {b0 a b : BitVec 16} {i : Nat} (hi : i < 16) (h0 : hasB b0 i = false) (h1 : hasB a i = false) (h2 : hasB b i = false) : (bitS i &&& (b0 ||| a ||| b) == 0#16) = true := by
  rw [beq_iff_eq]
  refine hasB_ext fun j hj => ?_
  rw [hasB_zero, hasB_and, hasB_bit _ _ hi]
  by_cases h : j = i
  · subst h; rw [hasB_or, hasB_or, h0, h1, h2]; simp
  · rw [decide_eq_false h]; rfl
theorem proveL_right {x y : Xpr} {b0 : BitVec 16} : ∀ (l : List Nat) (a b : BitVec 16) (T : CT), l.Nodup → (∀ i ∈ l, i < 12 ∧ hasB b0 i = false ∧ hasB a i = false ∧ hasB b i = false) → proveL x y l a b = some T → rightT x y b0 T a b = true := by
  intro l
  induction l with
  | nil =>
    intro a b T _ _ h
    unfold proveL at h
    split at h
    · rename_i h1; cases h; unfold rightT; rw [h1]; rfl
    · split at h
      · rename_i h1; cases h; unfold rightT; rw [h1]; rfl
      · cases h
  | cons i l ih =>
    intro a b T hnd hl h
    unfold proveL at h
    split at h
    · rename_i h1; cases h; unfold rightT; rw [h1]; rfl
    · split at h
      · rename_i h1; cases h; unfold rightT; rw [h1]; rfl
      · split at h
        · cases h
        · rename_i T1 h3
          split at h
          · cases h
          · rename_i U1 h4
            cases h
            obtain ⟨hi, hi0, hia, hib⟩ := hl i (List.mem_cons_self ..)
            have hnd1 := List.nodup_cons.1 hnd
            have hsub : ∀ j ∈ l, j ≠ i := fun j hj e => hnd1.1 (by rw [← e]; exact hj)
            have r1 := ih _ _ _ hnd1.2 (fun j hj => by
              obtain ⟨g1, g2, g3, g4⟩ := hl j (List.mem_cons_of_mem _ hj)
              exact ⟨g1, g2, by rw [hasB_or, g3, hasB_bit _ _ (by omega), decide_eq_false (hsub j hj)]; rfl, g4⟩) h3
            have r2 := ih _ _ _ hnd1.2 (fun j hj => by
              obtain ⟨g1, g2, g3, g4⟩ := hl j (List.mem_cons_of_mem _ hj)
              exact ⟨g1, g2, g3, by rw [hasB_or, g4, hasB_bit _ _ (by omega), decide_eq_false (hsub j hj)]; rfl⟩) h4
            show ((bitS i &&& (b0 ||| a ||| b) == 0#16) && (rightT x y b0 T1 (a ||| bitS i) b && rightT x y b0 U1 a (b ||| bitS i))) = true
            rw [bit_free (by omega) hi0 hia hib, r1, r2]; rfl
/-- where the search fails, everything can be given so that both sides are still satisfied -/
theorem proveL_none {x y : Xpr} (hx : XprOk x) (hy : XprOk y) : ∀ (l : List Nat) (a b : BitVec 16), (∀ i ∈ l, i < 16) → proveL x y l a b = none → ∃ A B : BitVec 16, holdX x (allV &&& ~~~B) = true ∧ holdX y (allV &&& ~~~A) = true ∧ (∀ i, hasB a i = true ∨ hasB b i = true ∨ i ∈ l → hasB A i = true ∨ hasB B i = true) := by
  intro l
  induction l with
  | nil =>
    intro a b _ h
    unfold proveL at h
    split at h
    · cases h
    · rename_i h1
      split at h
      · cases h
      · rename_i h2
        refine ⟨a, b, by simpa using h1, by simpa using h2, fun i hi => ?_⟩
        rcases hi with hi | hi | hi
        · exact .inl hi
        · exact .inr hi
        · cases hi
  | cons i l ih =>
    intro a b hl h
    have hi16 := hl i (List.mem_cons_self ..)
    have hl' : ∀ j ∈ l, j < 16 := fun j hj => hl j (List.mem_cons_of_mem _ hj)
    unfold proveL at h
    split at h
    · cases h
    · split at h
      · cases h
      · split at h
        · rename_i h3
          obtain ⟨A, B, q1, q2, q3⟩ := ih _ _ hl' h3
          refine ⟨A, B, q1, q2, fun j hj => q3 j ?_⟩
          rw [hasB_or, Bool.or_eq_true, hasB_bit _ _ hi16, decide_eq_true_eq]
          rcases hj with hj | hj | hj
          · exact .inl (.inl hj)
          · exact .inr (.inl hj)
          · rcases List.mem_cons.1 hj with rfl | hj
            · exact .inl (.inr rfl)
            · exact .inr (.inr hj)
        · split at h
          · rename_i h4
            obtain ⟨A, B, q1, q2, q3⟩ := ih _ _ hl' h4
            refine ⟨A, B, q1, q2, fun j hj => q3 j ?_⟩
            rw [hasB_or, Bool.or_eq_true, hasB_bit _ _ hi16, decide_eq_true_eq]
            rcases hj with hj | hj | hj
            · exact .inl hj
            · exact .inr (.inl (.inl hj))
            · rcases List.mem_cons.1 hj with rfl | hj
              · exact .inr (.inl (.inr rfl))
              · exact .inr (.inr hj)
          · cases h

/-! the nodes of a tree are well formed -/
theorem bod_last (T : CT) (k : Nat) : ∃ c, (T.bod k)[T.sz - 1]? = some c ∧ T.top c := by
  cases T with
  | fx => exact ⟨_, rfl, rfl⟩
  | fy => exact ⟨_, rfl, rfl⟩
  | nd i l r =>
    refine ⟨⟨i, ((k + l.sz - 1 : Nat) : Int), ((k + l.sz + r.sz - 1 : Nat) : Int)⟩, ?_, rfl⟩
    show (l.bod k ++ r.bod (k + l.sz) ++ _)[l.sz + r.sz + 1 - 1]? = _
    rw [List.getElem?_append_right (by simp [CT.bod_len])]
    simp [CT.bod_len]
theorem bod_nodes (T : CT) (hT : T.low) : ∀ (k j : Nat) (c : Cho), (T.bod k)[j]? = some c → nodC c (k + j) = true := by
  induction T with
  | fx => intro k j c h; match j, h with
    | 0, h => cases h; rfl
  | fy => intro k j c h; match j, h with
    | 0, h => cases h; rfl
  | nd i l r h1 h2 =>
    intro k j c h
    obtain ⟨hi, hl, hr⟩ := hT
    have hls := l.sz_pos
    have hrs := r.sz_pos
    unfold CT.bod at h
    by_cases q1 : j < l.sz
    · rw [List.append_assoc, List.getElem?_append_left (by rw [CT.bod_len]; exact q1)] at h
      exact h1 hl k j c h
    · by_cases q2 : j < l.sz + r.sz
      · rw [List.getElem?_append_left (by rw [List.length_append, CT.bod_len, CT.bod_len]; exact q2), List.getElem?_append_right (by rw [CT.bod_len]; omega), CT.bod_len] at h
        have := h2 hr (k + l.sz) (j - l.sz) c h
        rwa [show k + l.sz + (j - l.sz) = k + j by omega] at this
      · rw [List.getElem?_append_right (by rw [List.length_append, CT.bod_len, CT.bod_len]; omega), List.length_append, CT.bod_len, CT.bod_len] at h
        have hj : j = l.sz + r.sz := by
          have := (List.getElem?_eq_some_iff.1 h).1
          simp at this; omega
        rw [hj, Nat.sub_self] at h
        simp only [List.getElem?_cons_zero, Option.some.injEq] at h
        subst h
        have hlf : leafC ⟨i, ((k + l.sz - 1 : Nat) : Int), ((k + l.sz + r.sz - 1 : Nat) : Int)⟩ = false := by
          unfold leafC
          rw [Bool.or_eq_false_iff, decide_eq_false_iff_not, decide_eq_false_iff_not]
          show ¬ (i : Int) = -1 ∧ ¬ (i : Int) = -2
          omega
        unfold nodC
        rw [hlf, if_neg (by decide)]
        simp only [Bool.and_eq_true, decide_eq_true_eq]
        omega
theorem getD_set {ps : List Int} {i j : Nat} {v : Int} (hi : i < ps.length) : (ps.set i v).getD j 0 = if j = i then v else ps.getD j 0 := by
  rw [List.getD_eq_getElem?_getD, List.getElem?_set]
  by_cases h : i = j
  · subst h; rw [if_pos rfl, if_pos hi, if_pos rfl]; rfl
  · rw [if_neg h, if_neg (fun e => h e.symm), List.getD_eq_getElem?_getD]
theorem bod_pars (T : CT) (hT : T.low) : ∀ (k : Nat) (ps : List Int), k + T.sz ≤ ps.length → (∀ j, k ≤ j → j < k + T.sz → ps.getD j 0 = 0) →
    ((T.bod k).foldl parStep ps).length = ps.length ∧ ∀ j, ((T.bod k).foldl parStep ps).getD j 0 = if k ≤ j ∧ j + 1 < k + T.sz then 1 else ps.getD j 0 := by
  induction T with
  | fx =>
    intro k ps _ _
    refine ⟨rfl, fun j => ?_⟩
    rw [if_neg (by show ¬ (k ≤ j ∧ j + 1 < k + 1); omega)]; rfl
  | fy =>
    intro k ps _ _
    refine ⟨rfl, fun j => ?_⟩
    rw [if_neg (by show ¬ (k ≤ j ∧ j + 1 < k + 1); omega)]; rfl
  | nd i l r h1 h2 =>
    intro k ps hlen hz
    obtain ⟨hi, hl, hr⟩ := hT
    have hls := l.sz_pos
    have hrs := r.sz_pos
    have hsz : (CT.nd i l r).sz = l.sz + r.sz + 1 := rfl
    rw [hsz] at hlen hz ⊢
    obtain ⟨a1, a2⟩ := h1 hl k ps (by omega) (fun j q1 q2 => hz j q1 (by omega))
    obtain ⟨b1, b2⟩ := h2 hr (k + l.sz) _ (by rw [a1]; omega) (fun j q1 q2 => by rw [a2, if_neg (by omega)]; exact hz j (by omega) (by omega))
    unfold CT.bod
    rw [List.foldl_append, List.foldl_append, List.foldl_cons, List.foldl_nil]
    obtain ⟨qs, hqs⟩ : ∃ qs, List.foldl parStep (List.foldl parStep ps (l.bod k)) (r.bod (k + l.sz)) = qs := ⟨_, rfl⟩
    rw [hqs] at b1 b2 ⊢
    have hlf : leafC ⟨i, ((k + l.sz - 1 : Nat) : Int), ((k + l.sz + r.sz - 1 : Nat) : Int)⟩ = false := by
      unfold leafC
      rw [Bool.or_eq_false_iff, decide_eq_false_iff_not, decide_eq_false_iff_not]
      show ¬ (i : Int) = -1 ∧ ¬ (i : Int) = -2
      omega
    rw [parStep_len]
    refine ⟨by omega, fun j => ?_⟩
    unfold parStep
    rw [hlf, if_neg (by decide)]
    unfold bumpS
    simp only [Int.toNat_natCast]
    rw [getD_set (by rw [List.length_set]; omega), getD_set (by omega), getD_set (by omega)]
    have e1 : qs.getD (k + l.sz - 1) 0 = 0 := by rw [b2, if_neg (by omega), a2, if_neg (by omega)]; exact hz _ (by omega) (by omega)
    have e2 : qs.getD (k + l.sz + r.sz - 1) 0 = 0 := by rw [b2, if_neg (by omega), a2, if_neg (by omega)]; exact hz _ (by omega) (by omega)
    rw [e1, e2]
    by_cases q1 : j = k + l.sz + r.sz - 1
    · rw [if_pos q1, if_neg (by omega), if_pos (by omega)]; rfl
    · rw [if_neg q1]
      by_cases q2 : j = k + l.sz - 1
      · rw [if_pos q2, if_pos (by omega)]; rfl
      · rw [if_neg q2, b2]
        by_cases q3 : k + l.sz ≤ j ∧ j + 1 < k + l.sz + r.sz
        · rw [if_pos q3, if_pos (by omega)]
        · rw [if_neg q3, a2]
          by_cases q4 : k ≤ j ∧ j + 1 < k + l.sz
          · rw [if_pos q4, if_pos (by omega)]
          · rw [if_neg q4, if_neg (by omega)]
/-- the tree as a value -/
def CT.tre (T : CT) : Tre := ⟨T.bod 0, ((T.sz - 1 : Nat) : Int)⟩
theorem tre_form (T : CT) (hT : T.low) (hs : T.sz ≤ 8191) : formC T.tre = true := by
  have hp := T.sz_pos
  have hl : T.tre.nodes.length = T.sz := T.bod_len 0
  unfold formC sizeC
  rw [hl]
  simp only [Bool.and_eq_true, decide_eq_true_eq]
  refine ⟨⟨⟨⟨⟨by omega, hs⟩, by show (0 : Int) ≤ ((T.sz - 1 : Nat) : Int); omega⟩, by show ((T.sz - 1 : Nat) : Int) < _; omega⟩, ?_⟩, ?_⟩
  · unfold nodsC
    refine List.all_eq_true.2 fun i hi => ?_
    have hi2 := List.mem_range.1 hi
    have hc : T.tre.nodes[i]? = some (T.tre.nodes.getD i cho0) := by rw [List.getD_eq_getElem?_getD, List.getElem?_eq_getElem hi2]; rfl
    have := bod_nodes T hT 0 i _ hc
    rwa [Nat.zero_add] at this
  · unfold parsB
    refine List.all_eq_true.2 fun i hi => ?_
    have hi2 := List.mem_range.1 hi
    rw [hl] at hi2
    have hb := (bod_pars T hT 0 (List.replicate T.sz 0) (by simp) (fun j _ _ => by rw [List.getD_eq_getElem?_getD, List.getElem?_replicate]; split <;> rfl)).2 i
    have hpt : parTo T.tre.nodes T.tre.nodes.length = (T.bod 0).foldl parStep (List.replicate T.sz 0) := by
      unfold parTo
      rw [List.take_length, hl]; rfl
    unfold parB
    rw [hpt, hb]
    by_cases q : (i : Int) = T.tre.root
    · have q' : i = T.sz - 1 := by have : (i : Int) = ((T.sz - 1 : Nat) : Int) := q; omega
      rw [if_pos q, if_neg (by omega), List.getD_eq_getElem?_getD, List.getElem?_replicate]; split <;> rfl
    · have q' : i ≠ T.sz - 1 := fun e => q (by show (i : Int) = ((T.sz - 1 : Nat) : Int); omega)
      rw [if_neg q, if_pos (by omega)]; rfl
theorem tre_right {x y : Xpr} {b0 : BitVec 16} (T : CT) (hT : T.low) : ∀ (k f : Nat) (N : List Cho) (p q : BitVec 16), T.sz ≤ f → (∀ j c, (T.bod k)[j]? = some c → N[k + j]? = some c) → rightF x y b0 N f ((k + T.sz - 1 : Nat) : Int) p q = rightT x y b0 T p q := by
  induction T with
  | fx =>
    intro k f N p q hf hN
    obtain ⟨f, rfl⟩ : ∃ g, f = g + 1 := ⟨f - 1, by have : 1 ≤ f := hf; omega⟩
    have hc := hN 0 _ rfl
    have hg : N.getD (((k + CT.fx.sz - 1 : Nat) : Int)).toNat cho0 = ⟨-1, 0, 0⟩ := by
      rw [Int.toNat_natCast, List.getD_eq_getElem?_getD, show k + CT.fx.sz - 1 = k + 0 by show k + 1 - 1 = k + 0; omega, hc]; rfl
    unfold rightF
    rw [hg]
    rfl
  | fy =>
    intro k f N p q hf hN
    obtain ⟨f, rfl⟩ : ∃ g, f = g + 1 := ⟨f - 1, by have : 1 ≤ f := hf; omega⟩
    have hc := hN 0 _ rfl
    have hg : N.getD (((k + CT.fy.sz - 1 : Nat) : Int)).toNat cho0 = ⟨-2, 0, 0⟩ := by
      rw [Int.toNat_natCast, List.getD_eq_getElem?_getD, show k + CT.fy.sz - 1 = k + 0 by show k + 1 - 1 = k + 0; omega, hc]; rfl
    unfold rightF
    rw [hg]
    rfl
  | nd i l r h1 h2 =>
    intro k f N p q hf hN
    obtain ⟨hi, hl, hr⟩ := hT
    have hls := l.sz_pos
    have hrs := r.sz_pos
    have hsz : (CT.nd i l r).sz = l.sz + r.sz + 1 := rfl
    rw [hsz] at hf ⊢
    obtain ⟨f, rfl⟩ : ∃ g, f = g + 1 := ⟨f - 1, by omega⟩
    have hc : N[k + (l.sz + r.sz)]? = some ⟨i, ((k + l.sz - 1 : Nat) : Int), ((k + l.sz + r.sz - 1 : Nat) : Int)⟩ := by
      refine hN (l.sz + r.sz) _ ?_
      show (l.bod k ++ r.bod (k + l.sz) ++ _)[l.sz + r.sz]? = _
      rw [List.getElem?_append_right (by simp [CT.bod_len])]
      simp [CT.bod_len]
    have hNl : ∀ j c, (l.bod k)[j]? = some c → N[k + j]? = some c := fun j c h => hN j c (by
      show (l.bod k ++ r.bod (k + l.sz) ++ _)[j]? = _
      have := (List.getElem?_eq_some_iff.1 h).1
      rw [List.append_assoc, List.getElem?_append_left this]; exact h)
    have hNr : ∀ j c, (r.bod (k + l.sz))[j]? = some c → N[k + l.sz + j]? = some c := fun j c h => by
      have := hN (l.sz + j) c (by
        show (l.bod k ++ r.bod (k + l.sz) ++ _)[l.sz + j]? = _
        have hjl := (List.getElem?_eq_some_iff.1 h).1
        rw [List.getElem?_append_left (by rw [List.length_append, CT.bod_len]; omega), List.getElem?_append_right (by rw [CT.bod_len]; omega), CT.bod_len]
        rw [show l.sz + j - l.sz = j by omega]; exact h)
      rwa [← Nat.add_assoc] at this
    unfold rightF
    have hg : N.getD (((k + (l.sz + r.sz + 1) - 1 : Nat) : Int)).toNat cho0 = ⟨i, ((k + l.sz - 1 : Nat) : Int), ((k + l.sz + r.sz - 1 : Nat) : Int)⟩ := by
      rw [Int.toNat_natCast, List.getD_eq_getElem?_getD, show k + (l.sz + r.sz + 1) - 1 = k + (l.sz + r.sz) by omega, hc]; rfl
    rw [hg]
    simp only
    rw [if_neg (by omega), if_neg (by omega), Int.toNat_natCast, h1 hl k f N _ q (by omega) hNl]
    have := h2 hr (k + l.sz) f N p (q ||| bitS i) (by omega) hNr
    rw [this]
    show _ = ((bitS i &&& (b0 ||| p ||| q) == 0#16) && (rightT x y b0 l (p ||| bitS i) q && rightT x y b0 r p (q ||| bitS i)))
    cases hz : (bitS i &&& (b0 ||| p ||| q) == 0#16)
    · rfl
    · rfl
theorem tre_cert {x y : Xpr} {b0 : BitVec 16} (T : CT) (hT : T.low) (hs : T.sz ≤ 8191) (hr : rightT x y b0 T 0#16 0#16 = true) : certC x y b0 T.tre = true := by
  unfold certC
  rw [tre_form T hT hs]
  have := tre_right (x := x) (y := y) (b0 := b0) T hT 0 T.sz (T.bod 0) 0#16 0#16 (Nat.le_refl _) (fun j c h => by rwa [Nat.zero_add])
  rw [Nat.zero_add] at this
  show (true && rightF x y b0 (T.bod 0) (T.bod 0).length ((T.sz - 1 : Nat) : Int) 0#16 0#16) = true
  rw [T.bod_len, this, hr]; rfl
/-- what a search returns -/
def prvS (x y : Xpr) (l : List Nat) : Tre × Int := match proveL x y l 0#16 0#16 with
  | some T => (T.tre, 0)
  | none => (⟨[], 0⟩, 12)
/-- the search decides whether the families intersect -/
theorem prove_iff {x y : Xpr} (hx : XprOk x) (hy : XprOk y) {b0 : BitVec 16} {l : List Nat} (hnd : l.Nodup) (hl : ∀ i ∈ l, i < 12 ∧ hasB b0 i = false) (hll : l.length ≤ 12) (hall : ∀ i, i < 12 → hasB (srvX x) i = true ∨ hasB (srvX y) i = true → hasB b0 i = false → i ∈ l)
    {f g : List (BitVec 16)} (hf : ∀ s, accS f s = holdX x s) (hg : ∀ s, accS g s = holdX y s) (hfs : ∀ F ∈ f, ∀ i, hasB F i = true → hasB (srvX x) i = true) (hgs : ∀ G ∈ g, ∀ i, hasB G i = true → hasB (srvX y) i = true) :
    (famsB f g b0 = true → ∃ T, proveL x y l 0#16 0#16 = some T ∧ certC x y b0 T.tre = true) ∧ (famsB f g b0 = false → proveL x y l 0#16 0#16 = none) := by
  have key : ∀ T, proveL x y l 0#16 0#16 = some T → certC x y b0 T.tre = true := fun T h => by
    have h1 := proveL_sz l _ _ T h
    have h2 : 2 ^ (l.length + 1) ≤ 2 ^ 13 := Nat.pow_le_pow_right (by decide) (by omega)
    exact tre_cert T (proveL_low l _ _ T (fun i hi => (hl i hi).1) h) (by omega) (proveL_right l _ _ T hnd (fun i hi => ⟨(hl i hi).1, (hl i hi).2, hasB_zero i, hasB_zero i⟩) h)
  have hfh : ∀ F ∈ f, holdX x F = true ∧ ∀ i, hasB F i = true → i < 12 := fun F hF => by
    refine ⟨?_, fun i hi => srvX_12 hx (hfs F hF i hi)⟩
    rw [← hf]; exact List.any_eq_true.2 ⟨F, hF, (subB_iff F F).2 fun _ h => h⟩
  have hgh : ∀ G ∈ g, holdX y G = true ∧ ∀ i, hasB G i = true → i < 12 := fun G hG => by
    refine ⟨?_, fun i hi => srvX_12 hy (hgs G hG i hi)⟩
    rw [← hg]; exact List.any_eq_true.2 ⟨G, hG, (subB_iff G G).2 fun _ h => h⟩
  constructor
  · intro hfam
    cases hp : proveL x y l 0#16 0#16 with
    | some T => exact ⟨T, rfl, key T hp⟩
    | none =>
      exfalso
      obtain ⟨A, B, h1, h2, h3⟩ := proveL_none hx hy l _ _ (fun i hi => by have := (hl i hi).1; omega) hp
      rw [← hf] at h1
      rw [← hg] at h2
      obtain ⟨F, hF, hFs⟩ := List.any_eq_true.1 h1
      obtain ⟨G, hG, hGs⟩ := List.any_eq_true.1 h2
      have hv := List.all_eq_true.1 (List.all_eq_true.1 hfam F hF) G hG
      have : viol F G b0 = true := (viol_iff _ _ _).2 fun i hi hj => by
        have f1 := (subB_iff _ _).1 hFs i hi
        have g1 := (subB_iff _ _).1 hGs i hj
        rw [hasB_allnot, Bool.and_eq_true, decide_eq_true_eq, Bool.not_eq_true'] at f1 g1
        cases hb : hasB b0 i
        · exfalso
          have := hall i f1.1 (.inl (hfs F hF i hi)) hb
          rcases h3 i (.inr (.inr this)) with h | h
          · rw [g1.2] at h; cases h
          · rw [f1.2] at h; cases h
        · rfl
      rw [this] at hv; cases hv
  · intro hfam
    cases hp : proveL x y l 0#16 0#16 with
    | none => rfl
    | some T =>
      exfalso
      have := cert_sound hx hy (key T hp) hfh hgh
      rw [hfam] at this; cases this
end Go.Proofs.YtflpkkebampmfaaGreatDoor
namespace Go.Proofs.YtflpkkebampmfaaGreatDoor

/-- a step of the search: the best pair so far, and a further one -/
def srcStep (b : BitVec 16) (sz : BitVec 16 → Nat) (o : Option (BitVec 16 × BitVec 16)) (x y : BitVec 16) : Option (BitVec 16 × BitVec 16) :=
  if viol x y b = true then
    match o with
    | none => some (x, y)
    | some p => if sz (x ||| y) < sz (p.1 ||| p.2) then some (x, y) else some p
  else o
def srcRow (b : BitVec 16) (sz : BitVec 16 → Nat) (x : BitVec 16) (g : List (BitVec 16)) (o : Option (BitVec 16 × BitVec 16)) : Option (BitVec 16 × BitVec 16) := g.foldl (fun o y => srcStep b sz o x y) o
def srcFrom (b : BitVec 16) (sz : BitVec 16 → Nat) (f g : List (BitVec 16)) (o : Option (BitVec 16 × BitVec 16)) : Option (BitVec 16 × BitVec 16) := f.foldl (fun o x => srcRow b sz x g o) o
def srcS (b : BitVec 16) (sz : BitVec 16 → Nat) (f g : List (BitVec 16)) : Option (BitVec 16 × BitVec 16) := srcFrom b sz f g none

theorem srcRow_succ {b : BitVec 16} {sz : BitVec 16 → Nat} {x : BitVec 16} {g : List (BitVec 16)} {o : Option (BitVec 16 × BitVec 16)} {k : Nat} {y : BitVec 16} (h : g[k]? = some y) : srcRow b sz x (g.take (k + 1)) o = srcStep b sz (srcRow b sz x (g.take k) o) x y := by
  unfold srcRow; rw [List.take_add_one, h]; simp
theorem srcFrom_succ {b : BitVec 16} {sz : BitVec 16 → Nat} {f g : List (BitVec 16)} {o : Option (BitVec 16 × BitVec 16)} {k : Nat} {x : BitVec 16} (h : f[k]? = some x) : srcFrom b sz (f.take (k + 1)) g o = srcRow b sz x g (srcFrom b sz (f.take k) g o) := by
  unfold srcFrom; rw [List.take_add_one, h]; simp
theorem srcRow_split {b : BitVec 16} {sz : BitVec 16 → Nat} {x : BitVec 16} {g : List (BitVec 16)} {o : Option (BitVec 16 × BitVec 16)} (k : Nat) : srcRow b sz x g o = srcRow b sz x (g.drop k) (srcRow b sz x (g.take k) o) := by
  unfold srcRow; rw [← List.foldl_append, List.take_append_drop]
theorem srcFrom_split {b : BitVec 16} {sz : BitVec 16 → Nat} {f g : List (BitVec 16)} {o : Option (BitVec 16 × BitVec 16)} (k : Nat) : srcFrom b sz f g o = srcFrom b sz (f.drop k) g (srcFrom b sz (f.take k) g o) := by
  unfold srcFrom; rw [← List.foldl_append, List.take_append_drop]

/-! a found pair stays if sizes do not differ -/
theorem srcStep_zero (b : BitVec 16) (p : BitVec 16 × BitVec 16) (x y : BitVec 16) : srcStep b (fun _ => 0) (some p) x y = some p := by
  unfold srcStep; split
  · simp
  · rfl
theorem srcRow_zero (b : BitVec 16) (p : BitVec 16 × BitVec 16) (x : BitVec 16) : ∀ g, srcRow b (fun _ => 0) x g (some p) = some p := by
  intro g
  induction g with
  | nil => rfl
  | cons y g ih => unfold srcRow at ih ⊢; rw [List.foldl_cons, srcStep_zero, ih]
theorem srcFrom_zero (b : BitVec 16) (p : BitVec 16 × BitVec 16) (g : List (BitVec 16)) : ∀ f, srcFrom b (fun _ => 0) f g (some p) = some p := by
  intro f
  induction f with
  | nil => rfl
  | cons x f ih => unfold srcFrom at ih ⊢; rw [List.foldl_cons, srcRow_zero, ih]
/-- the first pair, found at a place of two walks -/
theorem src_hit {b : BitVec 16} {f g : List (BitVec 16)} {i j : Nat} {x y : BitVec 16} (hx : f[i]? = some x) (hy : g[j]? = some y) (h1 : srcFrom b (fun _ => 0) (f.take i) g none = none) (h2 : srcRow b (fun _ => 0) x (g.take j) none = none) (hv : viol x y b = true) :
    srcS b (fun _ => 0) f g = some (x, y) := by
  unfold srcS
  rw [srcFrom_split (i + 1), srcFrom_succ hx, h1, srcRow_split (j + 1), srcRow_succ hy, h2]
  have : srcStep b (fun _ => 0) none x y = some (x, y) := by unfold srcStep; rw [if_pos hv]
  rw [this, srcRow_zero, srcFrom_zero]
theorem srcStep_miss {b : BitVec 16} {sz : BitVec 16 → Nat} {o : Option (BitVec 16 × BitVec 16)} {x y : BitVec 16} (hv : viol x y b = false) : srcStep b sz o x y = o := by
  unfold srcStep; rw [if_neg (by rw [hv]; decide)]

/-! the least pair, from the first pair on -/
theorem srcRow_none {b : BitVec 16} {sz : BitVec 16 → Nat} {x : BitVec 16} : ∀ {g : List (BitVec 16)}, srcRow b sz x g none = none → ∀ o sz', srcRow b sz' x g o = o := by
  intro g
  induction g with
  | nil => intro _ o sz'; rfl
  | cons y g ih =>
    intro h o sz'
    unfold srcRow at h ih ⊢
    rw [List.foldl_cons] at h ⊢
    by_cases hv : viol x y b = true
    · exfalso
      have e : srcStep b sz none x y = some (x, y) := by unfold srcStep; rw [if_pos hv]
      rw [e] at h
      have keep : ∀ (l : List (BitVec 16)) (p : BitVec 16 × BitVec 16), l.foldl (fun o y => srcStep b sz o x y) (some p) ≠ none := by
        intro l
        induction l with
        | nil => intro p hp; cases hp
        | cons z l ih2 =>
          intro p
          rw [List.foldl_cons]
          have : ∃ q, srcStep b sz (some p) x z = some q := by
            unfold srcStep; split
            · dsimp only; split
              · exact ⟨_, rfl⟩
              · exact ⟨_, rfl⟩
            · exact ⟨_, rfl⟩
          obtain ⟨q, hq⟩ := this
          rw [hq]; exact ih2 q
      exact keep g _ h
    · have hv' : viol x y b = false := by simpa using hv
      rw [srcStep_miss hv'] at h ⊢
      exact ih h o sz'
theorem srcRow_some (b : BitVec 16) (sz : BitVec 16 → Nat) (x : BitVec 16) : ∀ (l : List (BitVec 16)) (p : BitVec 16 × BitVec 16), ∃ q, srcRow b sz x l (some p) = some q := by
  intro l
  induction l with
  | nil => intro p; exact ⟨p, rfl⟩
  | cons z l ih2 =>
    intro p
    unfold srcRow at ih2 ⊢
    rw [List.foldl_cons]
    have : ∃ q, srcStep b sz (some p) x z = some q := by
      unfold srcStep; split
      · dsimp only; split
        · exact ⟨_, rfl⟩
        · exact ⟨_, rfl⟩
      · exact ⟨_, rfl⟩
    obtain ⟨q, hq⟩ := this
    rw [hq]; exact ih2 q
theorem srcFrom_some (b : BitVec 16) (sz : BitVec 16 → Nat) (g : List (BitVec 16)) : ∀ (l : List (BitVec 16)) (p : BitVec 16 × BitVec 16), ∃ q, srcFrom b sz l g (some p) = some q := by
  intro l
  induction l with
  | nil => intro p; exact ⟨p, rfl⟩
  | cons z l ih2 =>
    intro p
    unfold srcFrom at ih2 ⊢
    rw [List.foldl_cons]
    obtain ⟨q, hq⟩ := srcRow_some b sz z g p
    rw [hq]; exact ih2 q
theorem srcFrom_none {b : BitVec 16} {sz : BitVec 16 → Nat} {g : List (BitVec 16)} : ∀ {f : List (BitVec 16)}, srcFrom b sz f g none = none → ∀ o sz', srcFrom b sz' f g o = o := by
  intro f
  induction f with
  | nil => intro _ o sz'; rfl
  | cons x f ih =>
    intro h o sz'
    have e : srcFrom b sz (x :: f) g none = srcFrom b sz f g (srcRow b sz x g none) := rfl
    rw [e] at h
    cases hr : srcRow b sz x g none with
    | some p =>
      rw [hr] at h
      obtain ⟨q, hq⟩ := srcFrom_some b sz g f p
      rw [hq] at h; cases h
    | none =>
      rw [hr] at h
      show srcFrom b sz' f g (srcRow b sz' x g o) = o
      rw [srcRow_none hr]
      exact ih h o sz'
/-- from the first pair on, the search comes to the same pair as from none on -/
theorem src_from_row {b : BitVec 16} {sz : BitVec 16 → Nat} {x : BitVec 16} : ∀ {g : List (BitVec 16)} {p : BitVec 16 × BitVec 16}, srcRow b (fun _ => 0) x g none = some p → srcRow b sz x g (some p) = srcRow b sz x g none := by
  intro g
  induction g with
  | nil => intro p h; cases h
  | cons y g ih =>
    intro p h
    by_cases hv : viol x y b = true
    · have e0 : srcRow b (fun _ => 0) x (y :: g) none = srcRow b (fun _ => 0) x g (srcStep b (fun _ => 0) none x y) := rfl
      have e1 : ∀ sz', srcStep b sz' none x y = some (x, y) := fun sz' => by unfold srcStep; rw [if_pos hv]
      rw [e0, e1, srcRow_zero] at h
      cases h
      show srcRow b sz x g (srcStep b sz (some (x, y)) x y) = srcRow b sz x g (srcStep b sz none x y)
      rw [e1]
      have : srcStep b sz (some (x, y)) x y = some (x, y) := by unfold srcStep; rw [if_pos hv]; simp
      rw [this]
    · have hv' : viol x y b = false := by simpa using hv
      have e0 : srcRow b (fun _ => 0) x (y :: g) none = srcRow b (fun _ => 0) x g (srcStep b (fun _ => 0) none x y) := rfl
      rw [e0, srcStep_miss hv'] at h
      show srcRow b sz x g (srcStep b sz (some p) x y) = srcRow b sz x g (srcStep b sz none x y)
      rw [srcStep_miss hv', srcStep_miss hv']
      exact ih h
theorem src_from {b : BitVec 16} {sz : BitVec 16 → Nat} {g : List (BitVec 16)} : ∀ {f : List (BitVec 16)} {p : BitVec 16 × BitVec 16}, srcFrom b (fun _ => 0) f g none = some p → srcFrom b sz f g (some p) = srcFrom b sz f g none := by
  intro f
  induction f with
  | nil => intro p h; cases h
  | cons x f ih =>
    intro p h
    have e : srcFrom b (fun _ => 0) (x :: f) g none = srcFrom b (fun _ => 0) f g (srcRow b (fun _ => 0) x g none) := rfl
    rw [e] at h
    show srcFrom b sz f g (srcRow b sz x g (some p)) = srcFrom b sz f g (srcRow b sz x g none)
    cases hr : srcRow b (fun _ => 0) x g none with
    | some q =>
      rw [hr, srcFrom_zero] at h
      cases h
      rw [src_from_row hr]
    | none =>
      rw [hr] at h
      rw [srcRow_none hr, srcRow_none hr]
      exact ih h
theorem srcS_none {b : BitVec 16} {f g : List (BitVec 16)} (h : srcS b (fun _ => 0) f g = none) (sz : BitVec 16 → Nat) : srcS b sz f g = none := srcFrom_none h _ _

/-- what Pair and Least answer -/
def pairS (b : BitVec 16) (sz : BitVec 16 → Nat) (f g : List (BitVec 16)) : BitVec 16 × BitVec 16 × Int :=
  if valS f ≠ 0 then (0#16, 0#16, valS f) else if valS g ≠ 0 then (0#16, 0#16, valS g) else
  match srcS b sz f g with
  | none => (0#16, 0#16, 13)
  | some p => (p.1, p.2, 0)

/-! two families intersect: symmetric -/
theorem viol_comm (x y b : BitVec 16) : viol x y b = viol y x b := by
  unfold viol; rw [BitVec.and_comm x y]
theorem famsB_comm (f g : List (BitVec 16)) (b : BitVec 16) : famsB g f b = famsB f g b := by
  unfold famsB
  rw [Bool.eq_iff_iff, List.all_eq_true, List.all_eq_true]
  constructor
  · intro h x hx
    exact List.all_eq_true.2 fun y hy => by rw [viol_comm]; exact List.all_eq_true.1 (h y hy) x hx
  · intro h x hx
    exact List.all_eq_true.2 fun y hy => by rw [viol_comm]; exact List.all_eq_true.1 (h y hy) x hx
theorem famsB_hit {f g : List (BitVec 16)} {b x y : BitVec 16} {i j : Nat} (hx : f[i]? = some x) (hy : g[j]? = some y) (h : viol x y b = true) : famsB f g b = false := by
  rw [Bool.eq_false_iff]
  intro hc
  have := List.all_eq_true.1 (List.all_eq_true.1 hc x (List.mem_of_getElem? hx)) y (List.mem_of_getElem? hy)
  rw [h] at this; cases this
theorem famsB_all {f g : List (BitVec 16)} {b : BitVec 16} (h : ∀ (i : Nat) x, f[i]? = some x → ∀ (j : Nat) y, g[j]? = some y → viol x y b = false) : famsB f g b = true := by
  refine List.all_eq_true.2 fun x hx => List.all_eq_true.2 fun y hy => ?_
  obtain ⟨i, hi⟩ := List.mem_iff_getElem?.1 hx
  obtain ⟨j, hj⟩ := List.mem_iff_getElem?.1 hy
  rw [h i x hi j y hj]; rfl
end Go.Proofs.YtflpkkebampmfaaGreatDoor
namespace Go.Proofs.YtflpkkebampmfaaGreatDoor
open Go.RowKit

/-- the entries of the members -/
def entries (x : BitVec 16) (to : List Int) : List Int := (memS x).map fun i => (to[i]?).getD (-1)
def renS (x : BitVec 16) (to : List Int) : BitVec 16 × Int := ofS 0#16 (entries x to)

theorem memS_lt {x : BitVec 16} {k i : Nat} (h : (memS x)[k]? = some i) : i < 16 := by
  have := List.mem_of_getElem? h
  simp [memS] at this
  exact this.1
theorem addS_neg (s : BitVec 16) : addS s (-1) = (0#16, 7) := by simp [addS]

end Go.Proofs.YtflpkkebampmfaaGreatDoor
namespace Go.Proofs.YtflpkkebampmfaaGreatDoor
open Go.RowKit

theorem ofS_append (p q : List Int) : ∀ s, ofS s (p ++ q) = if (ofS s p).2 = 0 then ofS (ofS s p).1 q else ofS s p := by
  induction p with
  | nil => intro s; simp [ofS]
  | cons i p ih =>
    intro s
    by_cases h0 : (addS s i).2 = 0
    · simp only [List.cons_append, ofS, if_pos h0]; exact ih _
    · simp only [List.cons_append, ofS, if_neg h0, if_false]

theorem ofS_stop {l : List Int} {k : Nat} (h : l[k]? = some (-1)) (s : BitVec 16) : ofS s (l.take (k + 1)) = ofS s l := by
  have e : l = l.take (k + 1) ++ l.drop (k + 1) := (List.take_append_drop _ _).symm
  have h2 : (ofS s (l.take (k + 1))).2 ≠ 0 := by
    rw [List.take_add_one, h, ofS_append]
    by_cases h0 : (ofS s (l.take k)).2 = 0
    · rw [if_pos h0]; simp [ofS, addS_neg]
    · rw [if_neg h0]; exact h0
  conv => rhs; rw [e, ofS_append, if_neg h2]

theorem entries_len (x : BitVec 16) (to : List Int) : (entries x to).length = cnt x := by simp [entries, cnt]
def intV' (i : Int) : Value := .int .i64 i

set_option maxHeartbeats 400000 in
theorem within_c (x y : BitVec 16) (s t : Int) (w : World) (hs : s = U x) (ht : t = U y) :
    Calls Tryz.prog 51 #[.int .u16 s, .int .u16 t] w fun e w' => e = .returned (.bool (x &&& ~~~y == 0#16)) ∧ w = w' := by
  subst hs ht
  go_enter Tryz.func51, Tryz.ntmps51
  go_wp2
  go_ret
  exact ⟨rfl, rfl⟩

def setV (x : BitVec 16) : Value := .int .u16 (U x)
def pickB (x : BitVec 16) (k : Int) (n : Nat) : Bool := (BitVec.ofNat 16 n &&& ~~~x == 0#16) && ((cnt (BitVec.ofNat 16 n) : Int) == k)
def pickTo (x : BitVec 16) (k : Int) (N : Nat) : List (BitVec 16) := ((List.range N).filter (pickB x k)).map (BitVec.ofNat 16)
/-- the subsets of x with k members, in order -/
def chooseS (x : BitVec 16) (k : Int) : List (BitVec 16) := pickTo x k 65536
theorem pickTo_succ (x : BitVec 16) (k : Int) (N : Nat) : pickTo x k (N + 1) = if pickB x k N then pickTo x k N ++ [BitVec.ofNat 16 N] else pickTo x k N := by
  unfold pickTo; rw [List.range_succ, List.filter_append]; cases h : pickB x k N <;> simp [h]
theorem pickTo_le (x : BitVec 16) (k : Int) (N : Nat) : (pickTo x k N).length ≤ N := by
  unfold pickTo; rw [List.length_map]; exact Nat.le_trans (List.length_filter_le _ _) (by simp)
theorem U_ofNat (n : Nat) (h : n < 65536) : (n : Int) = U (BitVec.ofNat 16 n) := by simp [U]; omega
theorem Tryz.infoSet : (Tryz.prog.info? 26).map (fun i => (i.zero, i.size, i.bytes)) = some (some (.int .u16 0), 1, 2) := by kernel_rfl

end Go.Proofs.YtflpkkebampmfaaGreatDoor
namespace Go.Proofs.YtflpkkebampmfaaGreatDoor
open Go.RowKit

set_option maxRecDepth 100000 in
set_option maxHeartbeats 2000000 in
theorem rchoose_c (x : BitVec 16) (s kk : Int) (w : World) (hs : s = U x) :
    Calls Tryz.prog 37 #[.int .u16 s, .int .i64 kk] w fun e w' => ∃ v, e = .returned v ∧ Own w w' 26 v ((chooseS x kk).map setV) ∧ Below w.heap.size w w' := by
  subst hs
  go_enter Tryz.func37, Tryz.ntmps37
  go_wp2
  go_loopw [5, 6] (fun v i wr => ∃ (n : Nat), Hid (n ≤ 65536) ∧ i = .int .i64 n ∧ wr.ownsRow w.heap.size 26 1 v (pickTo x kk n).length ((pickTo x kk n).map setV) ∧ Below w.heap.size w wr) (fun _ i _ => 65536 - (intOf i).toNat)
  case atStart => exact ⟨0, Nat.zero_le 65536, rfl, World.ownsRow_nil _ _ _ _, Below.refl _ _⟩
  case round =>
    obtain ⟨n, hn, rfl, hown, hb⟩ := hrel
    have hq : n / 256 ≤ 256 := by have := hn.out; omega
    by_cases hlt0 : n < 65536
    · have hlt := Lib.hid hlt0
      have HN := Lib.hid (U_ofNat n hlt0)
      have hdt : decide ((n : Int) < 65536) = true := by rw [decide_eq_true_eq]; omega
      have hwr : IntKind.u16.wrap (n : Int) = (n : Int) := by rw [IntKind.wrap_u16]; omega
      clear hlt0
      have hs := pickTo_succ x kk n
      have hle := pickTo_le x kk n
      cases hw : (BitVec.ofNat 16 n &&& ~~~x == 0#16)
      · have hp : pickB x kk n = false := by simp only [pickB, hw, Bool.false_and]
        rw [hp] at hs
        have HS := Lib.hid hs
        have HW := Lib.hid hw
        clear hs hw hp
        go_wp2_with fail
        refine (within_c (BitVec.ofNat 16 n) x _ _ _ HN.out rfl).mono ?_
        rintro e w2 ⟨rfl, rfl⟩
        rw [HW.out]
        go_wp2_with fail
        go_roundw
        case rel => exact ⟨n + 1, (by have := hlt.out; show n + 1 ≤ 65536; omega), by go_num, by rw [HS.out]; exact hown, hb⟩
        case measure => have := hlt.out; show 65536 - (n + 1) < 65536 - n; omega
      · cases hc : ((cnt (BitVec.ofNat 16 n) : Int) == kk)
        · have hp : pickB x kk n = false := by simp only [pickB, hc, Bool.and_false]
          rw [hp] at hs
          have HS := Lib.hid hs
          have HW := Lib.hid hw
          clear hs hw hp
          go_wp2_with fail
          refine (within_c (BitVec.ofNat 16 n) x _ _ _ HN.out rfl).mono ?_
          rintro e w2 ⟨rfl, rfl⟩
          rw [HW.out]
          go_wp2_with fail
          refine (rcount_c (BitVec.ofNat 16 n) _ _ HN.out).mono ?_
          rintro e w2 ⟨rfl, hb2⟩
          have hown2 := Own.below (w := w) (l := (pickTo x kk n).map setV) (by rw [Own, List.length_map]; exact hown) hb2
          go_wp2_with fail
          go_roundw
          case rel => exact ⟨n + 1, (by have := hlt.out; show n + 1 ≤ 65536; omega), by go_num, by rw [HS.out]; rw [Own, List.length_map] at hown2; exact hown2, Below.next hb hb2⟩
          case measure => have := hlt.out; show 65536 - (n + 1) < 65536 - n; omega
        · have hp : pickB x kk n = true := by simp only [pickB, hc, hw, Bool.and_true]
          rw [hp] at hs
          have HS := Lib.hid hs
          have HW := Lib.hid hw
          clear hs hw hp
          go_wp2_with fail
          refine (within_c (BitVec.ofNat 16 n) x _ _ _ HN.out rfl).mono ?_
          rintro e w2 ⟨rfl, rfl⟩
          rw [HW.out]
          go_wp2_with fail
          refine (rcount_c (BitVec.ofNat 16 n) _ _ HN.out).mono ?_
          rintro e w2 ⟨rfl, hb2⟩
          have hown2 := Own.below (w := w) (l := (pickTo x kk n).map setV) (by rw [Own, List.length_map]; exact hown) hb2
          rw [Own, List.length_map] at hown2
          have hb3 := Below.next hb hb2
          clear hown hb hb2
          go_wp2_with (at_builtin; go_must (refine wpList_app _ _ 32 2 (.int .u16 0) (.int .u16 n) _ Tryz.underlying32 Tryz.infoSet rfl hown2 hb3 (Nat.le_refl _) rfl rfl rfl rfl rfl (by unfold maxLen; omega) (by omega) ?_))
          intro v' w1 hown1 hb1 _ _
          clear hown2 hb3 hc
          go_wp2_with fail
          go_roundw
          case rel => exact ⟨n + 1, (by have := hlt.out; show n + 1 ≤ 65536; omega), by go_num, by rw [HS.out]; simp only [if_true, List.length_append, List.map_append, List.map_cons, List.map_nil, setV, ← HN.out]; exact hown1, hb1⟩
          case measure => have := hlt.out; show 65536 - (n + 1) < 65536 - n; omega
    · have hdt : decide ((n : Int) < 65536) = false := by rw [decide_eq_false_iff_not]; omega
      have hN : Hid (n = 65536) := by have := hn.out; show n = 65536; omega
      clear hlt0
      go_wp2_with fail
      go_ret
      exact ⟨_, rfl, by unfold Own chooseS; rw [List.length_map, ← hN.out]; exact hown, hb⟩
end Go.Proofs.YtflpkkebampmfaaGreatDoor
namespace Go.Proofs.YtflpkkebampmfaaGreatDoor
open Go.RowKit

/-- all subsets up to k members, in order -/
def subsTo (x : BitVec 16) (K : Nat) : List (BitVec 16) := (List.range K).flatMap fun (k : Nat) => chooseS x (k : Int)
def subsS (x : BitVec 16) : List (BitVec 16) := subsTo x (cnt x + 1)
theorem subsTo_succ (x : BitVec 16) (K : Nat) : subsTo x (K + 1) = subsTo x K ++ chooseS x K := by
  simp [subsTo, List.range_succ]
theorem chooseS_le (x : BitVec 16) (k : Int) : (chooseS x k).length ≤ 70000 := Nat.le_trans (pickTo_le x k 65536) (by decide)
theorem subsTo_le (x : BitVec 16) (K : Nat) : (subsTo x K).length ≤ 70000 * K := by
  induction K with
  | zero => simp [subsTo]
  | succ K ih => rw [subsTo_succ, List.length_append]; have := chooseS_le x K; omega

set_option maxRecDepth 100000 in
set_option maxHeartbeats 2000000 in
theorem rsubsets_c (x : BitVec 16) (s : Int) (w : World) (hs : s = U x) :
    Calls Tryz.prog 19 #[.int .u16 s] w fun e w' => ∃ v, e = .returned v ∧ Own w w' 26 v ((subsS x).map setV) ∧ Below w.heap.size w w' := by
  subst hs
  have hcl := cnt_le x
  go_enter Tryz.func19, Tryz.ntmps19
  go_wp2_with fail
  go_loopw [3, 4] (fun v i wr => ∃ (k : Nat), k ≤ cnt x + 1 ∧ i = .int .i64 k ∧ wr.ownsRow w.heap.size 26 1 v (subsTo x k).length ((subsTo x k).map setV) ∧ Below w.heap.size w wr) (fun _ i _ => cnt x + 1 - (intOf i).toNat)
  case atStart => exact ⟨0, Nat.zero_le _, rfl, World.ownsRow_nil _ _ _ _, Below.refl _ _⟩
  case round =>
    obtain ⟨k, hk, rfl, hown, hb⟩ := hrel
    go_wp2_with fail
    refine (rcount_c x _ _ rfl).mono ?_
    rintro e w1 ⟨rfl, hb1⟩
    have hown1 := row_below hown hb1
    have hb2 := Below.next hb hb1
    clear hown hb hb1
    by_cases hlt : k ≤ cnt x
    · go_wp2_with fail
      refine (rchoose_c x _ k _ rfl).mono ?_
      rintro e w2 ⟨v2, rfl, hown2, hb3⟩
      obtain ⟨a2, c2, rfl, hrd⟩ := hown2.rdn (chooseS x k).length (by simp)
      have hown3 := row_below hown1 hb3
      have hb4 := Below.next hb2 hb3
      have hl1 := subsTo_le x k
      have hl2 := chooseS_le x k
      have hs := Lib.hid (subsTo_succ x k)
      clear hown1 hown2 hb2 hb3
      go_wp2_with (at_builtin; go_must (refine wpList_apps _ _ 32 2 (.int .u16 0) _ _ _ ((chooseS x k).map setV) Tryz.underlying32 Tryz.infoSet rfl hown3 hb4 (Nat.le_refl _) hrd (by intro u hu; obtain ⟨_, _, rfl⟩ := List.mem_map.1 hu; rfl) rfl rfl rfl rfl (by unfold maxLen; omega) (by omega) ?_))
      intro v' w4 hown5 hb5 _
      clear hown3 hb4 hrd
      go_wp2_with fail
      go_roundw
      case rel => exact ⟨k + 1, by omega, by go_num, by rw [hs.out, List.length_append, List.map_append]; exact hown5, hb5⟩
      case measure => simp [intOf]; omega
    · obtain rfl : k = cnt x + 1 := by omega
      go_wp2_with fail
      go_ret
      exact ⟨_, rfl, by unfold Own subsS; rw [List.length_map]; exact hown1, hb2⟩

/-- two lists of sets are the same -/
theorem same_take {α : Type} [DecidableEq α] {l m : List α} {k : Nat} (hl : l.length = m.length) {x y : α} (hx : l[k]? = some x) (hy : m[k]? = some y) (ht : l.take k = m.take k) :
    (x = y → l.take (k + 1) = m.take (k + 1)) ∧ (x ≠ y → l ≠ m) := by
  refine ⟨fun e => ?_, fun e h => ?_⟩
  · rw [List.take_add_one, List.take_add_one, hx, hy, ht, e]
  · rw [h, hy] at hx; exact e (Option.some.inj hx).symm

end Go.Proofs.YtflpkkebampmfaaGreatDoor
namespace Go.Proofs.YtflpkkebampmfaaGreatDoor

/-- the numbers below N with k bits -/
def numsTo (k : Int) (N : Nat) : List Nat := (List.range N).filter fun n => (popR 32 n : Int) == k
theorem numsTo_sorted (k : Int) (N : Nat) : (numsTo k N).Pairwise (· < ·) := List.Pairwise.filter _ List.pairwise_lt_range

theorem popR_32 (x : BitVec 16) (n : Nat) (h : n < 2 ^ cnt x) : popR 32 n = popR (cnt x) n := by
  have hc := cnt_le x
  obtain ⟨M, hM⟩ : ∃ M, 32 = cnt x + M := ⟨32 - cnt x, by omega⟩
  rw [hM]; exact popR_pad M (cnt x) n h

theorem chooseS_dep (x : BitVec 16) (k : Int) : chooseS x k = (numsTo k (2 ^ cnt x)).map (dep (memS x)) := by
  have h16 := memS_16 x
  have hso := memS_sorted x
  refine ext_sorted (fun y => y.toNat) _ _ ?_ ?_ fun y => ?_
  · unfold chooseS pickTo
    rw [List.pairwise_map]
    refine List.Pairwise.imp_of_mem ?_ (List.Pairwise.filter _ (List.pairwise_lt_range (n := 65536)))
    intro a b ha hb hab
    have ha' := List.mem_range.1 (List.mem_filter.1 ha).1
    have hb' := List.mem_range.1 (List.mem_filter.1 hb).1
    simp only [BitVec.toNat_ofNat]
    rw [Nat.mod_eq_of_lt ha', Nat.mod_eq_of_lt hb']
    exact hab
  · rw [List.pairwise_map]
    refine List.Pairwise.imp_of_mem ?_ (numsTo_sorted k _)
    intro a b ha hb hab
    have hb' := List.mem_range.1 (List.mem_filter.1 hb).1
    exact dep_mono _ h16 hso a b hab hb'
  · constructor
    · intro hy
      obtain ⟨n, hn, rfl⟩ := List.mem_map.1 hy
      obtain ⟨hr, hp⟩ := List.mem_filter.1 hn
      unfold pickB at hp
      rw [Bool.and_eq_true] at hp
      have hsub := (sub_iff x _).1 hp.1
      have hinv := dep_inv x _ hsub
      have hlt := inv_lt (memS x) (BitVec.ofNat 16 n)
      refine List.mem_map.2 ⟨inv (memS x) (BitVec.ofNat 16 n), List.mem_filter.2 ⟨List.mem_range.2 hlt, ?_⟩, hinv⟩
      have hc := cnt_dep (memS x) h16 hso (inv (memS x) (BitVec.ofNat 16 n))
      rw [hinv] at hc
      rw [popR_32 x _ hlt]
      have e : popR (cnt x) (inv (memS x) (BitVec.ofNat 16 n)) = cnt (BitVec.ofNat 16 n) := hc.symm
      rw [e]; exact hp.2
    · intro hy
      obtain ⟨n, hn, rfl⟩ := List.mem_map.1 hy
      obtain ⟨hr, hp⟩ := List.mem_filter.1 hn
      have hlt := List.mem_range.1 hr
      refine List.mem_map.2 ⟨(dep (memS x) n).toNat, List.mem_filter.2 ⟨List.mem_range.2 (dep (memS x) n).isLt, ?_⟩, by simp⟩
      unfold pickB
      rw [BitVec.ofNat_toNat, BitVec.setWidth_eq, Bool.and_eq_true]
      refine ⟨(sub_iff x _).2 fun p hp => dep_sub x n p hp, ?_⟩
      have hc := cnt_dep (memS x) h16 hso n
      rw [hc]
      rw [popR_32 x n hlt] at hp
      exact hp

/-- where the loop stands: what has come up to n -/
theorem numsTo_next (k : Int) (n : BitVec 32) (h0 : n ≠ 0#32) (hlt : n.toNat < 2 ^ 16) (hk : (popR 32 n.toNat : Int) = k) :
    n.toNat < (nextV n).toNat ∧ (popR 32 (nextV n).toNat : Int) = k ∧ numsTo k (nextV n).toNat = numsTo k n.toNat ++ [n.toNat] := by
  obtain ⟨h1, h2, h3⟩ := next_spec n h0 hlt
  refine ⟨h1, by rw [h2]; exact hk, ?_⟩
  obtain ⟨d, hd⟩ : ∃ d, (nextV n).toNat = n.toNat + (1 + d) := ⟨(nextV n).toNat - n.toNat - 1, by omega⟩
  unfold numsTo
  rw [hd, List.range_add, List.filter_append, List.range_add, List.map_append, List.filter_append]
  congr 1
  have e1 : List.map (fun x => n.toNat + x) (List.range 1) = [n.toNat] := by simp [List.range_succ]
  rw [e1]
  have e2 : List.filter (fun n => (popR 32 n : Int) == k) [n.toNat] = [n.toNat] := by simp [hk]
  rw [e2]
  have e3 : List.filter (fun n => (popR 32 n : Int) == k) (List.map (fun x => n.toNat + x) (List.map (fun x => 1 + x) (List.range d))) = [] := by
    rw [List.filter_eq_nil_iff]
    intro a ha
    rw [List.map_map] at ha
    obtain ⟨t, ht, rfl⟩ := List.mem_map.1 ha
    have ht' := List.mem_range.1 ht
    simp only [Function.comp_def]
    have := h3 (n.toNat + (1 + t)) (by omega) (by omega)
    rw [beq_iff_eq]
    intro e
    apply this
    omega
  rw [e3, List.append_nil]
theorem numsTo_first (k : Nat) (hk : k ≤ 16) : (popR 32 (2 ^ k - 1) : Int) = k ∧ numsTo k (2 ^ k - 1) = [] := by
  obtain ⟨M, hM⟩ : ∃ M, 32 = k + M := ⟨32 - k, by omega⟩
  have hp : 0 < 2 ^ k := Nat.two_pow_pos k
  constructor
  · rw [hM, popR_pad M k _ (by omega), popR_ones]
  · unfold numsTo
    rw [List.filter_eq_nil_iff]
    intro a ha
    have ha' := List.mem_range.1 ha
    have h1 := popR_lt k a ha'
    rw [hM, popR_pad M k a (by omega), beq_iff_eq]
    omega
theorem numsTo_cut (k : Int) (N n : Nat) (h : N ≤ n) (hn : ∀ m, N ≤ m → m < n → (popR 32 m : Int) ≠ k) : numsTo k n = numsTo k N := by
  obtain ⟨d, rfl⟩ : ∃ d, n = N + d := ⟨n - N, by omega⟩
  unfold numsTo
  rw [List.range_add, List.filter_append]
  have e3 : List.filter (fun n => (popR 32 n : Int) == k) (List.map (fun x => N + x) (List.range d)) = [] := by
    rw [List.filter_eq_nil_iff]
    intro a ha
    obtain ⟨t, ht, rfl⟩ := List.mem_map.1 ha
    have ht' := List.mem_range.1 ht
    rw [beq_iff_eq]
    exact hn _ (by omega) (by omega)
  rw [e3, List.append_nil]
end Go.Proofs.YtflpkkebampmfaaGreatDoor
namespace Go.Proofs.YtflpkkebampmfaaGreatDoor

theorem popR_cntM (x : BitVec 16) (n : Nat) (h : n < 2 ^ cnt x) : popR 32 n < cnt x + 1 := by
  rw [popR_32 x n h]; have := popR_le (cnt x) n; omega
theorem sumM_zero (K a : Nat) (h : K ≤ a) : ((List.range K).map fun k => if a = k then 1 else 0).sum = 0 := by
  induction K with
  | zero => rfl
  | succ K ih => rw [List.range_succ, List.map_append, List.sum_append, ih (by omega)]; simp; omega
theorem sumM_one (K a : Nat) (h : a < K) : ((List.range K).map fun k => if a = k then 1 else 0).sum = 1 := by
  induction K with
  | zero => omega
  | succ K ih =>
    rw [List.range_succ, List.map_append, List.sum_append]
    by_cases e : a = K
    · subst e; rw [sumM_zero a a (Nat.le_refl _)]; simp
    · rw [ih (by omega)]; simp [e]
theorem sumM_add (l : List Nat) (f g : Nat → Nat) : (l.map fun k => f k + g k).sum = (l.map f).sum + (l.map g).sum := by
  induction l with
  | nil => rfl
  | cons a l ih => simp [ih]; omega
theorem sumM_parts (f : Nat → Nat) (K : Nat) : ∀ l : List Nat, (∀ n ∈ l, f n < K) → ((List.range K).map fun (k : Nat) => (l.filter fun n => (f n : Int) == (k : Int)).length).sum = l.length := by
  intro l
  induction l with
  | nil => intro _; simp [List.map_const']
  | cons a l ih =>
    intro h
    have e : ∀ k : Nat, ((a :: l).filter fun n => (f n : Int) == (k : Int)).length = (if f a = k then 1 else 0) + (l.filter fun n => (f n : Int) == (k : Int)).length := by
      intro k
      rw [List.filter_cons]
      by_cases h : f a = k
      · simp [h]; omega
      · have : ((f a : Int) == (k : Int)) = false := by simp; omega
        simp [h, this]
    simp only [e]
    rw [sumM_add, sumM_one K (f a) (h a (by simp)), ih (fun n hn => h n (by simp [hn]))]
    simp; omega
theorem subsM_dep (x : BitVec 16) : subsS x = (List.range (cnt x + 1)).flatMap fun (k : Nat) => (numsTo k (2 ^ cnt x)).map (dep (memS x)) := by
  unfold subsS subsTo
  simp only [chooseS_dep]
theorem subsM_len (x : BitVec 16) : (subsS x).length = 2 ^ cnt x := by
  rw [subsM_dep, List.length_flatMap]
  simp only [List.length_map, numsTo]
  rw [sumM_parts (popR 32) (cnt x + 1) (List.range (2 ^ cnt x)) (fun n hn => popR_cntM x n (List.mem_range.1 hn)), List.length_range]
/-- each part of a set is among its subsets -/
theorem mem_subs {x s : BitVec 16} (h : ∀ p, hasB s p = true → hasB x p = true) : s ∈ subsS x := by
  have hd := dep_inv x s h
  have hl := inv_lt (memS x) s
  rw [subsM_dep]
  refine List.mem_flatMap.2 ⟨popR 32 (inv (memS x) s), List.mem_range.2 (popR_cntM x _ hl), ?_⟩
  exact List.mem_map.2 ⟨_, List.mem_filter.2 ⟨List.mem_range.2 hl, by simp⟩, hd⟩
/-- and these alone -/
theorem subs_mem {x s : BitVec 16} (hs : s ∈ subsS x) : ∀ p, hasB s p = true → hasB x p = true := by
  rw [subsM_dep] at hs
  obtain ⟨k, _, h2⟩ := List.mem_flatMap.1 hs
  obtain ⟨n, _, rfl⟩ := List.mem_map.1 h2
  intro p hp
  exact mem_memS.1 (sel_mem _ _ _ ((hasB_dep (memS x) (memS_16 x) n p).1 hp))
theorem cnt_six {x : BitVec 16} (h : ∀ p, hasB x p = true → p < 6) : cnt x ≤ 6 := by
  unfold cnt memS
  rw [show List.range 16 = List.range 6 ++ [6, 7, 8, 9, 10, 11, 12, 13, 14, 15] from rfl, List.filter_append]
  have : List.filter (hasB x) [6, 7, 8, 9, 10, 11, 12, 13, 14, 15] = [] := by
    rw [List.filter_eq_nil_iff]
    intro p hp hc
    have h1 := h p hc
    simp at hp
    omega
  rw [this, List.append_nil]
  exact Nat.le_trans (List.length_filter_le _ _) (by simp)

theorem famStep_le (x : Xpr) (o : List (BitVec 16)) (s : BitVec 16) : (famStep x o s).length ≤ o.length + 1 := by
  unfold famStep
  split
  · omega
  · split
    · simp
    · omega
theorem famFold_le (x : Xpr) : ∀ (l o : List (BitVec 16)), (l.foldl (famStep x) o).length ≤ o.length + l.length := by
  intro l
  induction l with
  | nil => intro o; simp
  | cons s l ih =>
    intro o
    rw [List.foldl_cons, List.length_cons]
    have := ih (famStep x o s)
    have := famStep_le x o s
    omega
/-- the family of an expression, its error -/
def famS (x : Xpr) : List (BitVec 16) := famOf x (subsS (srvX x))
def famE (x : Xpr) : List (BitVec 16) × Int := if xprE x ≠ 0 then ([], xprE x) else if 400 < (famS x).length then ([], 3) else (famS x, 0)
theorem famS_holds {x : Xpr} (h : XprOk x) (s : BitVec 16) : accS (famS x) s = holdX x s := fam_holds h (fun s hs => mem_subs hs) s
theorem famS_in {x : Xpr} {F : BitVec 16} (hF : F ∈ famS x) : ∀ i, hasB F i = true → hasB (srvX x) i = true := by
  rcases fam_only x _ [] F hF with h | h
  · cases h
  · exact subs_mem h.1
theorem famS_le (x : Xpr) : (famS x).length ≤ 2 ^ cnt (srvX x) := by
  have := famFold_le x (subsS (srvX x)) []
  rw [subsM_len, List.length_nil, Nat.zero_add] at this
  exact this
theorem famE_six {x : Xpr} (h : xprE x = 0) (h6 : ∀ p, hasB (srvX x) p = true → p < 6) : famE x = (famS x, 0) := by
  have h1 := famS_le x
  have h2 : 2 ^ cnt (srvX x) ≤ 2 ^ 6 := Nat.pow_le_pow_right (by decide) (cnt_six h6)
  unfold famE
  rw [if_neg (by simpa using h), if_neg (by omega)]
end Go.Proofs.YtflpkkebampmfaaGreatDoor
namespace Go.Proofs.YtflpkkebampmfaaGreatDoor

/-- a piece of a description -/
structure Pce where
  kind : Int
  server : Int
  need : Int
  heavy : Bool
  kids : List Int
def Pce.ok (p : Pce) : Prop := ((0 ≤ p.kind ∧ p.kind < 256) ∧ (0 ≤ p.server ∧ p.server < 256) ∧ (0 ≤ p.need ∧ p.need < 256)) ∧ ∀ z ∈ p.kids, 0 ≤ z ∧ z < 256
def pce0 : Pce := ⟨0, 0, 0, false, []⟩

/-- the sum of the weights of the first k kids -/
def sumTo (nd : Nod) : Nat → Int
  | 0 => 0
  | k + 1 => sumTo nd k + wgtN nd k
def sumN (nd : Nod) : Int := sumTo nd nd.kids.length
/-- the kids and weights of a piece at an index, of the first k -/
def mkdTo (p : Pce) (i k : Nat) : List Int := (p.kids.take k).map fun z => z % (i : Int)
def mwtTo (p : Pce) (k : Nat) : List Int := if p.heavy = true then (p.kids.take k).map fun z => 1 + z / 16 % 4 else []
def mk5 (p : Pce) : Nat := min p.kids.length 5
def madK (p : Pce) (i : Nat) : Nod := ⟨2, 0, 0, mwtTo p (mk5 p), mkdTo p i (mk5 p)⟩
def madN (p : Pce) (i : Nat) : Nod := if i = 0 ∨ p.kind % 3 = 0 then ⟨1, p.server % 6, 0, [], []⟩ else ⟨2, 0, p.need % (sumN (madK p i) + 2), mwtTo p (mk5 p), mkdTo p i (mk5 p)⟩
def madT (ps : List Pce) (k : Nat) : List Nod := (List.range k).map fun i => madN (ps.getD i pce0) i
def mad9 (ps : List Pce) : Nat := min ps.length 9
def srv0 : Nod := ⟨1, 0, 0, [], []⟩
def madX (ps : List Pce) : Xpr := if ps = [] then ⟨[srv0], 0⟩ else ⟨madT ps (mad9 ps), (mad9 ps : Int) - 1⟩

theorem mkdTo_succ {p : Pce} {i k : Nat} {z : Int} (h : p.kids[k]? = some z) : mkdTo p i (k + 1) = mkdTo p i k ++ [z % (i : Int)] := by
  unfold mkdTo; rw [List.take_add_one, h]; simp
theorem mwtTo_succ {p : Pce} {k : Nat} {z : Int} (h : p.kids[k]? = some z) (hh : p.heavy = true) : mwtTo p (k + 1) = mwtTo p k ++ [1 + z / 16 % 4] := by
  unfold mwtTo; rw [if_pos hh, if_pos hh, List.take_add_one, h]; simp
theorem mwtTo_light {p : Pce} (k : Nat) (hh : p.heavy = false) : mwtTo p k = [] := by unfold mwtTo; rw [if_neg (by rw [hh]; decide)]
theorem madT_succ (ps : List Pce) (k : Nat) : madT ps (k + 1) = madT ps k ++ [madN (ps.getD k pce0) k] := by
  unfold madT; rw [List.range_succ, List.map_append]; rfl
theorem madT_len (ps : List Pce) (k : Nat) : (madT ps k).length = k := by unfold madT; rw [List.length_map, List.length_range]
theorem mkdTo_len (p : Pce) (i k : Nat) (h : k ≤ p.kids.length) : (mkdTo p i k).length = k := by unfold mkdTo; rw [List.length_map, List.length_take]; omega
theorem madT_at {ps : List Pce} {k i : Nat} {nd : Nod} (h : (madT ps k)[i]? = some nd) : i < k ∧ nd = madN (ps.getD i pce0) i := by
  have h1 := (List.getElem?_eq_some_iff.1 h).1
  rw [madT_len] at h1
  unfold madT at h
  rw [List.getElem?_map, List.getElem?_range h1] at h
  simp at h
  exact ⟨h1, h.symm⟩
theorem sum_bd {nd : Nod} (h : ∀ w ∈ nd.weights, 1 ≤ w ∧ w ≤ 4) (hl : nd.weights = [] ∨ nd.weights.length = nd.kids.length) : ∀ k, k ≤ nd.kids.length → (k : Int) ≤ sumTo nd k ∧ sumTo nd k ≤ 4 * k := by
  intro k
  induction k with
  | zero => intro _; exact ⟨by simp [sumTo], by simp [sumTo]⟩
  | succ k ih =>
    intro hk
    have h1 := ih (by omega)
    have h2 : 1 ≤ wgtN nd k ∧ wgtN nd k ≤ 4 := by
      unfold wgtN
      split
      · omega
      · rename_i hw
        have hkl : k < nd.weights.length := by rcases hl with h3 | h3
                                               · exact absurd h3 hw
                                               · omega
        rw [List.getD_eq_getElem?_getD, List.getElem?_eq_getElem hkl]
        exact h _ (List.getElem_mem hkl)
    unfold sumTo
    omega
theorem mwt_rng (p : Pce) (hp : ∀ z ∈ p.kids, 0 ≤ z ∧ z < 256) (k : Nat) : ∀ w ∈ mwtTo p k, 1 ≤ w ∧ w ≤ 4 := by
  intro w hw
  unfold mwtTo at hw
  split at hw
  · obtain ⟨z, hz, rfl⟩ := List.mem_map.1 hw
    have := hp z (List.mem_of_mem_take hz)
    omega
  · cases hw
theorem mwt_len (p : Pce) (i : Nat) (k : Nat) : mwtTo p k = [] ∨ (mwtTo p k).length = (mkdTo p i k).length := by
  unfold mwtTo mkdTo
  split
  · right; rw [List.length_map, List.length_map]
  · left; rfl
theorem sum_madK (p : Pce) (hp : ∀ z ∈ p.kids, 0 ≤ z ∧ z < 256) (i : Nat) : 0 ≤ sumN (madK p i) ∧ sumN (madK p i) ≤ 20 := by
  have h := sum_bd (nd := madK p i) (mwt_rng p hp _) (mwt_len p i _) (madK p i).kids.length (Nat.le_refl _)
  have hl : (madK p i).kids.length = mk5 p := mkdTo_len p i _ (Nat.min_le_left _ _)
  have : mk5 p ≤ 5 := Nat.min_le_right _ _
  unfold sumN
  omega
theorem madN_ok (p : Pce) (hp : p.ok) (i : Nat) : nodE (madN p i) i = 0 := by
  obtain ⟨⟨h1, h2, h3⟩, h4⟩ := hp
  unfold madN
  by_cases hc : i = 0 ∨ p.kind % 3 = 0
  · rw [if_pos hc]
    have a1 : 0 ≤ p.server % 6 := Int.emod_nonneg _ (by decide)
    have a2 : p.server % 6 < 6 := Int.emod_lt_of_pos _ (by decide)
    unfold nodE
    simp
    omega
  · rw [if_neg hc]
    have hs := sum_madK p h4 i
    have a1 : 0 ≤ p.need % (sumN (madK p i) + 2) := Int.emod_nonneg _ (by omega)
    have a2 : p.need % (sumN (madK p i) + 2) < sumN (madK p i) + 2 := Int.emod_lt_of_pos _ (by omega)
    have hv : (mwtTo p (mk5 p)).any hvyB = false := by
      rw [List.any_eq_false]
      intro w hw
      have := mwt_rng p h4 _ w hw
      unfold hvyB
      simp; omega
    have hk : (mkdTo p i (mk5 p)).any (unkB i) = false := by
      rw [List.any_eq_false]
      intro w hw
      unfold mkdTo at hw
      obtain ⟨z, hz, rfl⟩ := List.mem_map.1 hw
      have b1 : 0 ≤ z % (i : Int) := Int.emod_nonneg _ (by omega)
      have b2 : z % (i : Int) < (i : Int) := Int.emod_lt_of_pos _ (by omega)
      unfold unkB
      simp; omega
    unfold nodE
    rw [if_neg (by simp), if_neg (by rw [hv]; simp; omega), if_neg ?_, if_neg (by rw [hk]; decide)]
    rintro ⟨c1, c2⟩
    rcases mwt_len p i (mk5 p) with h | h
    · exact c1 h
    · exact c2 h
theorem nodsE_zero : ∀ (l : List Nod) (i : Nat), (∀ (k : Nat) nd, l[k]? = some nd → nodE nd (i + k) = 0) → nodsE l i = 0 := by
  intro l
  induction l with
  | nil => intro i _; rfl
  | cons y l ih =>
    intro i h
    have h0 := h 0 y rfl
    unfold nodsE
    rw [if_neg (by simpa using h0)]
    exact ih (i + 1) fun k nd hk => by
      have := h (k + 1) nd (by simpa using hk)
      rw [show i + 1 + k = i + (k + 1) by omega]; exact this
theorem madX_ok {ps : List Pce} (h : ∀ p ∈ ps, p.ok) : xprE (madX ps) = 0 ∧ (madX ps).nodes.length ≤ 9 ∧ ∀ q, hasB (srvX (madX ps)) q = true → q < 6 := by
  unfold madX
  by_cases h0 : ps = []
  · rw [if_pos h0]
    refine ⟨by decide, by simp, fun q hq => ?_⟩
    have e : srvX ⟨[srv0], 0⟩ = 1#16 := by decide
    rw [e] at hq
    have hq16 := hasB_lt hq
    have : ∀ q : Fin 16, hasB 1#16 q.val = true → q.val < 6 := by decide
    exact this ⟨q, hq16⟩ hq
  · rw [if_neg h0]
    have hl : 1 ≤ mad9 ps ∧ mad9 ps ≤ 9 ∧ mad9 ps ≤ ps.length := by
      unfold mad9
      have : ps.length ≠ 0 := fun hc => h0 (List.eq_nil_of_length_eq_zero hc)
      omega
    have hlen := madT_len ps (mad9 ps)
    have hall : ∀ (k : Nat) nd, (madT ps (mad9 ps))[k]? = some nd → ∃ p, p.ok ∧ nd = madN p k := fun k nd hk => by
      obtain ⟨h1, h2⟩ := madT_at hk
      refine ⟨_, ?_, h2⟩
      rw [List.getD_eq_getElem?_getD, List.getElem?_eq_getElem (by omega)]
      exact h _ (List.getElem_mem _)
    have hE : nodsE (madT ps (mad9 ps)) 0 = 0 := nodsE_zero _ _ fun k nd hk => by
      obtain ⟨p, hp, rfl⟩ := hall k nd hk
      rw [Nat.zero_add]; exact madN_ok p hp k
    have hX : xprE ⟨madT ps (mad9 ps), (mad9 ps : Int) - 1⟩ = 0 := by
      unfold xprE
      show (if madT ps (mad9 ps) = [] then 9 else if 60 < (madT ps (mad9 ps)).length then 3 else if nodsE (madT ps (mad9 ps)) 0 ≠ 0 then nodsE (madT ps (mad9 ps)) 0 else if (mad9 ps : Int) - 1 < 0 ∨ ((madT ps (mad9 ps)).length : Int) ≤ (mad9 ps : Int) - 1 then 4 else 0) = 0
      rw [if_neg (fun hc => by rw [hc] at hlen; simp at hlen; omega), hlen, if_neg (by omega), hE, if_neg (by simp), if_neg (by omega)]
    refine ⟨hX, by show (madT ps (mad9 ps)).length ≤ 9; omega, fun q hq => ?_⟩
    obtain ⟨nd, hnd, hk, hs⟩ := (srvX_has (xprE_ok hX)).1 hq
    obtain ⟨k, hk2⟩ := List.mem_iff_getElem?.1 hnd
    obtain ⟨p, hp, rfl⟩ := hall k nd hk2
    have a1 : p.server % 6 < 6 := Int.emod_lt_of_pos _ (by decide)
    unfold madN at hk hs
    split at hk
    · rename_i hc
      rw [if_pos hc] at hs
      have : p.server % 6 = (q : Int) := hs
      omega
    · exact absurd (show (2 : Int) = 1 from hk) (by decide)
end Go.Proofs.YtflpkkebampmfaaGreatDoor
namespace Go.Proofs.YtflpkkebampmfaaGreatDoor

/-- the servers that are left to give -/
def leftS (x y : Xpr) (b : BitVec 16) : List Nat := memS ((srvX x ||| srvX y) &&& ~~~b)
def left12 (b : BitVec 16) : List Nat := memS (allV &&& ~~~b)
theorem memS_nodup (x : BitVec 16) : (memS x).Nodup := (memS_sorted x).imp fun {a b} h e => by omega
theorem hasB_notV (x : BitVec 16) (i : Nat) (h : i < 16) : hasB (~~~x) i = !hasB x i := hasB_not x i h
theorem left_mem {x y : Xpr} (hx : XprOk x) (hy : XprOk y) {b : BitVec 16} {i : Nat} : i ∈ leftS x y b ↔ (i < 12 ∧ (hasB (srvX x) i = true ∨ hasB (srvX y) i = true)) ∧ hasB b i = false := by
  unfold leftS
  rw [mem_memS, hasB_and, hasB_or, Bool.and_eq_true, Bool.or_eq_true]
  constructor
  · rintro ⟨h1, h2⟩
    have h12 : i < 12 := h1.elim (fun h => srvX_12 hx h) (fun h => srvX_12 hy h)
    rw [hasB_not _ _ (by omega)] at h2
    exact ⟨⟨h12, h1⟩, by simpa using h2⟩
  · rintro ⟨⟨h12, h1⟩, h2⟩
    refine ⟨h1, ?_⟩
    rw [hasB_not _ _ (by omega), h2]; rfl
theorem left12_mem {b : BitVec 16} {i : Nat} : i ∈ left12 b ↔ i < 12 ∧ hasB b i = false := by
  unfold left12
  rw [mem_memS, hasB_allnot, Bool.and_eq_true, decide_eq_true_iff]; simp
theorem nodup_le12 {l : List Nat} (hs : l.Pairwise (· < ·)) (h : ∀ i ∈ l, i < 12) : l.length ≤ 12 := by
  have key : ∀ (l : List Nat) (a : Nat), (a :: l).Pairwise (· < ·) → (∀ i ∈ a :: l, i < 12) → a + (a :: l).length ≤ 12 := by
    intro l
    induction l with
    | nil => intro a _ h; have := h a (by simp); simp; omega
    | cons c l ih =>
      intro a hp h
      have h1 := List.pairwise_cons.1 hp
      have h2 := ih c h1.2 (fun i hi => h i (List.mem_cons_of_mem _ hi))
      have h3 := h1.1 c (by simp)
      simp only [List.length_cons] at h2 ⊢
      omega
  cases l with
  | nil => simp
  | cons a l => have := key l a hs h; omega

theorem left_le {x y : Xpr} (hx : XprOk x) (hy : XprOk y) (b : BitVec 16) : (leftS x y b).length ≤ 12 := nodup_le12 (memS_sorted _) fun _ hi => ((left_mem hx hy).1 hi).1.1
theorem left12_le (b : BitVec 16) : (left12 b).length ≤ 12 := nodup_le12 (memS_sorted _) fun _ hi => (left12_mem.1 hi).1
theorem prove_law {x y : Xpr} (hx : XprOk x) (hy : XprOk y) (b : BitVec 16) {l : List Nat} (hl : l = leftS x y b ∨ l = left12 b) :
    (famsB (famS x) (famS y) b = true → ∃ T, proveL x y l 0#16 0#16 = some T ∧ certC x y b T.tre = true) ∧ (famsB (famS x) (famS y) b = false → proveL x y l 0#16 0#16 = none) := by
  rcases hl with rfl | rfl
  · refine prove_iff hx hy (memS_nodup _) (fun i hi => ?_) (left_le hx hy b) (fun i h1 h2 h3 => (left_mem hx hy).2 ⟨⟨h1, h2⟩, h3⟩) (famS_holds hx) (famS_holds hy) (fun F hF => famS_in hF) (fun F hF => famS_in hF)
    have := (left_mem hx hy).1 hi
    exact ⟨this.1.1, this.2⟩
  · exact prove_iff hx hy (memS_nodup _) (fun i hi => left12_mem.1 hi) (left12_le b) (fun i h1 _ h3 => left12_mem.2 ⟨h1, h3⟩) (famS_holds hx) (famS_holds hy) (fun F hF => famS_in hF) (fun F hF => famS_in hF)
/-- a search leads to a certificate exactly if the families intersect -/
theorem prv_law {x y : Xpr} (hx : XprOk x) (hy : XprOk y) (b : BitVec 16) {l : List Nat} (hl : l = leftS x y b ∨ l = left12 b) :
    (famsB (famS x) (famS y) b = true ∧ (prvS x y l).2 = 0 ∧ certC x y b (prvS x y l).1 = true) ∨ (famsB (famS x) (famS y) b = false ∧ prvS x y l = (⟨[], 0⟩, 12)) := by
  have h := prove_law hx hy b hl
  cases hf : famsB (famS x) (famS y) b
  · right
    refine ⟨rfl, ?_⟩
    unfold prvS; rw [h.2 hf]
  · left
    obtain ⟨T, h1, h2⟩ := h.1 hf
    unfold prvS; rw [h1]
    exact ⟨rfl, rfl, h2⟩
/-- expressions with a certificate intersect -/
theorem check_law {x y : Xpr} (hx : XprOk x) (hy : XprOk y) {b : BitVec 16} {t : Tre} (h : certC x y b t = true) : famsB (famS x) (famS y) b = true := by
  refine cert_sound hx hy h (fun F hF => ⟨?_, fun i hi => srvX_12 hx (famS_in hF i hi)⟩) (fun F hF => ⟨?_, fun i hi => srvX_12 hy (famS_in hF i hi)⟩)
  · rw [← famS_holds hx]; exact List.any_eq_true.2 ⟨F, hF, (subB_iff F F).2 fun _ h => h⟩
  · rw [← famS_holds hy]; exact List.any_eq_true.2 ⟨F, hF, (subB_iff F F).2 fun _ h => h⟩
theorem cert_pos {x y : Xpr} {b : BitVec 16} {t : Tre} (h : certC x y b t = true) : 1 ≤ t.nodes.length ∧ t.nodes.length ≤ 8191 := by
  unfold certC at h
  rw [Bool.and_eq_true] at h
  have := (formC_parts h.1).1
  exact ⟨this.1, this.2.1⟩
/-- what intersects outside of a set intersects outside of each part of it -/
theorem part_law {x y : Xpr} (hx : XprOk x) (hy : XprOk y) (b p : BitVec 16) (h : (prvS x y (leftS x y b)).2 = 0) :
    (prvS x y (leftS x y (b &&& p))).2 = 0 ∧ certC x y (b &&& p) (prvS x y (leftS x y b)).1 = true := by
  have hb : ∀ i, hasB (b &&& p) i = true → hasB b i = true := fun i hi => by rw [hasB_and, Bool.and_eq_true] at hi; exact hi.1
  rcases prv_law hx hy b (.inl rfl) with ⟨h1, _, h3⟩ | ⟨_, h2⟩
  · refine ⟨?_, cert_part hb h3⟩
    rcases prv_law hx hy (b &&& p) (.inl rfl) with ⟨_, h4, _⟩ | ⟨h4, _⟩
    · exact h4
    · rw [fams_part hb h1] at h4; cases h4
  · rw [h2] at h; cases h
end Go.Proofs.YtflpkkebampmfaaGreatDoor
