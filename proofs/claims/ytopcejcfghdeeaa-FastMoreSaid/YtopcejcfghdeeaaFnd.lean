/- Layer 38: if the condition holds, a chosen value is found. Plain Lean, no program. -/
import Derived.Test.YtopcejcfghdeeaaRec2
import Derived.Test.YtopcejcfghdeeaaFa2
namespace Go.Proofs.Ytopcejcfghdeeaa
open Go.RowKit Go.Shelf

theorem valS_kd (l : List (BitVec 16)) : valS l = 0 ∨ valS l = 1 ∨ valS l = 3 ∨ valS l = 7 := by
  have hk : ∀ k, e1 l k = 0 ∨ e1 l k = 1 ∨ e1 l k = 7 := by
    intro k; unfold e1; split
    · exact .inr (.inr rfl)
    · split
      · exact .inr (.inl rfl)
      · exact .inl rfl
  have hf : firstE (e1 l) l.length = 0 ∨ firstE (e1 l) l.length = 1 ∨ firstE (e1 l) l.length = 7 := by
    unfold firstE
    cases h : ((List.range l.length).map (e1 l)).find? (fun x => x != 0) with
    | none => exact .inl rfl
    | some v =>
      have := List.mem_of_find?_eq_some h
      obtain ⟨j, _, rfl⟩ := List.mem_map.1 this
      exact hk j
  unfold valS
  split
  · exact .inr (.inr (.inl rfl))
  · split
    · rcases hf with h | h | h
      · rename_i _ h2; exact absurd h h2
      · exact .inr (.inl h)
      · exact .inr (.inr (.inr h))
    · split
      · exact .inr (.inl rfl)
      · exact .inl rfl
theorem quoS_13 (l : List (BitVec 16)) : quoS l ≠ 13 := by
  unfold quoS
  have := valS_kd l
  split
  · omega
  · split <;> decide
theorem bot_safe {R Q : List (BitVec 16)} (h : (claT R Q).2.2.2 = 13) : botS R Q = 0 := by
  apply Classical.byContradiction
  intro hb
  unfold claT at h
  rw [if_pos hb] at h
  simp only at h
  unfold botS at h
  split at h
  · exact quoS_13 R h
  · exact quoS_13 Q h
theorem quo_safe {R Q : List (BitVec 16)} (h : (claT R Q).2.2.2 = 13) : quoS Q = 0 := by
  have hb := bot_safe h
  unfold botS at hb
  split at hb
  · rename_i h1; exact absurd hb h1
  · exact hb
theorem safe_tri {R Q : List (BitVec 16)} (h : (claT R Q).2.2.2 = 13) {a b r : BitVec 16} (ha : a ∈ Q) (hb : b ∈ Q) (hr : r ∈ R) : tri a b r = false := by
  cases ht : tri a b r
  · rfl
  · exfalso
    have h0 := bot_safe h
    unfold claT at h
    rw [if_neg (by rw [h0]; decide)] at h
    cases hc : claS R Q with
    | some p => rw [hc] at h; cases h
    | none =>
      unfold claS at hc
      have h1 := List.findSome?_eq_none_iff.1 hc a ha
      unfold claA at h1
      have h2 := List.findSome?_eq_none_iff.1 h1 b hb
      unfold claB at h2
      cases hf : R.find? (fun r => tri a b r) with
      | some q => rw [hf] at h2; cases h2
      | none =>
        have := List.find?_eq_none.1 hf r hr
        exact this ht

theorem votTo_only {V : List ByteArray} {x : ByteArray} {i : Nat} : ∀ k, k ≤ 16 → hasB (votTo V x k) i = true → i < k ∧ (V.getD i ⟨#[]⟩) = x := by
  intro k
  induction k with
  | zero => intro _ h; unfold votTo at h; simp [hasB] at h
  | succ k ih =>
    intro hk h
    rw [votTo_succ] at h
    split at h
    · rename_i h2
      rw [hasB_or, Bool.or_eq_true] at h
      rcases h with h | h
      · have := ih (by omega) h; exact ⟨by omega, this.2⟩
      · rw [hasB_bit k i (by omega), decide_eq_true_eq] at h
        subst h
        exact ⟨by omega, bs_ext (eq_of_beq h2)⟩
    · have := ih (by omega) h; exact ⟨by omega, this.2⟩
theorem ne_zero_has {x : BitVec 16} (h : (x == 0#16) = false) : ∃ i, i < 16 ∧ hasB x i = true := by
  apply Classical.byContradiction
  intro hn
  have : x = 0#16 := by
    apply BitVec.eq_of_getLsbD_eq
    intro i hi
    cases hx : x.getLsbD i
    · simp
    · exact absurd ⟨i, hi, hx⟩ hn
  rw [this] at h; cases h
theorem zero_has {x : BitVec 16} (h : (x == 0#16) = true) (i : Nat) : hasB x i = false := by
  rw [eq_of_beq h]; simp [hasB]
theorem sub_has {x s : BitVec 16} (h : (x &&& ~~~s == 0#16) = true) {i : Nat} (hi : hasB x i = true) : hasB s i = true := by
  have := zero_has h i
  unfold hasB at this hi ⊢
  rw [BitVec.getLsbD_and, hi, Bool.true_and, BitVec.getLsbD_not] at this
  have hlt : i < 16 := BitVec.lt_of_getLsbD hi
  simpa [hlt] using this
theorem has_sub {x s : BitVec 16} (h : ∀ i, hasB x i = true → hasB s i = true) : (x &&& ~~~s == 0#16) = true := by
  rw [beq_iff_eq]
  apply BitVec.eq_of_getLsbD_eq
  intro i hi
  rw [BitVec.getLsbD_and, BitVec.getLsbD_not]
  cases hx : x.getLsbD i
  · simp
  · have := h i hx
    unfold hasB at this
    simp [this]
theorem pos_fam {Q : List (BitVec 16)} {V : List ByteArray} {s : BitVec 16} {x : ByteArray} (h : x ∈ posS Q V s) : ∃ F, F ∈ Q ∧ (F &&& s == 0#16) = false ∧ ∀ i, hasB F i = true → hasB s i = true → hasB (votS V x) i = true := by
  unfold posS at h
  have hp := (List.mem_filter.1 h).2
  unfold posB at hp
  obtain ⟨F, hF, hq⟩ := List.any_eq_true.1 hp
  unfold posP at hq
  rw [Bool.and_eq_true] at hq
  refine ⟨F, hF, by simpa [bne] using hq.1, fun i h1 h2 => sub_has hq.2 (by rw [hasB_and, h1, h2]; rfl)⟩
theorem valB_nodup (V : List ByteArray) (h : BitVec 16) : (valB V h).Nodup := by
  unfold valB
  rw [List.Nodup, List.pairwise_map]
  refine (valV_asc V h).imp ?_
  intro a b hab he
  have : a = b := by
    have := congrArg ByteArray.toList he
    rwa [bs_list, bs_list] at this
  rw [this] at hab
  exact List.lt_irrefl _ hab
theorem pos_one {R Q : List (BitVec 16)} (h : (claT R Q).2.2.2 = 13) {V : List ByteArray} (hn : V.length ≤ 16) {s : BitVec 16} (hs : s ∈ R) : (∃ x, posS Q V s = [x]) ∨ posS Q V s = [] := by
  rcases pos_cases (posS Q V s) with h1 | ⟨_, x, y, r, h1⟩ | h1
  · exact .inl h1
  · exfalso
    have hnd : (posS Q V s).Nodup := by unfold posS; exact (valB_nodup V s).filter _
    have hxy : x ≠ y := by
      rw [h1] at hnd
      rw [List.nodup_cons] at hnd
      intro he
      exact hnd.1 (by rw [he]; exact List.mem_cons_self ..)
    obtain ⟨F, hF, hF1, hF2⟩ := pos_fam (x := x) (by rw [h1]; exact List.mem_cons_self ..)
    obtain ⟨G, hG, hG1, hG2⟩ := pos_fam (x := y) (by rw [h1]; exact List.mem_cons_of_mem _ (List.mem_cons_self ..))
    have ht := safe_tri h hF hG hs
    obtain ⟨i, _, hi⟩ := ne_zero_has (x := F &&& G &&& s) ht
    rw [hasB_and, hasB_and, Bool.and_eq_true, Bool.and_eq_true] at hi
    have a1 := (votTo_only _ hn (hF2 i hi.1.1 hi.2)).2
    have a2 := (votTo_only _ hn (hG2 i hi.1.2 hi.2)).2
    exact hxy (a1.symm.trans a2)
  · exact .inr h1
theorem args_ok {R Q : List (BitVec 16)} (h : (claT R Q).2.2.2 = 13) {n : Nat} (h0 : 1 ≤ n) (h1 : n ≤ 12) : argS Q n = 0 := by
  unfold argS
  rw [quo_safe h, if_neg (by decide), if_neg (by omega), if_neg (by omega)]
theorem cho_kinds {Q : List (BitVec 16)} {V : List ByteArray} (ha : argS Q V.length = 0) : (choS Q V).2 = 0 ∨ (choS Q V).2 = 4 := by
  unfold choS
  rw [ha]
  show (choM (choF Q V)).2 = 0 ∨ _
  cases choF Q V with
  | none => exact .inr rfl
  | some x => exact .inl rfl
theorem rec_kinds {R Q : List (BitVec 16)} (h : (claT R Q).2.2.2 = 13) {V : List ByteArray} (h0 : 1 ≤ V.length) (h1 : V.length ≤ 12) {s : BitVec 16} (hs : s ∈ R) : (recS Q V s).2 = 0 ∨ (recS Q V s).2 = 4 := by
  have e : recS Q V s = recM V s (posS Q V s) := by unfold recS; rw [args_ok h h0 h1]; rfl
  rw [e]
  rcases pos_one h (by omega : V.length ≤ 16) hs with ⟨x, hx⟩ | hx
  · rw [hx]; exact .inl rfl
  · rw [hx]
    show (recN V s).2 = 0 ∨ (recN V s).2 = 4
    unfold recN
    split
    · exact .inr rfl
    · exact .inl rfl
theorem found {R Q : List (BitVec 16)} (h : (claT R Q).2.2.2 = 13) {V : List ByteArray} (h0 : 1 ≤ V.length) (h1 : V.length ≤ 12) {s : BitVec 16} (hs : s ∈ R) {x : ByteArray} (hx : choS Q V = (x, 0)) : recS Q V s = (x, 0) := by
  have ha := args_ok h h0 h1
  unfold choS at hx
  rw [ha] at hx
  have hx' : choM (choF Q V) = (x, 0) := hx
  cases hf : choF Q V with
  | none => rw [hf] at hx'; cases hx'
  | some y =>
    rw [hf] at hx'
    have : y = x := by injection hx'
    subst this
    unfold choF at hf
    obtain ⟨z, hz, hp⟩ := List.exists_of_findSome?_eq_some hf
    unfold choP at hp
    split at hp
    · rename_i hacc
      injection hp with hp
      subst hp
      unfold accS at hacc
      obtain ⟨F, hF, hsub⟩ := List.any_eq_true.1 hacc
      have hsub' : (F &&& ~~~(votS V z) == 0#16) = true := hsub
      have ht := safe_tri h hF hF hs
      obtain ⟨i, hi16, hi⟩ := ne_zero_has (x := F &&& F &&& s) ht
      rw [hasB_and, hasB_and, Bool.and_eq_true, Bool.and_eq_true] at hi
      obtain ⟨a1, a2⟩ := votTo_only _ (by omega : V.length ≤ 16) (sub_has hsub' hi.1.1)
      have hzv : z ∈ valB V s := by
        unfold valB at hz ⊢
        obtain ⟨t, ht1, ht2⟩ := List.mem_map.1 hz
        refine List.mem_map.2 ⟨t, ?_, ht2⟩
        obtain ⟨j, _, hj1, hj2, _⟩ := (valV_mem V _ t).1 ht1
        refine (valV_mem V s t).2 ⟨i, a1, ?_, ?_, hi.2⟩
        · rw [a2, ← ht2, bs_list]
        · rw [a2, ← ht2, bs_list, ← hj1]; exact hj2
      have hpos : z ∈ posS Q V s := by
        unfold posS
        refine List.mem_filter.2 ⟨hzv, ?_⟩
        unfold posB
        refine List.any_eq_true.2 ⟨F, hF, ?_⟩
        unfold posP
        rw [Bool.and_eq_true]
        constructor
        · cases hc : (F &&& s == 0#16)
          · simp [bne, hc]
          · have := zero_has hc i
            rw [hasB_and, hi.1.1, hi.2] at this; cases this
        · refine has_sub fun j hj => ?_
          rw [hasB_and, Bool.and_eq_true] at hj
          exact sub_has hsub' hj.1
      unfold recS
      rw [ha]
      show recM V s (posS Q V s) = _
      rcases pos_one h (by omega : V.length ≤ 16) hs with ⟨w, hw⟩ | hw
      · rw [hw] at hpos ⊢
        rw [List.mem_singleton] at hpos
        rw [hpos]; rfl
      · rw [hw] at hpos; cases hpos
    · cases hp
end Go.Proofs.Ytopcejcfghdeeaa
