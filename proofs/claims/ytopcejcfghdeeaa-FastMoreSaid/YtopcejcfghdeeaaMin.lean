/- Minimal families are valid. Plain Lean, no program. -/
import Derived.Test.YtopcejcfghdeeaaR9d
import Derived.Test.YtopcejcfghdeeaaFa1
namespace Go.Proofs.Ytopcejcfghdeeaa
open Go.RowKit Go.Shelf

theorem subB_self (x : BitVec 16) : subB x x = true := (subB_iff x x).2 fun _ h => h
theorem subB_trans {a b c : BitVec 16} (h1 : subB a b = true) (h2 : subB b c = true) : subB a c = true := (subB_iff a c).2 fun i h => (subB_iff a b).1 h1 i ((subB_iff b c).1 h2 i h)
def Rk (a b : BitVec 16) : Prop := keyS a < keyS b
def Rs (a b : BitVec 16) : Prop := keyS a < keyS b ∧ subB b a = false
theorem pick_mem {s : BitVec 16} {k : Int} {N : Nat} {x : BitVec 16} (h : x ∈ pickTo s k N) : subB s x = true ∧ (cnt x : Int) = k ∧ ∃ n, n < N ∧ x = BitVec.ofNat 16 n := by
  unfold pickTo at h
  obtain ⟨n, hn, rfl⟩ := List.mem_map.1 h
  obtain ⟨h1, h2⟩ := List.mem_filter.1 hn
  unfold pickB at h2
  rw [Bool.and_eq_true] at h2
  exact ⟨h2.1, eq_of_beq h2.2, n, List.mem_range.1 h1, rfl⟩
theorem pick_asc (s : BitVec 16) (k : Int) : ∀ N, N ≤ 65536 → (pickTo s k N).Pairwise Rk := by
  intro N
  induction N with
  | zero => intro _; unfold pickTo; simp
  | succ N ih =>
    intro hN
    rw [pickTo_succ]
    split
    · rename_i hp
      rw [List.pairwise_append]
      refine ⟨ih (by omega), List.pairwise_singleton _ _, fun a ha b hb => ?_⟩
      rw [List.mem_singleton] at hb
      subst hb
      obtain ⟨_, h2, n, hn, rfl⟩ := pick_mem ha
      unfold pickB at hp
      rw [Bool.and_eq_true] at hp
      have h3 := eq_of_beq hp.2
      unfold Rk keyS
      have e1 : (BitVec.ofNat 16 n).toNat = n := by simp; omega
      have e2 : (BitVec.ofNat 16 N).toNat = N := by simp; omega
      rw [e1, e2]
      omega
    · exact ih (by omega)
theorem subsTo_asc (s : BitVec 16) : ∀ K, (subsTo s K).Pairwise Rk ∧ ∀ x ∈ subsTo s K, subB s x = true ∧ cnt x < K := by
  intro K
  induction K with
  | zero => exact ⟨by simp [subsTo], fun x hx => by simp [subsTo] at hx⟩
  | succ K ih =>
    rw [subsTo_succ]
    refine ⟨?_, fun x hx => ?_⟩
    · rw [List.pairwise_append]
      refine ⟨ih.1, pick_asc s K _ (by have := s.isLt; omega), fun a ha b hb => ?_⟩
      have h1 := (ih.2 a ha).2
      have h2 := (pick_mem hb).2.1
      unfold Rk keyS
      have := a.isLt
      have := b.isLt
      omega
    · rcases List.mem_append.1 hx with h | h
      · exact ⟨(ih.2 x h).1, by have := (ih.2 x h).2; omega⟩
      · exact ⟨(pick_mem h).1, by have := (pick_mem h).2.1; omega⟩
theorem fold_good (f : List (BitVec 16)) : ∀ (l o : List (BitVec 16)), l.Pairwise Rk → o.Pairwise Rs → (∀ a ∈ o, ∀ b ∈ l, keyS a < keyS b) → (l.foldl (minSt f) o).Pairwise Rs ∧ ∀ x ∈ l.foldl (minSt f) o, x ∈ o ∨ (x ∈ l ∧ x ∈ f) := by
  intro l
  induction l with
  | nil => intro o _ h2 _; exact ⟨h2, fun x hx => .inl hx⟩
  | cons y l ih =>
    intro o h1 h2 h3
    rw [List.pairwise_cons] at h1
    rw [List.foldl_cons]
    by_cases hc : ((f.any fun z => z == y) && !accS o y) = true
    · have e : minSt f o y = o ++ [y] := by unfold minSt; rw [if_pos hc]
      rw [e]
      rw [Bool.and_eq_true, Bool.not_eq_true'] at hc
      have hyf : y ∈ f := by
        obtain ⟨z, hz, hzy⟩ := List.any_eq_true.1 hc.1
        rw [eq_of_beq hzy] at hz; exact hz
      obtain ⟨g1, g2⟩ := ih (o ++ [y]) h1.2 (by
        rw [List.pairwise_append]
        refine ⟨h2, List.pairwise_singleton _ _, fun a ha b hb => ?_⟩
        rw [List.mem_singleton] at hb; subst hb
        refine ⟨h3 a ha b (List.mem_cons_self ..), ?_⟩
        cases hs : subB b a
        · rfl
        · have : accS o b = true := by unfold accS; exact List.any_eq_true.2 ⟨a, ha, hs⟩
          rw [hc.2] at this; cases this) (by
        intro a ha b hb
        rcases List.mem_append.1 ha with ha | ha
        · exact h3 a ha b (List.mem_cons_of_mem _ hb)
        · rw [List.mem_singleton] at ha; subst ha; exact h1.1 b hb)
      refine ⟨g1, fun x hx => ?_⟩
      rcases g2 x hx with h | ⟨h, h'⟩
      · rcases List.mem_append.1 h with h | h
        · exact .inl h
        · rw [List.mem_singleton] at h; subst h; exact .inr ⟨List.mem_cons_self .., hyf⟩
      · exact .inr ⟨List.mem_cons_of_mem _ h, h'⟩
    · have e : minSt f o y = o := by unfold minSt; rw [if_neg hc]
      rw [e]
      obtain ⟨g1, g2⟩ := ih o h1.2 h2 fun a ha b hb => h3 a ha b (List.mem_cons_of_mem _ hb)
      refine ⟨g1, fun x hx => ?_⟩
      rcases g2 x hx with h | ⟨h, h'⟩
      · exact .inl h
      · exact .inr ⟨List.mem_cons_of_mem _ h, h'⟩
theorem minS_good (f : List (BitVec 16)) : (minS f).Pairwise Rs ∧ ∀ x ∈ minS f, x ∈ f := by
  obtain ⟨h1, h2⟩ := fold_good f (subsS9 (supS f)) [] (subsTo_asc (supS f) _).1 List.Pairwise.nil (fun a ha => by cases ha)
  exact ⟨h1, fun x hx => by
    rcases h2 x hx with h | h
    · cases h
    · exact h.2⟩
theorem nodup_len {α : Type} [DecidableEq α] : ∀ (l m : List α), l.Nodup → (∀ x ∈ l, x ∈ m) → l.length ≤ m.length := by
  intro l
  induction l with
  | nil => intro m _ _; simp
  | cons a l ih =>
    intro m h1 h2
    rw [List.nodup_cons] at h1
    have ha := h2 a (List.mem_cons_self ..)
    have := ih (m.erase a) h1.2 (fun x hx => (List.mem_erase_of_ne (by rintro rfl; exact h1.1 hx)).2 (h2 x (List.mem_cons_of_mem _ hx)))
    rw [List.length_erase_of_mem ha] at this
    have := List.length_pos_of_mem ha
    rw [List.length_cons]
    omega
theorem good_nodup {l : List (BitVec 16)} (h : l.Pairwise Rs) : l.Nodup := h.imp fun {a b} hab he => by
  have := hab.1; rw [he] at this; omega
theorem minS_len (f : List (BitVec 16)) : (minS f).length ≤ f.length := nodup_len _ _ (good_nodup (minS_good f).1) (minS_good f).2
theorem good_valid {l : List (BitVec 16)} (h : l.Pairwise Rs) (hb : ∀ x ∈ l, x.toNat < 4096) (hn : l.length ≤ 400) : valS l = 0 := by
  have h0 : ∀ j, j < l.length → e1 l j = 0 := by
    intro j hj
    unfold e1
    have hx := hb l[j] (List.getElem_mem hj)
    rw [if_neg (by rw [getD_at hj]; unfold U; omega), if_neg]
    rintro ⟨h1, h2⟩
    rw [getD_at hj, getD_at (show j - 1 < l.length by omega)] at h2
    have h3 := (List.pairwise_iff_getElem.1 h (j - 1) j (by omega) hj (by omega)).1
    have := (cmpS_key l[j - 1] l[j]).1.1 h2
    omega
  unfold valS
  rw [if_neg (by omega), firstE_none _ _ h0, if_neg (by decide), if_neg]
  intro ho
  obtain ⟨i, k, hi, hk, hs⟩ := (overB_iff l).1 ho
  rw [getD_at hi, getD_at (show k < l.length by omega)] at hs
  have := (List.pairwise_iff_getElem.1 h k i (by omega) hi hk).2
  rw [hs] at this; cases this
theorem mad_lt (z : Int) : (mad z).toNat < 64 := by
  unfold mad
  rw [BitVec.toNat_ofInt]
  omega
theorem madS_lt (l : List Int) : ∀ x ∈ madS l, x.toNat < 64 := fun x hx => by
  have := (minS_good _).2 x hx
  unfold madL at this
  obtain ⟨z, _, rfl⟩ := List.mem_map.1 this
  exact mad_lt z
theorem madS_le (l : List Int) : (madS l).length ≤ 20 := by
  have := minS_len (madL l (min 20 l.length))
  rw [madL_len (by omega)] at this
  unfold madS
  omega
theorem madS_good (l : List Int) : (madS l).Pairwise Rs := (minS_good _).1
theorem made_valid (l : List Int) : valS (madS l) = 0 := good_valid (madS_good l) (fun x hx => by have := madS_lt l x hx; omega) (by have := madS_le l; omega)
theorem mm_lt (l : List Int) : ∀ x ∈ minS (madS l), x.toNat < 64 := fun x hx => madS_lt l x ((minS_good _).2 x hx)
theorem mm_valid (l : List Int) : valS (minS (madS l)) = 0 := good_valid (minS_good _).1 (fun x hx => by have := mm_lt l x hx; omega) (by have := minS_len (madS l); have := madS_le l; omega)
theorem good_head {l : List (BitVec 16)} (h : l.Pairwise Rs) (h0 : l.length = 0 ∨ (l.getD 0 0#16 == 0#16) = false) : hasZ l = false := by
  cases l with
  | nil => rfl
  | cons y l =>
    have hy : (y == 0#16) = false := by
      rcases h0 with h0 | h0
      · simp at h0
      · exact h0
    rw [List.pairwise_cons] at h
    cases hz : hasZ (y :: l)
    · rfl
    · exfalso
      unfold hasZ at hz
      obtain ⟨x, hx, hx0⟩ := List.any_eq_true.1 hz
      have hx0' := eq_of_beq hx0
      subst hx0'
      rcases List.mem_cons.1 hx with hx | hx
      · rw [← hx] at hy; simp at hy
      · have := (h.1 _ hx).1
        have h0 : keyS 0#16 = 0 := by decide
        omega
theorem mm_quo (l : List Int) (h0 : (minS (madS l)).length = 0 ∨ ((minS (madS l)).getD 0 0#16 == 0#16) = false) : quoS (minS (madS l)) = 0 := by
  unfold quoS
  rw [mm_valid, if_neg (by decide), good_head (minS_good _).1 h0]
  rfl
end Go.Proofs.Ytopcejcfghdeeaa
