/- Layer 38: by the attack's votes a chosen value is lost; with more heard servers nothing else becomes possible. Plain Lean, no program. -/
import Derived.Test.YtopcejcfghdeeaaFnd
import Derived.Test.YtopcejcfghdeeaaFat
namespace Go.Proofs.Ytopcejcfghdeeaa
open Go.RowKit Go.Shelf

def sx : ByteArray := ⟨#[120]⟩
def sy : ByteArray := ⟨#[121]⟩
theorem atkV_x {a b : BitVec 16} {i : Nat} (h : hasB a i = true) : atkV a b i = sx := by unfold atkV; rw [if_pos h]; rfl
theorem atkV_y {a b : BitVec 16} {i : Nat} (h : hasB a i = false) (h2 : hasB b i = true) : atkV a b i = sy := by unfold atkV; rw [if_neg (by rw [h]; decide), if_pos h2]; rfl
theorem atkV_n {a b : BitVec 16} {i : Nat} (h : hasB a i = false) (h2 : hasB b i = false) : atkV a b i = ⟨#[]⟩ := by unfold atkV; rw [if_neg (by rw [h]; decide), if_neg (by rw [h2]; decide)]
theorem sx_l : sx.toList = [120] := by decide +kernel
theorem sy_l : sy.toList = [121] := by decide +kernel
theorem sxy : sx ≠ sy := fun h => by have := congrArg ByteArray.toList h; rw [sx_l, sy_l] at this; cases this
theorem em_l : (⟨#[]⟩ : ByteArray).toList = [] := by decide +kernel
theorem atkL_at (a b : BitVec 16) (m i : Nat) (h : i < m) : (atkL a b m).getD i ⟨#[]⟩ = atkV a b i := by
  unfold atkL; rw [List.getD, List.getElem?_map, List.getElem?_range h]; rfl
theorem valB_mem {V : List ByteArray} {h : BitVec 16} {x : ByteArray} : x ∈ valB V h ↔ ∃ j, j < V.length ∧ V.getD j ⟨#[]⟩ = x ∧ (x.toList == []) = false ∧ hasB h j = true := by
  unfold valB
  rw [List.mem_map]
  constructor
  · rintro ⟨s, hs, rfl⟩
    obtain ⟨j, h1, h2, h3, h4⟩ := (valV_mem V h s).1 hs
    refine ⟨j, h1, ?_, ?_, h4⟩
    · exact bs_ext (h2.trans (bs_list s).symm)
    · rw [bs_list, ← h2]; exact h3
  · rintro ⟨j, h1, h2, h3, h4⟩
    refine ⟨x.toList, (valV_mem V h _).2 ⟨j, h1, by rw [h2], by rw [h2]; exact h3, h4⟩, bs_mk x⟩
theorem vot_has {V : List ByteArray} {x : ByteArray} {i : Nat} (hn : V.length ≤ 16) : hasB (votS V x) i = true ↔ i < V.length ∧ V.getD i ⟨#[]⟩ = x := by
  constructor
  · exact votTo_only V.length hn
  · rintro ⟨h1, h2⟩
    exact votTo_has (by omega) (by rw [h2]) V.length h1
theorem supS_has {l : List (BitVec 16)} {i : Nat} : hasB (supS l) i = true ↔ ∃ x ∈ l, hasB x i = true := by
  have : ∀ (l : List (BitVec 16)) (o : BitVec 16), hasB (l.foldl (· ||| ·) o) i = true ↔ hasB o i = true ∨ ∃ x ∈ l, hasB x i = true := by
    intro l
    induction l with
    | nil => intro o; simp
    | cons y l ih =>
      intro o
      rw [List.foldl_cons, ih, hasB_or, Bool.or_eq_true]
      constructor
      · rintro ((h | h) | ⟨x, hx, h⟩)
        · exact .inl h
        · exact .inr ⟨y, List.mem_cons_self .., h⟩
        · exact .inr ⟨x, List.mem_cons_of_mem _ hx, h⟩
      · rintro (h | ⟨x, hx, h⟩)
        · exact .inl (.inl h)
        · rcases List.mem_cons.1 hx with rfl | hx
          · exact .inl (.inr h)
          · exact .inr ⟨x, hx, h⟩
  unfold supS
  rw [this]
  simp [hasB]
theorem far_lt {nn : Int} {R Q : List (BitVec 16)} (h : farB nn R Q = false) {x : BitVec 16} (hx : x ∈ R ∨ x ∈ Q) {i : Nat} (hi : hasB x i = true) : i < nn.toNat := by
  apply Classical.byContradiction
  intro hc
  have hs : hasB (supS R ||| supS Q) i = true := by
    rw [hasB_or, Bool.or_eq_true]
    rcases hx with hx | hx
    · exact .inl (supS_has.2 ⟨x, hx, hi⟩)
    · exact .inr (supS_has.2 ⟨x, hx, hi⟩)
  have hz : shrS (supS R ||| supS Q) nn.toNat = 0#16 := by
    unfold farB at h
    simpa [bne] using h
  have : (shrS (supS R ||| supS Q) nn.toNat).getLsbD (i - nn.toNat) = true := by
    unfold shrS
    rw [BitVec.getLsbD_ushiftRight]
    have : nn.toNat + (i - nn.toNat) = i := by omega
    rw [this]; exact hs
  rw [hz] at this
  simp at this
theorem quo_ne {Q : List (BitVec 16)} (h : quoS Q = 0) {x : BitVec 16} (hx : x ∈ Q) : ∃ i, i < 16 ∧ hasB x i = true := by
  have hz : hasZ Q = false := by
    unfold quoS at h
    split at h
    · rename_i h1; exact absurd h h1
    · split at h
      · cases h
      · rename_i h2; simpa using h2
  refine ne_zero_has ?_
  cases he : (x == 0#16)
  · rfl
  · have := eq_of_beq he
    subst this
    have : hasZ Q = true := by unfold hasZ; exact List.any_eq_true.2 ⟨_, hx, by simp⟩
    rw [hz] at this; cases this
theorem claS_some {R Q : List (BitVec 16)} {a b r : BitVec 16} (h : claS R Q = some (a, b, r)) : a ∈ Q ∧ b ∈ Q ∧ r ∈ R ∧ tri a b r = true := by
  unfold claS at h
  obtain ⟨x, hx, h⟩ := List.exists_of_findSome?_eq_some h
  unfold claA at h
  obtain ⟨y, hy, h⟩ := List.exists_of_findSome?_eq_some h
  unfold claB at h
  rw [Option.map_eq_some_iff] at h
  obtain ⟨z, hz, h⟩ := h
  cases h
  exact ⟨hx, hy, List.mem_of_find?_eq_some hz, List.find?_some hz⟩
theorem head_x {l : List Str} (h : l.Pairwise (· < ·)) (hx : [120] ∈ l) (hm : ∀ s ∈ l, s = [120] ∨ s = [121]) : ∃ r, l = [120] :: r := by
  cases l with
  | nil => cases hx
  | cons y r =>
    rcases hm y (List.mem_cons_self ..) with rfl | rfl
    · exact ⟨r, rfl⟩
    · exfalso
      rw [List.pairwise_cons] at h
      rcases List.mem_cons.1 hx with hx | hx
      · cases hx
      · have := h.1 _ hx
        revert this
        decide
theorem attack_law {nn : Int} {R Q : List (BitVec 16)} {V : List ByteArray} {r : BitVec 16} (h : fatS nn R Q = (V, r, 0)) :
    V.length ≤ 12 ∧ choS Q V = (sx, 0) ∧ ((recS Q V r).2 ≠ 0 ∨ (recS Q V r).1 ≠ sx) ∧ (claT R Q).2.2.2 = 0 := by
  unfold fatS at h
  split at h
  · rename_i h1; injection h with _ h; injection h with _ h; exact absurd h h1
  · rename_i hbot
    split at h
    · cases h
    · rename_i hnn
      have hbot : botS R Q = 0 := by simpa using hbot
      have hfar : farB nn R Q = false := by
        cases hf : farB nn R Q
        · rfl
        · exact absurd (.inr (.inr hf)) hnn
      have hn1 : 1 ≤ nn := by omega
      have hn12 : nn ≤ 12 := by omega
      have hq : quoS Q = 0 := by
        unfold botS at hbot
        split at hbot
        · rename_i h1; exact absurd hbot h1
        · exact hbot
      cases hc : claS R Q with
      | none =>
        have : claT R Q = (0#16, 0#16, 0#16, 13) := by unfold claT; rw [hbot, if_neg (by decide), hc]; rfl
        rw [this] at h
        cases h
      | some p =>
        obtain ⟨a, b, r'⟩ := p
        obtain ⟨ha, hb, hr, ht⟩ := claS_some hc
        have hT : claT R Q = (a, b, r', 0) := by unfold claT; rw [hbot, if_neg (by decide), hc]; rfl
        rw [hT] at h ⊢
        have h' : (atkL (if (b &&& r' == 0#16) = true then b else a) b nn.toNat, r', (0 : Int)) = (V, r, 0) := h
        injection h' with hV h'
        injection h' with hr' _
        subst hr'
        obtain ⟨m, hm⟩ : ∃ m, nn.toNat = m := ⟨_, rfl⟩
        rw [hm] at hV
        have hm1 : 1 ≤ m := by omega
        have hm12 : m ≤ 12 := by omega
        obtain ⟨a', ha'⟩ : ∃ a', (if (b &&& r' == 0#16) = true then b else a) = a' := ⟨_, rfl⟩
        rw [ha'] at hV
        have haQ : a' ∈ Q := by rw [← ha']; split <;> assumption
        have hlen : V.length = m := by rw [← hV]; exact atkL_len _ _ _
        have hat : ∀ i, i < m → V.getD i ⟨#[]⟩ = atkV a' b i := fun i hi => by rw [← hV]; exact atkL_at _ _ _ _ hi
        have hltQ : ∀ x ∈ Q, ∀ i, hasB x i = true → i < m := fun x hx i hi => by rw [← hm]; exact far_lt hfar (.inr hx) hi
        have harg : argS Q V.length = 0 := by
          unfold argS
          rw [hq, if_neg (by decide), if_neg (by omega), if_neg (by omega)]
        have hxs : subB (votS V sx) a' = true := (subB_iff _ _).2 fun i hi => (vot_has (by omega)).2 ⟨by rw [hlen]; exact hltQ a' haQ i hi, by rw [hat i (hltQ a' haQ i hi)]; exact atkV_x hi⟩
        have hvals : ∀ (hh : BitVec 16) (s : Str), s ∈ valV V hh → s = [120] ∨ s = [121] := by
          intro hh s hs
          obtain ⟨j, hj, h1, h2, h3⟩ := (valV_mem V hh s).1 hs
          rw [hat j (by omega)] at h1 h2
          cases hA : hasB a' j
          · cases hB : hasB b j
            · rw [atkV_n hA hB, em_l] at h2; cases h2
            · rw [atkV_y hA hB, sy_l] at h1; exact .inr h1.symm
          · rw [atkV_x hA, sx_l] at h1; exact .inl h1.symm
        refine ⟨by omega, ?_, ?_, rfl⟩
        · obtain ⟨i, hi16, hi⟩ := quo_ne hq haQ
          have him := hltQ a' haQ i hi
          have hin : [120] ∈ valV V allS := (valV_mem V allS _).2 ⟨i, by omega, by rw [hat i him, atkV_x hi, sx_l], by rw [hat i him, atkV_x hi, sx_l]; rfl, by
            have : ∀ k : Fin 12, hasB allS k.val = true := by decide
            exact this ⟨i, by omega⟩⟩
          obtain ⟨t, ht'⟩ := head_x (valV_asc V allS) hin (hvals allS)
          unfold choS
          rw [harg]
          have : choF Q V = some sx := by
            unfold choF valB
            rw [ht', List.map_cons, List.findSome?_cons]
            have e : choP Q V ⟨[120].toArray⟩ = some sx := by
              unfold choP
              rw [if_pos]
              · rfl
              · unfold accS; exact List.any_eq_true.2 ⟨a', haQ, hxs⟩
            rw [e]
          rw [this]
          rfl
        · have hrec : recS Q V r' = recM V r' (posS Q V r') := by unfold recS; rw [harg]; rfl
          rw [hrec]
          cases hbr : (b &&& r' == 0#16)
          · have haa : a' = a := by rw [← ha', hbr]; rfl
            obtain ⟨j, hj16, hj⟩ := ne_zero_has hbr
            rw [hasB_and, Bool.and_eq_true] at hj
            have hna : ∀ i, hasB b i = true → hasB r' i = true → hasB a' i = false := by
              intro i h1 h2
              have := zero_has ht i
              rw [hasB_and, hasB_and, h1, h2] at this
              rw [haa]; simpa using this
            have hbm := hltQ b hb
            have hyp : sy ∈ posS Q V r' := by
              unfold posS
              refine List.mem_filter.2 ⟨valB_mem.2 ⟨j, by rw [hlen]; exact hbm j hj.1, by rw [hat j (hbm j hj.1)]; exact atkV_y (hna j hj.1 hj.2) hj.1, by rw [sy_l]; rfl, hj.2⟩, ?_⟩
              unfold posB
              refine List.any_eq_true.2 ⟨b, hb, ?_⟩
              unfold posP
              rw [Bool.and_eq_true]
              refine ⟨by simp [bne, hbr], has_sub fun i hi => ?_⟩
              rw [hasB_and, Bool.and_eq_true] at hi
              exact (vot_has (by omega)).2 ⟨by rw [hlen]; exact hbm i hi.1, by rw [hat i (hbm i hi.1)]; exact atkV_y (hna i hi.1 hi.2) hi.1⟩
            rcases pos_cases (posS Q V r') with ⟨x, hx⟩ | ⟨_, x, y, l, hx⟩ | hx
            · rw [hx] at hyp ⊢
              rw [List.mem_singleton] at hyp
              subst hyp
              exact .inr fun h => sxy h.symm
            · rw [hx]
              exact .inl (by show (12 : Int) ≠ 0; decide)
            · rw [hx] at hyp; cases hyp
          · have haa : a' = b := by rw [← ha', hbr]; rfl
            have hno : valB V r' = [] := by
              apply List.eq_nil_iff_forall_not_mem.2
              intro x hx
              obtain ⟨j, hj, h1, h2, h3⟩ := valB_mem.1 hx
              rw [hat j (by omega)] at h1
              cases hA : hasB b j
              · rw [atkV_n (by rw [haa]; exact hA) hA] at h1
                rw [← h1, em_l] at h2; cases h2
              · have := zero_has hbr j
                rw [hasB_and, hA, h3] at this; cases this
            have hpo : posS Q V r' = [] := by unfold posS; rw [hno]; rfl
            rw [hpo]
            left
            have e : recN V r' = (⟨#[]⟩, 4) := by unfold recN; rw [hno]; rfl
            show (recN V r').2 ≠ 0
            rw [e]
            show (4 : Int) ≠ 0
            decide

theorem more_law {Q : List (BitVec 16)} {V : List ByteArray} {s t : BitVec 16} (hn : V.length ≤ 12) (hQ : ∀ f ∈ Q, (f &&& s == 0#16) = false) : ∀ x ∈ posS Q V (s ||| t), x ∈ posS Q V s := by
  intro x hx
  obtain ⟨F, hF, h1, h2⟩ := pos_fam hx
  have hx2 := (List.mem_filter.1 hx).1
  obtain ⟨_, _, _, hne, _⟩ := valB_mem.1 hx2
  obtain ⟨j, hj16, hj⟩ := ne_zero_has (hQ F hF)
  rw [hasB_and, Bool.and_eq_true] at hj
  have hsub : ∀ i, hasB F i = true → hasB s i = true → hasB (votS V x) i = true := fun i h3 h4 => h2 i h3 (by rw [hasB_or, h4]; rfl)
  obtain ⟨hjl, hjv⟩ := (vot_has (by omega)).1 (hsub j hj.1 hj.2)
  unfold posS
  refine List.mem_filter.2 ⟨valB_mem.2 ⟨j, hjl, hjv, hne, hj.2⟩, ?_⟩
  unfold posB
  refine List.any_eq_true.2 ⟨F, hF, ?_⟩
  unfold posP
  rw [Bool.and_eq_true]
  refine ⟨by simp [bne, hQ F hF], has_sub fun i hi => ?_⟩
  rw [hasB_and, Bool.and_eq_true] at hi
  exact hsub i hi.1 hi.2
end Go.Proofs.Ytopcejcfghdeeaa
