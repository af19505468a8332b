/- Texts laid together. Layer 10, plain: simplified trees. No program. Layer 10, plain: simplifying keeps what a tree means, keeps it valid, and does nothing the second time. No program. Layer 10, plain: a simplified tree is simple, and stays as it is. No program. Trees in memory, and rows of what lies in several cells. Plain lemmas over the model, no program. The reference's weight and sum of layer 10. A region that draws its order: operations that stay in a class of worlds, and behind them, in one forced order, a tail that writes. Over any program. A region that draws its order and ends in one store that changes what some of its loads read: one walk in the order of the text. Over any program. -/
import Derived.Test.YtcojmmhclklpoaaGreatDoorGC2
import Derived.Test.YtcojmmhclklpoaaGreatDoorGC3
import Derived.StillTail
import Derived.Deep.Quiet
import Derived.Deep.QuietTactic
namespace Go.Proofs.YtcojmmhclklpoaaGreatDoor

def ET.constB : ET → Bool
  | .srv _ => false
  | .thr _ _ ks => ks.isEmpty
def ET.needOf : ET → Int
  | .srv _ => 0
  | .thr n _ _ => n
def ET.kidsOf : ET → List ET
  | .srv _ => []
  | .thr _ _ ks => ks
def ET.anyB : ET → Bool
  | .srv _ => false
  | .thr n ws ks => (!ks.isEmpty && ws.isEmpty) && decide (n = 1)
def ET.allB : ET → Bool
  | .srv _ => false
  | .thr n ws ks => (!ks.isEmpty && ws.isEmpty) && decide (n = (ks.length : Int))
def mergT (form : ET → Bool) (ks : List ET) : List ET := ks.flatMap fun k => if form k = true then k.kidsOf else [k]
def leastL : List Int → Int
  | [] => 0
  | a :: l => l.foldl min a
def greatL : List Int → Int
  | [] => 0
  | a :: l => l.foldl max a
def sumL (l : List Int) : Int := l.foldr (· + ·) 0
def lightT (need sum : Int) (ws : List Int) (ks : List ET) : ET :=
  if need ≤ leastL ws then .thr 1 [] ks else if sum - leastL ws < need then .thr ks.length [] ks
  else if leastL ws = greatL ws then .thr ((need + leastL ws - 1) / leastL ws) [] ks else .thr need ws ks
structure SS where
  need : Int
  ks : List ET
  ws : List Int
  sum : Int
def stepS (st : SS) (k : ET) (w : Int) : SS :=
  if k.constB = false then ⟨st.need, st.ks ++ [k], st.ws ++ [w], st.sum + w⟩
  else if k.needOf = 0 then ⟨max 0 (st.need - w), st.ks, st.ws, st.sum⟩ else st
def mergA (out : ET) : ET :=
  if out.anyB = true then .thr out.needOf [] (mergT ET.anyB out.kidsOf)
  else if out.allB = true then .thr (mergT ET.allB out.kidsOf).length [] (mergT ET.allB out.kidsOf) else out
/-- the one kid, or the tree -/
def oneOf : List ET → ET → ET
  | [k], _ => k
  | _, X => X
theorem oneOf_two {ks : List ET} (h : 2 ≤ ks.length) (X : ET) : oneOf ks X = X := by
  match ks, h with
  | _ :: _ :: _, _ => rfl
theorem oneOf_cases (ks : List ET) (X : ET) (h : ks ≠ []) : (∃ k, ks = [k] ∧ oneOf ks X = k) ∨ (2 ≤ ks.length ∧ oneOf ks X = X) := by
  match ks, h with
  | [k], _ => exact .inl ⟨k, rfl, rfl⟩
  | a :: b :: l, _ => exact .inr ⟨by simp, rfl⟩
def finS (st : SS) : ET :=
  if st.need = 0 then .thr 0 [] [] else if st.sum < st.need then .thr 1 [] []
  else oneOf st.ks (mergA (lightT st.need st.sum st.ws st.ks))
mutual
def ET.simp : ET → ET
  | .srv s => .srv s
  | .thr n ws ks => finS (ETs.simpF ks ws 0 ⟨n, [], [], 0⟩)
def ETs.simpF : List ET → List Int → Nat → SS → SS
  | [], _, _, st => st
  | t :: ts, ws, k, st => ETs.simpF ts ws (k + 1) (stepS st t.simp (wgtW ws k))
end

/-! least and greatest -/
theorem foldl_min (l : List Int) : ∀ a, l.foldl min a ≤ a ∧ (∀ w ∈ l, l.foldl min a ≤ w) ∧ (l.foldl min a = a ∨ l.foldl min a ∈ l) := by
  induction l with
  | nil => intro a; exact ⟨Int.le_refl _, (fun w h => by cases h), Or.inl rfl⟩
  | cons b l ih =>
    intro a
    obtain ⟨h1, h2, h3⟩ := ih (min a b)
    rw [List.foldl_cons]
    refine ⟨by omega, fun w hw => ?_, ?_⟩
    · rcases List.mem_cons.1 hw with rfl | hw
      · omega
      · exact h2 w hw
    · rcases h3 with h3 | h3
      · by_cases hab : a ≤ b
        · left; rw [h3]; omega
        · right; rw [h3, show min a b = b by omega]; simp
      · right; exact List.mem_cons_of_mem _ h3
theorem foldl_max (l : List Int) : ∀ a, a ≤ l.foldl max a ∧ (∀ w ∈ l, w ≤ l.foldl max a) ∧ (l.foldl max a = a ∨ l.foldl max a ∈ l) := by
  induction l with
  | nil => intro a; exact ⟨Int.le_refl _, (fun w h => by cases h), Or.inl rfl⟩
  | cons b l ih =>
    intro a
    obtain ⟨h1, h2, h3⟩ := ih (max a b)
    rw [List.foldl_cons]
    refine ⟨by omega, fun w hw => ?_, ?_⟩
    · rcases List.mem_cons.1 hw with rfl | hw
      · omega
      · exact h2 w hw
    · rcases h3 with h3 | h3
      · by_cases hab : b ≤ a
        · left; rw [h3]; omega
        · right; rw [h3, show max a b = b by omega]; simp
      · right; exact List.mem_cons_of_mem _ h3
theorem least_le {l : List Int} : ∀ w ∈ l, leastL l ≤ w := by
  cases l with
  | nil => intro w h; cases h
  | cons a l =>
    intro w hw
    obtain ⟨h1, h2, _⟩ := foldl_min l a
    rcases List.mem_cons.1 hw with rfl | hw
    · exact h1
    · exact h2 w hw
theorem great_ge {l : List Int} : ∀ w ∈ l, w ≤ greatL l := by
  cases l with
  | nil => intro w h; cases h
  | cons a l =>
    intro w hw
    obtain ⟨h1, h2, _⟩ := foldl_max l a
    rcases List.mem_cons.1 hw with rfl | hw
    · exact h1
    · exact h2 w hw
theorem least_mem {l : List Int} (h : l ≠ []) : leastL l ∈ l := by
  cases l with
  | nil => exact absurd rfl h
  | cons a l =>
    rcases (foldl_min l a).2.2 with e | e
    · show l.foldl min a ∈ _; rw [e]; simp
    · exact List.mem_cons_of_mem _ e
theorem great_mem {l : List Int} (h : l ≠ []) : greatL l ∈ l := by
  cases l with
  | nil => exact absurd rfl h
  | cons a l =>
    rcases (foldl_max l a).2.2 with e | e
    · show l.foldl max a ∈ _; rw [e]; simp
    · exact List.mem_cons_of_mem _ e
theorem all_eq {l : List Int} (h : leastL l = greatL l) : ∀ w ∈ l, w = leastL l := fun w hw => by
  have := least_le w hw; have := great_ge w hw; omega

/-! the weights of satisfied trees -/
def gotZ : List ET → List Int → BitVec 16 → Int
  | t :: ts, w :: ws, S => (if t.hold S = true then w else 0) + gotZ ts ws S
  | _, _, _ => 0
def ETs.wts : List ET → List Int → Nat → List Int
  | [], _, _ => []
  | _ :: ts, ws, k => wgtW ws k :: ETs.wts ts ws (k + 1)
theorem got_wts (S : BitVec 16) (ws : List Int) : ∀ (ts : List ET) (k : Nat), ETs.got ts S ws k = gotZ ts (ETs.wts ts ws k) S
  | [], _ => by simp [ETs.got, gotZ]
  | t :: ts, k => by rw [ETs.got, ETs.wts, gotZ, got_wts S ws ts]
theorem wts_len (ws : List Int) : ∀ (ts : List ET) (k : Nat), (ETs.wts ts ws k).length = ts.length
  | [], _ => rfl
  | t :: ts, k => by rw [ETs.wts, List.length_cons, List.length_cons, wts_len ws ts]
theorem wts_self {ws : List Int} (h : ws ≠ []) : ∀ (ts : List ET) (k : Nat), ws.length = k + ts.length → ETs.wts ts ws k = ws.drop k
  | [], k, hl => by rw [ETs.wts, List.drop_eq_nil_of_le (by simp at hl; omega)]
  | t :: ts, k, hl => by
    rw [List.length_cons] at hl
    rw [ETs.wts, wts_self h ts (k + 1) (by omega), List.drop_eq_getElem_cons (show k < ws.length by omega)]
    unfold wgtW
    rw [if_neg h, List.getD_eq_getElem?_getD, List.getElem?_eq_getElem (show k < ws.length by omega)]
    rfl
theorem wts_nil : ∀ (ts : List ET) (k : Nat), ETs.wts ts [] k = List.replicate ts.length 1
  | [], _ => rfl
  | t :: ts, k => by rw [ETs.wts, wts_nil ts (k + 1)]; rfl
/-- how many are satisfied -/
def cntT (ks : List ET) (S : BitVec 16) : Nat := (ks.filter fun t => t.hold S).length
theorem gotZ_same (S : BitVec 16) (m : Int) : ∀ (ts : List ET) (ws : List Int), ws.length = ts.length → (∀ w ∈ ws, w = m) → gotZ ts ws S = m * (cntT ts S : Int)
  | [], ws, _, _ => by unfold cntT; cases ws <;> simp [gotZ]
  | t :: ts, [], h, _ => by simp at h
  | t :: ts, w :: ws, h, hw => by
    have e : w = m := hw w (by simp)
    subst e
    have ih := gotZ_same S w ts ws (by simpa using h) (fun v hv => hw v (List.mem_cons_of_mem _ hv))
    rw [gotZ, ih]
    unfold cntT
    cases ht : t.hold S
    · rw [List.filter_cons_of_neg (by simp [ht])]; simp
    · rw [List.filter_cons_of_pos (by simpa using ht), List.length_cons]
      simp only [if_true]
      rw [Int.natCast_add, Int.mul_add]; omega
theorem gotZ_ones (S : BitVec 16) (ts : List ET) : gotZ ts (List.replicate ts.length 1) S = (cntT ts S : Int) := by
  rw [gotZ_same S 1 ts _ (by simp) (fun w hw => (List.mem_replicate.1 hw).2), Int.one_mul]
theorem got_cnt (S : BitVec 16) (ts : List ET) (k : Nat) : ETs.got ts S [] k = (cntT ts S : Int) := by
  rw [got_wts, wts_nil, gotZ_ones]
theorem gotZ_rng (S : BitVec 16) : ∀ (ts : List ET) (ws : List Int), (∀ w ∈ ws, 1 ≤ w) → 0 ≤ gotZ ts ws S ∧ gotZ ts ws S ≤ sumL ws
  | [], ws, h => by
    have : 0 ≤ sumL ws := by
      clear S
      induction ws with
      | nil => exact Int.le_refl _
      | cons w ws ih => have := ih (fun v hv => h v (List.mem_cons_of_mem _ hv)); have := h w (by simp); unfold sumL at *; rw [List.foldr_cons]; omega
    cases ws <;> simp only [gotZ] <;> omega
  | t :: ts, [], _ => by simp [gotZ, sumL]
  | t :: ts, w :: ws, h => by
    have ih := gotZ_rng S ts ws (fun v hv => h v (List.mem_cons_of_mem _ hv))
    have := h w (by simp)
    rw [gotZ]
    unfold sumL at *
    rw [List.foldr_cons]
    split <;> omega
theorem sumL_app (l : List Int) (w : Int) : sumL (l ++ [w]) = sumL l + w := by
  induction l with
  | nil => simp [sumL]
  | cons a l ih => unfold sumL at *; rw [List.cons_append, List.foldr_cons, List.foldr_cons, ih]; omega
theorem gotZ_app (S : BitVec 16) (k : ET) (w : Int) : ∀ (ts : List ET) (ws : List Int), ws.length = ts.length → gotZ (ts ++ [k]) (ws ++ [w]) S = gotZ ts ws S + (if k.hold S = true then w else 0)
  | [], ws, h => by
    obtain rfl : ws = [] := List.eq_nil_of_length_eq_zero (by simpa using h)
    simp [gotZ]
  | t :: ts, [], h => by simp at h
  | t :: ts, v :: ws, h => by
    rw [List.cons_append, List.cons_append, gotZ, gotZ, gotZ_app S k w ts ws (by simpa using h)]; omega
/-- a satisfied one weighs -/
theorem gotZ_some (S : BitVec 16) : ∀ (ts : List ET) (ws : List Int), ws.length = ts.length → (∀ w ∈ ws, 1 ≤ w) → (∃ t ∈ ts, t.hold S = true) → leastL ws ≤ gotZ ts ws S := by
  intro ts ws hl hw ⟨t, ht, hh⟩
  have key : ∀ (m : Int) (ts : List ET) (ws : List Int), ws.length = ts.length → (∀ w ∈ ws, 1 ≤ w ∧ m ≤ w) → t ∈ ts → m ≤ gotZ ts ws S := by
    intro m ts
    induction ts with
    | nil => intro ws _ _ h; cases h
    | cons u ts ih =>
      intro ws hl hw h
      cases ws with
      | nil => simp at hl
      | cons w ws =>
        have hr := gotZ_rng S ts ws (fun v hv => (hw v (List.mem_cons_of_mem _ hv)).1)
        have hw0 := hw w (by simp)
        rw [gotZ]
        rcases List.mem_cons.1 h with rfl | h
        · rw [if_pos hh]; omega
        · have := ih ws (by simpa using hl) (fun v hv => hw v (List.mem_cons_of_mem _ hv)) h
          split <;> omega
  exact key _ ts ws hl (fun w h => ⟨hw w h, least_le w h⟩) ht
/-- one that is not satisfied is missing -/
theorem gotZ_miss (S : BitVec 16) : ∀ (ts : List ET) (ws : List Int), ws.length = ts.length → (∀ w ∈ ws, 1 ≤ w) → (∃ t ∈ ts, t.hold S = false) → gotZ ts ws S ≤ sumL ws - leastL ws := by
  intro ts ws hl hw ⟨t, ht, hh⟩
  have key : ∀ (m : Int) (ts : List ET) (ws : List Int), ws.length = ts.length → (∀ w ∈ ws, 1 ≤ w ∧ m ≤ w) → t ∈ ts → gotZ ts ws S ≤ sumL ws - m := by
    intro m ts
    induction ts with
    | nil => intro ws _ _ h; cases h
    | cons u ts ih =>
      intro ws hl hw h
      cases ws with
      | nil => simp at hl
      | cons w ws =>
        have hr := gotZ_rng S ts ws (fun v hv => (hw v (List.mem_cons_of_mem _ hv)).1)
        have hw0 := hw w (by simp)
        have hs : sumL (w :: ws) = w + sumL ws := rfl
        rw [gotZ, hs]
        rcases List.mem_cons.1 h with rfl | h
        · rw [if_neg (by rw [hh]; decide)]; omega
        · have := ih ws (by simpa using hl) (fun v hv => hw v (List.mem_cons_of_mem _ hv)) h
          split <;> omega
  exact key _ ts ws hl (fun w h => ⟨hw w h, least_le w h⟩) ht
theorem cntT_some {ts : List ET} {S : BitVec 16} : 1 ≤ cntT ts S ↔ ∃ t ∈ ts, t.hold S = true := by
  unfold cntT
  constructor
  · intro h
    obtain ⟨t, ht⟩ := List.exists_mem_of_ne_nil _ (show (ts.filter fun t => t.hold S) ≠ [] from fun e => by rw [e] at h; simp at h)
    obtain ⟨h1, h2⟩ := List.mem_filter.1 ht
    exact ⟨t, h1, h2⟩
  · rintro ⟨t, h1, h2⟩
    exact List.length_pos_of_mem (List.mem_filter.2 ⟨h1, h2⟩)
theorem cntT_all {ts : List ET} {S : BitVec 16} : ts.length ≤ cntT ts S ↔ ∀ t ∈ ts, t.hold S = true := by
  unfold cntT
  constructor
  · intro h t ht
    have hle := List.length_filter_le (fun t : ET => t.hold S) ts
    have := List.length_filter_eq_length_iff.1 (show (ts.filter fun t => t.hold S).length = ts.length by omega) t ht
    exact this
  · intro h
    exact Nat.le_of_eq (List.length_filter_eq_length_iff.2 (fun t ht => h t ht)).symm
theorem thr_hold (n : Int) (ks : List ET) (S : BitVec 16) : (ET.thr n [] ks).hold S = decide (n ≤ (cntT ks S : Int)) := by rw [ET.hold, got_cnt]
theorem thr_holdw (n : Int) {ws : List Int} (h : ws ≠ []) {ks : List ET} (hl : ws.length = ks.length) (S : BitVec 16) : (ET.thr n ws ks).hold S = decide (n ≤ gotZ ks ws S) := by
  rw [ET.hold, got_wts, wts_self h ks 0 (by omega)]; rfl
theorem thr_one (ks : List ET) (S : BitVec 16) : (ET.thr 1 [] ks).hold S = ks.any fun t => t.hold S := by
  rw [thr_hold, Bool.eq_iff_iff, decide_eq_true_iff, List.any_eq_true]
  rw [← cntT_some]; omega
theorem thr_all (ks : List ET) (S : BitVec 16) : (ET.thr ks.length [] ks).hold S = ks.all fun t => t.hold S := by
  rw [thr_hold, Bool.eq_iff_iff, decide_eq_true_iff, List.all_eq_true]
  rw [← cntT_all]; omega
theorem any_any {t : ET} (h : t.anyB = true) (S : BitVec 16) : t.hold S = t.kidsOf.any fun t => t.hold S := by
  cases t with
  | srv s => cases h
  | thr n ws ks =>
    simp only [ET.anyB, Bool.and_eq_true, decide_eq_true_iff] at h
    obtain ⟨⟨_, h2⟩, rfl⟩ := h
    obtain rfl : ws = [] := by simpa using h2
    exact thr_one ks S
theorem all_all {t : ET} (h : t.allB = true) (S : BitVec 16) : t.hold S = t.kidsOf.all fun t => t.hold S := by
  cases t with
  | srv s => cases h
  | thr n ws ks =>
    simp only [ET.allB, Bool.and_eq_true, decide_eq_true_iff] at h
    obtain ⟨⟨_, h2⟩, rfl⟩ := h
    obtain rfl : ws = [] := by simpa using h2
    exact thr_all ks S
theorem merg_any (ks : List ET) (S : BitVec 16) : ((mergT ET.anyB ks).any fun t => t.hold S) = ks.any fun t => t.hold S := by
  unfold mergT
  induction ks with
  | nil => rfl
  | cons k ks ih =>
    rw [List.flatMap_cons, List.any_append, ih, List.any_cons]
    congr 1
    by_cases h : k.anyB = true
    · rw [if_pos h, any_any h]
    · rw [if_neg h]; simp
theorem merg_all (ks : List ET) (S : BitVec 16) : ((mergT ET.allB ks).all fun t => t.hold S) = ks.all fun t => t.hold S := by
  unfold mergT
  induction ks with
  | nil => rfl
  | cons k ks ih =>
    rw [List.flatMap_cons, List.all_append, ih, List.all_cons]
    congr 1
    by_cases h : k.allB = true
    · rw [if_pos h, all_all h]
    · rw [if_neg h]; simp
theorem mergA_hold (out : ET) (S : BitVec 16) : (mergA out).hold S = out.hold S := by
  unfold mergA
  by_cases h : out.anyB = true
  · rw [if_pos h]
    have h1 : out.needOf = 1 := by
      cases out with
      | srv s => cases h
      | thr n ws ks => simp only [ET.anyB, Bool.and_eq_true, decide_eq_true_iff] at h; exact h.2
    rw [h1, thr_one, merg_any, any_any h]
  · rw [if_neg h]
    by_cases h2 : out.allB = true
    · rw [if_pos h2, thr_all, merg_all, all_all h2]
    · rw [if_neg h2]
theorem light_hold {need sum : Int} {ws : List Int} {ks : List ET} (hn : 1 ≤ need) (hs : sum = sumL ws) (hle : need ≤ sum) (hw : ∀ w ∈ ws, 1 ≤ w) (hl : ws.length = ks.length) (hne : ws ≠ []) (S : BitVec 16) :
    (lightT need sum ws ks).hold S = decide (need ≤ gotZ ks ws S) := by
  have hpos : 1 ≤ leastL ws := hw _ (least_mem hne)
  have hr := gotZ_rng S ks ws hw
  unfold lightT
  by_cases h1 : need ≤ leastL ws
  · rw [if_pos h1, thr_one, Bool.eq_iff_iff, List.any_eq_true, decide_eq_true_iff]
    constructor
    · intro h; have := gotZ_some S ks ws hl hw h; omega
    · intro h
      apply Classical.byContradiction
      intro hc
      have : gotZ ks ws S = 0 := by
        have key : ∀ (ts : List ET) (ws : List Int), (∀ t ∈ ts, t.hold S = false) → gotZ ts ws S = 0 := by
          intro ts
          induction ts with
          | nil => intro ws _; cases ws <;> rfl
          | cons t ts ih =>
            intro ws h
            cases ws with
            | nil => rfl
            | cons w ws => rw [gotZ, if_neg (by rw [h t (by simp)]; decide), ih ws (fun u hu => h u (List.mem_cons_of_mem _ hu))]; rfl
        exact key ks ws (fun t ht => by
          cases hh : t.hold S
          · rfl
          · exact absurd ⟨t, ht, hh⟩ hc)
      omega
  · rw [if_neg h1]
    by_cases h2 : sum - leastL ws < need
    · rw [if_pos h2, thr_all, Bool.eq_iff_iff, List.all_eq_true, decide_eq_true_iff]
      constructor
      · intro h
        have : gotZ ks ws S = sumL ws := by
          have key : ∀ (ts : List ET) (ws : List Int), ws.length = ts.length → (∀ t ∈ ts, t.hold S = true) → gotZ ts ws S = sumL ws := by
            intro ts
            induction ts with
            | nil => intro ws h _; obtain rfl : ws = [] := List.eq_nil_of_length_eq_zero (by simpa using h); rfl
            | cons t ts ih =>
              intro ws hl h
              cases ws with
              | nil => simp at hl
              | cons w ws => rw [gotZ, if_pos (h t (by simp)), ih ws (by simpa using hl) (fun u hu => h u (List.mem_cons_of_mem _ hu))]; rfl
          exact key ks ws hl h
        omega
      · intro h t ht
        cases hh : t.hold S
        · have := gotZ_miss S ks ws hl hw ⟨t, ht, hh⟩; omega
        · rfl
    · rw [if_neg h2]
      by_cases h3 : leastL ws = greatL ws
      · rw [if_pos h3, thr_hold, gotZ_same S (leastL ws) ks ws hl (all_eq h3)]
        rw [Bool.eq_iff_iff, decide_eq_true_iff, decide_eq_true_iff]
        generalize leastL ws = m at hpos ⊢
        generalize (cntT ks S : Int) = c
        constructor
        · intro h
          have h4 : need + m - 1 < m * (c + 1) := by
            have := Int.lt_mul_of_ediv_lt (c := m) (by omega) (show (need + m - 1) / m < c + 1 by omega)
            rw [Int.mul_comm] at this; exact this
          rw [Int.mul_add] at h4; omega
        · intro h
          have h4 : need + m - 1 < (c + 1) * m := by rw [Int.add_mul, Int.mul_comm c m]; omega
          have := Int.ediv_lt_of_lt_mul (by omega) h4
          omega
      · rw [if_neg h3, thr_holdw need hne hl]

/-- what a state of the fold keeps -/
structure SOk (st : SS) : Prop where
  need : 0 ≤ st.need
  len : st.ws.length = st.ks.length
  wts : ∀ w ∈ st.ws, 1 ≤ w ∧ w ≤ 1000
  sum : st.sum = sumL st.ws
theorem fin_hold {st : SS} (h : SOk st) (S : BitVec 16) : (finS st).hold S = decide (st.need ≤ gotZ st.ks st.ws S) := by
  have hw : ∀ w ∈ st.ws, 1 ≤ w := fun w hw => (h.wts w hw).1
  have hr := gotZ_rng S st.ks st.ws hw
  have hn := h.need
  have hs := h.sum
  unfold finS
  by_cases h0 : st.need = 0
  · rw [if_pos h0, thr_hold, decide_eq_true (show st.need ≤ gotZ st.ks st.ws S by omega)]; rfl
  · rw [if_neg h0]
    by_cases h1 : st.sum < st.need
    · rw [if_pos h1, thr_hold, decide_eq_false (show ¬ st.need ≤ gotZ st.ks st.ws S by omega)]; rfl
    · rw [if_neg h1]
      have hne : st.ws ≠ [] := fun e => by rw [e] at hs; simp [sumL] at hs; omega
      have hl := h.len
      have hkne : st.ks ≠ [] := fun e => hne (List.eq_nil_of_length_eq_zero (by rw [hl, e]; rfl))
      rcases oneOf_cases st.ks (mergA (lightT st.need st.sum st.ws st.ks)) hkne with ⟨k, hk, ho⟩ | ⟨_, ho⟩
      · rw [ho]
        rw [hk] at hl ⊢
        obtain ⟨w, hwe⟩ : ∃ w, st.ws = [w] := by
          match hq : st.ws, hl with
          | [w], _ => exact ⟨w, rfl⟩
        have hw1 := hw w (by rw [hwe]; simp)
        rw [hwe] at hs ⊢
        have : sumL [w] = w := by simp [sumL]
        rw [gotZ, gotZ]
        · cases k.hold S
          · rw [decide_eq_false (by simp; omega)]
          · rw [decide_eq_true (by simp; omega)]
        · intro _ _ _ _ h; cases h
      · rw [ho, mergA_hold, light_hold (by omega) hs (by omega) hw hl hne]
theorem const_hold {t : ET} (h : t.constB = true) (S : BitVec 16) : t.hold S = decide (t.needOf ≤ 0) := by
  cases t with
  | srv s => cases h
  | thr n ws ks =>
    have : ks = [] := by simpa [ET.constB] using h
    subst this
    rw [ET.hold, ETs.got]; rfl
theorem step_ok {st : SS} (h : SOk st) {k : ET} {w : Int} (hw : 1 ≤ w ∧ w ≤ 1000) : SOk (stepS st k w) := by
  unfold stepS
  split
  · exact ⟨h.need, by simp [h.len], fun v hv => by
      rcases List.mem_append.1 hv with hv | hv
      · exact h.wts v hv
      · simp at hv; subst hv; exact hw, by show st.sum + w = _; rw [sumL_app, h.sum]⟩
  · split
    · exact ⟨by show 0 ≤ max 0 (st.need - w); omega, h.len, h.wts, h.sum⟩
    · exact h
theorem step_hold {st : SS} (h : SOk st) {k : ET} {w G : Int} (_hw : 1 ≤ w) (hk : k.constB = true → 0 ≤ k.needOf) (hG : 0 ≤ G) (S : BitVec 16) :
    decide ((stepS st k w).need ≤ gotZ (stepS st k w).ks (stepS st k w).ws S + G) = decide (st.need ≤ gotZ st.ks st.ws S + ((if k.hold S = true then w else 0) + G)) := by
  have hr := gotZ_rng S st.ks st.ws (fun w hw => (h.wts w hw).1)
  unfold stepS
  by_cases hc : k.constB = false
  · rw [if_pos hc]
    show decide (st.need ≤ gotZ (st.ks ++ [k]) (st.ws ++ [w]) S + G) = _
    rw [gotZ_app S k w st.ks st.ws h.len, Int.add_assoc]
  · have hc' : k.constB = true := by simpa using hc
    have hn := hk hc'
    rw [if_neg hc, const_hold hc']
    by_cases h0 : k.needOf = 0
    · rw [if_pos h0, h0]
      show decide (max 0 (st.need - w) ≤ gotZ st.ks st.ws S + G) = _
      simp only [Int.le_refl, decide_true, if_true]
      rw [Bool.eq_iff_iff, decide_eq_true_iff, decide_eq_true_iff]
      omega
    · rw [if_neg h0, decide_eq_false (show ¬ k.needOf ≤ 0 by omega)]
      simp
theorem wgtW_rng {ws : List Int} (h : ∀ w ∈ ws, 1 ≤ w ∧ w ≤ 1000) {k : Nat} (hk : ws = [] ∨ k < ws.length) : 1 ≤ wgtW ws k ∧ wgtW ws k ≤ 1000 := by
  unfold wgtW
  split
  · omega
  · rename_i hne
    have hl : k < ws.length := hk.resolve_left hne
    rw [List.getD_eq_getElem?_getD, List.getElem?_eq_getElem hl]
    exact h _ (List.getElem_mem hl)
end Go.Proofs.YtcojmmhclklpoaaGreatDoor
namespace Go.Proofs.YtcojmmhclklpoaaGreatDoor

/-! the fold -/
theorem mergT_mem {form : ET → Bool} {ks : List ET} {t : ET} (h : t ∈ mergT form ks) : (t ∈ ks ∧ form t = false) ∨ ∃ k ∈ ks, form k = true ∧ t ∈ k.kidsOf := by
  unfold mergT at h
  obtain ⟨k, hk, ht⟩ := List.mem_flatMap.1 h
  by_cases hf : form k = true
  · rw [if_pos hf] at ht; exact .inr ⟨k, hk, hf, ht⟩
  · rw [if_neg hf] at ht
    simp at ht; subst ht
    exact .inl ⟨hk, by simpa using hf⟩
theorem ok_kids {t : ET} (h : t.ok) : ∀ k ∈ t.kidsOf, k.ok := by
  cases t with
  | srv s => intro k hk; cases hk
  | thr n ws ks => rw [ET.ok] at h; exact (ETs.ok_iff ks).1 h.2.2.2
theorem ETs.sz_flat (form : ET → Bool) : ∀ ks : List ET, ETs.sz (mergT form ks) ≤ ETs.sz ks
  | [] => by simp [mergT, ETs.sz]
  | k :: ks => by
    have ih := ETs.sz_flat form ks
    unfold mergT at *
    rw [List.flatMap_cons, ETs.sz_app, ETs.sz]
    have : ETs.sz (if form k = true then k.kidsOf else [k]) ≤ k.sz := by
      split
      · cases k with
        | srv s => simp [ET.kidsOf, ETs.sz, ET.sz]
        | thr n ws ks => show ETs.sz ks ≤ _; rw [ET.sz]; omega
      · simp [ETs.sz]
    omega
theorem need_nn {t : ET} (h : t.ok) : 0 ≤ t.needOf := by
  cases t with
  | srv s => exact Int.le_refl _
  | thr n ws ks => rw [ET.ok] at h; exact h.1.1
/-- what the fold keeps: weights, valid trees, sizes -/
structure SOk2 (st : SS) (N : Int) (Z : Nat) : Prop where
  toSOk : SOk st
  top : st.need ≤ N
  ok : ETs.ok st.ks
  sz : ETs.sz st.ks ≤ Z
theorem step_ok2 {st : SS} {N : Int} {Z : Nat} (h : SOk2 st N Z) {k : ET} {w : Int} (hw : 1 ≤ w ∧ w ≤ 1000) (hk : k.ok) : SOk2 (stepS st k w) N (Z + k.sz) := by
  refine ⟨step_ok h.toSOk hw, ?_, ?_, ?_⟩
  · unfold stepS
    split
    · exact h.top
    · split
      · show max 0 (st.need - w) ≤ N
        have := h.top; have := h.toSOk.need; omega
      · exact h.top
  · unfold stepS
    split
    · show ETs.ok (st.ks ++ [k])
      rw [ETs.ok_iff]
      intro t ht
      rcases List.mem_append.1 ht with ht | ht
      · exact (ETs.ok_iff _).1 h.ok t ht
      · simp at ht; subst ht; exact hk
    · split <;> exact h.ok
  · have := h.sz
    unfold stepS
    split
    · show ETs.sz (st.ks ++ [k]) ≤ _
      rw [ETs.sz_app]; simp only [ETs.sz]; omega
    · split
      · show ETs.sz st.ks ≤ _; omega
      · omega
theorem light_ok {st : SS} {N : Int} {Z : Nat} (h : SOk2 st N Z) (hN : N ≤ 100000) (hn : 1 ≤ st.need) (hl : st.ks.length ≤ 100000) (hne : st.ws ≠ []) : (lightT st.need st.sum st.ws st.ks).ok ∧ (lightT st.need st.sum st.ws st.ks).sz ≤ Z + 1 := by
  have hw : ∀ w ∈ st.ws, 1 ≤ w := fun w hw => (h.toSOk.wts w hw).1
  have hpos : 1 ≤ leastL st.ws := hw _ (least_mem hne)
  have ht := h.top
  have hz := h.sz
  have base : ∀ n : Int, 0 ≤ n → n ≤ 100000 → (ET.thr n [] st.ks).ok := fun n h1 h2 => by
    rw [ET.ok]; exact ⟨⟨h1, h2⟩, (fun w h => by cases h), .inl rfl, h.ok⟩
  have szb : ∀ n ws, (ET.thr n ws st.ks).sz ≤ Z + 1 := fun n ws => by rw [ET.sz]; omega
  unfold lightT
  split
  · exact ⟨base 1 (by omega) (by omega), szb _ _⟩
  · split
    · exact ⟨base _ (by omega) (by omega), szb _ _⟩
    · split
      · refine ⟨base _ (Int.ediv_nonneg (by omega) (by omega)) ?_, szb _ _⟩
        have : (st.need + leastL st.ws - 1) / leastL st.ws ≤ st.need := by
          have h1 : st.need + leastL st.ws - 1 < (st.need + 1) * leastL st.ws := by
            rw [Int.add_mul]
            have : st.need * 1 ≤ st.need * leastL st.ws := Int.mul_le_mul_of_nonneg_left hpos (by omega)
            omega
          have := Int.ediv_lt_of_lt_mul (by omega) h1
          omega
        omega
      · refine ⟨?_, szb _ _⟩
        rw [ET.ok]
        exact ⟨⟨by omega, by omega⟩, h.toSOk.wts, .inr h.toSOk.len, h.ok⟩
theorem mergA_ok {out : ET} (h : out.ok) (hz : out.sz ≤ 100000) : (mergA out).ok ∧ (mergA out).sz ≤ out.sz := by
  have key : ∀ (form : ET → Bool) (n : Int), 0 ≤ n → n ≤ 100000 → (ET.thr n [] (mergT form out.kidsOf)).ok := fun form n h1 h2 => by
    rw [ET.ok]
    refine ⟨⟨h1, h2⟩, (fun w h => by cases h), .inl rfl, (ETs.ok_iff _).2 fun t ht => ?_⟩
    rcases mergT_mem ht with ⟨h3, _⟩ | ⟨k, hk, _, h4⟩
    · exact ok_kids h t h3
    · exact ok_kids (ok_kids h k hk) t h4
  have szk : ∀ (form : ET → Bool) (n : Int) (ht : out.constB = false ∨ True), (∃ m ws ks, out = .thr m ws ks) → (ET.thr n [] (mergT form out.kidsOf)).sz ≤ out.sz := fun form n _ ⟨m, ws, ks, e⟩ => by
    subst e
    have := ETs.sz_flat form ks
    show ETs.sz (mergT form ks) + 1 ≤ ETs.sz ks + 1
    omega
  unfold mergA
  split
  · rename_i ha
    have he : ∃ m ws ks, out = .thr m ws ks := by cases out with | srv s => cases ha | thr m ws ks => exact ⟨m, ws, ks, rfl⟩
    have hn : out.needOf = 1 := by
      obtain ⟨m, ws, ks, rfl⟩ := he
      simp only [ET.anyB, Bool.and_eq_true, decide_eq_true_iff] at ha; exact ha.2
    exact ⟨key _ _ (by omega) (by omega), szk _ _ (.inr trivial) he⟩
  · split
    · rename_i _ ha
      have he : ∃ m ws ks, out = .thr m ws ks := by cases out with | srv s => cases ha | thr m ws ks => exact ⟨m, ws, ks, rfl⟩
      have hlen : (mergT ET.allB out.kidsOf).length ≤ out.sz := by
        obtain ⟨m, ws, ks, rfl⟩ := he
        have h1 := ETs.sz_flat ET.allB ks
        have h2 := ETs.sz_ge (mergT ET.allB ks)
        show (mergT ET.allB ks).length ≤ ETs.sz ks + 1
        omega
      exact ⟨key _ _ (by omega) (by omega), szk _ _ (.inr trivial) he⟩
    · exact ⟨h, Nat.le_refl _⟩
theorem fin_ok {st : SS} {N : Int} {Z : Nat} (h : SOk2 st N Z) (hN : N ≤ 100000) (hZ : Z ≤ 10000) : (finS st).ok ∧ (finS st).sz ≤ Z + 1 := by
  have hs := h.toSOk.sum
  have hn := h.toSOk.need
  unfold finS
  split
  · refine ⟨?_, by simp [ET.sz, ETs.sz]⟩
    rw [ET.ok]; exact ⟨by omega, (fun w h => by cases h), .inl rfl, trivial⟩
  · rename_i h0
    split
    · refine ⟨?_, by simp [ET.sz, ETs.sz]⟩
      rw [ET.ok]; exact ⟨by omega, (fun w h => by cases h), .inl rfl, trivial⟩
    · rename_i h1
      have hne : st.ws ≠ [] := fun e => by rw [e] at hs; simp [sumL] at hs; omega
      have hkne : st.ks ≠ [] := fun e => hne (List.eq_nil_of_length_eq_zero (by rw [h.toSOk.len, e]; rfl))
      rcases oneOf_cases st.ks (mergA (lightT st.need st.sum st.ws st.ks)) hkne with ⟨k, hk, ho⟩ | ⟨_, ho⟩
      · rw [ho]
        have := h.ok
        have hz := h.sz
        rw [hk] at this hz
        rw [ETs.ok] at this
        rw [ETs.sz, ETs.sz] at hz
        exact ⟨this.1, by omega⟩
      · rw [ho]
        have hlen := ETs.sz_ge st.ks
        have hz := h.sz
        obtain ⟨h2, h3⟩ := light_ok h hN (by omega) (by omega) hne
        obtain ⟨h4, h5⟩ := mergA_ok h2 (by omega)
        exact ⟨h4, by omega⟩
mutual
theorem simp_ok (t : ET) (h : t.ok) (hz : t.sz ≤ 1000) : t.simp.ok ∧ t.simp.sz ≤ t.sz := by
  cases t with
  | srv s => rw [ET.simp]; exact ⟨h, Nat.le_refl _⟩
  | thr n ws ks =>
    rw [ET.ok] at h
    obtain ⟨h1, h2, h3, h4⟩ := h
    rw [ET.sz] at hz
    rw [ET.simp]
    have hs := simpF_ok ks ws 0 ⟨n, [], [], 0⟩ n 0 h2 (h3.imp id (by omega)) h4 (by omega) ⟨⟨h1.1, rfl, (fun w h => by cases h), rfl⟩, Int.le_refl _, trivial, Nat.le_refl _⟩
    rw [Nat.zero_add] at hs
    have := fin_ok hs h1.2 (by omega)
    rw [ET.sz]; exact this
theorem simpF_ok (ts : List ET) (ws : List Int) (k : Nat) (st : SS) (N : Int) (Z : Nat) (hw : ∀ w ∈ ws, 1 ≤ w ∧ w ≤ 1000) (hl : ws = [] ∨ k + ts.length ≤ ws.length) (hok : ETs.ok ts) (hz : ETs.sz ts ≤ 1000) (h : SOk2 st N Z) : SOk2 (ETs.simpF ts ws k st) N (Z + ETs.sz ts) := by
  cases ts with
  | nil => rw [ETs.simpF, ETs.sz]; exact h
  | cons t ts =>
    rw [ETs.ok] at hok
    rw [ETs.sz] at hz
    obtain ⟨h1, h2⟩ := simp_ok t hok.1 (by omega)
    rw [ETs.simpF, ETs.sz]
    have hst := step_ok2 h (wgtW_rng hw (k := k) (hl.imp id (fun hh => by rw [List.length_cons] at hh; omega))) h1
    have := simpF_ok ts ws (k + 1) _ N (Z + t.simp.sz) hw (hl.imp id (fun hh => by rw [List.length_cons] at hh; omega)) hok.2 (by omega) hst
    exact ⟨this.toSOk, this.top, this.ok, by have := this.sz; omega⟩
end
mutual
theorem simp_hold (t : ET) (h : t.ok) (hz : t.sz ≤ 1000) (S : BitVec 16) : t.simp.hold S = t.hold S := by
  cases t with
  | srv s => rw [ET.simp]
  | thr n ws ks =>
    rw [ET.ok] at h
    obtain ⟨h1, h2, h3, h4⟩ := h
    rw [ET.sz] at hz
    rw [ET.simp]
    have h0 : SOk2 ⟨n, [], [], 0⟩ n 0 := ⟨⟨h1.1, rfl, (fun w h => by cases h), rfl⟩, Int.le_refl _, trivial, Nat.le_refl _⟩
    have hs := simpF_ok ks ws 0 ⟨n, [], [], 0⟩ n 0 h2 (h3.imp id (by omega)) h4 (by omega) h0
    rw [fin_hold hs.toSOk, simpF_hold ks ws 0 ⟨n, [], [], 0⟩ h2 (h3.imp id (by omega)) h4 (by omega) h0.toSOk S]
    show decide (n ≤ 0 + ETs.got ks S ws 0) = _
    rw [Int.zero_add, ET.hold]
theorem simpF_hold (ts : List ET) (ws : List Int) (k : Nat) (st : SS) (hw : ∀ w ∈ ws, 1 ≤ w ∧ w ≤ 1000) (hl : ws = [] ∨ k + ts.length ≤ ws.length) (hok : ETs.ok ts) (hz : ETs.sz ts ≤ 1000) (h : SOk st) (S : BitVec 16) :
    decide ((ETs.simpF ts ws k st).need ≤ gotZ (ETs.simpF ts ws k st).ks (ETs.simpF ts ws k st).ws S) = decide (st.need ≤ gotZ st.ks st.ws S + ETs.got ts S ws k) := by
  cases ts with
  | nil => rw [ETs.simpF, ETs.got, Int.add_zero]
  | cons t ts =>
    rw [ETs.ok] at hok
    rw [ETs.sz] at hz
    obtain ⟨h1, _⟩ := simp_ok t hok.1 (by omega)
    have hwk := wgtW_rng hw (k := k) (hl.imp id (fun hh => by rw [List.length_cons] at hh; omega))
    have hG : 0 ≤ ETs.got ts S ws (k + 1) := by
      rw [got_wts]
      refine (gotZ_rng S ts _ fun w hw' => ?_).1
      have key : ∀ (ts : List ET) (k : Nat), (ws = [] ∨ k + ts.length ≤ ws.length) → ∀ w ∈ ETs.wts ts ws k, 1 ≤ w := by
        intro ts
        induction ts with
        | nil => intro k _ w h; cases h
        | cons t ts ih =>
          intro k hk w h
          rw [ETs.wts] at h
          rcases List.mem_cons.1 h with rfl | h
          · exact (wgtW_rng hw (hk.imp id (fun hh => by rw [List.length_cons] at hh; omega))).1
          · exact ih (k + 1) (hk.imp id (fun hh => by rw [List.length_cons] at hh; omega)) w h
      exact key ts (k + 1) (hl.imp id (fun hh => by rw [List.length_cons] at hh; omega)) w hw'
    rw [ETs.simpF, simpF_hold ts ws (k + 1) _ hw (hl.imp id (fun hh => by rw [List.length_cons] at hh; omega)) hok.2 (by omega) (step_ok h hwk) S,
      step_hold h hwk.1 (fun _ => need_nn h1) hG S, simp_hold t hok.1 (by omega) S, ETs.got]
end
end Go.Proofs.YtcojmmhclklpoaaGreatDoor
namespace Go.Proofs.YtcojmmhclklpoaaGreatDoor

/-- the forms of a simplified threshold with kids -/
def shapeT (n : Int) (ws : List Int) (ks : List ET) : Prop :=
  (ws = [] ∧ n = 1 ∧ ∀ k ∈ ks, k.anyB = false) ∨ (ws = [] ∧ n = (ks.length : Int) ∧ ∀ k ∈ ks, k.allB = false) ∨ (ws = [] ∧ 2 ≤ n ∧ n + 1 ≤ (ks.length : Int)) ∨
  (ws ≠ [] ∧ ws.length = ks.length ∧ (∀ w ∈ ws, 1 ≤ w) ∧ leastL ws < n ∧ n ≤ sumL ws - leastL ws ∧ leastL ws ≠ greatL ws)
mutual
def ET.nf : ET → Prop
  | .srv _ => True
  | .thr n ws ks => ETs.nf ks ∧ ((ks = [] ∧ ws = [] ∧ (n = 0 ∨ n = 1)) ∨ (2 ≤ ks.length ∧ (∀ k ∈ ks, k.constB = false) ∧ shapeT n ws ks))
def ETs.nf : List ET → Prop
  | [] => True
  | t :: ts => t.nf ∧ ETs.nf ts
end
theorem ETs.nf_iff : ∀ (ts : List ET), ETs.nf ts ↔ ∀ t ∈ ts, t.nf
  | [] => by simp [ETs.nf]
  | t :: ts => by rw [ETs.nf, ETs.nf_iff ts]; simp
theorem nf_kids {t : ET} (h : t.nf) : ∀ k ∈ t.kidsOf, k.nf := by
  cases t with
  | srv s => intro k hk; cases hk
  | thr n ws ks => rw [ET.nf] at h; exact (ETs.nf_iff ks).1 h.1
/-- the kids of a simplified threshold of one (or of all) are no such thresholds -/
theorem nf_any {t : ET} (h : t.nf) (ha : t.anyB = true) : 2 ≤ t.kidsOf.length ∧ ∀ k ∈ t.kidsOf, k.constB = false ∧ k.anyB = false := by
  cases t with
  | srv s => cases ha
  | thr n ws ks =>
    simp only [ET.anyB, Bool.and_eq_true, decide_eq_true_iff] at ha
    obtain ⟨⟨h1, h2⟩, rfl⟩ := ha
    have hne : ks ≠ [] := fun e => by rw [e] at h1; cases h1
    rw [ET.nf] at h
    rcases h.2 with ⟨e, _⟩ | ⟨hl, hc, hs⟩
    · exact absurd e hne
    · refine ⟨hl, fun k hk => ⟨hc k hk, ?_⟩⟩
      rcases hs with ⟨_, _, h3⟩ | ⟨_, h3, _⟩ | ⟨_, h3, _⟩ | ⟨h3, _⟩
      · exact h3 k hk
      · exfalso; omega
      · exfalso; omega
      · exact absurd (by simpa using h2) h3
theorem nf_all {t : ET} (h : t.nf) (ha : t.allB = true) : 2 ≤ t.kidsOf.length ∧ ∀ k ∈ t.kidsOf, k.constB = false ∧ k.allB = false := by
  cases t with
  | srv s => cases ha
  | thr n ws ks =>
    simp only [ET.allB, Bool.and_eq_true, decide_eq_true_iff] at ha
    obtain ⟨⟨h1, h2⟩, h3⟩ := ha
    have hne : ks ≠ [] := fun e => by rw [e] at h1; cases h1
    rw [ET.nf] at h
    rcases h.2 with ⟨e, _⟩ | ⟨hl, hc, hs⟩
    · exact absurd e hne
    · refine ⟨hl, fun k hk => ⟨hc k hk, ?_⟩⟩
      rcases hs with ⟨_, h4, _⟩ | ⟨_, _, h4⟩ | ⟨_, _, h4⟩ | ⟨h4, _⟩
      · exfalso; omega
      · exact h4 k hk
      · exfalso; omega
      · exact absurd (by simpa using h2) h4
theorem merg_len (form : ET → Bool) : ∀ ks : List ET, (∀ k ∈ ks, form k = true → 2 ≤ k.kidsOf.length) → ks.length ≤ (mergT form ks).length
  | [], _ => by simp
  | k :: ks, h => by
    have ih := merg_len form ks (fun u hu => h u (List.mem_cons_of_mem _ hu))
    unfold mergT at *
    rw [List.flatMap_cons, List.length_append, List.length_cons]
    have : 1 ≤ (if form k = true then k.kidsOf else [k]).length := by
      split
      · rename_i hf; have := h k (by simp) hf; omega
      · simp
    omega
theorem merg_none (form : ET → Bool) : ∀ ks : List ET, (∀ k ∈ ks, form k = false) → mergT form ks = ks
  | [], _ => rfl
  | k :: ks, h => by
    have ih := merg_none form ks (fun u hu => h u (List.mem_cons_of_mem _ hu))
    unfold mergT at *
    rw [List.flatMap_cons, ih, if_neg (by rw [h k (by simp)]; decide)]; rfl
/-- what the fold keeps: simplified kids that are no constants -/
structure SNf (st : SS) : Prop where
  nf : ETs.nf st.ks
  con : ∀ k ∈ st.ks, k.constB = false
theorem step_nf {st : SS} (h : SNf st) {k : ET} {w : Int} (hk : k.nf) : SNf (stepS st k w) := by
  unfold stepS
  split
  · rename_i hc
    refine ⟨(ETs.nf_iff _).2 fun t ht => ?_, fun t ht => ?_⟩
    · rcases List.mem_append.1 ht with ht | ht
      · exact (ETs.nf_iff _).1 h.nf t ht
      · simp at ht; subst ht; exact hk
    · rcases List.mem_append.1 ht with ht | ht
      · exact h.con t ht
      · simp at ht; subst ht; exact hc
  · split <;> exact ⟨h.nf, h.con⟩
theorem mergA_nf {n : Int} {ws : List Int} {ks : List ET} (hl : 2 ≤ ks.length) (hnf : ETs.nf ks) (hcon : ∀ k ∈ ks, k.constB = false)
    (hs : (ws = [] ∧ 1 ≤ n ∧ n ≤ (ks.length : Int)) ∨ (ws ≠ [] ∧ ws.length = ks.length ∧ (∀ w ∈ ws, 1 ≤ w) ∧ leastL ws < n ∧ n ≤ sumL ws - leastL ws ∧ leastL ws ≠ greatL ws)) : (mergA (.thr n ws ks)).nf := by
  have hne : ks.isEmpty = false := by cases ks with | nil => simp at hl | cons a l => rfl
  have hkn := (ETs.nf_iff ks).1 hnf
  unfold mergA
  by_cases ha : (ET.thr n ws ks).anyB = true
  · rw [if_pos ha]
    simp only [ET.anyB, Bool.and_eq_true, decide_eq_true_iff] at ha
    obtain ⟨⟨_, h2⟩, rfl⟩ := ha
    show (ET.thr 1 [] (mergT ET.anyB ks)).nf
    have hlen := merg_len ET.anyB ks (fun k hk hf => (nf_any (hkn k hk) hf).1)
    rw [ET.nf]
    refine ⟨(ETs.nf_iff _).2 fun t ht => ?_, .inr ⟨by omega, fun t ht => ?_, .inl ⟨rfl, rfl, fun t ht => ?_⟩⟩⟩
    · rcases mergT_mem ht with ⟨h3, _⟩ | ⟨k, hk, _, h4⟩
      · exact hkn t h3
      · exact nf_kids (hkn k hk) t h4
    · rcases mergT_mem ht with ⟨h3, _⟩ | ⟨k, hk, hf, h4⟩
      · exact hcon t h3
      · exact ((nf_any (hkn k hk) hf).2 t h4).1
    · rcases mergT_mem ht with ⟨_, h3⟩ | ⟨k, hk, hf, h4⟩
      · exact h3
      · exact ((nf_any (hkn k hk) hf).2 t h4).2
  · rw [if_neg ha]
    by_cases hb : (ET.thr n ws ks).allB = true
    · rw [if_pos hb]
      show (ET.thr ((mergT ET.allB ks).length : Int) [] (mergT ET.allB ks)).nf
      have hlen := merg_len ET.allB ks (fun k hk hf => (nf_all (hkn k hk) hf).1)
      rw [ET.nf]
      refine ⟨(ETs.nf_iff _).2 fun t ht => ?_, .inr ⟨by omega, fun t ht => ?_, .inr (.inl ⟨rfl, rfl, fun t ht => ?_⟩)⟩⟩
      · rcases mergT_mem ht with ⟨h3, _⟩ | ⟨k, hk, _, h4⟩
        · exact hkn t h3
        · exact nf_kids (hkn k hk) t h4
      · rcases mergT_mem ht with ⟨h3, _⟩ | ⟨k, hk, hf, h4⟩
        · exact hcon t h3
        · exact ((nf_all (hkn k hk) hf).2 t h4).1
      · rcases mergT_mem ht with ⟨_, h3⟩ | ⟨k, hk, hf, h4⟩
        · exact h3
        · exact ((nf_all (hkn k hk) hf).2 t h4).2
    · rw [if_neg hb, ET.nf]
      refine ⟨hnf, .inr ⟨hl, hcon, ?_⟩⟩
      rcases hs with ⟨rfl, h1, h2⟩ | h
      · have n1 : n ≠ 1 := fun e => ha (by simp [ET.anyB, hne, e])
        have n2 : n ≠ (ks.length : Int) := fun e => hb (by simp [ET.allB, hne, e])
        exact .inr (.inr (.inl ⟨rfl, by omega, by omega⟩))
      · exact .inr (.inr (.inr h))
theorem sumL_same {m : Int} : ∀ {l : List Int}, (∀ w ∈ l, w = m) → sumL l = m * (l.length : Int)
  | [], _ => by simp [sumL]
  | a :: l, h => by
    have e : a = m := h a (by simp)
    have ih := sumL_same (l := l) (fun w hw => h w (List.mem_cons_of_mem _ hw))
    have : sumL (a :: l) = a + sumL l := rfl
    rw [this, ih, e, List.length_cons, Int.natCast_add, Int.mul_add]; omega
theorem fin_nf {st : SS} (h : SOk st) (hn : SNf st) : (finS st).nf := by
  have hs := h.sum
  have hnn := h.need
  have hl := h.len
  unfold finS
  split
  · rw [ET.nf]; exact ⟨trivial, .inl ⟨rfl, rfl, .inl rfl⟩⟩
  · rename_i h0
    split
    · rw [ET.nf]; exact ⟨trivial, .inl ⟨rfl, rfl, .inr rfl⟩⟩
    · rename_i h1
      have hne : st.ws ≠ [] := fun e => by rw [e] at hs; simp [sumL] at hs; omega
      have hkne : st.ks ≠ [] := fun e => hne (List.eq_nil_of_length_eq_zero (by rw [hl, e]; rfl))
      rcases oneOf_cases st.ks (mergA (lightT st.need st.sum st.ws st.ks)) hkne with ⟨k, hk, ho⟩ | ⟨hl2, ho⟩
      · rw [ho]
        exact (ETs.nf_iff _).1 hn.nf k (by rw [hk]; simp)
      · rw [ho]
        have hw : ∀ w ∈ st.ws, 1 ≤ w := fun w hw => (h.wts w hw).1
        have hpos : 1 ≤ leastL st.ws := hw _ (least_mem hne)
        unfold lightT
        split
        · exact mergA_nf hl2 hn.nf hn.con (.inl ⟨rfl, by omega, by omega⟩)
        · split
          · exact mergA_nf hl2 hn.nf hn.con (.inl ⟨rfl, by omega, by omega⟩)
          · split
            · rename_i h3 h4 h5
              refine mergA_nf hl2 hn.nf hn.con (.inl ⟨rfl, ?_, ?_⟩)
              · have := Int.le_ediv_of_mul_le (a := 1) (b := st.need + leastL st.ws - 1) (c := leastL st.ws) (by omega) (by omega)
                exact this
              · have hsm := sumL_same (all_eq h5)
                rw [hl] at hsm
                generalize (st.ks.length : Int) = L at hsm ⊢
                have h6 : st.need + leastL st.ws - 1 < (L + 1) * leastL st.ws := by
                  rw [Int.add_mul, Int.mul_comm L]; omega
                have := Int.ediv_lt_of_lt_mul (by omega) h6
                omega
            · rename_i h3 h4 h5
              exact mergA_nf hl2 hn.nf hn.con (.inr ⟨hne, hl, hw, by omega, by omega, h5⟩)
mutual
theorem simp_nf (t : ET) (h : t.ok) (hz : t.sz ≤ 1000) : t.simp.nf := by
  cases t with
  | srv s => rw [ET.simp, ET.nf]; trivial
  | thr n ws ks =>
    rw [ET.ok] at h
    obtain ⟨h1, h2, h3, h4⟩ := h
    rw [ET.sz] at hz
    rw [ET.simp]
    have hs := simpF_ok ks ws 0 ⟨n, [], [], 0⟩ n 0 h2 (h3.imp id (by omega)) h4 (by omega) ⟨⟨h1.1, rfl, (fun w h => by cases h), rfl⟩, Int.le_refl _, trivial, Nat.le_refl _⟩
    exact fin_nf hs.toSOk (simpF_nf ks ws 0 _ h4 (by omega) ⟨trivial, fun k hk => by cases hk⟩)
theorem simpF_nf (ts : List ET) (ws : List Int) (k : Nat) (st : SS) (hok : ETs.ok ts) (hz : ETs.sz ts ≤ 1000) (h : SNf st) : SNf (ETs.simpF ts ws k st) := by
  cases ts with
  | nil => rw [ETs.simpF]; exact h
  | cons t ts =>
    rw [ETs.ok] at hok
    rw [ETs.sz] at hz
    rw [ETs.simpF]
    exact simpF_nf ts ws (k + 1) _ hok.2 (by omega) (step_nf h (simp_nf t hok.1 (by omega)))
end

/-! a simplified tree stays -/
theorem sumL_ones (n : Nat) : sumL (List.replicate n 1) = (n : Int) := by
  rw [sumL_same (m := 1) (fun w hw => (List.mem_replicate.1 hw).2), List.length_replicate, Int.one_mul]
theorem least_ones {n : Nat} (h : 1 ≤ n) : leastL (List.replicate n 1) = 1 := by
  have := least_mem (l := List.replicate n (1 : Int)) (fun e => by have := congrArg List.length e; simp at this; omega)
  exact (List.mem_replicate.1 this).2
theorem great_ones {n : Nat} (h : 1 ≤ n) : greatL (List.replicate n 1) = 1 := by
  have := great_mem (l := List.replicate n (1 : Int)) (fun e => by have := congrArg List.length e; simp at this; omega)
  exact (List.mem_replicate.1 this).2
mutual
theorem nf_simp (t : ET) (h : t.nf) : t.simp = t := by
  cases t with
  | srv s => rw [ET.simp]
  | thr n ws ks =>
    rw [ET.nf] at h
    obtain ⟨hk, hs⟩ := h
    rw [ET.simp]
    rcases hs with ⟨rfl, rfl, hn⟩ | ⟨hl, hcon, hs⟩
    · rw [ETs.simpF]
      unfold finS
      rcases hn with rfl | rfl
      · rfl
      · rfl
    · rw [nfF_simp ks ws 0 ⟨n, [], [], 0⟩ hk hcon]
      simp only [List.nil_append, Int.zero_add]
      have hwne : ETs.wts ks ws 0 ≠ [] := fun e => by have := congrArg List.length e; rw [wts_len] at this; simp at this; subst this; simp at hl
      unfold finS
      simp only
      rcases hs with ⟨rfl, rfl, ha⟩ | ⟨rfl, rfl, ha⟩ | ⟨rfl, h2, h3⟩ | ⟨hw, hwl, hw1, h2, h3, h4⟩
      · rw [wts_nil, sumL_ones, if_neg (by omega), if_neg (by omega)]
        rw [oneOf_two hl]
        unfold lightT
        rw [least_ones (by omega), if_pos (by omega)]
        unfold mergA
        have hb : (ET.thr 1 [] ks).anyB = true := by
          have : ks.isEmpty = false := by cases ks with | nil => simp at hl | cons a l => rfl
          simp [ET.anyB, this]
        rw [if_pos hb]
        show ET.thr 1 [] (mergT ET.anyB ks) = _
        rw [merg_none _ _ ha]
      · rw [wts_nil, sumL_ones, if_neg (by omega), if_neg (by omega)]
        rw [oneOf_two hl]
        unfold lightT
        rw [least_ones (by omega), if_neg (by omega), if_pos (by omega)]
        unfold mergA
        have he : ks.isEmpty = false := by cases ks with | nil => simp at hl | cons a l => rfl
        have hb : (ET.thr (ks.length : Int) [] ks).allB = true := by simp [ET.allB, he]
        have hb' : ¬ (ET.thr (ks.length : Int) [] ks).anyB = true := by
          simp only [ET.anyB, Bool.and_eq_true, decide_eq_true_iff]
          rintro ⟨_, e⟩; omega
        rw [if_neg hb', if_pos hb]
        show ET.thr ((mergT ET.allB ks).length : Int) [] (mergT ET.allB ks) = _
        rw [merg_none _ _ ha]
      · rw [wts_nil, sumL_ones, if_neg (by omega), if_neg (by omega)]
        rw [oneOf_two hl]
        unfold lightT
        rw [least_ones (by omega), great_ones (by omega), if_neg (by omega), if_neg (by omega), if_pos rfl]
        rw [show (n + 1 - 1) / 1 = n by rw [Int.ediv_one]; omega]
        unfold mergA
        rw [if_neg, if_neg]
        · simp only [ET.allB, Bool.and_eq_true, decide_eq_true_iff]
          rintro ⟨_, e⟩; omega
        · simp only [ET.anyB, Bool.and_eq_true, decide_eq_true_iff]
          rintro ⟨_, e⟩; omega
      · rw [wts_self hw ks 0 (by omega), List.drop_zero]
        have hpos : 1 ≤ leastL ws := hw1 _ (least_mem hw)
        rw [if_neg (by omega), if_neg (by omega)]
        rw [oneOf_two hl]
        unfold lightT
        rw [if_neg (by omega), if_neg (by omega), if_neg h4]
        unfold mergA
        have he : ws.isEmpty = false := by cases ws with | nil => exact absurd rfl hw | cons a l => rfl
        rw [if_neg (by simp [ET.anyB, he]), if_neg (by simp [ET.allB, he])]
theorem nfF_simp (ts : List ET) (ws : List Int) (k : Nat) (st : SS) (h : ETs.nf ts) (hc : ∀ t ∈ ts, t.constB = false) :
    ETs.simpF ts ws k st = ⟨st.need, st.ks ++ ts, st.ws ++ ETs.wts ts ws k, st.sum + sumL (ETs.wts ts ws k)⟩ := by
  cases ts with
  | nil => rw [ETs.simpF, ETs.wts]; simp [sumL]
  | cons t ts =>
    rw [ETs.nf] at h
    rw [ETs.simpF, nf_simp t h.1, nfF_simp ts ws (k + 1) _ h.2 (fun u hu => hc u (List.mem_cons_of_mem _ hu)), ETs.wts]
    have h1 := hc t (by simp)
    unfold stepS
    rw [if_pos h1]
    have : sumL (wgtW ws k :: ETs.wts ts ws (k + 1)) = wgtW ws k + sumL (ETs.wts ts ws (k + 1)) := rfl
    simp only [List.append_assoc, List.singleton_append, this]
    rw [Int.add_assoc]
end
/-- simplified again it remains the same -/
theorem simp_simp {t : ET} (h : t.ok) (hz : t.sz ≤ 1000) : t.simp.simp = t.simp := nf_simp _ (simp_nf t h hz)
end Go.Proofs.YtcojmmhclklpoaaGreatDoor
namespace Go.Proofs.YtcojmmhclklpoaaGreatDoor
open Go.RowKit

/-! rows of elements that read something -/
section
variable {α β : Type}
def RS (R : World → β → α → Prop) (S : Nat → Prop) (w : World) (p : β) (a : α) : Prop := ∀ w2 : World, Ag S w w2 → R w2 p a
theorem RS.r {R : World → β → α → Prop} {S : Nat → Prop} {w : World} {p : β} {a : α} (h : RS R S w p a) : R w p a := h w (Ag.refl _ _)
theorem RS.move {R : World → β → α → Prop} {S : Nat → Prop} {w w' : World} {p : β} {a : α} (h : RS R S w p a) (ha : Ag S w w') : RS R S w' p a := fun w2 h2 => h w2 fun g hg => (h2 g hg).trans (ha g hg)
theorem RS.mono {R : World → β → α → Prop} {S S' : Nat → Prop} {w : World} {p : β} {a : α} (h : RS R S w p a) (hs : ∀ g, S g → S' g) : RS R S' w p a := fun w2 h2 => h w2 fun g hg => h2 g (hs g hg)
theorem RS.below {R : World → β → α → Prop} {S : Nat → Prop} {w w' : World} {p : β} {a : α} (h : RS R S w p a) (hb : Below w.heap.size w w') (hlt : ∀ g, S g → g < w.heap.size) : RS R S w' p a := h.move fun g hg => hb.block g (hlt g hg)

structure GB (k : Nat) (enc : β → List Value) (R : World → β → α → Prop) (S : Nat → Prop) (B : Nat) (w : World) (v : Value) (t : TypeId) (L : List α) : Prop where
  row : ∃ V : List β, V.length = L.length ∧ w.ownsRow B t k v L.length (V.flatMap enc) ∧ ∀ (i : Nat) p nd, V[i]? = some p → L[i]? = some nd → RS R S w p nd
  lt : ∀ g, S g → g < w.heap.size
  own : ∀ g, v.ownBlock = some g → ¬ S g
variable {k : Nat} {enc : β → List Value} {R : World → β → α → Prop}
theorem GB.nil (S : Nat → Prop) (B : Nat) (w : World) (t : TypeId) (h : ∀ g, S g → g < w.heap.size) : GB k enc R S B w (.slice none 0 0) t [] :=
  ⟨⟨[], rfl, World.ownsRow_nil _ _ _ _, fun i p nd h => by simp at h⟩, h, fun g h => by cases h⟩
theorem GB.lt_own {S : Nat → Prop} {B : Nat} {w : World} {v : Value} {t : TypeId} {L : List α} (h : GB k enc R S B w v t L) : ∀ g, v.ownBlock = some g → B ≤ g ∧ g < w.heap.size := by
  obtain ⟨V, _, h2, _⟩ := h.row
  exact fun g hg => h2.lt g hg
theorem GB.move {S : Nat → Prop} {B : Nat} {w w' : World} {v : Value} {t : TypeId} {L : List α} (h : GB k enc R S B w v t L) (ha : Ag S w w') (hv : ∀ g, v.ownBlock = some g → w'.heap[g]? = w.heap[g]?) (hs : w.heap.size ≤ w'.heap.size) : GB k enc R S B w' v t L := by
  obtain ⟨V, h1, h2, h3⟩ := h.row
  exact ⟨⟨V, h1, rowK_at h2 hv, fun i p nd hp hn => (h3 i p nd hp hn).move ha⟩, fun g hg => Nat.lt_of_lt_of_le (h.lt g hg) hs, h.own⟩
theorem GB.below {S : Nat → Prop} {B : Nat} {w w' : World} {v : Value} {t : TypeId} {L : List α} (h : GB k enc R S B w v t L) (hb : Below w.heap.size w w') : GB k enc R S B w' v t L :=
  h.move (fun g hg => hb.block g (h.lt g hg)) (fun g hg => hb.block g (h.lt_own g hg).2) hb.size
theorem GB.mono {S S' : Nat → Prop} {B : Nat} {w : World} {v : Value} {t : TypeId} {L : List α} (h : GB k enc R S B w v t L) (hs : ∀ g, S g → S' g) (hlt : ∀ g, S' g → g < w.heap.size) (hown : ∀ g, v.ownBlock = some g → ¬ S' g) : GB k enc R S' B w v t L := by
  obtain ⟨V, h1, h2, h3⟩ := h.row
  exact ⟨⟨V, h1, h2, fun i p nd hp hn => (h3 i p nd hp hn).mono hs⟩, hlt, hown⟩
theorem GB.shape {S : Nat → Prop} {B : Nat} {w : World} {v : Value} {t : TypeId} {L : List α} (h : GB k enc R S B w v t L) : ∃ a c, v = .slice a L.length c := by
  obtain ⟨V, h1, h2, h3⟩ := h.row
  obtain ⟨a, c, e, _⟩ := rdK_of_row h2
  exact ⟨a, c, e⟩
/-- an element more, or several -/
theorem GB.pushes {S SW : Nat → Prop} {B : Nat} {w x y : World} {v u : Value} {t : TypeId} {L M : List α} {V U : List β} (h : GB k enc R S B w v t L) (hV : V.length = L.length) (h3 : ∀ (i : Nat) p nd, V[i]? = some p → L[i]? = some nd → RS R S w p nd)
    (hb : Below w.heap.size w x) (hg : x.grownBy y v.ownBlock) (hU : U.length = M.length) (ho : y.ownsRow B t k u (L.length + M.length) (V.flatMap enc ++ U.flatMap enc)) (hv : ∀ g, u.ownBlock = some g → v.ownBlock = some g ∨ w.heap.size ≤ g)
    (hp : ∀ (i : Nat) p nd, U[i]? = some p → M[i]? = some nd → RS R SW w p nd) (hSW : ∀ g, SW g → g < w.heap.size ∧ v.ownBlock ≠ some g) :
    GB k enc R (fun g => S g ∨ SW g) B y u t (L ++ M) := by
  have hx := hb.size
  have hgx : w.grownBy y v.ownBlock := ⟨hg.os.trans hb.os, hg.tape.trans hb.tape, hg.output.trans hb.output, Nat.le_trans hx hg.size, fun g g1 g2 => (hg.block g (by omega) g2).trans (hb.block g g1)⟩
  have ha : Ag S w y := fun g hg' => hgx.block g (h.lt g hg') (fun e => h.own g e.symm hg')
  have ha2 : Ag SW w y := fun g hg' => hgx.block g (hSW g hg').1 (fun e => (hSW g hg').2 e.symm)
  refine ⟨⟨V ++ U, by rw [List.length_append, List.length_append, hV, hU], ?_, fun i q m hq hm => ?_⟩, fun g hg => ?_, fun g hg' hS => ?_⟩
  · rw [List.flatMap_append, List.length_append]; exact ho
  · by_cases hi : i < V.length
    · rw [List.getElem?_append_left hi] at hq
      rw [List.getElem?_append_left (by omega)] at hm
      exact ((h3 i q m hq hm).move ha).mono fun _ h => .inl h
    · rw [List.getElem?_append_right (by omega)] at hq
      rw [List.getElem?_append_right (by omega), ← hV] at hm
      exact ((hp _ q m hq hm).move ha2).mono fun _ h => .inr h
  · rcases hg with hg | hg
    · exact Nat.lt_of_lt_of_le (h.lt g hg) hgx.size
    · exact Nat.lt_of_lt_of_le (hSW g hg).1 hgx.size
  · rcases hv g hg' with h1 | h1
    · rcases hS with hS | hS
      · exact h.own g h1 hS
      · exact (hSW g hS).2 h1
    · rcases hS with hS | hS
      · have := h.lt g hS; omega
      · have := (hSW g hS).1; omega
end

/-! trees of the program: five cells -/
structure TrV where
  leaf : Bool
  server : Int
  need : Int
  wv : Value
  kv : Value
def trVC (p : TrV) : List Value := [.bool p.leaf, .int .i64 p.server, .int .i64 p.need, p.wv, p.kv]
theorem trVC_len (p : TrV) : (trVC p).length = 5 := rfl
inductive TrM (w : World) : TrV → ET → Prop where
  | srv (s : Int) : TrM w ⟨true, s, 0, .slice none 0 0, .slice none 0 0⟩ (.srv s)
  | thr (n : Int) (ws : List Int) (ks : List ET) (aw : Option Addr) (nw cw : Nat) (ak : Option Addr) (nk ck : Nat) (V : List TrV)
      (hw : Rd w aw nw cw (ws.map (Value.int .i64))) (hl : V.length = ks.length) (hk : RdK 5 w ak nk ck (V.flatMap trVC))
      (hr : ∀ (i : Nat) p t, V[i]? = some p → ks[i]? = some t → TrM w p t) : TrM w ⟨false, 0, n, .slice aw nw cw, .slice ak nk ck⟩ (.thr n ws ks)
theorem TrM.keep {w w' : World} {p : TrV} {t : ET} (h : TrM w p t) (hb : Below w.heap.size w w') : TrM w' p t := by
  induction h with
  | srv s => exact .srv s
  | thr n ws ks aw nw cw ak nk ck V hw hl hk hr ih => exact .thr n ws ks aw nw cw ak nk ck V (hw.below hb) hl (hk.below hb) ih
/-- reads by the blocks of a set alone -/
abbrev TrS (S : Nat → Prop) (w : World) (p : TrV) (t : ET) : Prop := RS TrM S w p t
/-- .. by those of a range -/
def Rng (lo hi : Nat) : Nat → Prop := fun g => lo ≤ g ∧ g < hi
theorem TrS.srv (S : Nat → Prop) (w : World) (s : Int) : TrS S w ⟨true, s, 0, .slice none 0 0, .slice none 0 0⟩ (.srv s) := fun _ _ => .srv s
abbrev TB (S : Nat → Prop) (B : Nat) (w : World) (v : Value) (ts : List ET) : Prop := GB 5 trVC TrM S B w v 106 ts
/-- a threshold over a row of trees and a slice of weights -/
theorem TB.thr {S SW S' : Nat → Prop} {B : Nat} {w : World} {v wv : Value} {ts : List ET} {ws : List Int} (n : Int) (h : TB S B w v ts) (hw : SlS SW w wv ws) (h1 : ∀ g, S g → S' g) (h2 : ∀ g, SW g → S' g) (h3 : ∀ g, v.ownBlock = some g → S' g) : TrS S' w ⟨false, 0, n, wv, v⟩ (.thr n ws ts) := by
  intro w2 ha
  obtain ⟨V, hV, hr, hV3⟩ := h.row
  obtain ⟨aw, cw, e, r⟩ := hw w2 fun g hg => ha g (h2 g hg)
  obtain ⟨ak, ck, e2, rk⟩ := rdK_of_row (rowK_at hr fun g hg => ha g (h3 g hg))
  subst e e2
  exact .thr n ws ts aw _ cw ak _ ck V r hV rk fun i p t hp ht => hV3 i p t hp ht w2 fun g hg => ha g (h1 g hg)
end Go.Proofs.YtcojmmhclklpoaaGreatDoor
namespace Go.Proofs.YtcojmmhclklpoaaGreatDoor
open Go.RowKit Go.Shelf

set_option maxRecDepth 100000 in
set_option maxHeartbeats 1000000 in
theorem rwgt_c (nd : Nod) (k : Nat) (aw : Option Addr) (nw cw : Nat) (ak : Option Addr) (nk ck : Nat) (w : World) (hw : Rd w aw nw cw (nd.weights.map (Value.int .i64))) (hk : nd.weights = [] ∨ k < nd.weights.length) :
    Calls Tryz.prog 53 #[.agg #[.int .i64 nd.kind, .int .i64 nd.server, .int .i64 nd.need, .slice aw nw cw, .slice ak nk ck], .int .i64 k] w fun e w' => e = .returned (.int .i64 (wgtN nd k)) ∧ Below w.heap.size w w' := by
  have hlw : nd.weights.length = nw := by have := hw.len; simp at this; omega
  have hle := hw.le
  have hm := hw.max
  unfold maxLen at hm
  obtain ⟨W2, hW2⟩ : ∃ W2, W2 = w.alloc (Obj.cells #[.int .i64 nd.kind, .int .i64 nd.server, .int .i64 nd.need, .slice aw nw cw, .slice ak nk ck] 71) := ⟨_, rfl⟩
  have hb2 : Below w.heap.size w W2 := by rw [hW2]; exact (Below.refl _ w).alloc (Nat.le_refl _) _
  have HB2 := Lib.hid hb2
  by_cases h0 : nw = 0
  · have hn : nd.weights = [] := List.eq_nil_of_length_eq_zero (by omega)
    have hV : Hid (wgtN nd k = 1) := by show _ = _; unfold wgtN; rw [if_pos hn]
    subst h0
    clear hn hlw hk hw hb2
    go_enter Tryz.func53, Tryz.ntmps53
    go_wp2_with fail
    go_ret
    exact ⟨ret_int hV.out.symm, by rw [← hW2]; exact HB2.out⟩
  · have hne : ((nw : Int) == 0) = false := by rw [beq_eq_false_iff_ne]; omega
    have hkn : k < nw := by rcases hk with h | h
                            · rw [h] at hlw; simp at hlw; omega
                            · omega
    obtain ⟨z, hz⟩ : ∃ z, nd.weights[k]? = some z := ⟨_, List.getElem?_eq_getElem (by omega)⟩
    have hV : Hid (wgtN nd k = z) := by
      show _ = _; unfold wgtN
      rw [if_neg (fun e => by rw [e] at hlw; simp at hlw; omega), List.getD_eq_getElem?_getD, hz]; rfl
    obtain ⟨b, o, ha, hcell⟩ := (hw.below hb2).at' (by omega)
    have hc := hcell k (.int .i64 z) (by rw [List.getElem?_map, hz]; rfl)
    subst ha
    clear hlw hk hw hb2 hcell hz h0
    rw [hW2] at hc
    go_enter Tryz.func53, Tryz.ntmps53
    go_wp2_with fail
    go_ret
    exact ⟨ret_int hV.out.symm, by rw [← hW2]; exact HB2.out⟩

set_option maxRecDepth 100000 in
set_option maxHeartbeats 2000000 in
theorem rsum_c (nd : Nod) (hnd : nd.weights = [] ∨ nd.weights.length = nd.kids.length) (hsm : ∀ k, k ≤ nd.kids.length → 0 ≤ sumTo nd k ∧ sumTo nd k ≤ 1000000) (hwt : ∀ k, k < nd.kids.length → sumTo nd (k + 1) = sumTo nd k + wgtN nd k) (aw : Option Addr) (nw cw : Nat) (ak : Option Addr) (nk ck : Nat) (w : World) (hw : Rd w aw nw cw (nd.weights.map (Value.int .i64))) (hk : Rd w ak nk ck (nd.kids.map (Value.int .i64))) :
    Calls Tryz.prog 45 #[.agg #[.int .i64 nd.kind, .int .i64 nd.server, .int .i64 nd.need, .slice aw nw cw, .slice ak nk ck]] w fun e w' => e = .returned (.int .i64 (sumN nd)) ∧ Below w.heap.size w w' := by
  have hlk : nd.kids.length = nk := by have := hk.len; simp at this; omega
  have hle := hk.le
  have hm := hk.max
  unfold maxLen at hm
  obtain ⟨W2, hW2⟩ : ∃ W2, W2 = w.alloc (Obj.cells #[.int .i64 nd.kind, .int .i64 nd.server, .int .i64 nd.need, .slice aw nw cw, .slice ak nk ck] 71) := ⟨_, rfl⟩
  have hb2 : Below w.heap.size w W2 := by rw [hW2]; exact (Below.refl _ w).alloc (Nat.le_refl _) _
  have HB2 := Lib.hid hb2
  have g2 : W2.heap[w.heap.size]? = some (.cells #[.int .i64 nd.kind, .int .i64 nd.server, .int .i64 nd.need, .slice aw nw cw, .slice ak nk ck] 71 (0, 0)) := by rw [hW2]; exact heap_alloc_new _ _
  have G2 := Lib.hid g2
  have HWW := Lib.hid (hw.below hb2)
  have HLK := Lib.hid hlk
  have HND := Lib.hid hnd
  have HSM := Lib.hid hsm
  have HWT := Lib.hid hwt
  have HV : Hid (sumTo nd nk = sumN nd) := by show _ = _; unfold sumN; rw [HLK.out]
  clear hw hk hb2 g2 hlk hnd hsm hwt
  go_enter Tryz.func45, Tryz.ntmps45
  go_wp2_with fail
  rw [← hW2]
  clear hW2
  go_loopw [3, 4] (fun v i wr => ∃ k : Nat, k ≤ nk ∧ i = .int .i64 k ∧ v = .int .i64 (sumTo nd k) ∧ Below W2.heap.size W2 wr) (fun _ i _ => nk - (intOf i).toNat)
  case atStart => exact ⟨0, Nat.zero_le _, rfl, rfl, Below.refl _ _⟩
  case round =>
    obtain ⟨k, hk, rfl, rfl, hb⟩ := hrel
    have g := heap_below hb G2.out
    have q0 := cell_of_row _ _ 0 _ _ _ g
    have q1 := cell_of_row _ _ 1 _ _ _ g
    have q2 := cell_of_row _ _ 2 _ _ _ g
    have q3 := cell_of_row _ _ 3 _ _ _ g
    have q4 := cell_of_row _ _ 4 _ _ _ g
    by_cases hlt : k < nk
    · have hwk : nd.weights = [] ∨ k < nd.weights.length := by
        rcases HND.out with h | h
        · exact .inl h
        · exact .inr (by have := HLK.out; omega)
      have HC := Lib.hid (rwgt_c nd k aw nw cw ak nk ck wr (HWW.out.below hb) hwk)
      clear hwk
      have hst := HWT.out k (by have := HLK.out; omega)
      have s1 := HSM.out k (by have := HLK.out; omega)
      have s2 := HSM.out (k + 1) (by have := HLK.out; omega)
      obtain ⟨x, hx⟩ : ∃ x, wgtN nd k = x := ⟨_, rfl⟩
      obtain ⟨y, hy⟩ : ∃ y, sumTo nd k = y := ⟨_, rfl⟩
      rw [hx] at HC hst
      rw [hy] at hst s1 ⊢
      have hwr : wrap64 (y + x) = y + x := by unfold wrap64; omega
      have HST := Lib.hid hst
      have HB := Lib.hid hb
      clear g hst s1 s2 hx hy hb
      go_wp2_with fail
      with_reducible refine HC.out.mono ?_
      rintro e w5 ⟨rfl, hb5⟩
      go_wp2_with fail
      go_roundw
      case rel => exact ⟨k + 1, by omega, by go_num, by (rw [HST.out]; first | rfl | rw [hwr]), Below.next HB.out hb5⟩
      case measure => simp [intOf]; omega
    · obtain rfl : k = nk := by omega
      rw [HV.out]
      clear g
      go_wp2_with fail
      go_ret
      exact ⟨rfl, Below.next HB2.out hb⟩
end Go.Proofs.YtcojmmhclklpoaaGreatDoor
namespace Go.Proofs.YtcojmmhclklpoaaGreatDoor
open Go.RowKit
section
variable {P : Program} {ops : Array Oper} {md : Region.Mode} {C : World → Prop}

end
end Go.Proofs.YtcojmmhclklpoaaGreatDoor
namespace Go.Proofs.YtcojmmhclklpoaaGreatDoor
open Go.RowKit
section
variable {P : Program} {ops : Array Oper} {md : Region.Mode} {C D : World → Prop}

def inC (C D : World → Prop) (b : Bool) (w : World) : Prop := match b with
  | true => D w
  | false => C w
def StoreAt (P : Program) (o : Oper) (a : Act) (C D : World → Prop) : Prop := ∀ w, C w → ∃ w', (execOp a.eval o).run P w = .ok .skip w' ∧ D w'
def walkT (P : Program) (md : Region.Mode) (ops : Array Oper) (C D : World → Prop) (t : Nat) (Q : Act → Prop) : Nat → Array Bool → Act → Prop
  | 0, listed, a => Region.ready md ops listed = [] ∧ listed.getD t true = true ∧ Q a
  | f + 1, listed, a => (Region.ready md ops listed = [] → listed.getD t true = true ∧ Q a) ∧ ∀ i ∈ Region.ready md ops listed,
      (i ≠ t → qOp P ops (inC C D (listed.getD t true)) i (walkT P md ops C D t Q f (listed.setIfInBounds i true)) a) ∧
      (i = t → ∃ o, ops[t]? = some o ∧ Region.wanted o (yielded ops a.tmps) = true ∧ StoreAt P o a C D ∧ walkT P md ops C D t Q f (listed.setIfInBounds t true) (a.put o.dst undef))

theorem getD_set_same (listed : Array Bool) (t : Nat) : (listed.setIfInBounds t true).getD t true = true := by
  rw [Array.getD_eq_getD_getElem?, Array.getElem?_setIfInBounds, if_pos rfl]
  split <;> rfl
theorem any_of_walkT {t : Nat} {Q : Act → Prop} {Q' : Exit → Act → World → Prop} (hQ : ∀ a w, D w → Q a → Q' .normal a w) :
    ∀ (f : Nat) (listed : Array Bool) (a : Act) (w : World), inC C D (listed.getD t true) w → walkT P md ops C D t Q f listed a → wpAny P md ops Q' f listed a w
  | 0, listed, a, w, hw, h => ⟨h.1, hQ _ _ (by have := h.2.1; rw [this] at hw; exact hw) h.2.2⟩
  | f + 1, listed, a, w, hw, h => by
    refine ⟨fun h0 => ?_, fun i hi => ?_⟩
    · obtain ⟨h1, h2⟩ := h.1 h0
      exact hQ _ _ (by rw [h1] at hw; exact hw) h2
    · by_cases hit : i = t
      · subst hit
        obtain ⟨o, ho, hwd, hst, hn⟩ := (h.2 i hi).2 rfl
        have hun := (mem_ready.1 hi).1
        rw [hun] at hw
        obtain ⟨w', hr, hD⟩ := hst w hw
        unfold wpOp
        simp only [ho]
        rw [if_pos hwd]
        left
        unfold Oper.wp
        rw [hr]
        exact any_of_walkT hQ f _ _ _ (by rw [getD_set_same]; exact hD) hn
      · exact wpOp_of_qOp hw (fun a' w' hw' h' => any_of_walkT hQ f _ a' w' (by rw [getD_set_ne true hit]; exact hw') h') ((h.2 i hi).1 hit)

theorem qOp_put2 {C' : World → Prop} {j : Nat} {oi oj : Oper} {v : Value} (hj : ops[j]? = some oj) (hap : oi.apart ops oj = true)
    (hsj : ∀ cs b, oj.op ≠ .select cs b) {K : Act → Prop} {a : Act} (h : qOp P ops C' j K (a.put oi.dst v)) :
    qOp P ops C' j (fun a' => (∃ u, a' = a.put oj.dst u) ∧ K (a'.put oi.dst v)) a := by
  obtain ⟨h1, h2, h3⟩ := Oper.apart_spec hap
  unfold qOp at *
  simp only [hj] at *
  rw [wanted_put oj a oi.dst v h1] at h
  split
  · rename_i hw
    simp only [hw, if_true] at h
    obtain ⟨u, hu, hn⟩ := h
    refine ⟨u, fun w hw' => ?_, ⟨u, rfl⟩, by rw [← Act.put_comm a v u h2]; exact hn⟩
    have := hu w hw'
    unfold Oper.quietAt at *
    rwa [execOp_put oj hsj a oi.dst v h1] at this
  · rename_i hw
    simp only [hw] at h
    exact ⟨⟨undef, rfl⟩, by rw [← Act.put_comm a v undef h2]; exact h⟩

theorem walkT_first {t i : Nat} {oi : Oper} {v : Value} {Q : Act → Prop} (hi : ops[i]? = some oi) (hit : i ≠ t) (hsel : ∀ (j : Nat) (o : Oper) cs b, ops[j]? = some o → o.op ≠ .select cs b)
    (late : Bool) (hlate : late = false → Region.waitsFor md ops t i = true) :
    ∀ (f : Nat) (listed : Array Bool) (a : Act),
      (∀ j oj, ops[j]? = some oj → j ≠ i → listed.getD j true = false → (∀ e ∈ oj.after, Region.binds md e = true → e.on ≠ i) → oi.apart ops oj = true) →
      i ∈ Region.ready md ops listed → (listed.getD t true = false → YieldsIn P ops C oi v a) → ((late = true ∨ listed.getD t true = true) → YieldsIn P ops D oi v a) →
      walkT P md ops C D t Q f (listed.setIfInBounds i true) (a.put oi.dst v) → walkT P md ops C D t Q (f + 1) listed a := by
  have yin : ∀ (listed : Array Bool) (a : Act), (listed.getD t true = false → YieldsIn P ops C oi v a) → ((late = true ∨ listed.getD t true = true) → YieldsIn P ops D oi v a) → YieldsIn P ops (inC C D (listed.getD t true)) oi v a := by
    intro listed a h1 h2
    cases hb : listed.getD t true
    · exact h1 hb
    · exact h2 (.inr hb)
  intro f
  induction f with
  | zero =>
    intro listed a _ hr hC hD H
    refine ⟨fun h => (by rw [h] at hr; cases hr), fun j hj => ?_⟩
    by_cases hji : j = i
    · subst hji; exact ⟨fun _ => (yin listed a hC hD).qOp hi H, fun h => absurd h hit⟩
    · have := ready_mono hj hji
      rw [H.1] at this
      cases this
  | succ f ih =>
    intro listed a hfree hr hC hD H
    refine ⟨fun h => (by rw [h] at hr; cases hr), fun j hj => ?_⟩
    by_cases hji : j = i
    · subst hji; exact ⟨fun _ => (yin listed a hC hD).qOp hi H, fun h => absurd h hit⟩
    · have hHj := H.2 j (ready_mono hj hji)
      obtain ⟨hjun, oj, hoj, hall⟩ := mem_ready.1 hj
      have hiun := (mem_ready.1 hr).1
      have hnot : ∀ e ∈ oj.after, Region.binds md e = true → e.on ≠ i := fun e he hb heq => by
        have h1 := hall e he hb
        rw [heq, getD_both hiun] at h1
        cases h1
      have hap := hfree j oj hoj hji hjun hnot
      obtain ⟨p1, p2, p3⟩ := Oper.apart_spec hap
      have hsi := fun cs b => hsel i oi cs b hi
      have keep : ∀ (E : World → Prop), YieldsIn P ops E oi v a → ∀ u, YieldsIn P ops E oi v (a.put oj.dst u) := fun E hy u =>
        hy.of_same (execOp_put oi hsi a oj.dst u p3) (wanted_put oi a oj.dst u p3)
      have hfree' : ∀ k ok, ops[k]? = some ok → k ≠ i → (listed.setIfInBounds j true).getD k true = false →
          (∀ e ∈ ok.after, Region.binds md e = true → e.on ≠ i) → oi.apart ops ok = true := fun k ok hk hki hun hno => by
        refine hfree k ok hk hki ?_ hno
        by_cases hjk : j = k
        · subst hjk; exact hjun
        · rw [getD_set_ne true hjk] at hun; exact hun
      by_cases hjt : j = t
      · subst hjt
        refine ⟨fun h => absurd rfl h, fun _ => ?_⟩
        have hl : late = true := by
          cases hl : late
          · exfalso
            obtain ⟨oj', hoj', e, he, hb, hon⟩ := Region.waitsFor_spec (hlate hl)
            rw [hoj] at hoj'
            cases hoj'
            exact hnot e he hb hon
          · rfl
        obtain ⟨o, ho, hwd, hst, hn⟩ := hHj.2 rfl
        rw [hoj] at ho
        cases ho
        refine ⟨oj, hoj, by rw [wanted_put oj a oi.dst v p1] at hwd; exact hwd, fun w hw => ?_, ?_⟩
        · obtain ⟨w', hr', hD'⟩ := hst w hw
          rw [execOp_put oj (fun cs b => hsel j oj cs b hoj) a oi.dst v p1] at hr'
          exact ⟨w', hr', hD'⟩
        · refine ih (listed.setIfInBounds j true) _ hfree' (ready_mono hr (Ne.symm hji)) (fun h => by rw [getD_set_same] at h; cases h) (fun _ => keep D (hD (.inl hl)) undef) ?_
          rw [Array.setIfInBounds_comm _ _ hji, ← Act.put_comm a v undef p2]
          exact hn
      · refine ⟨fun _ => ?_, fun h => absurd h hjt⟩
        have e1 : (listed.setIfInBounds i true).getD t true = listed.getD t true := getD_set_ne true hit
        have e2 : (listed.setIfInBounds j true).getD t true = listed.getD t true := getD_set_ne true hjt
        have h1 := hHj.1 hjt
        rw [e1] at h1
        refine qOp_mono (fun a' h3 => ?_) (qOp_put2 hoj hap (fun cs b => hsel j oj cs b hoj) h1)
        obtain ⟨⟨u, hu⟩, h4⟩ := h3
        refine ih (listed.setIfInBounds j true) a' hfree' (ready_mono hr (Ne.symm hji)) (fun h => by rw [hu]; exact keep C (hC (by rw [← e2]; exact h)) u) (fun h => by rw [hu]; exact keep D (hD (h.imp id fun h => by rw [← e2]; exact h)) u) ?_
        rw [Array.setIfInBounds_comm _ _ hji]
        exact h4

/-- a late one yields behind the store, too -/
def LateAt (P : Program) (D : World → Prop) (late : Nat → Bool) (k : Nat) (o : Oper) (a : Act) (v : Value) : Prop := late k = true → ∀ w, D w → o.quietAt P a D w v
theorem late_not {late : Nat → Bool} {k : Nat} {o : Oper} {a : Act} {v : Value} (h : late k = false) : LateAt P D late k o a v := fun h' => by rw [h] at h'; cases h'
/-- the walk in the order of the text; the late ones yield behind the store, too -/
def wpT (P : Program) (ops : Array Oper) (C D : World → Prop) (late : Nat → Bool) (Qt : Act → Prop) : Nat → List Oper → Act → Prop
  | _, [], a => Qt a
  | k, o :: rest, a => if Region.wanted o (yielded ops a.tmps) = true then ∃ v, (∀ w, C w → o.quietAt P a C w v) ∧ LateAt P D late k o a v ∧ wpT P ops C D late Qt (k + 1) rest (a.put o.dst v)
      else wpT P ops C D late Qt (k + 1) rest (a.put o.dst undef)
theorem wpT_nil {late : Nat → Bool} {Qt : Act → Prop} {k : Nat} {a : Act} (h : Qt a) : wpT P ops C D late Qt k [] a := h
theorem wpT_step {late : Nat → Bool} {Qt : Act → Prop} {k : Nat} {o : Oper} {rest : List Oper} {a : Act}
    (h : ∀ K : Act → Prop, (∀ a, wpT P ops C D late Qt (k + 1) rest a → K a) → if Region.wanted o (yielded ops a.tmps) = true then ∃ v, (∀ w, C w → o.quietAt P a C w v) ∧ LateAt P D late k o a v ∧ K (a.put o.dst v) else K (a.put o.dst undef)) :
    wpT P ops C D late Qt k (o :: rest) a := h _ (fun _ h => h)

theorem walkT_lex {t : Nat} {late : Nat → Bool} {Q : Act → Prop} (hsel : Region.noSelect ops = true) (hlate : ∀ i, i < t → late i = false → Region.waitsFor md ops t i = true) :
    ∀ (l : List Oper) (k : Nat) (listed : Array Bool) (a : Act), (∀ j, j < l.length → l[j]? = ops[k + j]?) → k + l.length = t → listed.getD t true = false →
    Region.lexFrom md ops (l.length + 1) k listed = true →
    wpT P ops C D late (fun a' => ∃ o, ops[t]? = some o ∧ Region.wanted o (yielded ops a'.tmps) = true ∧ StoreAt P o a' C D ∧ Q (a'.put o.dst undef)) k l a →
    walkT P md ops C D t Q (l.length + 1) listed a
  | [], k, listed, a, _, hk, hun, hB, h => by
    have hkt : k = t := by simpa using hk
    subst hkt
    simp only [List.length_nil, Region.lexFrom, Bool.and_eq_true] at hB
    have hr : k ∈ Region.ready md ops listed := by simpa using hB.1.1
    have he : Region.ready md ops (listed.setIfInBounds k true) = [] := by simpa using hB.2
    refine ⟨fun h0 => (by rw [h0] at hr; cases hr), fun i hi => ⟨fun hik => ?_, fun hik => ?_⟩⟩
    · have := ready_mono hi hik
      rw [he] at this; cases this
    · obtain ⟨o, ho, hwd, hst, hq⟩ := h
      exact ⟨o, ho, hwd, hst, he, getD_set_same _ _, hq⟩
  | o :: l, k, listed, a, hl, hk, hun, hB, h => by
    have h0 : ops[k]? = some o := by simpa using (hl 0 (by simp)).symm
    have hkt : k < t := by simp only [List.length_cons] at hk; omega
    simp only [List.length_cons] at hB ⊢
    rw [Region.lexFrom] at hB
    simp only [Bool.and_eq_true] at hB
    obtain ⟨⟨hr, hf⟩, hB'⟩ := hB
    have hr' : k ∈ Region.ready md ops listed := by simpa using hr
    have rec' := fun (v : Value) (hK : wpT P ops C D late (fun a' => ∃ o, ops[t]? = some o ∧ Region.wanted o (yielded ops a'.tmps) = true ∧ StoreAt P o a' C D ∧ Q (a'.put o.dst undef)) (k + 1) l (a.put o.dst v)) =>
      walkT_lex hsel hlate l (k + 1) (listed.setIfInBounds k true) (a.put o.dst v) (fun j hj => by have := hl (j + 1) (by simp; omega); simpa [Nat.add_assoc, Nat.add_comm 1 j] using this) (by simp only [List.length_cons] at hk; omega) (by rw [getD_set_ne true (by omega)]; exact hun) hB' hK
    unfold wpT at h
    by_cases hw : Region.wanted o (yielded ops a.tmps) = true
    · rw [if_pos hw] at h
      obtain ⟨v, hC, hD, hK⟩ := h
      exact walkT_first h0 (by omega) (Region.noSelect_spec hsel) (late k) (hlate k hkt) _ listed a (Region.free_spec h0 hf) hr' (fun _ => .inl ⟨hw, hC⟩) (fun hh => .inl ⟨hw, hD (hh.resolve_right (by rw [hun]; decide))⟩) (rec' v hK)
    · rw [if_neg hw] at h
      have hw' : Region.wanted o (yielded ops a.tmps) = false := by simpa using hw
      exact walkT_first h0 (by omega) (Region.noSelect_spec hsel) (late k) (hlate k hkt) _ listed a (Region.free_spec h0 hf) hr' (fun _ => .inr ⟨hw', rfl⟩) (fun _ => .inr ⟨hw', rfl⟩) (rec' undef h)

theorem wp_region_store {id : Nat} {Q : Exit → Act → World → Prop} {a : Act} {w : World} {l : List Oper} (C D : World → Prop) (late : List Nat) (t : Nat) (hm : P.follows .mixedOrders = true) (hB : Region.lexB .any l.toArray = true)
    (hT : (decide (t + 1 = l.length) && (List.range t).all fun i => late.contains i || Region.waitsFor .any l.toArray t i) = true) (hC : C { w with drawn := w.drawn + 1 })
    (h : wpT P l.toArray C D late.contains (fun a' => ∃ o, l.toArray[t]? = some o ∧ Region.wanted o (yielded l.toArray a'.tmps) = true ∧ StoreAt P o a' C D ∧ ∀ w', D w' → Q .normal (a'.put o.dst undef) w') 0 (l.take t) a) :
    (Code.region id l.toArray true).wp P Q a w := by
  simp only [Region.lexB, Bool.and_eq_true] at hB
  simp only [Bool.and_eq_true, decide_eq_true_eq] at hT
  obtain ⟨hlen, hall⟩ := hT
  have htl : (l.take t).length = t := by simp; omega
  refine wp_region_any hm ?_
  have hun : (Array.replicate l.toArray.size false).getD t true = false := getD_in (by simp; omega) (getD_replicate_false _ _)
  have := walkT_lex (md := .any) (C := C) (D := D) (t := t) (late := late.contains) (Q := fun a' => ∀ w', D w' → Q .normal a' w') hB.1 (fun i hi hl => by
    have := List.all_eq_true.1 hall i (List.mem_range.2 hi)
    rw [hl, Bool.false_or] at this
    exact this) (l.take t) 0 (Array.replicate l.toArray.size false) a (fun j hj => by
    have hj' : j < t := by rw [htl] at hj; exact hj
    simp [hj']) (by rw [htl]; omega) hun (by rw [htl, show t + 1 = l.toArray.size by simp; omega]; exact hB.2) h
  have h2 := any_of_walkT (Q' := Q) (fun a' w' hw' h' => h' w' hw') _ _ _ { w with drawn := w.drawn + 1 } (by rw [hun]; exact hC) this
  rw [htl] at h2
  rw [show t + 1 = l.toArray.size by simp; omega] at h2
  exact h2
end
end Go.Proofs.YtcojmmhclklpoaaGreatDoor
