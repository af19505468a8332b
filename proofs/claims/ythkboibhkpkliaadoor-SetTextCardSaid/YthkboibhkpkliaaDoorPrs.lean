/- Parse and Format of a set, plain laws: the words of a set's text are its numbers. -/
import Derived.Test.YthkboibhkpkliaaDoorFmt
import Derived.Test.YthkboibhkpkliaaDoorWords
namespace Go.Proofs.YthkboibhkpkliaaDoor
open Go.Lib

theorem wordsL_app : ∀ (w cur r : List UInt8), (∀ c ∈ w, dig c = true) → wordsL cur (w ++ r) = wordsL (cur ++ w) r := by
  intro w
  induction w with
  | nil => intro cur r _; simp
  | cons c w ih =>
    intro cur r h
    rw [List.cons_append, wordsL, if_pos (h c (by simp)), ih _ _ (fun d hd => h d (List.mem_cons_of_mem _ hd)), List.append_assoc]
    rfl
theorem wordsL_tail : ∀ (ws : List (List UInt8)) (cur : List UInt8), (∀ w ∈ ws, w ≠ [] ∧ ∀ c ∈ w, dig c = true) → cur ≠ [] → wordsL cur (joinTail [32] ws ++ [125]) = cur :: ws := by
  intro ws
  induction ws with
  | nil =>
    intro cur _ h
    show wordsL cur [125] = [cur]
    rw [wordsL, if_neg (by decide), wordsL, shutW_ne h]
    simp [shutW]
  | cons w ws ih =>
    intro cur h hc
    have e : joinTail [32] (w :: ws) ++ [125] = 32 :: (w ++ (joinTail [32] ws ++ [125])) := by simp [joinTail]
    have hw := h w (by simp)
    rw [e, wordsL, if_neg (by decide), wordsL_app _ _ _ hw.2, List.nil_append, ih w (fun v hv => h v (List.mem_cons_of_mem _ hv)) hw.1, shutW_ne hc]
    rfl
theorem wordsL_join (ws : List (List UInt8)) (h : ∀ w ∈ ws, w ≠ [] ∧ ∀ c ∈ w, dig c = true) : wordsL [] (123 :: (join ws [32] ++ [125])) = ws := by
  rw [wordsL, if_neg (by decide)]
  have e0 : shutW [] = [] := rfl
  rw [e0, List.nil_append]
  cases ws with
  | nil => rfl
  | cons w ws =>
    have hw := h w (by simp)
    rw [join_cons, List.append_assoc, wordsL_app _ _ _ hw.2, List.nil_append]
    exact wordsL_tail ws w (fun v hv => h v (List.mem_cons_of_mem _ hv)) hw.1

theorem dec_facts : ∀ i, i < 16 → decDigits i ≠ [] ∧ (∀ c ∈ decDigits i, dig c = true) ∧ atoiAll (decDigits i) = .ok (i : Int) := by
  intro i hi
  by_cases h : i < 10
  · rw [decDigits_one h]
    have : ∀ i : Fin 10, [UInt8.ofNat (48 + i.val)] ≠ [] ∧ (∀ c ∈ [UInt8.ofNat (48 + i.val)], dig c = true) ∧ atoiAll [UInt8.ofNat (48 + i.val)] = .ok (i.val : Int) := by decide
    exact this ⟨i, h⟩
  · rw [decDigits_two h (by omega)]
    have : ∀ j : Fin 6, [UInt8.ofNat (48 + (j.val + 10) / 10), UInt8.ofNat (48 + (j.val + 10) % 10)] ≠ [] ∧ (∀ c ∈ [UInt8.ofNat (48 + (j.val + 10) / 10), UInt8.ofNat (48 + (j.val + 10) % 10)], dig c = true) ∧ atoiAll [UInt8.ofNat (48 + (j.val + 10) / 10), UInt8.ofNat (48 + (j.val + 10) % 10)] = .ok ((j.val + 10 : Nat) : Int) := by decide
    have := this ⟨i - 10, by omega⟩
    simp only [show i - 10 + 10 = i by omega] at this
    exact this

theorem words_fmt (x : BitVec 16) : wordsL [] (fmtS x) = (memS x).map decDigits := by
  unfold fmtS
  refine wordsL_join _ (fun w hw => ?_)
  obtain ⟨i, hi, rfl⟩ := List.mem_map.1 hw
  have := dec_facts i (memS_16 x i hi)
  exact ⟨this.1, this.2.1⟩

theorem memS_mem (x : BitVec 16) (i : Nat) : i ∈ memS x ↔ i < 16 ∧ hasB x i = true := by unfold memS; simp

theorem memS_inj {x y : BitVec 16} (h : memS x = memS y) : x = y := by
  apply BitVec.eq_of_getLsbD_eq
  intro i hi
  have h1 := memS_mem x i
  have h2 := memS_mem y i
  rw [h] at h1
  have : hasB x i = hasB y i := by
    rw [Bool.eq_iff_iff]
    constructor
    · intro h; exact (h2.1 (h1.2 ⟨hi, h⟩)).2
    · intro h; exact (h1.1 (h2.2 ⟨hi, h⟩)).2
  exact this

theorem fmtB_inj {x y : BitVec 16} (h : fmtB x = fmtB y) : x = y := by
  have h1 : fmtS x = fmtS y := by
    have := congrArg (·.data.toList) h
    simpa [fmtB] using this
  have h2 := words_fmt x
  rw [h1, words_fmt y] at h2
  apply memS_inj
  have h3 := congrArg (List.map atoiAll) h2
  have e : ∀ z : BitVec 16, ((memS z).map decDigits).map atoiAll = (memS z).map (fun i : Nat => NumEnd.ok (i : Int)) := by
    intro z
    rw [List.map_map]
    apply List.map_congr_left
    intro i hi
    exact (dec_facts i (memS_16 z i hi)).2.2
  rw [e, e] at h3
  have hinj : ∀ (a b : List Nat), a.map (fun i : Nat => NumEnd.ok (i : Int)) = b.map (fun i : Nat => NumEnd.ok (i : Int)) → a = b := by
    intro a
    induction a with
    | nil => intro b h; cases b with
      | nil => rfl
      | cons _ _ => cases h
    | cons i a ih => intro b h; cases b with
      | nil => cases h
      | cons j b =>
        have h' := List.cons.inj h
        have h0 := NumEnd.ok.inj h'.1
        rw [ih b h'.2, show i = j by omega]
  exact (hinj _ _ h3).symm

/-- set.Parse over its words -/
def parW : BitVec 16 → List (List UInt8) → Option (BitVec 16)
  | x, [] => some x
  | x, w :: r => match atoiAll w with
    | .ok v => if v < 12 then parW (x ||| bitS v.toNat) r else none
    | _ => none

theorem low12 (x : BitVec 16) : x.toNat < 4096 ↔ ∀ i ∈ memS x, i < 12 := by
  constructor
  · intro h i hi
    by_cases h12 : i < 12
    · exact h12
    · have h2 := ((memS_mem x i).1 hi).2
      rw [hasB_nat, Nat.testBit_lt_two_pow (Nat.lt_of_lt_of_le h (Nat.pow_le_pow_right (n := 2) (by decide) (by omega : 12 ≤ i)))] at h2
      cases h2
  · intro h
    apply Nat.lt_pow_two_of_testBit (n := 12)
    intro i hi
    cases hb : x.toNat.testBit i
    · rfl
    · by_cases h16 : i < 16
      · have := h i ((memS_mem x i).2 ⟨h16, hb⟩); omega
      · have hx := x.isLt
        rw [Nat.testBit_lt_two_pow (Nat.lt_of_lt_of_le hx (Nat.pow_le_pow_right (n := 2) (by decide) (by omega : 16 ≤ i)))] at hb
        cases hb

theorem hasB_orbit (x : BitVec 16) (n i : Nat) (hn : n < 16) : hasB (x ||| bitS n) i = (hasB x i || decide (i = n)) := by
  unfold hasB bitS
  rw [BitVec.getLsbD_or, BitVec.getLsbD_shiftLeft]
  by_cases h : i = n
  · subst h; simp [hn]
  · by_cases h2 : i < n
    · simp [h, h2]
    · have : (1#16).getLsbD (i - n) = false := by
        rw [BitVec.getLsbD_one]; simp; omega
      simp [this, h]

theorem words_ok (w : List UInt8) (hne : w ≠ []) (h : ∀ c ∈ w, dig c = true) : (∃ v : Nat, atoiAll w = .ok (v : Int)) ∨ atoiAll w = .range := by
  have hp : ∀ (l : List UInt8) (acc : Nat), (∀ c ∈ l, dig c = true) → (∃ v, parseUint10 acc l = .ok v) ∨ parseUint10 acc l = .range := by
    intro l
    induction l with
    | nil => intro acc _; exact .inl ⟨acc, rfl⟩
    | cons c l ih =>
      intro acc h
      have hc := h c (by simp)
      have hc' : 48 ≤ c.toNat ∧ c.toNat ≤ 57 := by unfold dig at hc; simpa using hc
      rw [parseUint10, if_pos hc']
      split
      · exact .inr rfl
      · split
        · exact .inr rfl
        · exact ih _ (fun d hd => h d (List.mem_cons_of_mem _ hd))
  cases w with
  | nil => exact absurd rfl hne
  | cons c r =>
    have hc := h c (by simp)
    have hc' : 48 ≤ c.toNat ∧ c.toNat ≤ 57 := by unfold dig at hc; simpa using hc
    have h43 : ¬ (c.toNat = 43 ∨ c.toNat = 45) := by omega
    have h45 : ¬ c.toNat = 45 := by omega
    unfold atoiAll
    simp only [if_neg h43]
    have hm : parseMag (c :: r) = parseUint10 0 (c :: r) := by unfold parseMag; rw [if_neg (by simp)]
    rw [hm]
    rcases hp (c :: r) 0 h with ⟨v, hv⟩ | hv
    · rw [hv]
      simp only [h45, not_false_eq_true, true_and, false_and, if_false]
      split
      · exact .inr rfl
      · exact .inl ⟨v, rfl⟩
    · rw [hv]; exact .inr rfl

theorem parW_low : ∀ (ws : List (List UInt8)) (x y : BitVec 16), (∀ w ∈ ws, w ≠ [] ∧ ∀ c ∈ w, dig c = true) → x.toNat < 4096 → parW x ws = some y → y.toNat < 4096 := by
  intro ws
  induction ws with
  | nil => intro x y _ hx h; cases h; exact hx
  | cons w ws ih =>
    intro x y hw hx h
    rw [parW] at h
    rcases words_ok w (hw w (by simp)).1 (hw w (by simp)).2 with ⟨v, hv⟩ | hv
    · rw [hv] at h
      simp only at h
      split at h
      · refine ih _ y (fun u hu => hw u (List.mem_cons_of_mem _ hu)) ?_ h
        rw [low12] at hx ⊢
        intro i hi
        have h1 := (memS_mem _ i).1 hi
        rw [hasB_orbit _ _ _ (by omega)] at h1
        rcases Bool.or_eq_true _ _ ▸ h1.2 with h2 | h2
        · exact hx i ((memS_mem x i).2 ⟨h1.1, h2⟩)
        · have := of_decide_eq_true h2; omega
      · cases h
    · rw [hv] at h; cases h

theorem parW_mem : ∀ (l : List Nat) (x : BitVec 16), (∀ i ∈ l, i < 12) → parW x (l.map decDigits) = some (l.foldl (fun x i => x ||| bitS i) x) := by
  intro l
  induction l with
  | nil => intro x _; rfl
  | cons i l ih =>
    intro x h
    have hi := h i (by simp)
    rw [List.map_cons, parW, (dec_facts i (by omega)).2.2]
    simp only [if_pos (show (i : Int) < 12 by omega), List.foldl_cons, Int.toNat_natCast]
    exact ih _ (fun j hj => h j (List.mem_cons_of_mem _ hj))
theorem hasB_fold : ∀ (l : List Nat) (x : BitVec 16) (j : Nat), (∀ i ∈ l, i < 16) → hasB (l.foldl (fun x i => x ||| bitS i) x) j = (hasB x j || decide (j ∈ l)) := by
  intro l
  induction l with
  | nil => intro x j _; simp
  | cons i l ih =>
    intro x j h
    rw [List.foldl_cons, ih _ _ (fun k hk => h k (List.mem_cons_of_mem _ hk)), hasB_orbit _ _ _ (h i (by simp))]
    by_cases h1 : j = i <;> simp [h1]
theorem fold_mem (x : BitVec 16) : (memS x).foldl (fun x i => x ||| bitS i) 0#16 = x := by
  apply BitVec.eq_of_getLsbD_eq
  intro i hi
  have := hasB_fold (memS x) 0#16 i (fun j hj => memS_16 x j hj)
  have h0 : hasB 0#16 i = false := by simp [hasB]
  rw [h0, Bool.false_or] at this
  show hasB _ i = hasB x i
  rw [this, Bool.eq_iff_iff, decide_eq_true_iff, memS_mem]
  exact ⟨fun h => h.2, fun h => ⟨hi, h⟩⟩

/-- set.Parse -/
def parseS (s : ByteArray) : BitVec 16 × Int :=
  match parW 0#16 (wordsL [] s.data.toList) with
  | some x => if fmtB x = s then (x, 0) else (0#16, 2)
  | none => (0#16, 2)

theorem fmtB_toList (x : BitVec 16) : (fmtB x).data.toList = fmtS x := by simp [fmtB]

theorem parseS_fmt (x : BitVec 16) (h : x.toNat < 4096) : parseS (fmtB x) = (x, 0) := by
  unfold parseS
  rw [fmtB_toList, words_fmt, parW_mem _ _ ((low12 x).1 h), fold_mem]
  simp
theorem parseS_spec (s : ByteArray) : (∃ x : BitVec 16, x.toNat < 4096 ∧ fmtB x = s ∧ parseS s = (x, 0)) ∨ ((∀ x : BitVec 16, x.toNat < 4096 → fmtB x ≠ s) ∧ parseS s = (0#16, 2)) := by
  by_cases hx : ∃ x : BitVec 16, x.toNat < 4096 ∧ fmtB x = s
  · obtain ⟨x, h1, rfl⟩ := hx
    exact .inl ⟨x, h1, rfl, parseS_fmt x h1⟩
  · refine .inr ⟨fun x h1 h2 => hx ⟨x, h1, h2⟩, ?_⟩
    unfold parseS
    cases hp : parW 0#16 (wordsL [] s.data.toList) with
    | none => rfl
    | some x =>
      simp only
      rw [if_neg]
      intro h
      exact hx ⟨x, parW_low _ _ x (words_dig _ _ (fun c hc => by cases hc)) (by decide) hp, h⟩
theorem parseS_big (x : BitVec 16) (h : ¬ x.toNat < 4096) : parseS (fmtB x) = (0#16, 2) := by
  rcases parseS_spec (fmtB x) with ⟨y, h1, h2, _⟩ | ⟨_, h⟩
  · rw [fmtB_inj h2] at h1; exact absurd h1 h
  · exact h
theorem cnt12 (x : BitVec 16) (h : x.toNat < 4096) : (memS x).length ≤ 12 := by
  have h1 := (low12 x).1 h
  have e : memS x = (List.range 12).filter (hasB x) := by
    have e2 : List.range 16 = List.range 12 ++ [12, 13, 14, 15] := by decide
    unfold memS at h1 ⊢
    rw [e2, List.filter_append] at h1 ⊢
    have : [12, 13, 14, 15].filter (hasB x) = [] := by
      apply List.filter_eq_nil_iff.2
      intro i hi hb
      have h2 := h1 i (List.mem_append_right _ (List.mem_filter.2 ⟨hi, hb⟩))
      simp at hi; omega
    rw [this, List.append_nil]
  rw [e]
  exact Nat.le_trans (List.length_filter_le _ _) (by simp)
theorem fmt_len (x : BitVec 16) (h : x.toNat < 4096) : (fmtB x).size ≤ 40 := by
  have h1 := join_len ((memS x).map decDigits) (by
    intro y hy
    obtain ⟨i, hi, rfl⟩ := List.mem_map.1 hy
    exact dec_len i (by have := memS_16 x i hi; omega))
  have h2 := cnt12 x h
  rw [List.length_map] at h1
  have : (fmtB x).size = (fmtS x).length := by simp [fmtB, ByteArray.size]
  rw [this]
  unfold fmtS
  simp; omega
end Go.Proofs.YthkboibhkpkliaaDoor
