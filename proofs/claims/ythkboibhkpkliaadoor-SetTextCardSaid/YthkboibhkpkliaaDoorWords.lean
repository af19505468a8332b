/- strings.FieldsFunc at 'no digit', told byte by byte; what Atoi makes of a word of digits. Plain laws, no program. -/
import Derived.Lib.FieldsP
import Derived.Lib.SpaceUEq
import Derived.Lib.AtoiAll
namespace Go.Proofs.YthkboibhkpkliaaDoor
open Go.Lib

def dig (c : UInt8) : Bool := decide (48 ≤ c.toNat) && decide (c.toNat ≤ 57)
/-- what the program asks of a rune -/
def notDig (c : Nat) : Bool := decide (c < 48) || decide (57 < c)
def shutW (cur : List UInt8) : List (List UInt8) := if cur = [] then [] else [cur]
theorem shutW_ne {cur : List UInt8} (h : cur ≠ []) : shutW cur = [cur] := if_neg h
def wordsL (cur : List UInt8) : List UInt8 → List (List UInt8)
  | [] => shutW cur
  | c :: r => if dig c then wordsL (cur ++ [c]) r else shutW cur ++ wordsL [] r

theorem head_rune (l : List UInt8) (hne : l ≠ []) :
    ((l.getD 0 0).toNat < 128 ∧ decodeL l = ((l.getD 0 0).toNat, 1)) ∨ (128 ≤ (decodeL l).1 ∧ 1 ≤ (decodeL l).2 ∧ (decodeL l).2 ≤ l.length ∧ ∀ j, j < (decodeL l).2 → 128 ≤ (l.getD j 0).toNat) := by
  have hl : 0 < l.length := List.length_pos_iff.2 hne
  have hc := decodeN_conts l.length (l.getD 0 0).toNat (l.getD 1 0).toNat (l.getD 2 0).toNat (l.getD 3 0).toNat
  have hk := decodeN_cases l.length (l.getD 0 0).toNat (l.getD 1 0).toNat (l.getD 2 0).toNat (l.getD 3 0).toNat
  have ha := decodeN_ascii l.length (l.getD 0 0).toNat (l.getD 1 0).toNat (l.getD 2 0).toNat (l.getD 3 0).toNat
  have hg := decodeN_ge1 l.length (l.getD 0 0).toNat (l.getD 1 0).toNat (l.getD 2 0).toNat (l.getD 3 0).toNat
  rw [← decodeL_N] at hc hk ha hg
  by_cases h0 : (l.getD 0 0).toNat < 128
  · exact .inl ⟨h0, ha h0⟩
  · refine .inr ?_
    obtain ⟨c2, c3, c4, c5⟩ := hc
    refine ⟨?_, hg, by omega, fun j hj => ?_⟩
    · rcases hk with h | ⟨_, _, _, h, e⟩ | ⟨_, _, _, _, h, e⟩ | ⟨h, _⟩ | e
      · exact absurd h.1 h0
      · rw [e]; exact h
      · rw [e]; simp only; omega
      · omega
      · rw [e]; decide
    · match j, hj with
      | 0, _ => omega
      | 1, hj => have := (c2 (by omega)).1; omega
      | 2, hj => have := (c3 (by omega)).1; omega
      | 3, hj => have := (c4 (by omega)).1; omega
      | j + 4, hj => omega

theorem wordsL_skip : ∀ (n : Nat) (l cur : List UInt8), n ≤ l.length → 1 ≤ n → (∀ j, j < n → 128 ≤ (l.getD j 0).toNat) → wordsL cur l = shutW cur ++ wordsL [] (l.drop n) := by
  intro n
  induction n with
  | zero => intro l cur _ h; omega
  | succ n ih =>
    intro l cur hl _ hb
    cases l with
    | nil => simp at hl
    | cons c r =>
      have h0 : dig c = false := by
        have := hb 0 (by omega)
        simp at this
        unfold dig; simp; omega
      rw [wordsL, h0]
      simp only [Bool.false_eq_true, if_false, List.drop_succ_cons]
      congr 1
      by_cases hn : n = 0
      · subst hn; simp
      · rw [ih r [] (by simpa using hl) (by omega) (fun j hj => by have := hb (j + 1) (by omega); simpa using this)]
        simp [shutW]

def cutW (s : ByteArray) (x : Nat × Nat) : List UInt8 := (s.extract x.1 x.2).data.toList
theorem cutW_eq (s : ByteArray) (a b : Nat) : cutW s (a, b) = (s.data.toList.drop a).take (b - a) := by
  unfold cutW
  rw [ByteArray.data_extract, Array.toList_extract]

/-- the word under way -/
def curW (s : ByteArray) (st : Option Nat) (pos : Nat) : List UInt8 := match st with | some a => (s.data.toList.drop a).take (pos - a) | none => []

theorem spans_words (s : ByteArray) : ∀ (f pos : Nat) (st : Option Nat) (acc : List (Nat × Nat)), s.size ≤ pos + f → pos ≤ s.size → (∀ a, st = some a → a < pos) →
    (closeSpans s (spansFromP notDig s f pos st acc)).map (cutW s) = acc.map (cutW s) ++ wordsL (curW s st pos) (s.data.toList.drop pos) := by
  have hsz : s.size = s.data.toList.length := rfl
  have hend : ∀ (pos : Nat) (st : Option Nat) (acc : List (Nat × Nat)), pos = s.size → (∀ a, st = some a → a < pos) →
      (closeSpans s (acc, st)).map (cutW s) = acc.map (cutW s) ++ wordsL (curW s st pos) (s.data.toList.drop pos) := by
    intro pos st acc he hst
    rw [List.drop_eq_nil_of_le (by rw [← hsz]; omega)]
    cases st with
    | none => simp [closeSpans, wordsL, curW, shutW]
    | some a =>
      have ha := hst a rfl
      have hne : (s.data.toList.drop a).take (pos - a) ≠ [] := by
        intro h
        have := congrArg List.length h
        simp at this; omega
      show (acc ++ [(a, s.size)]).map (cutW s) = acc.map (cutW s) ++ shutW ((s.data.toList.drop a).take (pos - a))
      rw [shutW_ne hne, List.map_append, List.map_cons, List.map_nil, cutW_eq, he]
  intro f
  induction f with
  | zero =>
    intro pos st acc h1 h2 h3
    exact hend pos st acc (by omega) h3
  | succ f ih =>
    intro pos st acc h1 h2 h3
    by_cases hp : pos < s.size
    · have hne : s.data.toList.drop pos ≠ [] := by
        intro h; have := congrArg List.length h; simp at this; omega
      have hd := head_rune _ hne
      rw [decodeL_drop] at hd
      have hcur : shutW (curW s st pos) = match st with | some a => [cutW s (a, pos)] | none => [] := by
        cases st with
        | none => rfl
        | some a =>
          have ha := h3 a rfl
          have hne : (s.data.toList.drop a).take (pos - a) ≠ [] := by
            intro h
            have := congrArg List.length h
            simp at this; omega
          show shutW ((s.data.toList.drop a).take (pos - a)) = [cutW s (a, pos)]
          rw [shutW_ne hne, cutW_eq]
      rcases hd with ⟨hb, hd⟩ | ⟨hd1, hd2, hd3, hd4⟩
      · -- one byte
        obtain ⟨c, r, hcr⟩ : ∃ c r, s.data.toList.drop pos = c :: r := List.exists_cons_of_ne_nil hne
        have hr : s.data.toList.drop (pos + 1) = r := by rw [← List.drop_drop, hcr]; rfl
        rw [hcr] at hb hd
        simp only [List.getD_cons_zero] at hb hd
        rw [hcr]
        simp only [spansFromP, if_pos hp, hd]
        by_cases hg : dig c = true
        · have hn : notDig c.toNat = false := by unfold dig at hg; unfold notDig; simp at hg ⊢; omega
          simp only [hn, Bool.false_eq_true, if_false]
          rw [wordsL, if_pos hg]
          have hcc : ∀ a, a < pos → (s.data.toList.drop a).take (pos + 1 - a) = (s.data.toList.drop a).take (pos - a) ++ [c] := by
            intro a ha
            rw [show pos + 1 - a = (pos - a) + 1 by omega, List.take_add_one, List.getElem?_drop, show a + (pos - a) = pos by omega]
            have : s.data.toList[pos]? = some c := by have := congrArg (·[0]?) hcr; simpa using this
            rw [this]; rfl
          cases st with
          | some a =>
            have ha := h3 a rfl
            rw [ih (pos + 1) (some a) acc (by omega) (by omega) (fun b hb => by cases hb; omega), hr]
            congr 2
            simp only [curW]
            exact hcc a ha
          | none =>
            rw [ih (pos + 1) (some pos) acc (by omega) (by omega) (fun b hb => by cases hb; omega), hr]
            congr 2
            simp only [curW, List.nil_append]
            rw [show pos + 1 - pos = 1 by omega, hcr]; rfl
        · have hn : notDig c.toNat = true := by
            have : dig c = false := by simpa using hg
            unfold dig at this; unfold notDig; simp at this ⊢; omega
          simp only [hn, if_true]
          rw [wordsL, if_neg hg, hcur]
          cases st with
          | some a =>
            show (closeSpans s (spansFromP notDig s f (pos + 1) none (acc ++ [(a, pos)]))).map (cutW s) = _
            rw [ih (pos + 1) none _ (by omega) (by omega) (fun b hb => by cases hb), hr]
            simp [curW]
          | none =>
            show (closeSpans s (spansFromP notDig s f (pos + 1) none acc)).map (cutW s) = _
            rw [ih (pos + 1) none _ (by omega) (by omega) (fun b hb => by cases hb), hr]
            simp [curW]
      · have hn : notDig (Utf8.decode s pos).1 = true := by unfold notDig; simp; omega
        have hl : (s.data.toList.drop pos).length = s.size - pos := by rw [List.length_drop, hsz]
        simp only [spansFromP, if_pos hp, hn, if_true]
        rw [wordsL_skip _ _ _ hd3 hd2 hd4, hcur, List.drop_drop]
        cases st with
        | some a =>
          show (closeSpans s (spansFromP notDig s f _ none (acc ++ [(a, pos)]))).map (cutW s) = _
          rw [ih _ none _ (by omega) (by omega) (fun b hb => by cases hb)]
          simp [curW]
        | none =>
          show (closeSpans s (spansFromP notDig s f _ none acc)).map (cutW s) = _
          rw [ih _ none _ (by omega) (by omega) (fun b hb => by cases hb)]
          simp [curW]
    · rw [spansFromP_end notDig s _ pos st acc hp]
      exact hend pos st acc (by omega) h3

theorem fields_words (s : ByteArray) : (goFieldsP notDig s).map (fun w => w.data.toList) = wordsL [] s.data.toList := by
  unfold goFieldsP spansOfP
  rw [List.map_map]
  have := spans_words s s.size 0 none [] (by omega) (Nat.zero_le _) (fun a h => by cases h)
  have e : ((fun w : ByteArray => w.data.toList) ∘ fun x : Nat × Nat => s.extract x.1 x.2) = cutW s := rfl
  rw [e, this]; simp [curW]

/-- words hold digits, and are not empty -/
theorem words_dig : ∀ (l cur : List UInt8), (∀ c ∈ cur, dig c = true) → ∀ w ∈ wordsL cur l, w ≠ [] ∧ ∀ c ∈ w, dig c = true := by
  intro l
  induction l with
  | nil =>
    intro cur hc w hw
    unfold wordsL shutW at hw
    split at hw
    · cases hw
    · obtain rfl : w = cur := by simpa using hw
      exact ⟨by assumption, hc⟩
  | cons c r ih =>
    intro cur hc w hw
    rw [wordsL] at hw
    split at hw
    · exact ih _ (fun d hd => by
      rcases List.mem_append.1 hd with h | h
      · exact hc d h
      · obtain rfl : d = c := (by simpa using h); assumption) w hw
    · rcases List.mem_append.1 hw with h | h
      · unfold shutW at h
        split at h
        · cases h
        · obtain rfl : w = cur := by simpa using h
          exact ⟨by assumption, hc⟩
      · exact ih [] (fun d hd => by cases hd) w h
end Go.Proofs.YthkboibhkpkliaaDoor
