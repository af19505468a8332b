/- Package set: add, Of. -/
import Derived.Test.YthkboibhkpkliaaDoorLib
import Derived.Test.YthkboibhkpkliaaDoorProg
namespace Go.Proofs.YthkboibhkpkliaaDoor
open Go.RowKit

/-- set.add: the new set and the error's number. -/
def addS (s : BitVec 16) (i : Int) : BitVec 16 × Int :=
  if i < 0 ∨ 12 ≤ i then (0#16, 7) else if hasB s i.toNat then (0#16, 5) else (s ||| bitS i.toNat, 0)

set_option maxHeartbeats 400000 in
theorem add_c (x : BitVec 16) (s i : Int) (w : World) (hs : s = U x) :
    Calls Tryd.prog 48 #[.int .u16 s, .int .i64 i] w fun e w' => e = .returned (.tuple #[.int .u16 (U (addS x i).1), .int .i64 (addS x i).2]) ∧ w = w' := by
  subst hs
  by_cases h1 : i < 0
  · go_enter Tryd.func48, Tryd.ntmps48
    go_wp2
    go_ret2
    exact ⟨by simp [addS, h1], rfl⟩
  · by_cases h2 : 12 ≤ i
    · go_enter Tryd.func48, Tryd.ntmps48
      go_wp2
      go_ret2
      exact ⟨by simp [addS, h2], rfl⟩
    · obtain ⟨n, rfl⟩ := Int.eq_ofNat_of_zero_le (by omega : 0 ≤ i)
      have e : addS x (n : Int) = if hasB x n then (0#16, 5) else (x ||| bitS n, 0) := by
        rw [addS, if_neg (by omega)]; rfl
      rw [e]
      cases h3 : hasB x n
      · go_enter Tryd.func48, Tryd.ntmps48
        go_wp2
        go_ret2
        exact ⟨by simp, rfl⟩
      · go_enter Tryd.func48, Tryd.ntmps48
        go_wp2
        go_ret2
        exact ⟨by simp, rfl⟩

/-- set.Of on a list of numbers, from a set on. -/
def ofS : BitVec 16 → List Int → BitVec 16 × Int
  | s, [] => (s, 0)
  | s, i :: l => if (addS s i).2 = 0 then ofS (addS s i).1 l else (0#16, (addS s i).2)

theorem ofS_take {l : List Int} {k : Nat} {x : Int} (s0 : BitVec 16) (h : l[k]? = some x) (s : BitVec 16) (hs : ofS s0 (l.take k) = (s, 0)) (ho : ofS s0 l = ofS s (l.drop k)) :
    (((addS s x).2 = 0 → ofS s0 (l.take (k + 1)) = ((addS s x).1, 0) ∧ ofS s0 l = ofS (addS s x).1 (l.drop (k + 1))) ∧ ((addS s x).2 ≠ 0 → ofS s0 l = (0#16, (addS s x).2))) := by
  have hd : l.drop k = x :: l.drop (k + 1) := by
    obtain ⟨hk, e⟩ := List.getElem?_eq_some_iff.1 h
    rw [List.drop_eq_getElem_cons hk, e]
  rw [hd] at ho
  have happ : ∀ (p : List Int) (s0 s : BitVec 16), ofS s0 p = (s, 0) → ∀ q, ofS s0 (p ++ q) = ofS s q := by
    intro p
    induction p with
    | nil => intro s0 s h q; simp [ofS] at h; simp [h]
    | cons i p ih =>
      intro s0 s h q
      by_cases h0 : (addS s0 i).2 = 0
      · simp only [List.cons_append, ofS, if_pos h0] at h ⊢; exact ih _ _ h q
      · simp only [ofS, if_neg h0] at h; exact absurd (Prod.mk.inj h).2 h0
  refine ⟨fun h0 => ⟨?_, ?_⟩, fun h0 => ?_⟩
  · rw [List.take_add_one, h, happ _ _ _ hs]; simp [ofS, h0]
  · rw [ho, ofS, if_pos h0]
  · rw [ho, ofS, if_neg h0]

set_option maxHeartbeats 1000000 in
theorem of_c (l : List Int) (a : Option Addr) (n c : Nat) (w : World) (h : Rd w a n c (l.map (Value.int .i64))) :
    Calls Tryd.prog 32 #[.slice a n c] w fun e w' => e = .returned (.tuple #[.int .u16 (U (ofS 0#16 l).1), .int .i64 (ofS 0#16 l).2]) ∧ w = w' := by
  have hn : n ≤ l.length ∧ l.length ≤ n := by have := h.len; simp at this; omega
  obtain ⟨hn1, hn2⟩ := hn
  have hm := h.max
  have hle := h.le
  unfold maxLen at hm
  go_enter Tryd.func32, Tryd.ntmps32
  go_wp2
  go_loop [4, 11] (fun v i => ∃ (k : Nat) (s : BitVec 16), k ≤ n ∧ i = .int .i64 k ∧ v = .int .u16 (U s) ∧ ofS 0#16 (l.take k) = (s, 0) ∧ ofS 0#16 l = ofS s (l.drop k)) (fun _ i => n - (intOf i).toNat)
  case atStart => exact ⟨0, 0#16, Nat.zero_le _, rfl, rfl, by simp [ofS], by simp⟩
  case round =>
    obtain ⟨k, s, hk, rfl, rfl, hs, ho⟩ := hrel
    by_cases hlt : k < n
    · obtain ⟨x, hx⟩ : ∃ x, l[k]? = some x := ⟨l[k]'(by omega), by simp⟩
      have T := Lib.hid (ofS_take 0#16 hx s hs ho)
      obtain ⟨b, o, rfl, hcell⟩ := h.at' (by omega)
      have hc := hcell k (.int .i64 x) (by simp [hx])
      clear hcell hs ho hx h
      by_cases he : (addS s x).2 = 0
      · have he' : ((addS s x).2 != 0) = false := by simp [he]
        have HE := Lib.hid he
        clear he
        go_wp2_with (go_at_call 48; refine (add_c s _ _ _ rfl).mono ?_; rintro e w' ⟨rfl, rfl⟩)
        go_round
        case rel => exact ⟨k + 1, _, by omega, by go_num, rfl, T.out.1 HE.out⟩
        case measure => simp [intOf]; omega
      · have he' : ((addS s x).2 != 0) = true := by simp [he]
        have HE := Lib.hid he
        clear he
        go_wp2_with (go_at_call 48; refine (add_c s _ _ _ rfl).mono ?_; rintro e w' ⟨rfl, rfl⟩)
        go_ret2
        exact ⟨by rw [T.out.2 HE.out]; rfl, rfl⟩
    · have hkn : k = n := by omega
      have ho' : ofS 0#16 l = (s, 0) := by rw [ho, List.drop_of_length_le (by omega)]; rfl
      have HO := Lib.hid ho'
      clear ho ho' hs hkn
      go_wp2
      go_ret2
      exact ⟨by rw [HO.out]; rfl, rfl⟩
end Go.Proofs.YthkboibhkpkliaaDoor
