/- Texts laid together. Package family: Accepts, Support, Valid; slices.Contains, ContainsFunc of sets. family.Valid. The reference of layer 8: Size, Before, Contains, Range, Accepts, Support, Valid. The reference's Of, Rename, Choose, Subsets, Same; set.Rename; slices.Equal and Clone of ints. The reference's Rename, Within, Choose, Subsets, Same; slices.Equal and Clone of ints. The reference of layer 9. The reference of layer 9: Minimal, Made. The reference of layer 9: Made. The reference's Valid of layer 8. -/
import Derived.Test.YtgfjmplifmbmlaaDoorGSingleAttack1
import Derived.Shelf.GgClosure.Gives
import Derived.IntWalk
namespace Go.Proofs.YtgfjmplifmbmlaaDoor
open Go.RowKit Go.Shelf

def setV2 (x : BitVec 16) : Value := .int .u16 (U x)

theorem at_some {l : List (BitVec 16)} {k : Nat} (h : k < l.length) : l[k]? = some (l.getD k 0#16) := by rw [List.getElem?_eq_getElem h, getD_at h]
theorem at_cell {l : List (BitVec 16)} {k : Nat} (h : k < l.length) : (l.map setV2)[k]? = some (.int .u16 (U (l.getD k 0#16))) := by rw [List.getElem?_map, at_some h]; rfl
theorem any_hit {p : BitVec 16 → Bool} {l : List (BitVec 16)} {k : Nat} (h : k < l.length) (hp : p (l.getD k 0#16) = true) : l.any p = true :=
  List.any_eq_true.2 ⟨_, by rw [getD_at h]; exact List.getElem_mem h, hp⟩
theorem any_none {p : BitVec 16 → Bool} {l : List (BitVec 16)} (h : ∀ j, j < l.length → p (l.getD j 0#16) = false) : l.any p = false := by
  rw [Bool.eq_false_iff]
  intro hc
  obtain ⟨x, hx, hp⟩ := List.any_eq_true.1 hc
  obtain ⟨j, hj, rfl⟩ := List.mem_iff_getElem.1 hx
  rw [← getD_at hj, h j hj] at hp; cases hp

/-- the first place of a set, or -1 -/
def idxS (p : BitVec 16 → Bool) (l : List (BitVec 16)) : Int := if l.any p then (l.findIdx p : Int) else -1
theorem idxS_hit {p : BitVec 16 → Bool} {l : List (BitVec 16)} {k : Nat} (hk : k < l.length) (h : ∀ j, j < k → p (l.getD j 0#16) = false) (hp : p (l.getD k 0#16) = true) : idxS p l = k := by
  unfold idxS
  rw [if_pos (any_hit hk hp)]
  have : l.findIdx p = k := by
    rw [List.findIdx_eq hk]
    refine ⟨by rw [← getD_at hk]; exact hp, fun j hj => ?_⟩
    have := h j hj
    rw [getD_at (by omega)] at this
    exact this
  rw [this]
theorem idxS_none {p : BitVec 16 → Bool} {l : List (BitVec 16)} (h : ∀ j, j < l.length → p (l.getD j 0#16) = false) : idxS p l = -1 := by
  unfold idxS; rw [any_none h]; rfl
theorem idxS_ge (p : BitVec 16 → Bool) (l : List (BitVec 16)) : decide (0 ≤ idxS p l) = l.any p := by
  unfold idxS
  cases l.any p <;> simp

set_option maxRecDepth 100000 in
set_option maxHeartbeats 1000000 in
theorem idxF_c (g : Nat) (lb : Array Value) (eg : ∀ args w, (callFunc g args).run Tryd.prog w = .ok (.enter g args) w) (p : BitVec 16 → Bool) (l : List (BitVec 16)) (a : Option Addr) (n c : Nat) (w : World)
    (h : Rd w a n c (l.map setV2)) (hp : PredAt Tryd.prog g lb setV2 p w) :
    Calls Tryd.prog 80 #[.slice a n c, .func (.func g) #[] lb] w fun e w' => e = .returned (.int .i64 (idxS p l)) ∧ Below w.heap.size w w' := by
  have hn : n ≤ l.length ∧ l.length ≤ n := by have := h.len; simp at this; omega
  obtain ⟨hn1, hn2⟩ := hn
  have hm := h.max
  have hle := h.le
  unfold maxLen at hm
  have HP := Lib.hid hp
  have HR := Lib.hid h
  clear hp h
  go_enter Tryd.func80, Tryd.ntmps80
  go_wp2_with fail
  go_loopw [8] (fun i wr => ∃ k : Nat, k ≤ n ∧ i = .int .i64 k ∧ Hid (∀ j, j < k → p (l.getD j 0#16) = false) ∧ Below w.heap.size w wr) (fun i _ => n - (intOf i).toNat)
  case atStart => exact ⟨0, Nat.zero_le _, rfl, Lib.hid (fun j hj => by omega), Below.refl _ _⟩
  case round =>
    obtain ⟨k, hk, rfl, hno, hb⟩ := hrel
    by_cases hlt : k < n
    · obtain ⟨b, o, ha, hcell⟩ := (HR.out.below hb).at' (by omega)
      have hc := hcell k _ (at_cell (by omega))
      subst ha
      have HF : Hid (Calls Tryd.prog g (#[.int .u16 (U (l.getD k 0#16))] ++ lb) wr fun e w' => e = .returned (.bool (p (l.getD k 0#16))) ∧ ∃ q, w' = wr.drewN q) := HP.out wr (l.getD k 0#16) hb
      cases hq : p (l.getD k 0#16)
      · have hno' : Hid (∀ j, j < k + 1 → p (l.getD j 0#16) = false) := Lib.hid (fun j hj => by
          by_cases h1 : j < k
          · exact hno.out j h1
          · obtain rfl : j = k := by omega
            exact hq)
        rw [hq] at HF
        obtain ⟨x, hx⟩ : ∃ x, l.getD k 0#16 = x := ⟨_, rfl⟩
        rw [hx] at hc HF
        clear hq hcell hno hx
        go_wp2_with (go_at_fn g; refine HF.out.mono ?_; rintro e w' ⟨rfl, q, rfl⟩)
        go_roundw
        case rel => exact ⟨k + 1, by omega, by go_num, hno', below_drewN hb⟩
        case measure => simp [intOf]; omega
      · have hI : Hid (idxS p l = k) := idxS_hit (by omega) hno.out hq
        rw [hq] at HF
        obtain ⟨x, hx⟩ : ∃ x, l.getD k 0#16 = x := ⟨_, rfl⟩
        rw [hx] at hc HF
        clear hq hcell hno hx
        go_wp2_with (go_at_fn g; refine HF.out.mono ?_; rintro e w' ⟨rfl, q, rfl⟩)
        go_ret
        exact ⟨ret_int hI.out.symm, below_drewN hb⟩
    · have hI : Hid (idxS p l = -1) := idxS_none (fun j hj => hno.out j (by omega))
      clear hno
      go_wp2_with fail
      go_ret
      exact ⟨ret_int hI.out.symm, hb⟩

set_option maxRecDepth 100000 in
set_option maxHeartbeats 1000000 in
theorem containsF_c (g : Nat) (lb : Array Value) (eg : ∀ args w, (callFunc g args).run Tryd.prog w = .ok (.enter g args) w) (p : BitVec 16 → Bool) (l : List (BitVec 16)) (a : Option Addr) (n c : Nat) (w : World)
    (h : Rd w a n c (l.map setV2)) (hp : PredAt Tryd.prog g lb setV2 p w) :
    Calls Tryd.prog 65 #[.slice a n c, .func (.func g) #[] lb] w fun e w' => e = .returned (.bool (l.any p)) ∧ Below w.heap.size w w' := by
  have HC := Lib.hid (idxF_c g lb eg p l a n c w h hp)
  have hi := idxS_ge p l
  clear h hp eg
  obtain ⟨i, hi2⟩ : ∃ i, idxS p l = i := ⟨_, rfl⟩
  rw [hi2] at HC hi
  have HI := Lib.hid hi
  clear hi hi2
  go_enter Tryd.func65, Tryd.ntmps65
  go_wp2_with fail
  refine HC.out.mono ?_
  rintro e w1 ⟨rfl, hb⟩
  go_wp2_with fail
  go_ret
  exact ⟨ret_bool HI.out, hb⟩

set_option maxHeartbeats 400000 in
theorem contains_c (x y : BitVec 16) (w : World) :
    Calls Tryd.prog 67 #[.int .u16 (U x), .int .u16 (U y)] w fun e w' => e = .returned (.bool (subB x y)) ∧ w' = w := by
  go_enter Tryd.func67, Tryd.ntmps67
  go_wp2
  go_ret
  exact ⟨rfl, rfl⟩

theorem accepts1_at (w : World) (B : Nat) (s : BitVec 16) (hc : w.cell? ⟨B, 0, none⟩ = some (.int .u16 (U s))) :
    PredAt Tryd.prog 66 #[.pointer (some ⟨B, 0, none⟩)] setV2 (fun x => subB s x) w := fun W x hb => by
  have hc' : W.cell? ⟨B, 0, none⟩ = some (.int .u16 (U s)) := (hb.cell (p := ⟨B, 0, none⟩) (cell_lt hc)).trans hc
  unfold FnGives setV2
  clear hb hc
  go_enter Tryd.func66, Tryd.ntmps66
  go_wp2_with fail
  refine (contains_c s x _).mono ?_
  rintro e w1 ⟨rfl, rfl⟩
  go_wp2_with fail
  go_ret
  exact ⟨rfl, 0, rfl⟩

set_option maxRecDepth 100000 in
set_option maxHeartbeats 1000000 in
theorem accepts_c (l : List (BitVec 16)) (s : BitVec 16) (a : Option Addr) (n c : Nat) (w : World) (h : Rd w a n c (l.map setV2)) :
    Calls Tryd.prog 48 #[.slice a n c, .int .u16 (U s)] w fun e w' => e = .returned (.bool (accS l s)) ∧ Below w.heap.size w w' := by
  have hb0 : Below w.heap.size w (w.alloc (.cells #[.int .u16 (U s)] 30)) := (Below.refl _ w).alloc (Nat.le_refl _) _
  have HC := Lib.hid (containsF_c 66 #[.pointer (some ⟨w.heap.size, 0, none⟩)] (enters_of Tryd.func66 (by kernel_rfl) rfl) (fun x => subB s x) l a n c _ (h.below hb0) (accepts1_at _ w.heap.size s (cell_new _ _ _ 0 _ rfl)))
  have HB := Lib.hid hb0
  clear h hb0
  go_enter Tryd.func48, Tryd.ntmps48
  go_wp2_with fail
  refine HC.out.mono ?_
  rintro e w1 ⟨rfl, hb⟩
  go_wp2_with fail
  go_ret
  exact ⟨rfl, Below.next HB.out hb⟩

/-- the union -/
def supS (l : List (BitVec 16)) : BitVec 16 := l.foldl (· ||| ·) 0#16
theorem supS_take {l : List (BitVec 16)} {k : Nat} (h : k < l.length) : supS (l.take (k + 1)) = supS (l.take k) ||| l.getD k 0#16 := by
  unfold supS; rw [List.take_add_one, at_some h]; simp

set_option maxRecDepth 100000 in
set_option maxHeartbeats 1000000 in
theorem support_c (l : List (BitVec 16)) (a : Option Addr) (n c : Nat) (w : World) (h : Rd w a n c (l.map setV2)) :
    Calls Tryd.prog 56 #[.slice a n c] w fun e w' => e = .returned (.int .u16 (U (supS l))) ∧ w' = w := by
  have hn : n ≤ l.length ∧ l.length ≤ n := by have := h.len; simp at this; omega
  obtain ⟨hn1, hn2⟩ := hn
  have hm := h.max
  have hle := h.le
  unfold maxLen at hm
  go_enter Tryd.func56, Tryd.ntmps56
  go_wp2_with fail
  go_loop [3, 8] (fun v i => ∃ (k : Nat) (s : BitVec 16), k ≤ n ∧ i = .int .i64 k ∧ v = .int .u16 (U s) ∧ Hid (s = supS (l.take k))) (fun _ i => n - (intOf i).toNat)
  case atStart => exact ⟨0, 0#16, Nat.zero_le _, rfl, rfl, rfl⟩
  case round =>
    obtain ⟨k, s, hk, rfl, rfl, hs⟩ := hrel
    by_cases hlt : k < n
    · obtain ⟨b, o, ha, hcell⟩ := h.at' (by omega)
      have hc := hcell k _ (at_cell (by omega))
      have HS := Lib.hid (supS_take (l := l) (k := k) (by omega))
      obtain ⟨x, hx⟩ : ∃ x, l.getD k 0#16 = x := ⟨_, rfl⟩
      rw [hx] at hc HS
      subst ha
      clear hcell h hx
      go_wp2_with fail
      go_round
      case rel => exact ⟨k + 1, s ||| x, by omega, by go_num, rfl, by show _ = _; rw [HS.out, hs.out]⟩
      case measure => simp [intOf]; omega
    · have hE : Hid (l.take k = l) := List.take_of_length_le (by omega)
      clear h
      go_wp2_with fail
      go_ret
      exact ⟨by rw [hs.out, hE.out]; rfl, rfl⟩

set_option maxRecDepth 100000 in
set_option maxHeartbeats 1000000 in
theorem index_c (l : List (BitVec 16)) (y : BitVec 16) (a : Option Addr) (n c : Nat) (w : World) (h : Rd w a n c (l.map setV2)) :
    Calls Tryd.prog 77 #[.slice a n c, .int .u16 (U y)] w fun e w' => e = .returned (.int .i64 (idxS (fun x => y == x) l)) ∧ w' = w := by
  have hn : n ≤ l.length ∧ l.length ≤ n := by have := h.len; simp at this; omega
  obtain ⟨hn1, hn2⟩ := hn
  have hm := h.max
  have hle := h.le
  unfold maxLen at hm
  go_enter Tryd.func77, Tryd.ntmps77
  go_wp2_with fail
  go_loop [8] (fun i => ∃ (k : Nat), k ≤ n ∧ i = .int .i64 k ∧ Hid (∀ j, j < k → (y == l.getD j 0#16) = false)) (fun i => n - (intOf i).toNat)
  case atStart => exact ⟨0, Nat.zero_le _, rfl, Lib.hid (fun j hj => by omega)⟩
  case round =>
    obtain ⟨k, hk, rfl, hno⟩ := hrel
    by_cases hlt : k < n
    · obtain ⟨b, o, ha, hcell⟩ := h.at' (by omega)
      have hc := hcell k _ (at_cell (by omega))
      obtain ⟨x, hx⟩ : ∃ x, l.getD k 0#16 = x := ⟨_, rfl⟩
      subst ha
      by_cases hq : (y == x) = true
      · have hI : Hid (idxS (fun x => y == x) l = k) := idxS_hit (p := fun x => y == x) (by omega) hno.out (by rw [hx]; exact hq)
        rw [hx] at hc
        clear hcell h hx hno
        go_wp2_with fail
        go_ret
        exact ⟨ret_int hI.out.symm, rfl⟩
      · have hq' : (y == x) = false := by simpa using hq
        have hno' : Hid (∀ j, j < k + 1 → (y == l.getD j 0#16) = false) := Lib.hid (fun j hj => by
          by_cases h1 : j < k
          · exact hno.out j h1
          · obtain rfl : j = k := by omega
            rw [hx]; exact hq')
        rw [hx] at hc
        clear hcell h hx hno hq
        go_wp2_with fail
        go_round
        case rel => exact ⟨k + 1, by omega, by go_num, hno'⟩
        case measure => simp [intOf]; omega
    · have hI : Hid (idxS (fun x => y == x) l = -1) := idxS_none (fun j hj => hno.out j (by omega))
      clear hno h
      go_wp2_with fail
      go_ret
      exact ⟨ret_int hI.out.symm, rfl⟩

set_option maxRecDepth 100000 in
set_option maxHeartbeats 1000000 in
theorem containsv_c (l : List (BitVec 16)) (y : BitVec 16) (a : Option Addr) (n c : Nat) (w : World) (h : Rd w a n c (l.map setV2)) :
    Calls Tryd.prog 57 #[.slice a n c, .int .u16 (U y)] w fun e w' => e = .returned (.bool (l.any (fun x => y == x))) ∧ w' = w := by
  have HC := Lib.hid (index_c l y a n c w h)
  have hi := idxS_ge (fun x => y == x) l
  clear h
  obtain ⟨i, hi2⟩ : ∃ i, idxS (fun x => y == x) l = i := ⟨_, rfl⟩
  rw [hi2] at HC hi
  have HI := Lib.hid hi
  clear hi hi2
  go_enter Tryd.func57, Tryd.ntmps57
  go_wp2_with fail
  refine HC.out.mono ?_
  rintro e w1 ⟨rfl, rfl⟩
  go_wp2_with fail
  go_ret
  exact ⟨ret_bool HI.out, rfl⟩
end Go.Proofs.YtgfjmplifmbmlaaDoor
namespace Go.Proofs.YtgfjmplifmbmlaaDoor
open Go.RowKit Go.Shelf

theorem Rd.take {w : World} {a : Option Addr} {n c : Nat} {l : List Value} (h : Rd w a n c l) (k : Nat) (hk : k ≤ n) : Rd w a k c (l.take k) := by
  refine ⟨by rw [List.length_take, ← h.len]; omega, by have := h.le; omega, h.max, h.nil, fun hn => ?_⟩
  obtain ⟨b, o, ha, hc⟩ := h.at' (by omega)
  refine ⟨b, o, ha, fun i v hv => hc i v ?_⟩
  rw [List.getElem?_take] at hv
  split at hv
  · exact hv
  · cases hv

@[go_sem] theorem bv16_and_out (x : BitVec 16) : bits .and .u16 (U x) 61440 = U (x &&& 61440#16) := by
  have := bv16_and x 61440#16
  rwa [show U 61440#16 = 61440 by decide] at this
theorem out_iff (x : BitVec 16) : (x &&& 61440#16 != 0#16) = decide (4096 ≤ U x) := by
  rw [Bool.eq_iff_iff, bne_iff_ne, decide_eq_true_iff]
  have hx := x.isLt
  constructor
  · intro h
    refine Classical.byContradiction fun hc => h ?_
    have hlt : x.toNat < 2 ^ 12 := by unfold U at hc; omega
    apply BitVec.eq_of_getLsbD_eq
    intro i hi
    simp only [BitVec.getLsbD_and, BitVec.getLsbD_zero]
    by_cases h12 : i < 12
    · have : ∀ i : Fin 12, (61440#16).getLsbD i.val = false := by decide
      rw [this ⟨i, h12⟩, Bool.and_false]
    · have : x.getLsbD i = false := Nat.testBit_lt_two_pow (Nat.lt_of_lt_of_le hlt (Nat.pow_le_pow_right (by decide) (by omega)))
      rw [this, Bool.false_and]
  · intro h hc
    have hlt : x.toNat < 2 ^ 12 := by
      apply Nat.lt_pow_two_of_testBit
      intro i hi
      by_cases h16 : i < 16
      · have h1 := congrArg (fun y => y.getLsbD i) hc
        simp only [BitVec.getLsbD_and, BitVec.getLsbD_zero] at h1
        have : ∀ i : Fin 4, (61440#16).getLsbD (i.val + 12) = true := by decide
        have h2 := this ⟨i - 12, by omega⟩
        simp only [show i - 12 + 12 = i by omega] at h2
        rw [h2, Bool.and_true] at h1
        exact h1
      · exact Nat.testBit_lt_two_pow (Nat.lt_of_lt_of_le hx (Nat.pow_le_pow_right (by decide) (by omega)))
    unfold U at h; omega

theorem valS_first {l : List (BitVec 16)} {k : Nat} (hn : ¬ 400 < l.length) (hk : k < l.length) (h : ∀ j, j < k → e1 l j = 0) (he : e1 l k ≠ 0) : valS l = e1 l k := by
  unfold valS
  rw [if_neg hn, firstE_hit _ _ k hk h he, if_pos he]
theorem valS_over {l : List (BitVec 16)} (hn : ¬ 400 < l.length) (h : ∀ j, j < l.length → e1 l j = 0) : valS l = if overB l then 1 else 0 := by
  unfold valS
  rw [if_neg hn, firstE_none _ _ h]; rfl
theorem e1_out {l : List (BitVec 16)} {k : Nat} (h : 4096 ≤ U (l.getD k 0#16)) : e1 l k = 7 := by unfold e1; rw [if_pos h]
theorem e1_zero0 {l : List (BitVec 16)} (h : ¬ 4096 ≤ U (l.getD 0 0#16)) : e1 l 0 = 0 := by unfold e1; rw [if_neg h, if_neg (by omega)]
theorem e1_next {l : List (BitVec 16)} {k : Nat} (h : ¬ 4096 ≤ U (l.getD (k + 1) 0#16)) : e1 l (k + 1) = if 0 ≤ cmpS (l.getD k 0#16) (l.getD (k + 1) 0#16) then 1 else 0 := by
  unfold e1; rw [if_neg h]
  by_cases hc : 0 ≤ cmpS (l.getD k 0#16) (l.getD (k + 1) 0#16)
  · rw [if_pos ⟨by omega, by simpa using hc⟩, if_pos hc]
  · rw [if_neg (fun h => hc (by simpa using h.2)), if_neg hc]

set_option maxRecDepth 100000 in
set_option maxHeartbeats 2000000 in
theorem valid_c (l : List (BitVec 16)) (a : Option Addr) (n c : Nat) (w : World) (h : Rd w a n c (l.map setV2)) :
    Calls Tryd.prog 55 #[.slice a n c] w fun e w' => e = .returned (.int .i64 (valS l)) ∧ Below w.heap.size w w' := by
  have hnl : l.length = n := by have := h.len; simp at this; omega
  have hm := h.max
  have hle := h.le
  unfold maxLen at hm
  have HR := Lib.hid h
  have HN := Lib.hid hnl
  clear h hnl
  by_cases h400 : (400 : Int) < (n : Int)
  · have hV : Hid (valS l = 3) := by show _ = _; unfold valS; rw [if_pos (by have := HN.out; omega)]
    go_enter Tryd.func55, Tryd.ntmps55
    go_wp2_with fail
    go_ret
    exact ⟨by rw [hV.out]; rfl, Below.refl _ _⟩
  · have hd4 : decide ((400 : Int) < (n : Int)) = false := by simpa using h400
    have h400' : Hid (¬ 400 < l.length) := by show ¬ _; have := HN.out; omega
    clear h400
    go_enter Tryd.func55, Tryd.ntmps55
    go_wp2_with fail
    go_loopw [12] (fun i wr => ∃ k : Nat, k ≤ n ∧ i = .int .i64 k ∧ Hid (∀ j, j < k → e1 l j = 0) ∧ Below w.heap.size w wr) (fun i _ => n - (intOf i).toNat)
    case atStart => exact ⟨0, Nat.zero_le _, rfl, Lib.hid (fun j hj => by omega), Below.refl _ _⟩
    case round =>
      obtain ⟨k, hk, rfl, hno, hb⟩ := hrel
      by_cases hlt : k < n
      · obtain ⟨b, o, ha, hcell⟩ := (HR.out.below hb).at' (by omega)
        have hc := hcell k _ (at_cell (by have := HN.out; omega))
        have hlen : Hid (k < l.length) := by show k < _; have := HN.out; omega
        subst ha
        by_cases ho : 4096 ≤ U (l.getD k 0#16)
        · have hV : Hid (valS l = 7) := by show _ = _; rw [valS_first h400'.out hlen.out hno.out (by rw [e1_out ho]; decide), e1_out ho]
          have ho1 := out_iff (l.getD k 0#16)
          obtain ⟨x, hx⟩ : ∃ x, l.getD k 0#16 = x := ⟨_, rfl⟩
          rw [hx] at ho ho1 hc
          rw [decide_eq_true ho] at ho1
          clear hcell hx ho hno
          go_wp2_with fail
          go_ret
          exact ⟨by rw [hV.out]; rfl, hb⟩
        · have ho1 := out_iff (l.getD k 0#16)
          rw [decide_eq_false ho] at ho1
          cases k with
          | zero =>
            have hno' : Hid (∀ j, j < 0 + 1 → e1 l j = 0) := Lib.hid (fun j hj => by obtain rfl : j = 0 := (by omega); exact e1_zero0 ho)
            obtain ⟨x, hx⟩ : ∃ x, l.getD 0 0#16 = x := ⟨_, rfl⟩
            rw [hx] at ho1 hc
            rw [Nat.add_zero] at hc
            clear hcell hx ho hno
            go_wp2_with fail
            go_roundw
            case rel => exact ⟨0 + 1, by omega, rfl, hno', hb⟩
            case measure => simp [intOf]; omega
          | succ k =>
            have hc0 := hcell k _ (at_cell (by have := hlen.out; omega))
            have he := e1_next ho
            by_cases hcmp : 0 ≤ cmpS (l.getD k 0#16) (l.getD (k + 1) 0#16)
            · rw [if_pos hcmp] at he
              have hV : Hid (valS l = 1) := by show _ = _; rw [valS_first h400'.out hlen.out hno.out (by rw [he]; decide), he]
              obtain ⟨x, hx⟩ : ∃ x, l.getD k 0#16 = x := ⟨_, rfl⟩
              obtain ⟨y, hy⟩ : ∃ y, l.getD (k + 1) 0#16 = y := ⟨_, rfl⟩
              have HC := Lib.hid (fun w => compare_c x y _ _ w rfl rfl)
              rw [hx, hy] at hcmp
              rw [hx] at hc0
              rw [hy] at hc ho1
              clear hcell hx hy ho hno he
              go_wp2_with fail
              refine (HC.out _).mono ?_
              rintro e w2 ⟨rfl, hb2⟩
              go_wp2_with fail
              go_ret
              exact ⟨by rw [hV.out]; rfl, Below.next hb hb2⟩
            · rw [if_neg hcmp] at he
              have hno' : Hid (∀ j, j < k + 1 + 1 → e1 l j = 0) := Lib.hid (fun j hj => by
                by_cases h1 : j < k + 1
                · exact hno.out j h1
                · obtain rfl : j = k + 1 := by omega
                  exact he)
              obtain ⟨x, hx⟩ : ∃ x, l.getD k 0#16 = x := ⟨_, rfl⟩
              obtain ⟨y, hy⟩ : ∃ y, l.getD (k + 1) 0#16 = y := ⟨_, rfl⟩
              have HC := Lib.hid (fun w => compare_c x y _ _ w rfl rfl)
              rw [hx, hy] at hcmp
              rw [hx] at hc0
              rw [hy] at hc ho1
              have hcm : decide (0 ≤ cmpS x y) = false := by simpa using hcmp
              clear hcell hx hy ho hno he hcmp
              go_wp2_with fail
              refine (HC.out _).mono ?_
              rintro e w2 ⟨rfl, hb2⟩
              have hb3 := Below.next hb hb2
              clear hb hb2
              go_wp2_with fail
              go_roundw
              case rel => exact ⟨k + 1 + 1, by omega, by go_num, hno', hb3⟩
              case measure => simp [intOf]; omega
      · have hall : Hid (∀ j, j < l.length → e1 l j = 0) := Lib.hid (fun j hj => hno.out j (by have := HN.out; omega))
        clear hno
        go_wp2_with fail
        go_loopw [37] (fun i wr => ∃ k : Nat, k ≤ n ∧ i = .int .i64 k ∧ Hid (∀ j, j < k → accS (l.take j) (l.getD j 0#16) = false) ∧ Below w.heap.size w wr) (fun i _ => n - (intOf i).toNat)
        case atStart => exact ⟨0, Nat.zero_le _, rfl, Lib.hid (fun j hj => by omega), hb⟩
        case round =>
          clear hb
          obtain ⟨i, hi, rfl, hno, hb⟩ := hrel
          by_cases hlt2 : i < n
          · have hRw := HR.out.below hb
            obtain ⟨b, o, ha, hcell⟩ := hRw.at' (by omega)
            have hc := hcell i _ (at_cell (by have := HN.out; omega))
            have hT := hRw.take i (by omega)
            rw [← List.map_take] at hT
            subst ha
            have HA := Lib.hid (accepts_c (l.take i) (l.getD i 0#16) _ i c _ hT)
            cases hq : accS (l.take i) (l.getD i 0#16)
            · have hno' : Hid (∀ j, j < i + 1 → accS (l.take j) (l.getD j 0#16) = false) := Lib.hid (fun j hj => by
                by_cases h1 : j < i
                · exact hno.out j h1
                · obtain rfl : j = i := by omega
                  exact hq)
              rw [hq] at HA
              obtain ⟨x, hx⟩ : ∃ x, l.getD i 0#16 = x := ⟨_, rfl⟩
              rw [hx] at HA hc
              clear hcell hx hq hno hT hRw
              go_wp2_with fail
              refine HA.out.mono ?_
              rintro e w2 ⟨rfl, hb2⟩
              have hb3 := Below.next hb hb2
              clear hb hb2
              go_wp2_with fail
              go_roundw
              case rel => exact ⟨i + 1, by omega, by go_num, hno', hb3⟩
              case measure => simp [intOf]; omega
            · have hV : Hid (valS l = 1) := by
                show _ = _
                rw [valS_over h400'.out hall.out, if_pos]
                unfold overB
                exact List.any_eq_true.2 ⟨i, List.mem_range.2 (by have := HN.out; omega), hq⟩
              rw [hq] at HA
              obtain ⟨x, hx⟩ : ∃ x, l.getD i 0#16 = x := ⟨_, rfl⟩
              rw [hx] at HA hc
              clear hcell hx hq hno hT hRw
              go_wp2_with fail
              refine HA.out.mono ?_
              rintro e w2 ⟨rfl, hb2⟩
              have hb3 := Below.next hb hb2
              clear hb hb2
              go_wp2_with fail
              go_ret
              exact ⟨by rw [hV.out]; rfl, hb3⟩
          · have hV : Hid (valS l = 0) := by
              show _ = _
              rw [valS_over h400'.out hall.out, if_neg]
              intro hc
              unfold overB at hc
              obtain ⟨j, hj, hq⟩ := List.any_eq_true.1 hc
              have := hno.out j (by have := List.mem_range.1 hj; have := HN.out; omega)
              rw [this] at hq; cases hq
            clear hno
            go_wp2_with fail
            go_ret
            exact ⟨by rw [hV.out]; rfl, hb⟩
end Go.Proofs.YtgfjmplifmbmlaaDoor
namespace Go.Proofs.YtgfjmplifmbmlaaDoor
open Go.RowKit Go.Shelf

theorem cntTo_succ (x : BitVec 16) (k : Nat) : (memTo x (k + 1)).length = (memTo x k).length + (if hasB x k then 1 else 0) := by
  rw [memTo_succ]; cases hasB x k <;> simp
@[go_sem] theorem b01_conv (b : Bool) : IntKind.i64.wrap (b01 b) = b01 b := by cases b <;> decide

set_option maxRecDepth 100000 in
set_option maxHeartbeats 1000000 in
theorem size8_c (x : BitVec 16) (w : World) :
    Calls Tryd.prog 64 #[.int .u16 (U x)] w fun e w' => e = .returned (.int .i64 (cnt x)) ∧ w' = w := by
  go_enter Tryd.func64, Tryd.ntmps64
  go_wp2_with fail
  go_loop [3, 4] (fun v i => ∃ (k : Nat) (m : Nat), k ≤ 16 ∧ m ≤ k ∧ i = .int .i64 k ∧ v = .int .i64 m ∧ Hid (m = (memTo x k).length)) (fun _ i => 16 - (intOf i).toNat)
  case atStart => exact ⟨0, 0, Nat.zero_le _, Nat.zero_le _, rfl, rfl, rfl⟩
  case round =>
    obtain ⟨k, m, hk, hmk, rfl, rfl, hm⟩ := hrel
    by_cases hlt : k < 16
    · have HS := Lib.hid (cntTo_succ x k)
      cases hb : hasB x k
      · have HB := Lib.hid hb
        have hb0 : b01 (hasB x k) = 0 := by rw [hb]; rfl
        clear hb
        go_wp2_with fail
        go_round
        case rel => exact ⟨k + 1, m, by omega, by omega, by go_num, by (try go_num), by show _ = _; rw [HS.out, HB.out, hm.out]; rfl⟩
        case measure => simp [intOf]; omega
      · have HB := Lib.hid hb
        have hb0 : b01 (hasB x k) = 1 := by rw [hb]; rfl
        clear hb
        go_wp2_with fail
        go_round
        case rel => exact ⟨k + 1, m + 1, by omega, by omega, by go_num, by go_num, by show _ = _; rw [HS.out, HB.out, hm.out]; rfl⟩
        case measure => simp [intOf]; omega
    · have hE : Hid (m = cnt x) := by
        obtain rfl : k = 16 := by omega
        exact hm.out
      go_wp2_with fail
      go_ret
      exact ⟨ret_int (by rw [hE.out]), rfl⟩

/-- x comes before y -/
def befB (x y : BitVec 16) : Bool := decide (keyS x < keyS y)
theorem bef_ne {x y : BitVec 16} (h : cnt x ≠ cnt y) : befB x y = decide (cnt x < cnt y) := by
  unfold befB keyS; have := x.isLt; have := y.isLt
  rw [Bool.eq_iff_iff, decide_eq_true_iff, decide_eq_true_iff]; omega
theorem bef_eq {x y : BitVec 16} (h : cnt x = cnt y) : befB x y = decide (U x < U y) := by
  unfold befB keyS U
  rw [Bool.eq_iff_iff, decide_eq_true_iff, decide_eq_true_iff]; omega

set_option maxRecDepth 100000 in
set_option maxHeartbeats 1000000 in
theorem before8_c (x y : BitVec 16) (w : World) :
    Calls Tryd.prog 45 #[.int .u16 (U x), .int .u16 (U y)] w fun e w' => e = .returned (.bool (befB x y)) ∧ w' = w := by
  by_cases hc : cnt x = cnt y
  · have HE := Lib.hid (bef_eq hc)
    obtain ⟨m, hm⟩ : ∃ m, cnt x = m := ⟨_, rfl⟩
    have H1 := Lib.hid (fun w => size8_c x w)
    have H2 := Lib.hid (fun w => size8_c y w)
    rw [← hc, hm] at H2
    rw [hm] at H1
    clear hc hm
    go_enter Tryd.func45, Tryd.ntmps45
    go_wp2_with fail
    refine (H1.out _).mono ?_
    rintro e w1 ⟨rfl, rfl⟩
    go_wp2_with fail
    refine (H2.out _).mono ?_
    rintro e w1 ⟨rfl, rfl⟩
    go_wp2_with fail
    go_ret
    exact ⟨ret_bool HE.out.symm, rfl⟩
  · have HE := Lib.hid (bef_ne hc)
    obtain ⟨m, hm⟩ : ∃ m, cnt x = m := ⟨_, rfl⟩
    obtain ⟨m2, hm2⟩ : ∃ m, cnt y = m := ⟨_, rfl⟩
    have H1 := Lib.hid (fun w => size8_c x w)
    have H2 := Lib.hid (fun w => size8_c y w)
    rw [hm2] at H2 HE hc
    rw [hm] at H1 HE hc
    have hne : ((m : Int) != (m2 : Int)) = true := by rw [bne_iff_ne]; omega
    have hcm : decide ((m : Int) < m2) = decide (m < m2) := by rw [Bool.eq_iff_iff, decide_eq_true_iff, decide_eq_true_iff]; omega
    have HCM := Lib.hid hcm
    clear hc hm hm2 hcm
    go_enter Tryd.func45, Tryd.ntmps45
    go_wp2_with fail
    refine (H1.out _).mono ?_
    rintro e w1 ⟨rfl, rfl⟩
    go_wp2_with fail
    refine (H2.out _).mono ?_
    rintro e w1 ⟨rfl, rfl⟩
    go_wp2_with fail
    refine (H1.out _).mono ?_
    rintro e w1 ⟨rfl, rfl⟩
    go_wp2_with fail
    refine (H2.out _).mono ?_
    rintro e w1 ⟨rfl, rfl⟩
    go_wp2_with fail
    go_ret
    exact ⟨ret_bool (by rw [HE.out]; (try first | rfl | exact HCM.out | simp)), rfl⟩

set_option maxHeartbeats 400000 in
theorem contains8_c (x y : BitVec 16) (w : World) :
    Calls Tryd.prog 46 #[.int .u16 (U x), .int .u16 (U y)] w fun e w' => e = .returned (.bool (subB x y)) ∧ w' = w := by
  go_enter Tryd.func46, Tryd.ntmps46
  go_wp2
  go_ret
  exact ⟨rfl, rfl⟩
set_option maxHeartbeats 400000 in
theorem range8_c (x : BitVec 16) (w : World) :
    Calls Tryd.prog 44 #[.int .u16 (U x)] w fun e w' => e = .returned (.bool (decide (U x < 4096))) ∧ w' = w := by
  go_enter Tryd.func44, Tryd.ntmps44
  go_wp2
  go_ret
  exact ⟨rfl, rfl⟩

set_option maxRecDepth 100000 in
set_option maxHeartbeats 1000000 in
theorem accepts8_c (l : List (BitVec 16)) (s : BitVec 16) (a : Option Addr) (n c : Nat) (w : World) (h : Rd w a n c (l.map setV2)) :
    Calls Tryd.prog 33 #[.slice a n c, .int .u16 (U s)] w fun e w' => e = .returned (.bool (accS l s)) ∧ w' = w := by
  have hnl : l.length = n := by have := h.len; simp at this; omega
  have hm := h.max
  have hle := h.le
  unfold maxLen at hm
  have HR := Lib.hid h
  have HN := Lib.hid hnl
  clear h hnl
  go_enter Tryd.func33, Tryd.ntmps33
  go_wp2_with fail
  go_loop [5] (fun i => ∃ k : Nat, k ≤ n ∧ i = .int .i64 k ∧ Hid (∀ j, j < k → subB s (l.getD j 0#16) = false)) (fun i => n - (intOf i).toNat)
  case atStart => exact ⟨0, Nat.zero_le _, rfl, Lib.hid (fun j hj => by omega)⟩
  case round =>
    obtain ⟨k, hk, rfl, hno⟩ := hrel
    by_cases hlt : k < n
    · obtain ⟨b, o, ha, hcell⟩ := HR.out.at' (by omega)
      have hkl : k < l.length := by have := HN.out; omega
      have hc := hcell k _ (at_cell hkl)
      subst ha
      have HC := Lib.hid (contains8_c s (l.getD k 0#16) w)
      cases hq : subB s (l.getD k 0#16)
      · have hno' : Hid (∀ j, j < k + 1 → subB s (l.getD j 0#16) = false) := Lib.hid (fun j hj => by
          by_cases h1 : j < k
          · exact hno.out j h1
          · obtain rfl : j = k := by omega
            exact hq)
        rw [hq] at HC
        obtain ⟨x, hx⟩ : ∃ x, l.getD k 0#16 = x := ⟨_, rfl⟩
        rw [hx] at hc HC
        clear hq hcell hno hx hkl
        go_wp2_with fail
        refine HC.out.mono ?_
        rintro e w1 ⟨rfl, rfl⟩
        go_wp2_with fail
        go_round
        case rel => exact ⟨k + 1, by omega, by go_num, hno'⟩
        case measure => simp [intOf]; omega
      · have hA : Hid (accS l s = true) := any_hit (p := fun x => subB s x) hkl hq
        rw [hq] at HC
        obtain ⟨x, hx⟩ : ∃ x, l.getD k 0#16 = x := ⟨_, rfl⟩
        rw [hx] at hc HC
        clear hq hcell hno hx hkl
        go_wp2_with fail
        refine HC.out.mono ?_
        rintro e w1 ⟨rfl, rfl⟩
        go_wp2_with fail
        go_ret
        exact ⟨ret_bool hA.out.symm, rfl⟩
    · have hA : Hid (accS l s = false) := any_none (p := fun x => subB s x) (fun j hj => hno.out j (by have := HN.out; omega))
      clear hno
      go_wp2_with fail
      go_ret
      exact ⟨ret_bool hA.out.symm, rfl⟩

set_option maxRecDepth 100000 in
set_option maxHeartbeats 1000000 in
theorem support8_c (l : List (BitVec 16)) (a : Option Addr) (n c : Nat) (w : World) (h : Rd w a n c (l.map setV2)) :
    Calls Tryd.prog 40 #[.slice a n c] w fun e w' => e = .returned (.int .u16 (U (supS l))) ∧ w' = w := by
  have hn : n ≤ l.length ∧ l.length ≤ n := by have := h.len; simp at this; omega
  obtain ⟨hn1, hn2⟩ := hn
  have hm := h.max
  have hle := h.le
  unfold maxLen at hm
  go_enter Tryd.func40, Tryd.ntmps40
  go_wp2_with fail
  go_loop [3, 4] (fun v i => ∃ (k : Nat) (s : BitVec 16), k ≤ n ∧ i = .int .i64 k ∧ v = .int .u16 (U s) ∧ Hid (s = supS (l.take k))) (fun _ i => n - (intOf i).toNat)
  case atStart => exact ⟨0, 0#16, Nat.zero_le _, rfl, rfl, rfl⟩
  case round =>
    obtain ⟨k, s, hk, rfl, rfl, hs⟩ := hrel
    by_cases hlt : k < n
    · obtain ⟨b, o, ha, hcell⟩ := h.at' (by omega)
      have hc := hcell k _ (at_cell (by omega))
      have HS := Lib.hid (supS_take (l := l) (k := k) (by omega))
      obtain ⟨x, hx⟩ : ∃ x, l.getD k 0#16 = x := ⟨_, rfl⟩
      rw [hx] at hc HS
      subst ha
      clear hcell h hx
      go_wp2_with fail
      go_round
      case rel => exact ⟨k + 1, s ||| x, by omega, by go_num, rfl, by show _ = _; rw [HS.out, hs.out]⟩
      case measure => simp [intOf]; omega
    · have hE : Hid (l.take k = l) := List.take_of_length_le (by omega)
      clear h
      go_wp2_with fail
      go_ret
      exact ⟨by rw [hs.out, hE.out]; rfl, rfl⟩
end Go.Proofs.YtgfjmplifmbmlaaDoor
namespace Go.Proofs.YtgfjmplifmbmlaaDoor
open Go.RowKit

/-- the entries of the members -/
def entries (x : BitVec 16) (to : List Int) : List Int := (memS x).map fun i => (to[i]?).getD (-1)
def renS (x : BitVec 16) (to : List Int) : BitVec 16 × Int := ofS 0#16 (entries x to)

theorem memS_lt {x : BitVec 16} {k i : Nat} (h : (memS x)[k]? = some i) : i < 16 := by
  have := List.mem_of_getElem? h
  simp [memS] at this
  exact this.1
theorem addS_neg (s : BitVec 16) : addS s (-1) = (0#16, 7) := by simp [addS]

end Go.Proofs.YtgfjmplifmbmlaaDoor
namespace Go.Proofs.YtgfjmplifmbmlaaDoor
open Go.RowKit

theorem ofS_append (p q : List Int) : ∀ s, ofS s (p ++ q) = if (ofS s p).2 = 0 then ofS (ofS s p).1 q else ofS s p := by
  induction p with
  | nil => intro s; simp [ofS]
  | cons i p ih =>
    intro s
    by_cases h0 : (addS s i).2 = 0
    · simp only [List.cons_append, ofS, if_pos h0]; exact ih _
    · simp only [List.cons_append, ofS, if_neg h0, if_false]

theorem ofS_stop {l : List Int} {k : Nat} (h : l[k]? = some (-1)) (s : BitVec 16) : ofS s (l.take (k + 1)) = ofS s l := by
  have e : l = l.take (k + 1) ++ l.drop (k + 1) := (List.take_append_drop _ _).symm
  have h2 : (ofS s (l.take (k + 1))).2 ≠ 0 := by
    rw [List.take_add_one, h, ofS_append]
    by_cases h0 : (ofS s (l.take k)).2 = 0
    · rw [if_pos h0]; simp [ofS, addS_neg]
    · rw [if_neg h0]; exact h0
  conv => rhs; rw [e, ofS_append, if_neg h2]

theorem entries_len (x : BitVec 16) (to : List Int) : (entries x to).length = cnt x := by simp [entries, cnt]
def intV' (i : Int) : Value := .int .i64 i

def setV (x : BitVec 16) : Value := .int .u16 (U x)
def pickB (x : BitVec 16) (k : Int) (n : Nat) : Bool := (BitVec.ofNat 16 n &&& ~~~x == 0#16) && ((cnt (BitVec.ofNat 16 n) : Int) == k)
def pickTo (x : BitVec 16) (k : Int) (N : Nat) : List (BitVec 16) := ((List.range N).filter (pickB x k)).map (BitVec.ofNat 16)
/-- the subsets of x with k members, in order -/
def chooseS (x : BitVec 16) (k : Int) : List (BitVec 16) := pickTo x k 65536
theorem pickTo_succ (x : BitVec 16) (k : Int) (N : Nat) : pickTo x k (N + 1) = if pickB x k N then pickTo x k N ++ [BitVec.ofNat 16 N] else pickTo x k N := by
  unfold pickTo; rw [List.range_succ, List.filter_append]; cases h : pickB x k N <;> simp [h]
theorem pickTo_le (x : BitVec 16) (k : Int) (N : Nat) : (pickTo x k N).length ≤ N := by
  unfold pickTo; rw [List.length_map]; exact Nat.le_trans (List.length_filter_le _ _) (by simp)
theorem U_ofNat (n : Nat) (h : n < 65536) : (n : Int) = U (BitVec.ofNat 16 n) := by simp [U]; omega
theorem Tryd.infoSet : (Tryd.prog.info? 30).map (fun i => (i.zero, i.size, i.bytes)) = some (some (.int .u16 0), 1, 2) := by kernel_rfl

end Go.Proofs.YtgfjmplifmbmlaaDoor
namespace Go.Proofs.YtgfjmplifmbmlaaDoor
open Go.RowKit Go.Shelf

set_option maxRecDepth 100000 in
set_option maxHeartbeats 1000000 in
theorem count9_c (x : BitVec 16) (w : World) :
    Calls Tryd.prog 92 #[.int .u16 (U x)] w fun e w' => e = .returned (.int .i64 (cnt x)) ∧ w' = w := by
  go_enter Tryd.func92, Tryd.ntmps92
  go_wp2_with fail
  go_loop [3, 4] (fun v i => ∃ (k : Nat) (m : Nat), k ≤ 16 ∧ m ≤ k ∧ i = .int .i64 k ∧ v = .int .i64 m ∧ Hid (m = (memTo x k).length)) (fun _ i => 16 - (intOf i).toNat)
  case atStart => exact ⟨0, 0, Nat.zero_le _, Nat.zero_le _, rfl, rfl, rfl⟩
  case round =>
    obtain ⟨k, m, hk, hmk, rfl, rfl, hm⟩ := hrel
    by_cases hlt : k < 16
    · have HS := Lib.hid (cntTo_succ x k)
      cases hb : hasB x k
      · have HB := Lib.hid hb
        have hb0 : b01 (hasB x k) = 0 := by rw [hb]; rfl
        clear hb
        go_wp2_with fail
        go_round
        case rel => exact ⟨k + 1, m, by omega, by omega, by go_num, by (try go_num), by show _ = _; rw [HS.out, HB.out, hm.out]; rfl⟩
        case measure => simp [intOf]; omega
      · have HB := Lib.hid hb
        have hb0 : b01 (hasB x k) = 1 := by rw [hb]; rfl
        clear hb
        go_wp2_with fail
        go_round
        case rel => exact ⟨k + 1, m + 1, by omega, by omega, by go_num, by go_num, by show _ = _; rw [HS.out, HB.out, hm.out]; rfl⟩
        case measure => simp [intOf]; omega
    · have hE : Hid (m = cnt x) := by
        obtain rfl : k = 16 := by omega
        exact hm.out
      go_wp2_with fail
      go_ret
      exact ⟨ret_int (by rw [hE.out]), rfl⟩

set_option maxRecDepth 100000 in
set_option maxHeartbeats 1000000 in
theorem support9_c (l : List (BitVec 16)) (a : Option Addr) (n c : Nat) (w : World) (h : Rd w a n c (l.map setV2)) :
    Calls Tryd.prog 74 #[.slice a n c] w fun e w' => e = .returned (.int .u16 (U (supS l))) ∧ w' = w := by
  have hn : n ≤ l.length ∧ l.length ≤ n := by have := h.len; simp at this; omega
  obtain ⟨hn1, hn2⟩ := hn
  have hm := h.max
  have hle := h.le
  unfold maxLen at hm
  go_enter Tryd.func74, Tryd.ntmps74
  go_wp2_with fail
  go_loop [3, 4] (fun v i => ∃ (k : Nat) (s : BitVec 16), k ≤ n ∧ i = .int .i64 k ∧ v = .int .u16 (U s) ∧ Hid (s = supS (l.take k))) (fun _ i => n - (intOf i).toNat)
  case atStart => exact ⟨0, 0#16, Nat.zero_le _, rfl, rfl, rfl⟩
  case round =>
    obtain ⟨k, s, hk, rfl, rfl, hs⟩ := hrel
    by_cases hlt : k < n
    · obtain ⟨b, o, ha, hcell⟩ := h.at' (by omega)
      have hc := hcell k _ (at_cell (by omega))
      have HS := Lib.hid (supS_take (l := l) (k := k) (by omega))
      obtain ⟨x, hx⟩ : ∃ x, l.getD k 0#16 = x := ⟨_, rfl⟩
      rw [hx] at hc HS
      subst ha
      clear hcell h hx
      go_wp2_with fail
      go_round
      case rel => exact ⟨k + 1, s ||| x, by omega, by go_num, rfl, by show _ = _; rw [HS.out, hs.out]⟩
      case measure => simp [intOf]; omega
    · have hE : Hid (l.take k = l) := List.take_of_length_le (by omega)
      clear h
      go_wp2_with fail
      go_ret
      exact ⟨by rw [hs.out, hE.out]; rfl, rfl⟩
set_option maxRecDepth 100000 in
set_option maxHeartbeats 1000000 in
theorem accepts9_c (l : List (BitVec 16)) (s : BitVec 16) (a : Option Addr) (n c : Nat) (w : World) (h : Rd w a n c (l.map setV2)) :
    Calls Tryd.prog 75 #[.slice a n c, .int .u16 (U s)] w fun e w' => e = .returned (.bool (accS l s)) ∧ w' = w := by
  have hnl : l.length = n := by have := h.len; simp at this; omega
  have hm := h.max
  have hle := h.le
  unfold maxLen at hm
  have HR := Lib.hid h
  have HN := Lib.hid hnl
  clear h hnl
  go_enter Tryd.func75, Tryd.ntmps75
  go_wp2_with fail
  go_loop [5] (fun i => ∃ k : Nat, k ≤ n ∧ i = .int .i64 k ∧ Hid (∀ j, j < k → subB s (l.getD j 0#16) = false)) (fun i => n - (intOf i).toNat)
  case atStart => exact ⟨0, Nat.zero_le _, rfl, Lib.hid (fun j hj => by omega)⟩
  case round =>
    obtain ⟨k, hk, rfl, hno⟩ := hrel
    by_cases hlt : k < n
    · obtain ⟨b, o, ha, hcell⟩ := HR.out.at' (by omega)
      have hkl : k < l.length := by have := HN.out; omega
      have hc := hcell k _ (at_cell hkl)
      obtain ⟨x, hx⟩ : ∃ x, l.getD k 0#16 = x := ⟨_, rfl⟩
      rw [hx] at hc
      subst ha
      cases hq : (x &&& ~~~s == 0#16)
      · have hno' : Hid (∀ j, j < k + 1 → subB s (l.getD j 0#16) = false) := Lib.hid (fun j hj => by
          by_cases h1 : j < k
          · exact hno.out j h1
          · obtain rfl : j = k := by omega
            rw [hx]; exact hq)
        clear hcell hno hx hkl
        go_wp2_with fail
        go_round
        case rel => exact ⟨k + 1, by omega, by go_num, hno'⟩
        case measure => simp [intOf]; omega
      · have hA : Hid (accS l s = true) := any_hit (p := fun x => subB s x) hkl (by rw [hx]; exact hq)
        clear hcell hno hx hkl
        go_wp2_with fail
        go_ret
        exact ⟨ret_bool hA.out.symm, rfl⟩
    · have hA : Hid (accS l s = false) := any_none (p := fun x => subB s x) (fun j hj => hno.out j (by have := HN.out; omega))
      clear hno
      go_wp2_with fail
      go_ret
      exact ⟨ret_bool hA.out.symm, rfl⟩

/-- all subsets, in order -/
def subsTo (s : BitVec 16) (k : Nat) : List (BitVec 16) := (List.range k).flatMap fun (j : Nat) => pickTo s (j : Int) (s.toNat + 1)
def subsS9 (s : BitVec 16) : List (BitVec 16) := subsTo s (cnt s + 1)
theorem subsTo_succ (s : BitVec 16) (k : Nat) : subsTo s (k + 1) = subsTo s k ++ pickTo s k (s.toNat + 1) := by
  unfold subsTo; rw [List.range_succ, List.flatMap_append]; simp
theorem subsTo_len (s : BitVec 16) : ∀ k, (subsTo s k).length ≤ k * 65536 := by
  intro k
  induction k with
  | zero => simp [subsTo]
  | succ k ih =>
    rw [subsTo_succ, List.length_append]
    have := pickTo_le s k (s.toNat + 1)
    have := s.isLt
    omega

set_option maxRecDepth 100000 in
set_option maxHeartbeats 2000000 in
theorem subsets9_c (x : BitVec 16) (w : World) :
    Calls Tryd.prog 73 #[.int .u16 (U x)] w fun e w' => ∃ v, e = .returned v ∧ Own w w' 30 v ((subsS9 x).map setV2) ∧ Below w.heap.size w w' := by
  have hc16 := cnt_le x
  have hub := U_bd x
  have HCX := Lib.hid (fun w => count9_c x w)
  obtain ⟨C, hC⟩ : ∃ C, cnt x = C := ⟨_, rfl⟩
  rw [hC] at HCX hc16
  have HC := Lib.hid hC
  clear hC
  go_enter Tryd.func73, Tryd.ntmps73
  go_wp2_with fail
  go_loopw [3, 4] (fun v i wr => ∃ k : Nat, k ≤ C + 1 ∧ i = .int .i64 k ∧ wr.ownsRow w.heap.size 30 1 v (subsTo x k).length ((subsTo x k).map setV2) ∧ Below w.heap.size w wr) (fun _ i _ => C + 1 - (intOf i).toNat)
  case atStart => exact ⟨0, Nat.zero_le _, rfl, World.ownsRow_nil _ _ _ _, Below.refl _ _⟩
  case round =>
    obtain ⟨k, hk, rfl, hown, hb⟩ := hrel
    have hsl := subsTo_len x k
    by_cases hlt : k ≤ C
    · have hs := subsTo_succ x k
      have HS := Lib.hid hs
      clear hs
      go_wp2_with fail
      refine (HCX.out _).mono ?_
      rintro e w2 ⟨rfl, rfl⟩
      go_wp2_with fail
      obtain ⟨D, hD⟩ : ∃ D, (subsTo x k).length = D := ⟨_, rfl⟩
      have HD := Lib.hid hD
      rw [hD] at hsl
      have HO := Lib.hid hown
      have HB := Lib.hid hb
      clear hown hb hD
      go_loopw [3, 5] (fun v i wr => ∃ n : Nat, (n : Int) ≤ U x + 1 ∧ i = .int .i64 n ∧ wr.ownsRow w.heap.size 30 1 v (subsTo x k ++ pickTo x k n).length ((subsTo x k ++ pickTo x k n).map setV2) ∧ Below w.heap.size w wr) (fun _ i _ => 65537 - (intOf i).toNat)
      case atStart => exact ⟨0, by have := hub.1; omega, rfl, by simpa [pickTo] using HO.out, HB.out⟩
      case round =>
        obtain ⟨n, hn, rfl, hown, hb⟩ := hrel
        have hpl := pickTo_le x k n
        by_cases hle : (n : Int) ≤ U x
        · have hps := pickTo_succ x k n
          obtain ⟨y, hy⟩ : ∃ y, BitVec.ofNat 16 n = y := ⟨_, rfl⟩
          have hny : (n : Int) = U y := by rw [← hy]; exact U_ofNat n (by omega)
          have hyw := U_wrap y
          obtain ⟨hy0, hy1⟩ := U_bd y
          have hcy := cnt_le y
          unfold pickB at hps
          rw [hy] at hps
          rw [hny]
          rw [hny] at hle
          have HNY := Lib.hid hny
          have HLN : Hid ((subsTo x k ++ pickTo x k n).length ≤ 2000000) := by show _ ≤ _; rw [List.length_append, HD.out]; omega
          clear hny hy hpl
          cases hw : (y &&& ~~~x == 0#16)
          · rw [hw] at hps
            have HS : Hid (pickTo x k (n + 1) = pickTo x k n) := by show _ = _; rw [hps]; simp
            clear hps
            go_wp2_with fail
            go_roundw
            case rel => exact ⟨n + 1, by have := HNY.out; omega, by rw [← HNY.out]; go_num, by rw [HS.out]; exact hown, hb⟩
            case measure => simp only [intOf]; omega
          · have HCY := Lib.hid (fun w => count9_c y w)
            obtain ⟨t, ht⟩ : ∃ t, cnt y = t := ⟨_, rfl⟩
            rw [ht] at HCY hcy hps
            rw [hw, Bool.true_and] at hps
            clear ht
            cases hq : ((t : Int) == (k : Int))
            · rw [hq] at hps
              have HS : Hid (pickTo x k (n + 1) = pickTo x k n) := by show _ = _; rw [hps]; simp
              clear hps
              go_wp2_with fail
              refine (HCY.out _).mono ?_
              rintro e w4 ⟨rfl, rfl⟩
              go_wp2_with fail
              go_roundw
              case rel => exact ⟨n + 1, by have := HNY.out; omega, by rw [← HNY.out]; go_num, by rw [HS.out]; exact hown, hb⟩
              case measure => simp only [intOf]; omega
            · rw [hq, if_pos rfl] at hps
              have HS : Hid ((subsTo x k ++ pickTo x k (n + 1)).map setV2 = (subsTo x k ++ pickTo x k n).map setV2 ++ [.int .u16 (U y)]) := by
                show _ = _
                rw [hps, ← List.append_assoc, List.map_append]; rfl
              have HSL : Hid ((subsTo x k ++ pickTo x k (n + 1)).length = (subsTo x k ++ pickTo x k n).length + 1) := by
                show _ = _
                rw [hps, ← List.append_assoc, List.length_append]; rfl
              obtain ⟨G, hG⟩ : ∃ G, (subsTo x k ++ pickTo x k n).length = G := ⟨_, rfl⟩
              obtain ⟨GL, hGL⟩ : ∃ G, (subsTo x k ++ pickTo x k n).map setV2 = G := ⟨_, rfl⟩
              rw [hG, hGL] at hown
              have hg2 : G ≤ 2000000 := by rw [← hG]; exact HLN.out
              have HG := Lib.hid hG
              have HGL := Lib.hid hGL
              clear hps hG hGL
              go_wp2_with fail
              refine (HCY.out _).mono ?_
              rintro e w4 ⟨rfl, rfl⟩
              go_wp2_with (at_builtin; go_must (refine wpList_app _ _ 22 2 (.int .u16 0) (.int .u16 (U y)) _ Tryd.underlying22 Tryd.infoSet rfl hown hb (Nat.le_refl _) rfl rfl rfl rfl rfl (by unfold maxLen; omega) (by omega) ?_))
              intro v' w1 hown1 hb1 _ _
              clear hown hb
              go_wp2_with fail
              go_roundw
              case rel => exact ⟨n + 1, by have := HNY.out; omega, by rw [← HNY.out]; go_num, by rw [HS.out, HSL.out, HG.out, HGL.out]; exact hown1, hb1⟩
              case measure => simp only [intOf]; omega
        · have hnx : n = x.toNat + 1 := by unfold U at hle hn; omega
          subst hnx
          have hown2 := hown
          rw [← HS.out] at hown2
          have HO2 := Lib.hid hown2
          clear hown hown2
          go_wp2_with fail
          go_roundw
          case rel => exact ⟨k + 1, by omega, by go_num, HO2.out, hb⟩
          case measure => simp [intOf]; omega
    · obtain rfl : k = C + 1 := by omega
      have hE : subsTo x (C + 1) = subsS9 x := by unfold subsS9; rw [HC.out]
      rw [hE] at hown
      have HO : Hid (Own w wr 30 u3 ((subsS9 x).map setV2)) := by show Own _ _ _ _ _; unfold Own; rw [List.length_map]; exact hown
      clear hown hE hsl
      go_wp2_with fail
      refine (HCX.out _).mono ?_
      rintro e w2 ⟨rfl, rfl⟩
      go_wp2_with fail
      go_ret
      exact ⟨_, rfl, HO.out, hb⟩
end Go.Proofs.YtgfjmplifmbmlaaDoor
namespace Go.Proofs.YtgfjmplifmbmlaaDoor
open Go.RowKit Go.Shelf

/-- the minimal sets of a list, in order -/
def minSt (f : List (BitVec 16)) (o : List (BitVec 16)) (x : BitVec 16) : List (BitVec 16) := if ((f.any fun y => y == x) && !accS o x) = true then o ++ [x] else o
def minTo (f : List (BitVec 16)) (m : Nat) : List (BitVec 16) := ((subsS9 (supS f)).take m).foldl (minSt f) []
def minS (f : List (BitVec 16)) : List (BitVec 16) := (subsS9 (supS f)).foldl (minSt f) []
theorem minTo_succ {f : List (BitVec 16)} {m : Nat} {x : BitVec 16} (hx : (subsS9 (supS f))[m]? = some x) : minTo f (m + 1) = minSt f (minTo f m) x := by
  unfold minTo; rw [List.take_add_one, hx, Option.toList_some, List.foldl_append]; rfl
theorem minTo_all {f : List (BitVec 16)} {m : Nat} (h : (subsS9 (supS f)).length = m) : minTo f m = minS f := by
  unfold minTo minS; rw [List.take_of_length_le (by omega)]
theorem minSt_le (f o : List (BitVec 16)) (x : BitVec 16) : (minSt f o x).length ≤ o.length + 1 := by
  unfold minSt; split
  · simp
  · omega
theorem fold_le (f : List (BitVec 16)) : ∀ (l o : List (BitVec 16)), (l.foldl (minSt f) o).length ≤ o.length + l.length := by
  intro l
  induction l with
  | nil => intro o; simp
  | cons x l ih =>
    intro o
    rw [List.foldl_cons, List.length_cons]
    have := ih (minSt f o x)
    have := minSt_le f o x
    omega
theorem minTo_le (f : List (BitVec 16)) (m : Nat) : (minTo f m).length ≤ m := by
  unfold minTo
  have := fold_le f ((subsS9 (supS f)).take m) []
  rw [List.length_take] at this
  simp at this
  omega
/-- within the inner loop -/
def inK (f o : List (BitVec 16)) (x : BitVec 16) (k : Nat) : List (BitVec 16) := minSt (f.take k) o x
theorem acc_self (o : List (BitVec 16)) (x : BitVec 16) : accS (o ++ [x]) x = true := by
  unfold accS subB
  rw [List.any_append, Bool.or_eq_true]
  right
  have : x &&& ~~~x = 0#16 := by
    apply BitVec.eq_of_getLsbD_eq
    intro i hi
    simp
  simp [this]
theorem any_take {f : List (BitVec 16)} {k : Nat} (hk : k < f.length) (x : BitVec 16) : ((f.take (k + 1)).any fun y => y == x) = (((f.take k).any fun y => y == x) || (f.getD k 0#16 == x)) := by
  rw [List.take_add_one, at_some hk, Option.toList_some, List.any_append]; simp
theorem inK_ne {f o : List (BitVec 16)} {x : BitVec 16} {k : Nat} (hk : k < f.length) (h : (f.getD k 0#16 == x) = false) : inK f o x (k + 1) = inK f o x k := by
  unfold inK minSt
  rw [any_take hk, h, Bool.or_false]
theorem inK_acc {f o : List (BitVec 16)} {x : BitVec 16} {k : Nat} (hk : k < f.length) (h : (f.getD k 0#16 == x) = true) (ha : accS (inK f o x k) x = true) : inK f o x (k + 1) = inK f o x k := by
  unfold inK minSt at ha ⊢
  rw [any_take hk, h, Bool.or_true, Bool.true_and]
  cases h1 : (f.take k).any fun y => y == x
  · rw [h1] at ha
    simp only [Bool.false_and, Bool.false_eq_true, if_false] at ha ⊢
    rw [ha]; simp
  · simp
theorem inK_new {f o : List (BitVec 16)} {x : BitVec 16} {k : Nat} (hk : k < f.length) (h : (f.getD k 0#16 == x) = true) (ha : accS (inK f o x k) x = false) : inK f o x (k + 1) = inK f o x k ++ [x] := by
  unfold inK minSt at ha ⊢
  rw [any_take hk, h, Bool.or_true, Bool.true_and]
  cases h1 : (f.take k).any fun y => y == x
  · rw [h1] at ha
    simp only [Bool.false_and, Bool.false_eq_true, if_false] at ha ⊢
    rw [ha]; simp
  · rw [h1] at ha
    simp only [Bool.true_and] at ha
    cases h2 : accS o x
    · rw [h2] at ha
      simp only [Bool.not_false, if_true] at ha
      rw [acc_self] at ha; cases ha
    · rw [h2] at ha
      simp only [Bool.not_true, Bool.false_eq_true, if_false] at ha
      rw [h2] at ha; cases ha
theorem inK_len (f o : List (BitVec 16)) (x : BitVec 16) (k : Nat) : (inK f o x k).length ≤ o.length + 1 := minSt_le _ _ _
theorem rd_drewN {w : World} {a : Option Addr} {n c : Nat} {l : List Value} (h : Rd w a n c l) (q : Nat) : Rd (w.drewN q) a n c l := ⟨h.len, h.le, h.max, h.nil, h.at'⟩
theorem row_drewN {w : World} {B k n : Nat} {e : TypeId} {v : Value} {xs : List Value} (h : w.ownsRow B e k v n xs) (q : Nat) : (w.drewN q).ownsRow B e k v n xs := h

set_option maxRecDepth 100000 in
set_option maxHeartbeats 4000000 in
theorem minimal9_c (f : List (BitVec 16)) (a : Option Addr) (n c : Nat) (w : World) (h : Rd w a n c (f.map setV2)) :
    Calls Tryd.prog 54 #[.slice a n c] w fun e w' => ∃ v, e = .returned v ∧ Own w w' 30 v ((minS f).map setV2) ∧ Below w.heap.size w w' := by
  have hnl : f.length = n := by have := h.len; simp at this; omega
  have hm := h.max
  have hle := h.le
  unfold maxLen at hm
  have HR := Lib.hid h
  have HN := Lib.hid hnl
  have HSU := Lib.hid (support9_c f a n c w h)
  have HSB := Lib.hid (fun w => subsets9_c (supS f) w)
  clear h hnl
  obtain ⟨L, hL⟩ : ∃ L, subsS9 (supS f) = L := ⟨_, rfl⟩
  have hL17 : L.length ≤ 1200000 := by
    rw [← hL]; unfold subsS9
    have := subsTo_len (supS f) (cnt (supS f) + 1)
    have := cnt_le (supS f)
    omega
  have HL := Lib.hid hL
  rw [hL] at HSB
  obtain ⟨S, hS⟩ : ∃ S, supS f = S := ⟨_, rfl⟩
  rw [hS] at HSU HSB
  obtain ⟨p, hp⟩ : ∃ p, L.length = p := ⟨_, rfl⟩
  rw [hp] at hL17
  have HP := Lib.hid hp
  clear hL hS hp
  go_enter Tryd.func54, Tryd.ntmps54
  go_wp2_with fail
  refine HSU.out.mono ?_
  rintro e w1 ⟨rfl, rfl⟩
  go_wp2_with fail
  refine (HSB.out _).mono ?_
  rintro e w2 ⟨v2, rfl, o2, b2⟩
  obtain ⟨al, cl, rfl, hrl⟩ := o2.rdn p (by rw [List.length_map, HP.out])
  have hlc := hrl.le
  have hlm := hrl.max
  unfold maxLen at hlm
  have HRL := Lib.hid hrl
  have HB2 := Lib.hid b2
  clear o2 hrl b2 HSU HSB
  go_wp2_with fail
  go_loopw [3, 5] (fun v i wr => ∃ m : Nat, m ≤ p ∧ i = .int .i64 m ∧ wr.ownsRow w2.heap.size 30 1 v (minTo f m).length ((minTo f m).map setV2) ∧ Below w2.heap.size w2 wr) (fun _ i _ => p - (intOf i).toNat)
  case atStart => exact ⟨0, Nat.zero_le _, rfl, World.ownsRow_nil _ _ _ _, Below.refl _ _⟩
  case round =>
    obtain ⟨m, hm2, rfl, hown, hb⟩ := hrel
    by_cases hlt : m < p
    · have hml : m < L.length := by have := HP.out; omega
      have hcx := at_cell hml
      have hxs := at_some hml
      obtain ⟨x, hx⟩ : ∃ x, L.getD m 0#16 = x := ⟨_, rfl⟩
      rw [hx] at hcx hxs
      have HST := Lib.hid (minTo_succ (f := f) (m := m) (by rw [HL.out]; exact hxs))
      have hol := minTo_le f m
      obtain ⟨o, ho⟩ : ∃ o, minTo f m = o := ⟨_, rfl⟩
      rw [ho] at HST hown hol
      have HCX := Lib.hid hcx
      have HO := Lib.hid hown
      have HB := Lib.hid hb
      clear hml hcx hxs hx ho hown hb
      go_wp2_with fail
      go_loopw [3, 6] (fun v i wr => ∃ k : Nat, k ≤ n ∧ i = .int .i64 k ∧ wr.ownsRow w2.heap.size 30 1 v (inK f o x k).length ((inK f o x k).map setV2) ∧ Below w2.heap.size w2 wr) (fun _ i _ => n - (intOf i).toNat)
      case atStart => exact ⟨0, Nat.zero_le _, rfl, by simpa [inK, minSt] using HO.out, HB.out⟩
      case round =>
        obtain ⟨k, hk, rfl, hown, hb⟩ := hrel
        have hil := inK_len f o x k
        by_cases hlt2 : k < n
        · have hkl : k < f.length := by have := HN.out; omega
          obtain ⟨b1, o1, ha1, hcell1⟩ := (HR.out.below (Below.next HB2.out hb)).at' (by omega)
          obtain ⟨b3, o3, ha3, hcell3⟩ := (HRL.out.below hb).at' (by omega)
          have hc1 := hcell1 k _ (at_cell hkl)
          have hc3 := hcell3 m _ HCX.out
          obtain ⟨g, hg⟩ : ∃ g, inK f o x k = g := ⟨_, rfl⟩
          have hne := inK_ne (o := o) (x := x) hkl
          have hac := inK_acc (o := o) (x := x) hkl
          have hnw := inK_new (o := o) (x := x) hkl
          rw [hg] at hown hil hne hac hnw
          obtain ⟨y, hy⟩ : ∃ y, f.getD k 0#16 = y := ⟨_, rfl⟩
          rw [hy] at hc1 hne hac hnw
          obtain ⟨ag, cg, rfl, hrg⟩ := rd_of_row hown
          have HAC := Lib.hid (fun q => accepts9_c g x ag g.length cg (wr.drewN q) (rd_drewN hrg q))
          cases ha1
          cases ha3
          clear hcell1 hcell3 hg hy hkl hrg
          cases hq : (y == x)
          · have HS := Lib.hid (hne hq)
            clear hne hac hnw
            go_wp2_with fail
            go_quiet (fail)
            go_wp2_with fail
            go_roundw
            case rel => exact ⟨k + 1, by omega, by go_num, by rw [HS.out]; exact row_drewN hown _, below_drewN hb⟩
            case measure => simp [intOf]; omega
          · cases ha : accS g x
            · have HS := Lib.hid (hnw hq ha)
              rw [ha] at HAC
              obtain ⟨G, hG⟩ : ∃ G, g.length = G := ⟨_, rfl⟩
              rw [hG] at hown hil HAC ⊢
              have HL2 : Hid ((inK f o x (k + 1)).length = G + 1) := by show _ = _; rw [HS.out, List.length_append, hG]; rfl
              have HM2 : Hid ((inK f o x (k + 1)).map setV2 = g.map setV2 ++ [.int .u16 (U x)]) := by show _ = _; rw [HS.out, List.map_append]; rfl
              clear hne hac hnw hG HS
              go_wp2_with fail
              go_quiet ((go_at_call 75; exact Calls.quiet_of_same (HAC.out _)))
              have hown2 := row_drewN hown nq
              have hb2 := below_drewN (q := nq) hb
              have hc3' : (wr.drewN nq).cell? ⟨b3, o3 + m, none⟩ = some (.int .u16 (U x)) := hc3
              generalize wr.drewN nq = wn at hown2 hb2 hc3' ⊢
              clear hown hb hc3 hc1 HAC
              go_wp2_with (at_builtin; go_must (refine wpList_app _ _ 22 2 (.int .u16 0) (.int .u16 (U x)) _ Tryd.underlying22 Tryd.infoSet rfl hown2 hb2 (Nat.le_refl _) rfl rfl rfl rfl rfl (by unfold maxLen; omega) (by omega) ?_))
              intro v' w4 hown4 hb4 _ _
              clear hown2 hb2
              go_wp2_with fail
              go_roundw
              case rel => exact ⟨k + 1, by omega, by go_num, by rw [HM2.out, HL2.out]; exact hown4, hb4⟩
              case measure => simp [intOf]; omega
            · have HS := Lib.hid (hac hq ha)
              rw [ha] at HAC
              clear hne hac hnw
              go_wp2_with fail
              go_quiet ((go_at_call 75; exact Calls.quiet_of_same (HAC.out _)))
              go_wp2_with fail
              go_roundw
              case rel => exact ⟨k + 1, by omega, by go_num, by rw [HS.out]; exact row_drewN hown _, below_drewN hb⟩
              case measure => simp [intOf]; omega
        · obtain rfl : k = n := by omega
          have hE : inK f o x k = minTo f (m + 1) := by
            unfold inK
            rw [HST.out, List.take_of_length_le (by have := HN.out; omega)]
          rw [hE] at hown
          have HO2 := Lib.hid hown
          clear hE hown
          go_wp2_with fail
          go_roundw
          case rel => exact ⟨m + 1, by omega, by go_num, HO2.out, hb⟩
          case measure => simp [intOf]; omega
    · obtain rfl : m = p := by omega
      rw [minTo_all (by rw [HL.out, HP.out])] at hown
      have HO : Hid (Own w2 wr 30 u3 ((minS f).map setV2)) := by show Own _ _ _ _ _; unfold Own; rw [List.length_map]; exact hown
      clear hown
      go_wp2_with fail
      go_ret
      exact ⟨_, rfl, HO.out.mono HB2.out.size, Below.next HB2.out hb⟩
end Go.Proofs.YtgfjmplifmbmlaaDoor
namespace Go.Proofs.YtgfjmplifmbmlaaDoor
open Go.RowKit Go.Shelf

def mad (z : Int) : BitVec 16 := BitVec.ofInt 16 (z % 64)
theorem and63 (z : Int) (h0 : 0 ≤ z) (h1 : z < 256) : bits .and .u8 z 63 = U (mad z) := by
  obtain ⟨k, rfl⟩ := Int.eq_ofNat_of_zero_le h0
  have : ∀ k : Fin 256, bits .and .u8 (k.val : Int) 63 = U (mad (k.val : Int)) := by decide +kernel
  exact this ⟨k, by omega⟩
def madL (l : List Int) (k : Nat) : List (BitVec 16) := (l.take k).map mad
theorem madL_succ {l : List Int} {k : Nat} {z : Int} (h : l[k]? = some z) : madL l (k + 1) = madL l k ++ [mad z] := by
  unfold madL; rw [List.take_add_one, h, List.map_append]; rfl
theorem madL_len {l : List Int} {k : Nat} (h : k ≤ l.length) : (madL l k).length = k := by unfold madL; rw [List.length_map, List.length_take]; omega
def madS (l : List Int) : List (BitVec 16) := minS (madL l (min 20 l.length))

set_option maxRecDepth 100000 in
set_option maxHeartbeats 4000000 in
theorem made9_c (l : List Int) (hw : ∀ z ∈ l, 0 ≤ z ∧ z < 256) (a : Option Addr) (n c : Nat) (w : World) (h : Rd w a n c (l.map (Value.int .u8))) :
    Calls Tryd.prog 34 #[.slice a n c] w fun e w' => ∃ v, e = .returned v ∧ Own w w' 30 v ((madS l).map setV2) ∧ Below w.heap.size w w' := by
  have hnl : l.length = n := by have := h.len; simp at this; omega
  have hm := h.max
  have hle := h.le
  unfold maxLen at hm
  have HR := Lib.hid h
  have HN := Lib.hid hnl
  have HW := Lib.hid hw
  clear h hnl hw
  go_enter Tryd.func34, Tryd.ntmps34
  go_wp2_with fail
  go_loopw [3, 4] (fun v i wr => ∃ k : Nat, k ≤ n ∧ k ≤ 20 ∧ i = .int .i64 k ∧ wr.ownsRow w.heap.size 30 1 v k ((madL l k).map setV2) ∧ Below w.heap.size w wr) (fun _ i _ => n - (intOf i).toNat)
  case atStart => exact ⟨0, Nat.zero_le _, Nat.zero_le _, rfl, World.ownsRow_nil _ _ _ _, Below.refl _ _⟩
  case round =>
    obtain ⟨k, hk, hk20, rfl, hown, hb⟩ := hrel
    by_cases hlt : k < n
    · by_cases hlt2 : k < 20
      · obtain ⟨z, hz⟩ : ∃ z, l[k]? = some z := ⟨_, List.getElem?_eq_getElem (by have := HN.out; omega)⟩
        obtain ⟨hz0, hz1⟩ := HW.out z (List.mem_of_getElem? hz)
        obtain ⟨b, o, ha, hcell⟩ := (HR.out.below hb).at' (by omega)
        have hc := hcell k (.int .u8 z) (by rw [List.getElem?_map, hz]; rfl)
        have h63 := and63 z hz0 hz1
        obtain ⟨y, hy⟩ : ∃ y, mad z = y := ⟨_, rfl⟩
        have hs := madL_succ hz
        rw [hy] at h63 hs
        have hyb : 0 ≤ U y ∧ U y < 65536 := U_bd y
        have HS : Hid ((madL l (k + 1)).map setV2 = (madL l k).map setV2 ++ [.int .u16 (U y)]) := by show _ = _; rw [hs, List.map_append]; rfl
        have hyw := U_wrap y
        subst ha
        clear hcell hz hs hy
        go_wp2_with (at_builtin; go_must (refine wpList_app _ _ 22 2 (.int .u16 0) (.int .u16 (U y)) _ Tryd.underlying22 Tryd.infoSet rfl hown hb (Nat.le_refl _) rfl rfl rfl rfl rfl (by unfold maxLen; omega) (by omega) ?_))
        intro v' w4 hown4 hb4 _ _
        clear hown hb hc
        go_wp2_with fail
        go_roundw
        case rel => exact ⟨k + 1, by omega, by omega, by go_num, by rw [HS.out]; exact hown4, hb4⟩
        case measure => simp [intOf]; omega
      · obtain rfl : k = 20 := by omega
        have hE : minS (madL l 20) = madS l := by unfold madS; rw [Nat.min_eq_left (by have := HN.out; omega)]
        obtain ⟨ao, co, rfl, hro⟩ := rd_of_row hown
        have HMI := Lib.hid (minimal9_c (madL l 20) ao 20 co wr hro)
        rw [hE] at HMI
        have HB := Lib.hid hb
        clear hown hro hb hE
        go_wp2_with fail
        refine HMI.out.mono ?_
        rintro e w2 ⟨v, rfl, o2, b2⟩
        have HO2 := Lib.hid o2
        clear HMI o2
        go_wp2_with fail
        go_ret
        exact ⟨v, rfl, HO2.out.mono HB.out.size, Below.next HB.out b2⟩
    · obtain rfl : k = n := by omega
      have hE : minS (madL l k) = madS l := by unfold madS; rw [Nat.min_eq_right (by have := HN.out; omega), HN.out]
      obtain ⟨ao, co, rfl, hro⟩ := rd_of_row hown
      have HMI := Lib.hid (minimal9_c (madL l k) ao k co wr hro)
      rw [hE] at HMI
      have HB := Lib.hid hb
      clear hown hro hb hE
      go_wp2_with fail
      refine HMI.out.mono ?_
      rintro e w2 ⟨v, rfl, o2, b2⟩
      have HO2 := Lib.hid o2
      clear HMI o2
      go_wp2_with fail
      go_ret
      exact ⟨v, rfl, HO2.out.mono HB.out.size, Below.next HB.out b2⟩
end Go.Proofs.YtgfjmplifmbmlaaDoor
namespace Go.Proofs.YtgfjmplifmbmlaaDoor
open Go.RowKit Go.Shelf

theorem bef_cmp (x y : BitVec 16) : befB x y = decide (cmpS x y < 0) := by
  unfold befB
  rw [Bool.eq_iff_iff, decide_eq_true_iff, decide_eq_true_iff]
  exact (cmpS_key x y).2.symm

set_option maxRecDepth 100000 in
set_option maxHeartbeats 2000000 in
theorem valid8_c (l : List (BitVec 16)) (a : Option Addr) (n c : Nat) (w : World) (h : Rd w a n c (l.map setV2)) :
    Calls Tryd.prog 24 #[.slice a n c] w fun e w' => e = .returned (.int .i64 (valS l)) ∧ Below w.heap.size w w' := by
  have hnl : l.length = n := by have := h.len; simp at this; omega
  have hm := h.max
  have hle := h.le
  unfold maxLen at hm
  have HR := Lib.hid h
  have HN := Lib.hid hnl
  clear h hnl
  by_cases h400 : (400 : Int) < (n : Int)
  · have hV : Hid (valS l = 3) := by show _ = _; unfold valS; rw [if_pos (by have := HN.out; omega)]
    go_enter Tryd.func24, Tryd.ntmps24
    go_wp2_with fail
    go_ret
    exact ⟨by rw [hV.out]; rfl, Below.refl _ _⟩
  · have hd4 : decide ((400 : Int) < (n : Int)) = false := by simpa using h400
    have h400' : Hid (¬ 400 < l.length) := by show ¬ _; have := HN.out; omega
    clear h400
    go_enter Tryd.func24, Tryd.ntmps24
    go_wp2_with fail
    go_loopw [3] (fun i wr => ∃ k : Nat, k ≤ n ∧ i = .int .i64 k ∧ Hid (∀ j, j < k → e1 l j = 0) ∧ Below w.heap.size w wr) (fun i _ => n - (intOf i).toNat)
    case atStart => exact ⟨0, Nat.zero_le _, rfl, Lib.hid (fun j hj => by omega), Below.refl _ _⟩
    case round =>
      obtain ⟨k, hk, rfl, hno, hb⟩ := hrel
      by_cases hlt : k < n
      · obtain ⟨b, o, ha, hcell⟩ := (HR.out.below hb).at' (by omega)
        have hc := hcell k _ (at_cell (by have := HN.out; omega))
        have hlen : Hid (k < l.length) := by show k < _; have := HN.out; omega
        subst ha
        have HG := Lib.hid (range8_c (l.getD k 0#16) wr)
        by_cases ho : 4096 ≤ U (l.getD k 0#16)
        · have hV : Hid (valS l = 7) := by show _ = _; rw [valS_first h400'.out hlen.out hno.out (by rw [e1_out ho]; decide), e1_out ho]
          have ho1 : decide (U (l.getD k 0#16) < 4096) = false := decide_eq_false (by omega)
          obtain ⟨x, hx⟩ : ∃ x, l.getD k 0#16 = x := ⟨_, rfl⟩
          rw [hx] at ho ho1 hc HG
          rw [ho1] at HG
          clear hcell hx ho hno ho1
          go_wp2_with fail
          refine HG.out.mono ?_
          rintro e w1 ⟨rfl, rfl⟩
          go_wp2_with fail
          go_ret
          exact ⟨by rw [hV.out]; rfl, hb⟩
        · have ho1 : decide (U (l.getD k 0#16) < 4096) = true := decide_eq_true (by omega)
          rw [ho1] at HG
          clear ho1
          cases k with
          | zero =>
            have hno' : Hid (∀ j, j < 0 + 1 → e1 l j = 0) := Lib.hid (fun j hj => by obtain rfl : j = 0 := (by omega); exact e1_zero0 ho)
            obtain ⟨x, hx⟩ : ∃ x, l.getD 0 0#16 = x := ⟨_, rfl⟩
            rw [hx] at hc HG
            rw [Nat.add_zero] at hc
            clear hcell hx ho hno
            go_wp2_with fail
            refine HG.out.mono ?_
            rintro e w1 ⟨rfl, rfl⟩
            go_wp2_with fail
            go_quiet (fail)
            go_wp2_with fail
            go_roundw
            case rel => exact ⟨0 + 1, by omega, rfl, hno', below_drewN hb⟩
            case measure => simp [intOf]; omega
          | succ k =>
            have hc0 := hcell k _ (at_cell (by have := hlen.out; omega))
            have he := e1_next ho
            have hbc := bef_cmp (l.getD k 0#16) (l.getD (k + 1) 0#16)
            have q1 : IntKind.i64.wrap (((k + 1 : Nat) : Int) - 1) = (k : Int) := by rw [IntWalk.i64_in _ (by omega)]; omega
            by_cases hcmp : 0 ≤ cmpS (l.getD k 0#16) (l.getD (k + 1) 0#16)
            · rw [if_pos hcmp] at he
              have hV : Hid (valS l = 1) := by show _ = _; rw [valS_first h400'.out hlen.out hno.out (by rw [he]; decide), he]
              rw [decide_eq_false (by omega)] at hbc
              obtain ⟨x, hx⟩ : ∃ x, l.getD k 0#16 = x := ⟨_, rfl⟩
              obtain ⟨y, hy⟩ : ∃ y, l.getD (k + 1) 0#16 = y := ⟨_, rfl⟩
              have HC := Lib.hid (fun w => before8_c x y w)
              rw [hx, hy] at hbc
              rw [hbc] at HC
              rw [hx] at hc0
              rw [hy] at hc HG
              clear hcell hx hy ho hno he hcmp hbc
              go_wp2_with fail
              refine HG.out.mono ?_
              rintro e w1 ⟨rfl, rfl⟩
              go_wp2_with fail
              go_quiet ((go_at_call 45; exact Calls.quiet_of_same (HC.out _)))
              go_wp2_with fail
              go_ret
              exact ⟨by rw [hV.out]; rfl, below_drewN hb⟩
            · rw [if_neg hcmp] at he
              rw [decide_eq_true (by omega)] at hbc
              have hno' : Hid (∀ j, j < k + 1 + 1 → e1 l j = 0) := Lib.hid (fun j hj => by
                by_cases h1 : j < k + 1
                · exact hno.out j h1
                · obtain rfl : j = k + 1 := by omega
                  exact he)
              obtain ⟨x, hx⟩ : ∃ x, l.getD k 0#16 = x := ⟨_, rfl⟩
              obtain ⟨y, hy⟩ : ∃ y, l.getD (k + 1) 0#16 = y := ⟨_, rfl⟩
              have HC := Lib.hid (fun w => before8_c x y w)
              rw [hx, hy] at hbc
              rw [hbc] at HC
              rw [hx] at hc0
              rw [hy] at hc HG
              clear hcell hx hy ho hno he hcmp hbc
              go_wp2_with fail
              refine HG.out.mono ?_
              rintro e w1 ⟨rfl, rfl⟩
              go_wp2_with fail
              go_quiet ((go_at_call 45; exact Calls.quiet_of_same (HC.out _)))
              go_wp2_with fail
              go_roundw
              case rel => exact ⟨k + 1 + 1, by omega, by go_num, hno', below_drewN hb⟩
              case measure => simp [intOf]; omega
      · have hall : Hid (∀ j, j < l.length → e1 l j = 0) := Lib.hid (fun j hj => hno.out j (by have := HN.out; omega))
        clear hno
        go_wp2_with fail
        go_loopw [4] (fun i wr => ∃ k : Nat, k ≤ n ∧ i = .int .i64 k ∧ Hid (∀ i, i < k → ∀ j, j < l.length → i ≠ j → subB (l.getD i 0#16) (l.getD j 0#16) = false) ∧ Below w.heap.size w wr) (fun i _ => n - (intOf i).toNat)
        case atStart => exact ⟨0, Nat.zero_le _, rfl, Lib.hid (fun j hj => by omega), hb⟩
        case round =>
          clear hb
          obtain ⟨i, hi, rfl, hno, hb⟩ := hrel
          by_cases hlt2 : i < n
          · go_wp2_with fail
            go_loopw [5] (fun v wr => ∃ k : Nat, k ≤ n ∧ v = .int .i64 k ∧ Hid (∀ j, j < k → i ≠ j → subB (l.getD i 0#16) (l.getD j 0#16) = false) ∧ Below w.heap.size w wr) (fun v _ => n - (intOf v).toNat)
            case atStart => exact ⟨0, Nat.zero_le _, rfl, Lib.hid (fun j hj => by omega), hb⟩
            case round =>
              clear hb
              obtain ⟨j, hj, rfl, hno2, hb⟩ := hrel
              by_cases hlt3 : j < n
              · by_cases hij : i = j
                · subst hij
                  have hno3 : Hid (∀ j, j < i + 1 → i ≠ j → subB (l.getD i 0#16) (l.getD j 0#16) = false) := Lib.hid (fun j hj hne => hno2.out j (by omega) hne)
                  clear hno2
                  go_wp2_with fail
                  go_quiet (fail)
                  go_wp2_with fail
                  go_roundw
                  case rel => exact ⟨i + 1, by omega, by go_num, hno3, below_drewN hb⟩
                  case measure => simp [intOf]; omega
                · obtain ⟨b, o, ha, hcell⟩ := (HR.out.below hb).at' (by omega)
                  have hc := hcell i _ (at_cell (by have := HN.out; omega))
                  have hc2 := hcell j _ (at_cell (by have := HN.out; omega))
                  subst ha
                  have hne : ((i : Int) != (j : Int)) = true := by rw [bne_iff_ne]; omega
                  have HC := Lib.hid (fun w => contains8_c (l.getD i 0#16) (l.getD j 0#16) w)
                  cases hq : subB (l.getD i 0#16) (l.getD j 0#16)
                  · have hno3 : Hid (∀ j', j' < j + 1 → i ≠ j' → subB (l.getD i 0#16) (l.getD j' 0#16) = false) := Lib.hid (fun j' hj hne => by
                      by_cases h1 : j' < j
                      · exact hno2.out j' h1 hne
                      · obtain rfl : j' = j := by omega
                        exact hq)
                    rw [hq] at HC
                    obtain ⟨x, hx⟩ : ∃ x, l.getD i 0#16 = x := ⟨_, rfl⟩
                    obtain ⟨y, hy⟩ : ∃ y, l.getD j 0#16 = y := ⟨_, rfl⟩
                    rw [hx, hy] at HC
                    rw [hx] at hc
                    rw [hy] at hc2
                    clear hno2 hcell hq hx hy hij
                    go_wp2_with fail
                    go_quiet ((go_at_call 46; exact Calls.quiet_of_same (HC.out _)))
                    go_wp2_with fail
                    go_roundw
                    case rel => exact ⟨j + 1, by omega, by go_num, hno3, below_drewN hb⟩
                    case measure => simp [intOf]; omega
                  · have hV : Hid (valS l = 1) := by
                      show _ = _
                      rw [valS_over h400'.out hall.out, if_pos]
                      exact (overB_any hall.out).2 ⟨i, j, by have := HN.out; omega, by have := HN.out; omega, hij, hq⟩
                    rw [hq] at HC
                    obtain ⟨x, hx⟩ : ∃ x, l.getD i 0#16 = x := ⟨_, rfl⟩
                    obtain ⟨y, hy⟩ : ∃ y, l.getD j 0#16 = y := ⟨_, rfl⟩
                    rw [hx, hy] at HC
                    rw [hx] at hc
                    rw [hy] at hc2
                    clear hno2 hcell hq hx hy hij
                    go_wp2_with fail
                    go_quiet ((go_at_call 46; exact Calls.quiet_of_same (HC.out _)))
                    go_wp2_with fail
                    go_ret
                    exact ⟨by rw [hV.out]; rfl, below_drewN hb⟩
              · have hno3 : Hid (∀ i', i' < i + 1 → ∀ j, j < l.length → i' ≠ j → subB (l.getD i' 0#16) (l.getD j 0#16) = false) := Lib.hid (fun i' hi' j' hj' hne => by
                  by_cases h1 : i' < i
                  · exact hno.out i' h1 j' hj' hne
                  · obtain rfl : i' = i := by omega
                    exact hno2.out j' (by have := HN.out; omega) hne)
                clear hno hno2
                go_wp2_with fail
                go_roundw
                case rel => exact ⟨i + 1, by omega, by go_num, hno3, hb⟩
                case measure => simp [intOf]; omega
          · have hV : Hid (valS l = 0) := by
              show _ = _
              rw [valS_over h400'.out hall.out, if_neg]
              intro hc
              obtain ⟨i', j', h1, h2, h3, h4⟩ := (overB_any hall.out).1 hc
              rw [hno.out i' (by have := HN.out; omega) j' h2 h3] at h4; cases h4
            clear hno
            go_wp2_with fail
            go_ret
            exact ⟨by rw [hV.out]; rfl, hb⟩
end Go.Proofs.YtgfjmplifmbmlaaDoor
