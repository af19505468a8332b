/- Texts laid together. Package family: Accepts, Support, Valid; slices.Contains, ContainsFunc of sets. family.Valid. Reading slices of elements of k cells. Plain lemmas over the model, no program. Layer 37, plain: reports, what they demand. single.check; transversal.Disjoint. Layer 37, plain: events, the attack. Contracts of Go's library over this seat's dump: laid by the kit's shelf tools (plain mode), cut down to those that are used. single.Attack. -/
import Derived.Test.YtmjgdnpfgkpaoaaGreatDoorGC1
import Derived.Test.YtmjgdnpfgkpaoaaGreatDoorProg
import Derived.Shelf.GgClosure.Gives
import Derived.Maps.AppendAt
import Derived.Lib.ItoaNum
import Derived.Shelf.Small.Bits
import Derived.Shelf.Strconv.Itoa0
import Derived.Shelf.Strconv.Itoa1
import Derived.Shelf.LaysM
import Derived.Shelf.Strconv.Itoa2
import Derived.Shelf.Strconv.Itoa3
import Derived.Shelf.Sort.Plain
import Derived.Shelf.Slices.CompactS
import Derived.Ground.Names2Prog
import Derived.Shelf.Slices.SearchI
import Derived.Shelf.Slices.In.SortNone
namespace Go.Proofs.YtmjgdnpfgkpaoaaGreatDoor
open Go.RowKit Go.Shelf

def setV2 (x : BitVec 16) : Value := .int .u16 (U x)

theorem at_some {l : List (BitVec 16)} {k : Nat} (h : k < l.length) : l[k]? = some (l.getD k 0#16) := by rw [List.getElem?_eq_getElem h, getD_at h]
theorem at_cell {l : List (BitVec 16)} {k : Nat} (h : k < l.length) : (l.map setV2)[k]? = some (.int .u16 (U (l.getD k 0#16))) := by rw [List.getElem?_map, at_some h]; rfl
theorem any_hit {p : BitVec 16 → Bool} {l : List (BitVec 16)} {k : Nat} (h : k < l.length) (hp : p (l.getD k 0#16) = true) : l.any p = true :=
  List.any_eq_true.2 ⟨_, by rw [getD_at h]; exact List.getElem_mem h, hp⟩
theorem any_none {p : BitVec 16 → Bool} {l : List (BitVec 16)} (h : ∀ j, j < l.length → p (l.getD j 0#16) = false) : l.any p = false := by
  rw [Bool.eq_false_iff]
  intro hc
  obtain ⟨x, hx, hp⟩ := List.any_eq_true.1 hc
  obtain ⟨j, hj, rfl⟩ := List.mem_iff_getElem.1 hx
  rw [← getD_at hj, h j hj] at hp; cases hp

/-- the first place of a set, or -1 -/
def idxS (p : BitVec 16 → Bool) (l : List (BitVec 16)) : Int := if l.any p then (l.findIdx p : Int) else -1
theorem idxS_hit {p : BitVec 16 → Bool} {l : List (BitVec 16)} {k : Nat} (hk : k < l.length) (h : ∀ j, j < k → p (l.getD j 0#16) = false) (hp : p (l.getD k 0#16) = true) : idxS p l = k := by
  unfold idxS
  rw [if_pos (any_hit hk hp)]
  have : l.findIdx p = k := by
    rw [List.findIdx_eq hk]
    refine ⟨by rw [← getD_at hk]; exact hp, fun j hj => ?_⟩
    have := h j hj
    rw [getD_at (by omega)] at this
    exact this
  rw [this]
theorem idxS_none {p : BitVec 16 → Bool} {l : List (BitVec 16)} (h : ∀ j, j < l.length → p (l.getD j 0#16) = false) : idxS p l = -1 := by
  unfold idxS; rw [any_none h]; rfl
theorem idxS_ge (p : BitVec 16 → Bool) (l : List (BitVec 16)) : decide (0 ≤ idxS p l) = l.any p := by
  unfold idxS
  cases l.any p <;> simp

set_option maxRecDepth 100000 in
set_option maxHeartbeats 1000000 in
theorem idxF_c (g : Nat) (lb : Array Value) (eg : ∀ args w, (callFunc g args).run Tryz.prog w = .ok (.enter g args) w) (p : BitVec 16 → Bool) (l : List (BitVec 16)) (a : Option Addr) (n c : Nat) (w : World)
    (h : Rd w a n c (l.map setV2)) (hp : PredAt Tryz.prog g lb setV2 p w) :
    Calls Tryz.prog 81 #[.slice a n c, .func (.func g) #[] lb] w fun e w' => e = .returned (.int .i64 (idxS p l)) ∧ Below w.heap.size w w' := by
  have hn : n ≤ l.length ∧ l.length ≤ n := by have := h.len; simp at this; omega
  obtain ⟨hn1, hn2⟩ := hn
  have hm := h.max
  have hle := h.le
  unfold maxLen at hm
  have HP := Lib.hid hp
  have HR := Lib.hid h
  clear hp h
  go_enter Tryz.func81, Tryz.ntmps81
  go_wp2_with fail
  go_loopw [8] (fun i wr => ∃ k : Nat, k ≤ n ∧ i = .int .i64 k ∧ Hid (∀ j, j < k → p (l.getD j 0#16) = false) ∧ Below w.heap.size w wr) (fun i _ => n - (intOf i).toNat)
  case atStart => exact ⟨0, Nat.zero_le _, rfl, Lib.hid (fun j hj => by omega), Below.refl _ _⟩
  case round =>
    obtain ⟨k, hk, rfl, hno, hb⟩ := hrel
    by_cases hlt : k < n
    · obtain ⟨b, o, ha, hcell⟩ := (HR.out.below hb).at' (by omega)
      have hc := hcell k _ (at_cell (by omega))
      subst ha
      have HF : Hid (Calls Tryz.prog g (#[.int .u16 (U (l.getD k 0#16))] ++ lb) wr fun e w' => e = .returned (.bool (p (l.getD k 0#16))) ∧ ∃ q, w' = wr.drewN q) := HP.out wr (l.getD k 0#16) hb
      cases hq : p (l.getD k 0#16)
      · have hno' : Hid (∀ j, j < k + 1 → p (l.getD j 0#16) = false) := Lib.hid (fun j hj => by
          by_cases h1 : j < k
          · exact hno.out j h1
          · obtain rfl : j = k := by omega
            exact hq)
        rw [hq] at HF
        obtain ⟨x, hx⟩ : ∃ x, l.getD k 0#16 = x := ⟨_, rfl⟩
        rw [hx] at hc HF
        clear hq hcell hno hx
        go_wp2_with (go_at_fn g; refine HF.out.mono ?_; rintro e w' ⟨rfl, q, rfl⟩)
        go_roundw
        case rel => exact ⟨k + 1, by omega, by go_num, hno', below_drewN hb⟩
        case measure => simp [intOf]; omega
      · have hI : Hid (idxS p l = k) := idxS_hit (by omega) hno.out hq
        rw [hq] at HF
        obtain ⟨x, hx⟩ : ∃ x, l.getD k 0#16 = x := ⟨_, rfl⟩
        rw [hx] at hc HF
        clear hq hcell hno hx
        go_wp2_with (go_at_fn g; refine HF.out.mono ?_; rintro e w' ⟨rfl, q, rfl⟩)
        go_ret
        exact ⟨ret_int hI.out.symm, below_drewN hb⟩
    · have hI : Hid (idxS p l = -1) := idxS_none (fun j hj => hno.out j (by omega))
      clear hno
      go_wp2_with fail
      go_ret
      exact ⟨ret_int hI.out.symm, hb⟩

set_option maxRecDepth 100000 in
set_option maxHeartbeats 1000000 in
theorem containsF_c (g : Nat) (lb : Array Value) (eg : ∀ args w, (callFunc g args).run Tryz.prog w = .ok (.enter g args) w) (p : BitVec 16 → Bool) (l : List (BitVec 16)) (a : Option Addr) (n c : Nat) (w : World)
    (h : Rd w a n c (l.map setV2)) (hp : PredAt Tryz.prog g lb setV2 p w) :
    Calls Tryz.prog 46 #[.slice a n c, .func (.func g) #[] lb] w fun e w' => e = .returned (.bool (l.any p)) ∧ Below w.heap.size w w' := by
  have HC := Lib.hid (idxF_c g lb eg p l a n c w h hp)
  have hi := idxS_ge p l
  clear h hp eg
  obtain ⟨i, hi2⟩ : ∃ i, idxS p l = i := ⟨_, rfl⟩
  rw [hi2] at HC hi
  have HI := Lib.hid hi
  clear hi hi2
  go_enter Tryz.func46, Tryz.ntmps46
  go_wp2_with fail
  refine HC.out.mono ?_
  rintro e w1 ⟨rfl, hb⟩
  go_wp2_with fail
  go_ret
  exact ⟨ret_bool HI.out, hb⟩

set_option maxHeartbeats 400000 in
theorem contains_c (x y : BitVec 16) (w : World) :
    Calls Tryz.prog 86 #[.int .u16 (U x), .int .u16 (U y)] w fun e w' => e = .returned (.bool (subB x y)) ∧ w' = w := by
  go_enter Tryz.func86, Tryz.ntmps86
  go_wp2
  go_ret
  exact ⟨rfl, rfl⟩

theorem accepts1_at (w : World) (B : Nat) (s : BitVec 16) (hc : w.cell? ⟨B, 0, none⟩ = some (.int .u16 (U s))) :
    PredAt Tryz.prog 85 #[.pointer (some ⟨B, 0, none⟩)] setV2 (fun x => subB s x) w := fun W x hb => by
  have hc' : W.cell? ⟨B, 0, none⟩ = some (.int .u16 (U s)) := (hb.cell (p := ⟨B, 0, none⟩) (cell_lt hc)).trans hc
  unfold FnGives setV2
  clear hb hc
  go_enter Tryz.func85, Tryz.ntmps85
  go_wp2_with fail
  refine (contains_c s x _).mono ?_
  rintro e w1 ⟨rfl, rfl⟩
  go_wp2_with fail
  go_ret
  exact ⟨rfl, 0, rfl⟩

set_option maxRecDepth 100000 in
set_option maxHeartbeats 1000000 in
theorem accepts_c (l : List (BitVec 16)) (s : BitVec 16) (a : Option Addr) (n c : Nat) (w : World) (h : Rd w a n c (l.map setV2)) :
    Calls Tryz.prog 53 #[.slice a n c, .int .u16 (U s)] w fun e w' => e = .returned (.bool (accS l s)) ∧ Below w.heap.size w w' := by
  have hb0 : Below w.heap.size w (w.alloc (.cells #[.int .u16 (U s)] 27)) := (Below.refl _ w).alloc (Nat.le_refl _) _
  have HC := Lib.hid (containsF_c 85 #[.pointer (some ⟨w.heap.size, 0, none⟩)] (enters_of Tryz.func85 (by kernel_rfl) rfl) (fun x => subB s x) l a n c _ (h.below hb0) (accepts1_at _ w.heap.size s (cell_new _ _ _ 0 _ rfl)))
  have HB := Lib.hid hb0
  clear h hb0
  go_enter Tryz.func53, Tryz.ntmps53
  go_wp2_with fail
  refine HC.out.mono ?_
  rintro e w1 ⟨rfl, hb⟩
  go_wp2_with fail
  go_ret
  exact ⟨rfl, Below.next HB.out hb⟩

/-- the union -/
def supS (l : List (BitVec 16)) : BitVec 16 := l.foldl (· ||| ·) 0#16
theorem supS_take {l : List (BitVec 16)} {k : Nat} (h : k < l.length) : supS (l.take (k + 1)) = supS (l.take k) ||| l.getD k 0#16 := by
  unfold supS; rw [List.take_add_one, at_some h]; simp

set_option maxRecDepth 100000 in
set_option maxHeartbeats 1000000 in
theorem support_c (l : List (BitVec 16)) (a : Option Addr) (n c : Nat) (w : World) (h : Rd w a n c (l.map setV2)) :
    Calls Tryz.prog 50 #[.slice a n c] w fun e w' => e = .returned (.int .u16 (U (supS l))) ∧ w' = w := by
  have hn : n ≤ l.length ∧ l.length ≤ n := by have := h.len; simp at this; omega
  obtain ⟨hn1, hn2⟩ := hn
  have hm := h.max
  have hle := h.le
  unfold maxLen at hm
  go_enter Tryz.func50, Tryz.ntmps50
  go_wp2_with fail
  go_loop [3, 8] (fun v i => ∃ (k : Nat) (s : BitVec 16), k ≤ n ∧ i = .int .i64 k ∧ v = .int .u16 (U s) ∧ Hid (s = supS (l.take k))) (fun _ i => n - (intOf i).toNat)
  case atStart => exact ⟨0, 0#16, Nat.zero_le _, rfl, rfl, rfl⟩
  case round =>
    obtain ⟨k, s, hk, rfl, rfl, hs⟩ := hrel
    by_cases hlt : k < n
    · obtain ⟨b, o, ha, hcell⟩ := h.at' (by omega)
      have hc := hcell k _ (at_cell (by omega))
      have HS := Lib.hid (supS_take (l := l) (k := k) (by omega))
      obtain ⟨x, hx⟩ : ∃ x, l.getD k 0#16 = x := ⟨_, rfl⟩
      rw [hx] at hc HS
      subst ha
      clear hcell h hx
      go_wp2_with fail
      go_round
      case rel => exact ⟨k + 1, s ||| x, by omega, by go_num, rfl, by show _ = _; rw [HS.out, hs.out]⟩
      case measure => simp [intOf]; omega
    · have hE : Hid (l.take k = l) := List.take_of_length_le (by omega)
      clear h
      go_wp2_with fail
      go_ret
      exact ⟨by rw [hs.out, hE.out]; rfl, rfl⟩

set_option maxRecDepth 100000 in
set_option maxHeartbeats 1000000 in
theorem index_c (l : List (BitVec 16)) (y : BitVec 16) (a : Option Addr) (n c : Nat) (w : World) (h : Rd w a n c (l.map setV2)) :
    Calls Tryz.prog 116 #[.slice a n c, .int .u16 (U y)] w fun e w' => e = .returned (.int .i64 (idxS (fun x => y == x) l)) ∧ w' = w := by
  have hn : n ≤ l.length ∧ l.length ≤ n := by have := h.len; simp at this; omega
  obtain ⟨hn1, hn2⟩ := hn
  have hm := h.max
  have hle := h.le
  unfold maxLen at hm
  go_enter Tryz.func116, Tryz.ntmps116
  go_wp2_with fail
  go_loop [8] (fun i => ∃ (k : Nat), k ≤ n ∧ i = .int .i64 k ∧ Hid (∀ j, j < k → (y == l.getD j 0#16) = false)) (fun i => n - (intOf i).toNat)
  case atStart => exact ⟨0, Nat.zero_le _, rfl, Lib.hid (fun j hj => by omega)⟩
  case round =>
    obtain ⟨k, hk, rfl, hno⟩ := hrel
    by_cases hlt : k < n
    · obtain ⟨b, o, ha, hcell⟩ := h.at' (by omega)
      have hc := hcell k _ (at_cell (by omega))
      obtain ⟨x, hx⟩ : ∃ x, l.getD k 0#16 = x := ⟨_, rfl⟩
      subst ha
      by_cases hq : (y == x) = true
      · have hI : Hid (idxS (fun x => y == x) l = k) := idxS_hit (p := fun x => y == x) (by omega) hno.out (by rw [hx]; exact hq)
        rw [hx] at hc
        clear hcell h hx hno
        go_wp2_with fail
        go_ret
        exact ⟨ret_int hI.out.symm, rfl⟩
      · have hq' : (y == x) = false := by simpa using hq
        have hno' : Hid (∀ j, j < k + 1 → (y == l.getD j 0#16) = false) := Lib.hid (fun j hj => by
          by_cases h1 : j < k
          · exact hno.out j h1
          · obtain rfl : j = k := by omega
            rw [hx]; exact hq')
        rw [hx] at hc
        clear hcell h hx hno hq
        go_wp2_with fail
        go_round
        case rel => exact ⟨k + 1, by omega, by go_num, hno'⟩
        case measure => simp [intOf]; omega
    · have hI : Hid (idxS (fun x => y == x) l = -1) := idxS_none (fun j hj => hno.out j (by omega))
      clear hno h
      go_wp2_with fail
      go_ret
      exact ⟨ret_int hI.out.symm, rfl⟩

set_option maxRecDepth 100000 in
set_option maxHeartbeats 1000000 in
theorem containsv_c (l : List (BitVec 16)) (y : BitVec 16) (a : Option Addr) (n c : Nat) (w : World) (h : Rd w a n c (l.map setV2)) :
    Calls Tryz.prog 91 #[.slice a n c, .int .u16 (U y)] w fun e w' => e = .returned (.bool (l.any (fun x => y == x))) ∧ w' = w := by
  have HC := Lib.hid (index_c l y a n c w h)
  have hi := idxS_ge (fun x => y == x) l
  clear h
  obtain ⟨i, hi2⟩ : ∃ i, idxS (fun x => y == x) l = i := ⟨_, rfl⟩
  rw [hi2] at HC hi
  have HI := Lib.hid hi
  clear hi hi2
  go_enter Tryz.func91, Tryz.ntmps91
  go_wp2_with fail
  refine HC.out.mono ?_
  rintro e w1 ⟨rfl, rfl⟩
  go_wp2_with fail
  go_ret
  exact ⟨ret_bool HI.out, rfl⟩
end Go.Proofs.YtmjgdnpfgkpaoaaGreatDoor
namespace Go.Proofs.YtmjgdnpfgkpaoaaGreatDoor
open Go.RowKit Go.Shelf

theorem Rd.take {w : World} {a : Option Addr} {n c : Nat} {l : List Value} (h : Rd w a n c l) (k : Nat) (hk : k ≤ n) : Rd w a k c (l.take k) := by
  refine ⟨by rw [List.length_take, ← h.len]; omega, by have := h.le; omega, h.max, h.nil, fun hn => ?_⟩
  obtain ⟨b, o, ha, hc⟩ := h.at' (by omega)
  refine ⟨b, o, ha, fun i v hv => hc i v ?_⟩
  rw [List.getElem?_take] at hv
  split at hv
  · exact hv
  · cases hv

@[go_sem] theorem bv16_and_out (x : BitVec 16) : bits .and .u16 (U x) 61440 = U (x &&& 61440#16) := by
  have := bv16_and x 61440#16
  rwa [show U 61440#16 = 61440 by decide] at this
theorem out_iff (x : BitVec 16) : (x &&& 61440#16 != 0#16) = decide (4096 ≤ U x) := by
  rw [Bool.eq_iff_iff, bne_iff_ne, decide_eq_true_iff]
  have hx := x.isLt
  constructor
  · intro h
    refine Classical.byContradiction fun hc => h ?_
    have hlt : x.toNat < 2 ^ 12 := by unfold U at hc; omega
    apply BitVec.eq_of_getLsbD_eq
    intro i hi
    simp only [BitVec.getLsbD_and, BitVec.getLsbD_zero]
    by_cases h12 : i < 12
    · have : ∀ i : Fin 12, (61440#16).getLsbD i.val = false := by decide
      rw [this ⟨i, h12⟩, Bool.and_false]
    · have : x.getLsbD i = false := Nat.testBit_lt_two_pow (Nat.lt_of_lt_of_le hlt (Nat.pow_le_pow_right (by decide) (by omega)))
      rw [this, Bool.false_and]
  · intro h hc
    have hlt : x.toNat < 2 ^ 12 := by
      apply Nat.lt_pow_two_of_testBit
      intro i hi
      by_cases h16 : i < 16
      · have h1 := congrArg (fun y => y.getLsbD i) hc
        simp only [BitVec.getLsbD_and, BitVec.getLsbD_zero] at h1
        have : ∀ i : Fin 4, (61440#16).getLsbD (i.val + 12) = true := by decide
        have h2 := this ⟨i - 12, by omega⟩
        simp only [show i - 12 + 12 = i by omega] at h2
        rw [h2, Bool.and_true] at h1
        exact h1
      · exact Nat.testBit_lt_two_pow (Nat.lt_of_lt_of_le hx (Nat.pow_le_pow_right (by decide) (by omega)))
    unfold U at h; omega

theorem valS_first {l : List (BitVec 16)} {k : Nat} (hn : ¬ 400 < l.length) (hk : k < l.length) (h : ∀ j, j < k → e1 l j = 0) (he : e1 l k ≠ 0) : valS l = e1 l k := by
  unfold valS
  rw [if_neg hn, firstE_hit _ _ k hk h he, if_pos he]
theorem valS_over {l : List (BitVec 16)} (hn : ¬ 400 < l.length) (h : ∀ j, j < l.length → e1 l j = 0) : valS l = if overB l then 1 else 0 := by
  unfold valS
  rw [if_neg hn, firstE_none _ _ h]; rfl
theorem e1_out {l : List (BitVec 16)} {k : Nat} (h : 4096 ≤ U (l.getD k 0#16)) : e1 l k = 7 := by unfold e1; rw [if_pos h]
theorem e1_zero0 {l : List (BitVec 16)} (h : ¬ 4096 ≤ U (l.getD 0 0#16)) : e1 l 0 = 0 := by unfold e1; rw [if_neg h, if_neg (by omega)]
theorem e1_next {l : List (BitVec 16)} {k : Nat} (h : ¬ 4096 ≤ U (l.getD (k + 1) 0#16)) : e1 l (k + 1) = if 0 ≤ cmpS (l.getD k 0#16) (l.getD (k + 1) 0#16) then 1 else 0 := by
  unfold e1; rw [if_neg h]
  by_cases hc : 0 ≤ cmpS (l.getD k 0#16) (l.getD (k + 1) 0#16)
  · rw [if_pos ⟨by omega, by simpa using hc⟩, if_pos hc]
  · rw [if_neg (fun h => hc (by simpa using h.2)), if_neg hc]

set_option maxRecDepth 100000 in
set_option maxHeartbeats 2000000 in
theorem valid_c (l : List (BitVec 16)) (a : Option Addr) (n c : Nat) (w : World) (h : Rd w a n c (l.map setV2)) :
    Calls Tryz.prog 56 #[.slice a n c] w fun e w' => e = .returned (.int .i64 (valS l)) ∧ Below w.heap.size w w' := by
  have hnl : l.length = n := by have := h.len; simp at this; omega
  have hm := h.max
  have hle := h.le
  unfold maxLen at hm
  have HR := Lib.hid h
  have HN := Lib.hid hnl
  clear h hnl
  by_cases h400 : (400 : Int) < (n : Int)
  · have hV : Hid (valS l = 3) := by show _ = _; unfold valS; rw [if_pos (by have := HN.out; omega)]
    go_enter Tryz.func56, Tryz.ntmps56
    go_wp2_with fail
    go_ret
    exact ⟨by rw [hV.out]; rfl, Below.refl _ _⟩
  · have hd4 : decide ((400 : Int) < (n : Int)) = false := by simpa using h400
    have h400' : Hid (¬ 400 < l.length) := by show ¬ _; have := HN.out; omega
    clear h400
    go_enter Tryz.func56, Tryz.ntmps56
    go_wp2_with fail
    go_loopw [12] (fun i wr => ∃ k : Nat, k ≤ n ∧ i = .int .i64 k ∧ Hid (∀ j, j < k → e1 l j = 0) ∧ Below w.heap.size w wr) (fun i _ => n - (intOf i).toNat)
    case atStart => exact ⟨0, Nat.zero_le _, rfl, Lib.hid (fun j hj => by omega), Below.refl _ _⟩
    case round =>
      obtain ⟨k, hk, rfl, hno, hb⟩ := hrel
      by_cases hlt : k < n
      · obtain ⟨b, o, ha, hcell⟩ := (HR.out.below hb).at' (by omega)
        have hc := hcell k _ (at_cell (by have := HN.out; omega))
        have hlen : Hid (k < l.length) := by show k < _; have := HN.out; omega
        subst ha
        by_cases ho : 4096 ≤ U (l.getD k 0#16)
        · have hV : Hid (valS l = 7) := by show _ = _; rw [valS_first h400'.out hlen.out hno.out (by rw [e1_out ho]; decide), e1_out ho]
          have ho1 := out_iff (l.getD k 0#16)
          obtain ⟨x, hx⟩ : ∃ x, l.getD k 0#16 = x := ⟨_, rfl⟩
          rw [hx] at ho ho1 hc
          rw [decide_eq_true ho] at ho1
          clear hcell hx ho hno
          go_wp2_with fail
          go_ret
          exact ⟨by rw [hV.out]; rfl, hb⟩
        · have ho1 := out_iff (l.getD k 0#16)
          rw [decide_eq_false ho] at ho1
          cases k with
          | zero =>
            have hno' : Hid (∀ j, j < 0 + 1 → e1 l j = 0) := Lib.hid (fun j hj => by obtain rfl : j = 0 := (by omega); exact e1_zero0 ho)
            obtain ⟨x, hx⟩ : ∃ x, l.getD 0 0#16 = x := ⟨_, rfl⟩
            rw [hx] at ho1 hc
            rw [Nat.add_zero] at hc
            clear hcell hx ho hno
            go_wp2_with fail
            go_roundw
            case rel => exact ⟨0 + 1, by omega, rfl, hno', hb⟩
            case measure => simp [intOf]; omega
          | succ k =>
            have hc0 := hcell k _ (at_cell (by have := hlen.out; omega))
            have he := e1_next ho
            by_cases hcmp : 0 ≤ cmpS (l.getD k 0#16) (l.getD (k + 1) 0#16)
            · rw [if_pos hcmp] at he
              have hV : Hid (valS l = 1) := by show _ = _; rw [valS_first h400'.out hlen.out hno.out (by rw [he]; decide), he]
              obtain ⟨x, hx⟩ : ∃ x, l.getD k 0#16 = x := ⟨_, rfl⟩
              obtain ⟨y, hy⟩ : ∃ y, l.getD (k + 1) 0#16 = y := ⟨_, rfl⟩
              have HC := Lib.hid (fun w => compare_c x y _ _ w rfl rfl)
              rw [hx, hy] at hcmp
              rw [hx] at hc0
              rw [hy] at hc ho1
              clear hcell hx hy ho hno he
              go_wp2_with fail
              refine (HC.out _).mono ?_
              rintro e w2 ⟨rfl, hb2⟩
              go_wp2_with fail
              go_ret
              exact ⟨by rw [hV.out]; rfl, Below.next hb hb2⟩
            · rw [if_neg hcmp] at he
              have hno' : Hid (∀ j, j < k + 1 + 1 → e1 l j = 0) := Lib.hid (fun j hj => by
                by_cases h1 : j < k + 1
                · exact hno.out j h1
                · obtain rfl : j = k + 1 := by omega
                  exact he)
              obtain ⟨x, hx⟩ : ∃ x, l.getD k 0#16 = x := ⟨_, rfl⟩
              obtain ⟨y, hy⟩ : ∃ y, l.getD (k + 1) 0#16 = y := ⟨_, rfl⟩
              have HC := Lib.hid (fun w => compare_c x y _ _ w rfl rfl)
              rw [hx, hy] at hcmp
              rw [hx] at hc0
              rw [hy] at hc ho1
              have hcm : decide (0 ≤ cmpS x y) = false := by simpa using hcmp
              clear hcell hx hy ho hno he hcmp
              go_wp2_with fail
              refine (HC.out _).mono ?_
              rintro e w2 ⟨rfl, hb2⟩
              have hb3 := Below.next hb hb2
              clear hb hb2
              go_wp2_with fail
              go_roundw
              case rel => exact ⟨k + 1 + 1, by omega, by go_num, hno', hb3⟩
              case measure => simp [intOf]; omega
      · have hall : Hid (∀ j, j < l.length → e1 l j = 0) := Lib.hid (fun j hj => hno.out j (by have := HN.out; omega))
        clear hno
        go_wp2_with fail
        go_loopw [37] (fun i wr => ∃ k : Nat, k ≤ n ∧ i = .int .i64 k ∧ Hid (∀ j, j < k → accS (l.take j) (l.getD j 0#16) = false) ∧ Below w.heap.size w wr) (fun i _ => n - (intOf i).toNat)
        case atStart => exact ⟨0, Nat.zero_le _, rfl, Lib.hid (fun j hj => by omega), hb⟩
        case round =>
          clear hb
          obtain ⟨i, hi, rfl, hno, hb⟩ := hrel
          by_cases hlt2 : i < n
          · have hRw := HR.out.below hb
            obtain ⟨b, o, ha, hcell⟩ := hRw.at' (by omega)
            have hc := hcell i _ (at_cell (by have := HN.out; omega))
            have hT := hRw.take i (by omega)
            rw [← List.map_take] at hT
            subst ha
            have HA := Lib.hid (accepts_c (l.take i) (l.getD i 0#16) _ i c _ hT)
            cases hq : accS (l.take i) (l.getD i 0#16)
            · have hno' : Hid (∀ j, j < i + 1 → accS (l.take j) (l.getD j 0#16) = false) := Lib.hid (fun j hj => by
                by_cases h1 : j < i
                · exact hno.out j h1
                · obtain rfl : j = i := by omega
                  exact hq)
              rw [hq] at HA
              obtain ⟨x, hx⟩ : ∃ x, l.getD i 0#16 = x := ⟨_, rfl⟩
              rw [hx] at HA hc
              clear hcell hx hq hno hT hRw
              go_wp2_with fail
              refine HA.out.mono ?_
              rintro e w2 ⟨rfl, hb2⟩
              have hb3 := Below.next hb hb2
              clear hb hb2
              go_wp2_with fail
              go_roundw
              case rel => exact ⟨i + 1, by omega, by go_num, hno', hb3⟩
              case measure => simp [intOf]; omega
            · have hV : Hid (valS l = 1) := by
                show _ = _
                rw [valS_over h400'.out hall.out, if_pos]
                unfold overB
                exact List.any_eq_true.2 ⟨i, List.mem_range.2 (by have := HN.out; omega), hq⟩
              rw [hq] at HA
              obtain ⟨x, hx⟩ : ∃ x, l.getD i 0#16 = x := ⟨_, rfl⟩
              rw [hx] at HA hc
              clear hcell hx hq hno hT hRw
              go_wp2_with fail
              refine HA.out.mono ?_
              rintro e w2 ⟨rfl, hb2⟩
              have hb3 := Below.next hb hb2
              clear hb hb2
              go_wp2_with fail
              go_ret
              exact ⟨by rw [hV.out]; rfl, hb3⟩
          · have hV : Hid (valS l = 0) := by
              show _ = _
              rw [valS_over h400'.out hall.out, if_neg]
              intro hc
              unfold overB at hc
              obtain ⟨j, hj, hq⟩ := List.any_eq_true.1 hc
              have := hno.out j (by have := List.mem_range.1 hj; have := HN.out; omega)
              rw [this] at hq; cases hq
            clear hno
            go_wp2_with fail
            go_ret
            exact ⟨by rw [hV.out]; rfl, hb⟩
end Go.Proofs.YtmjgdnpfgkpaoaaGreatDoor
namespace Go.Proofs.YtmjgdnpfgkpaoaaGreatDoor
open Go.RowKit

/-- The slice value '.slice a n c' reads, in w, as n elements of k cells, these the list l of all cells. -/
structure RdK (k : Nat) (w : World) (a : Option Addr) (n c : Nat) (l : List Value) : Prop where
  len : n * k = l.length
  le : n ≤ c
  max : c ≤ maxLen
  nil : a = none → c = 0
  at' : 0 < n → ∃ b o, a = some ⟨b, o, none⟩ ∧ ∀ i v, l[i]? = some v → w.cell? ⟨b, o + i, none⟩ = some v

theorem RdK.none_ (k : Nat) (w : World) : RdK k w none 0 0 [] := ⟨by simp, Nat.le_refl _, by simp [maxLen], fun _ => rfl, fun h => absurd h (by decide)⟩
theorem RdK.below {k : Nat} {w w' : World} {a : Option Addr} {n c : Nat} {l : List Value} (h : RdK k w a n c l) (hb : Below w.heap.size w w') : RdK k w' a n c l := by
  refine ⟨h.len, h.le, h.max, h.nil, fun hn => ?_⟩
  obtain ⟨b, o, ha, hc⟩ := h.at' hn
  refine ⟨b, o, ha, fun i v hv => ?_⟩
  have := hc i v hv
  exact (hb.cell (p := ⟨b, o + i, none⟩) (cell_lt this)).trans this
/-- a row of the call's own, elements of k cells, read -/
theorem rdK_of_row {k : Nat} {w : World} {B n : Nat} {e : TypeId} {v : Value} {l : List Value} (h : w.ownsRow B e k v n l) : ∃ a c, v = .slice a n c ∧ RdK k w a n c l := by
  have hl := h.1
  obtain ⟨h1, h2⟩ := h
  rcases h2 with ⟨rfl, h0⟩ | ⟨g, cap, cur, rfl, hb, hg, hle, hm, hs, ht⟩
  · subst h0
    obtain rfl := List.eq_nil_of_length_eq_zero (by simpa using h1)
    exact ⟨none, 0, rfl, RdK.none_ _ _⟩
  · refine ⟨some ⟨g, 0, none⟩, cap, rfl, hl.symm, hle, hm, fun h => (by cases h), fun _ => ⟨g, 0, rfl, fun i v hv => ?_⟩⟩
    have := World.ownsRow.cells (w := w) (base := B) (e := e) (size := k) (v := .slice (some ⟨g, 0, none⟩) n cap) (n := n) (xs := l) ⟨h1, .inr ⟨g, cap, cur, rfl, hb, hg, hle, hm, hs, ht⟩⟩ (g := g) rfl i v hv
    rw [Addr.add_lit] at this; simpa using this
theorem rowK_below {k : Nat} {w w' : World} {B n : Nat} {e : TypeId} {v : Value} {l : List Value} (h : w.ownsRow B e k v n l) (hb : Below w.heap.size w w') : w'.ownsRow B e k v n l := by
  obtain ⟨h1, h2⟩ := h
  refine ⟨h1, ?_⟩
  rcases h2 with h2 | ⟨g, cap, cur, hv, hb', hg, r⟩
  · exact .inl h2
  · exact .inr ⟨g, cap, cur, hv, hb', by rw [hb.block g (Array.getElem?_eq_some_iff.1 hg).1]; exact hg, r⟩
theorem rowK_mono {k : Nat} {w : World} {B B' n : Nat} {e : TypeId} {v : Value} {l : List Value} (h : w.ownsRow B e k v n l) (hs : B' ≤ B) : w.ownsRow B' e k v n l := by
  obtain ⟨h1, h2⟩ := h
  refine ⟨h1, ?_⟩
  rcases h2 with h2 | ⟨g, cap, cur, hv, hb', r⟩
  · exact .inl h2
  · exact .inr ⟨g, cap, cur, hv, Nat.le_trans hs hb', r⟩
/-- a slice literal of elements of k cells -/
theorem RdK.lit' (k : Nat) (w : World) (cs : Array Value) (e : TypeId) (n : Nat) (l : List Value) (hl : cs.toList = l) (hn : n * k = l.length) (hm : n ≤ 1000000) {b : Nat} (hb : b = w.heap.size) : RdK k (w.alloc (.cells cs e)) (some ⟨b, 0, none⟩) n n l := by
  subst hl hb
  refine ⟨hn, Nat.le_refl _, by unfold maxLen; omega, fun h => (by cases h), fun _ => ⟨_, _, rfl, fun i v hv => ?_⟩⟩
  rw [Nat.zero_add]
  exact cell_new w cs e i v (by simpa using hv)

/-- the cells of elements, one behind another -/
theorem flat_at {α : Type} (k : Nat) (enc : α → List Value) (hk : ∀ x, (enc x).length = k) : ∀ (L : List α) (i j : Nat) (x : α), L[i]? = some x → j < k → (L.flatMap enc)[i * k + j]? = (enc x)[j]? := by
  intro L
  induction L with
  | nil => intro i j x h; simp at h
  | cons y L ih =>
    intro i j x h hj
    rw [List.flatMap_cons]
    cases i with
    | zero =>
      simp at h; subst h
      rw [Nat.zero_mul, Nat.zero_add, List.getElem?_append_left (by rw [hk]; exact hj)]
    | succ i =>
      have h' : L[i]? = some x := by simpa using h
      rw [List.getElem?_append_right (by rw [hk, Nat.succ_mul]; omega), hk, show (i + 1) * k + j - k = i * k + j by rw [Nat.succ_mul]; omega]
      exact ih i j x h' hj
theorem flat_len {α : Type} (k : Nat) (enc : α → List Value) (hk : ∀ x, (enc x).length = k) (L : List α) : (L.flatMap enc).length = L.length * k := by
  induction L with
  | nil => simp
  | cons y L ih => rw [List.flatMap_cons, List.length_append, ih, hk, List.length_cons, Nat.succ_mul, Nat.add_comm]
/-- the cells of one element -/
theorem RdK.cells {k : Nat} {w : World} {a : Option Addr} {n c : Nat} {α : Type} {enc : α → List Value} {L : List α} (h : RdK k w a n c (L.flatMap enc)) (hk : ∀ x, (enc x).length = k) (hn : 0 < n) :
    ∃ b o, a = some ⟨b, o, none⟩ ∧ ∀ i x, L[i]? = some x → ∀ j, j < k → w.cell? ⟨b, o + i * k + j, none⟩ = (enc x)[j]? := by
  obtain ⟨b, o, ha, hc⟩ := h.at' hn
  refine ⟨b, o, ha, fun i x hx j hj => ?_⟩
  have h1 := flat_at k enc hk L i j x hx hj
  have h2 : (enc x)[j]? = some ((enc x)[j]'(by rw [hk]; exact hj)) := List.getElem?_eq_getElem _
  rw [h2] at h1
  rw [Nat.add_assoc, hc _ _ h1, h2]

theorem heap_set_at {w : World} {B : Nat} {cs : Array Value} {t : TypeId} {f : Nat × Nat} (h : w.heap[B]? = some (.cells cs t f)) (i : Nat) (v : Value) :
    (w.setCell ⟨B, i, none⟩ v).heap[B]? = some (.cells (cs.setIfInBounds i v) t f) := by
  unfold World.setCell; simp [Array.getElem?_modify, h]
theorem heap_alloc_at {w : World} {B : Nat} {ob : Obj} (h : w.heap[B]? = some ob) (o : Obj) : (w.alloc o).heap[B]? = some ob :=
  (Below.heap_alloc w o B (Array.getElem?_eq_some_iff.1 h).1).trans h
theorem heap_set_other {w : World} {B B' : Nat} (hne : B ≠ B') (i : Nat) (v : Value) {ob : Obj} (h : w.heap[B]? = some ob) : (w.setCell ⟨B', i, none⟩ v).heap[B]? = some ob :=
  (Below.heap_setCell _ _ _ _ hne).trans h
theorem heap_below {w w' : World} {B : Nat} {ob : Obj} (hb : Below w.heap.size w w') (h : w.heap[B]? = some ob) : w'.heap[B]? = some ob :=
  (hb.block B (Array.getElem?_eq_some_iff.1 h).1).trans h

theorem below_drew {B : Nat} {a w : World} (h : Below B a w) : Below B a w.drew := ⟨h.os, h.tape, h.output, h.size, h.block⟩
theorem below_undrew {w w' : World} (h : Below w.drew.heap.size w.drew w') : Below w.heap.size w w' := ⟨h.os, h.tape, h.output, h.size, h.block⟩
/-- three cells of an old block, kept -/
theorem keep3 {w w' : World} {B : Nat} {x y z : Value} (hb : Below w.heap.size w w') (h0 : w.cell? ⟨B, 0, none⟩ = some x) (h1 : w.cell? ⟨B, 1, none⟩ = some y) (h2 : w.cell? ⟨B, 2, none⟩ = some z) :
    w'.cell? ⟨B, 0, none⟩ = some x ∧ w'.cell? ⟨B, 1, none⟩ = some y ∧ w'.cell? ⟨B, 2, none⟩ = some z :=
  ⟨(hb.cell (p := ⟨B, 0, none⟩) (cell_lt h0)).trans h0, (hb.cell (p := ⟨B, 1, none⟩) (cell_lt h1)).trans h1, (hb.cell (p := ⟨B, 2, none⟩) (cell_lt h2)).trans h2⟩
theorem open3 {w : World} {B : Nat} {x y z : Value} {t : TypeId} (h : w.heap[B]? = some (.cells #[x, y, z] t (0, 0))) :
    (w.cell? ⟨B, 0, none⟩ = some x ∧ w.cell? ⟨B, 1, none⟩ = some y ∧ w.cell? ⟨B, 2, none⟩ = some z) ∧ w.frozen? ⟨B, 0, none⟩ = false ∧ w.frozen? ⟨B, 1, none⟩ = false ∧ w.frozen? ⟨B, 2, none⟩ = false :=
  ⟨⟨cell_of_row _ _ 0 _ _ _ h, cell_of_row _ _ 1 _ _ _ h, cell_of_row _ _ 2 _ _ _ h⟩, by simp [World.frozen?, h], by simp [World.frozen?, h], by simp [World.frozen?, h]⟩

/-- 'out = append(out, x)' on a slice of the call's own, elements of k cells: the element stands in the last block. -/
theorem wpList_appK {P : Program} {ops : Array Oper} {rest : List Oper} {o : Oper} {a : Act} {Q : Exit → Act → World → Prop} {B : Nat} {w0 wr : World} {e : TypeId} {v : Value} {l : List Value} {n : Nat}
    (k : Nat) (s xo : Operand) (t : TypeId) (bytes : Nat) (z : Value) (x : List Value) (ty : TypeId)
    (ht : P.underlying t = some (.slice e)) (hi : (P.info? e).map (fun i => (i.zero, i.size, i.bytes)) = some (some z, k, bytes)) (hz : z.cells.size = k) (hk : 0 < k)
    (hown : wr.ownsRow B e k v n l) (hb : Below B w0 wr) (hB : B ≤ w0.heap.size)
    (hg : o.guard = none) (hop : o.op = Op.call { callee := Callee.builtin Builtin.append, args := #[s, xo], argTypes := #[t, t] })
    (hs : a.eval s = v) (hx : a.eval xo = .slice (some ⟨wr.heap.size, 0, none⟩) 1 1) (hxl : x.length = k) (h1 : ∀ u ∈ x, u.oneCell' = true)
    (hlen : n + 1 ≤ maxLen) (hby : (n + 1) * bytes ≤ 140737488355328)
    (hK : ∀ v' w1, w1.ownsRow B e k v' (n + 1) (l ++ x) → Below B w0 w1 → wr.grownBy w1 v.ownBlock → wr.heap.size < w1.heap.size → wpList P ops Q rest (a.put o.dst v') w1) :
    wpList P ops Q (o :: rest) a (wr.alloc (.cells x.toArray ty)) := by
  obtain ⟨i, hi1, hi2, hi3, hi4⟩ := info_parts hi
  have hsz := hb.size
  refine wpList_append_own _ hg s xo t hop B e i z k bytes ht hi1 hi2 hi3 hi4 hz hk v n l hs (hown.alloc _) ⟨wr.heap.size, 0, none⟩ 1 1 x hx (by rw [Nat.one_mul]; exact hxl) ?_ h1 hlen hby (by simp; omega) ?_
  · intro j u hj
    rw [Addr.add_lit, Nat.zero_add]
    exact cell_new wr x.toArray ty j u (by simpa using hj)
  · intro v' w1 h2 h3 _
    have h4 := h3.size
    simp only [World.size_alloc] at h4
    refine hK v' w1 h2 ((hb.alloc (by omega) _).grown h3 (by simp; omega) fun k hk => (hown.lt k hk).1) ?_ (by omega)
    exact ⟨h3.os, h3.tape, h3.output, by omega, fun k hk hne => (h3.block k (by simp; omega) hne).trans (Below.heap_alloc wr _ k hk)⟩

/-- 'out = append(out, xs...)', elements of k cells. -/
theorem wpList_appsK {P : Program} {ops : Array Oper} {rest : List Oper} {o : Oper} {a : Act} {Q : Exit → Act → World → Prop} {B : Nat} {w0 wr : World} {e : TypeId} {v : Value} {l : List Value} {n : Nat}
    (k : Nat) (s xo : Operand) (t : TypeId) (bytes : Nat) (z : Value) (ao : Option Addr) (m c : Nat) (news : List Value)
    (ht : P.underlying t = some (.slice e)) (hi : (P.info? e).map (fun i => (i.zero, i.size, i.bytes)) = some (some z, k, bytes)) (hz : z.cells.size = k) (hk : 0 < k)
    (hown : wr.ownsRow B e k v n l) (hb : Below B w0 wr) (hB : B ≤ w0.heap.size) (hr : RdK k wr ao m c news) (h1 : ∀ u ∈ news, u.oneCell' = true)
    (hg : o.guard = none) (hop : o.op = Op.call { callee := Callee.builtin Builtin.append, args := #[s, xo], argTypes := #[t, t] })
    (hs : a.eval s = v) (hx : a.eval xo = .slice ao m c)
    (hlen : n + m ≤ maxLen) (hby : (n + m) * bytes ≤ 140737488355328)
    (hK : ∀ v' w1, w1.ownsRow B e k v' (n + m) (l ++ news) → Below B w0 w1 → wr.grownBy w1 v.ownBlock → wpList P ops Q rest (a.put o.dst v') w1) :
    wpList P ops Q (o :: rest) a wr := by
  obtain ⟨i, hi1, hi2, hi3, hi4⟩ := info_parts hi
  have hsz := hb.size
  cases ao with
  | none =>
    have hc := hr.nil rfl
    have hm : m = 0 := by have := hr.le; omega
    subst hc hm
    have hnil : news = [] := List.eq_nil_of_length_eq_zero (by rw [← hr.len, Nat.zero_mul])
    subst hnil
    exact wpList_append_own_none hg s xo t hop B e i k ht hi1 v n l hs hown hx (hK v wr (by simpa using hown) hb (World.grownBy.refl _ _))
  | some ad =>
    refine wpList_append_own _ hg s xo t hop B e i z k bytes ht hi1 hi2 hi3 hi4 hz hk v n l hs hown ad m c news hx hr.len.symm ?_ h1 hlen hby (by omega) ?_
    · intro j u hj
      have hj' := (List.getElem?_eq_some_iff.1 hj).1
      have hm0 : 0 < m := by
        apply Nat.pos_of_ne_zero
        intro h0
        have := hr.len
        rw [h0, Nat.zero_mul] at this; omega
      obtain ⟨b, of, ha, hcell⟩ := hr.at' hm0
      cases ha
      rw [Addr.add_lit]
      exact hcell j u hj
    · intro v' w1 h2 h3 _
      exact hK v' w1 h2 (hb.grown h3 (by omega) fun k hk => (hown.lt k hk).1) h3
/-- the row of a slice being built does not lie where another is read -/
def Clear (n : Nat) (v : Value) (a : Option Addr) : Prop := 0 < n → ∀ b o, a = some ⟨b, o, none⟩ → v.ownBlock ≠ some b
theorem Rd.grown {w w' : World} {a : Option Addr} {n c : Nat} {l : List Value} {v : Value} (h : Rd w a n c l) (hg : w.grownBy w' v.ownBlock) (hc : Clear n v a) : Rd w' a n c l := by
  refine ⟨h.len, h.le, h.max, h.nil, fun hn => ?_⟩
  obtain ⟨b, o, ha, hcell⟩ := h.at' hn
  exact ⟨b, o, ha, fun i x hx => hg.cell (hcell i x hx) (fun e => hc hn b o ha e.symm)⟩
theorem RdK.grown {k : Nat} {w w' : World} {a : Option Addr} {n c : Nat} {l : List Value} {v : Value} (h : RdK k w a n c l) (hg : w.grownBy w' v.ownBlock) (hc : Clear n v a) : RdK k w' a n c l := by
  refine ⟨h.len, h.le, h.max, h.nil, fun hn => ?_⟩
  obtain ⟨b, o, ha, hcell⟩ := h.at' hn
  exact ⟨b, o, ha, fun i x hx => hg.cell (hcell i x hx) (fun e => hc hn b o ha e.symm)⟩
theorem Clear.step {w : World} {a : Option Addr} {n c : Nat} {l : List Value} {v v' : Value} (h : Clear n v a) (hr : Rd w a n c l) (hv : ∀ g, v'.ownBlock = some g → v.ownBlock = some g ∨ w.heap.size ≤ g) : Clear n v' a := by
  intro hn b o ha e
  rcases hv b e with h1 | h1
  · exact h hn b o ha h1
  · obtain ⟨b', o', ha', hcell⟩ := hr.at' hn
    rw [ha] at ha'; cases ha'
    have hl := hr.len
    have := cell_lt (hcell 0 _ (List.getElem?_eq_getElem (show 0 < l.length by omega)))
    omega
theorem Clear.fresh {w : World} {B k n m _c : Nat} {e : TypeId} {v : Value} {xs : List Value} {b o : Nat} (h : w.ownsRow B e k v m xs) (hb : w.heap.size ≤ b) : Clear n v (some ⟨b, o, none⟩) := by
  intro _ b' o' ha e
  cases ha
  have := (h.lt b e).2
  omega

theorem Clear.own {w w1 : World} {B k m n c : Nat} {e e' : TypeId} {v : Value} {xs l : List Value} {am : Option Addr} (hmo : Own w w1 e (.slice am n c) l) (h : w.ownsRow B e' k v m xs) : Clear n v am := by
  intro hn b o ha he
  rcases hmo.2 with ⟨h0, _⟩ | ⟨g, cap, cur, h0, hg, _⟩
  · injection h0 with h1; rw [ha] at h1; cases h1
  · injection h0 with h1
    rw [ha] at h1
    injection h1 with h1
    injection h1 with h1
    have := (h.lt _ he).2
    omega

/-- 'out = append(out, x)', and where the new row lies. -/
theorem wpList_appK2 {P : Program} {ops : Array Oper} {rest : List Oper} {o : Oper} {a : Act} {Q : Exit → Act → World → Prop} {B : Nat} {w0 wr : World} {e : TypeId} {v : Value} {l : List Value} {n : Nat}
    (k : Nat) (s xo : Operand) (t : TypeId) (bytes : Nat) (z : Value) (x : List Value) (ty : TypeId)
    (ht : P.underlying t = some (.slice e)) (hi : (P.info? e).map (fun i => (i.zero, i.size, i.bytes)) = some (some z, k, bytes)) (hz : z.cells.size = k) (hk : 0 < k)
    (hown : wr.ownsRow B e k v n l) (hb : Below B w0 wr) (hB : B ≤ w0.heap.size)
    (hg : o.guard = none) (hop : o.op = Op.call { callee := Callee.builtin Builtin.append, args := #[s, xo], argTypes := #[t, t] })
    (hs : a.eval s = v) (hx : a.eval xo = .slice (some ⟨wr.heap.size, 0, none⟩) 1 1) (hxl : x.length = k) (h1 : ∀ u ∈ x, u.oneCell' = true)
    (hlen : n + 1 ≤ maxLen) (hby : (n + 1) * bytes ≤ 140737488355328)
    (hK : ∀ v' w1, w1.ownsRow B e k v' (n + 1) (l ++ x) → Below B w0 w1 → wr.grownBy w1 v.ownBlock → wr.heap.size < w1.heap.size → (∀ g, v'.ownBlock = some g → v.ownBlock = some g ∨ wr.heap.size ≤ g) → wpList P ops Q rest (a.put o.dst v') w1) :
    wpList P ops Q (o :: rest) a (wr.alloc (.cells x.toArray ty)) := by
  obtain ⟨i, hi1, hi2, hi3, hi4⟩ := info_parts hi
  have hsz := hb.size
  refine wpList_append_own_at _ hg s xo t hop B e i z k bytes ht hi1 hi2 hi3 hi4 hz hk v n l hs (hown.alloc _) ⟨wr.heap.size, 0, none⟩ 1 1 x hx (by rw [Nat.one_mul]; exact hxl) ?_ h1 hlen hby (by simp; omega) ?_
  · intro j u hj
    rw [Addr.add_lit, Nat.zero_add]
    exact cell_new wr x.toArray ty j u (by simpa using hj)
  · intro v' w1 h2 h3 _ h5
    have h4 := h3.size
    simp only [World.size_alloc] at h4
    refine hK v' w1 h2 ((hb.alloc (by omega) _).grown h3 (by simp; omega) fun k hk => (hown.lt k hk).1) ?_ (by omega) ?_
    · exact ⟨h3.os, h3.tape, h3.output, by omega, fun k hk hne => (h3.block k (by simp; omega) hne).trans (Below.heap_alloc wr _ k hk)⟩
    · intro g hg
      rcases h5 with h5 | h5
      · exact .inl (h5 ▸ hg)
      · rw [h5] at hg; simp at hg; omega
end Go.Proofs.YtmjgdnpfgkpaoaaGreatDoor
namespace Go.Proofs.YtmjgdnpfgkpaoaaGreatDoor

structure Rep where
  server : Int
  ballot : Int
  value : ByteArray
def repC (r : Rep) : List Value := [.int .i64 r.server, .int .i64 r.ballot, .string r.value]
theorem repC_len (r : Rep) : (repC r).length = 3 := rfl

/-- a report that is not allowed behind those of some servers -/
def badR (ballot : Int) (seen : BitVec 16) (r : Rep) : Bool := decide (r.server < 0) || decide (12 ≤ r.server) || decide (r.ballot < 0) || decide (ballot ≤ r.ballot) || hasB seen r.server.toNat
def seeR (seen : BitVec 16) (r : Rep) : BitVec 16 := seen ||| bitS r.server.toNat
/-- some report is not allowed -/
def invR (ballot : Int) : BitVec 16 → List Rep → Bool
  | _, [] => false
  | s, r :: l => badR ballot s r || invR ballot (seeR s r) l
def seenR (l : List Rep) : BitVec 16 := l.foldl seeR 0#16
def stepR (b : Int × ByteArray) (r : Rep) : Int × ByteArray := if b.1 < r.ballot then (r.ballot, r.value) else b
def bestR (l : List Rep) : Int × ByteArray := l.foldl stepR (0, ⟨#[]⟩)

def pickS (read : List (BitVec 16)) (ballot : Int) (l : List Rep) : ByteArray × Int :=
  if ballot < 1 then (⟨#[]⟩, 1) else if invR ballot 0#16 l then (⟨#[]⟩, 1) else if accS read (seenR l) = false then (⟨#[]⟩, 10) else if (bestR l).1 = 0 then (⟨#[]⟩, 4) else ((bestR l).2, 0)

theorem seenR_take {l : List Rep} {k : Nat} {r : Rep} (h : l[k]? = some r) : seenR (l.take (k + 1)) = seeR (seenR (l.take k)) r := by
  unfold seenR; rw [List.take_add_one, h]; simp
theorem bestR_take {l : List Rep} {k : Nat} {r : Rep} (h : l[k]? = some r) : bestR (l.take (k + 1)) = stepR (bestR (l.take k)) r := by
  unfold bestR; rw [List.take_add_one, h]; simp
theorem invR_app (b : Int) : ∀ (p q : List Rep) (s : BitVec 16), invR b s (p ++ q) = (invR b s p || invR b (p.foldl seeR s) q) := by
  intro p
  induction p with
  | nil => intro q s; simp [invR]
  | cons r p ih => intro q s; rw [List.cons_append, invR, invR, ih, List.foldl_cons, Bool.or_assoc]
theorem invR_take {b : Int} {l : List Rep} {k : Nat} {r : Rep} (h : l[k]? = some r) (h0 : invR b 0#16 (l.take k) = false) :
    invR b 0#16 (l.take (k + 1)) = badR b (seenR (l.take k)) r ∧ (badR b (seenR (l.take k)) r = true → invR b 0#16 l = true) := by
  have e : invR b 0#16 (l.take (k + 1)) = badR b (seenR (l.take k)) r := by
    rw [List.take_add_one, h, invR_app, h0]
    simp [invR, seenR]
  refine ⟨e, fun hb => ?_⟩
  rw [← List.take_append_drop (k + 1) l, invR_app, e, hb]; rfl
/-- in an allowed list the servers are in range, and the ballots not negative -/
theorem invR_ok {b : Int} : ∀ {l : List Rep} {s : BitVec 16}, invR b s l = false → ∀ r ∈ l, 0 ≤ r.server ∧ r.server < 12 ∧ 0 ≤ r.ballot ∧ r.ballot < b := by
  intro l
  induction l with
  | nil => intro s _ r hr; cases hr
  | cons x l ih =>
    intro s h r hr
    rw [invR, Bool.or_eq_false_iff] at h
    rcases List.mem_cons.1 hr with rfl | hr
    · have := h.1
      unfold badR at this
      simp only [Bool.or_eq_false_iff, decide_eq_false_iff_not] at this
      omega
    · exact ih h.2 r hr
theorem bestR_ge (l : List Rep) : 0 ≤ (bestR l).1 := by
  unfold bestR
  have : ∀ (l : List Rep) (b : Int × ByteArray), 0 ≤ b.1 → 0 ≤ (l.foldl stepR b).1 := by
    intro l
    induction l with
    | nil => intro b h; exact h
    | cons r l ih =>
      intro b h
      rw [List.foldl_cons]
      apply ih
      unfold stepR
      split
      · show 0 ≤ r.ballot; omega
      · exact h
  exact this l _ (by decide)
end Go.Proofs.YtmjgdnpfgkpaoaaGreatDoor
namespace Go.Proofs.YtmjgdnpfgkpaoaaGreatDoor
open Go.RowKit Go.Shelf

/-- a slice of lists of sets -/
def RdSS (w : World) (a : Option Addr) (n c : Nat) (Ls : List (List (BitVec 16))) : Prop :=
  ∃ vs : List Value, Rd w a n c vs ∧ vs.length = Ls.length ∧ ∀ (i : Nat) (L : List (BitVec 16)), Ls[i]? = some L → ∃ a' n' c', vs[i]? = some (Value.slice a' n' c') ∧ Rd w a' n' c' (L.map setV2)
theorem RdSS.below {w w' : World} {a : Option Addr} {n c : Nat} {Ls : List (List (BitVec 16))} (h : RdSS w a n c Ls) (hb : Below w.heap.size w w') : RdSS w' a n c Ls := by
  obtain ⟨vs, h1, h2, h3⟩ := h
  refine ⟨vs, h1.below hb, h2, fun i L hi => ?_⟩
  obtain ⟨a', n', c', e, hr⟩ := h3 i L hi
  exact ⟨a', n', c', e, hr.below hb⟩
theorem RdSS.len {w : World} {a : Option Addr} {n c : Nat} {Ls : List (List (BitVec 16))} (h : RdSS w a n c Ls) : Ls.length = n ∧ n ≤ c ∧ c ≤ 2 ^ 63 - 1 := by
  obtain ⟨vs, h1, h2, _⟩ := h
  have := h1.len; have := h1.le; have h3 := h1.max; unfold maxLen at h3
  omega
theorem RdSS.get {w : World} {a : Option Addr} {n c : Nat} {Ls : List (List (BitVec 16))} (h : RdSS w a n c Ls) {i : Nat} {L : List (BitVec 16)} (hi : Ls[i]? = some L) :
    ∃ b o a' n' c', a = some ⟨b, o, none⟩ ∧ w.cell? ⟨b, o + i, none⟩ = some (.slice a' n' c') ∧ Rd w a' n' c' (L.map setV2) := by
  obtain ⟨vs, h1, h2, h3⟩ := h
  obtain ⟨a', n', c', e, hr⟩ := h3 i L hi
  have hlt := (List.getElem?_eq_some_iff.1 e).1
  obtain ⟨b, o, ha, hc⟩ := h1.at' (by have := h1.len; omega)
  exact ⟨b, o, a', n', c', ha, hc i _ e, hr⟩

/-- what single.check finds -/
def hasZ (f : List (BitVec 16)) : Bool := f.any fun x => 0#16 == x
def offB (m : Nat) (f : List (BitVec 16)) : Bool := shrS (supS f) m != 0#16
def chkS (n : Int) (Ls : List (List (BitVec 16))) : Int :=
  if n < 1 ∨ 12 < n then 7 else if firstE (fun j => valS (Ls.getD j [])) Ls.length ≠ 0 then firstE (fun j => valS (Ls.getD j [])) Ls.length
  else if Ls.any (offB n.toNat) then 7 else if Ls.any hasZ then 9 else 0

theorem anyL_hit {α : Type} {p : α → Bool} {l : List α} {k : Nat} {x : α} (h : l[k]? = some x) (hp : p x = true) : l.any p = true :=
  List.any_eq_true.2 ⟨x, List.mem_of_getElem? h, hp⟩
theorem anyL_none {α : Type} {p : α → Bool} {l : List α} (h : ∀ (j : Nat) (x : α), l[j]? = some x → p x = false) : l.any p = false := by
  rw [Bool.eq_false_iff]
  intro hc
  obtain ⟨x, hx, hp⟩ := List.any_eq_true.1 hc
  obtain ⟨j, hj⟩ := List.mem_iff_getElem?.1 hx
  rw [h j x hj] at hp; cases hp

set_option maxRecDepth 100000 in
set_option maxHeartbeats 2000000 in
theorem check_c (nn : Int) (Ls : List (List (BitVec 16))) (a : Option Addr) (n c : Nat) (w : World) (h : RdSS w a n c Ls) :
    Calls Tryz.prog 58 #[.int .i64 nn, .slice a n c] w fun e w' => e = .returned (.int .i64 (chkS nn Ls)) ∧ Below w.heap.size w w' := by
  obtain ⟨hnl, hle, hm⟩ := h.len
  have HR := Lib.hid h
  have HN := Lib.hid hnl
  clear h hnl
  by_cases h1 : nn < 1
  · have hV : Hid (chkS nn Ls = 7) := by show _ = _; unfold chkS; rw [if_pos (.inl h1)]
    go_enter Tryz.func58, Tryz.ntmps58
    go_wp2_with fail
    go_ret
    exact ⟨by rw [hV.out]; rfl, Below.refl _ _⟩
  · by_cases h2 : 12 < nn
    · have hV : Hid (chkS nn Ls = 7) := by show _ = _; unfold chkS; rw [if_pos (.inr h2)]
      go_enter Tryz.func58, Tryz.ntmps58
      go_wp2_with fail
      go_ret
      exact ⟨by rw [hV.out]; rfl, Below.refl _ _⟩
    · obtain ⟨m, rfl⟩ := Int.eq_ofNat_of_zero_le (by omega : 0 ≤ nn)
      have hC : Hid (chkS m Ls = if firstE (fun j => valS (Ls.getD j [])) Ls.length ≠ 0 then firstE (fun j => valS (Ls.getD j [])) Ls.length
          else if Ls.any (offB m) then 7 else if Ls.any hasZ then 9 else 0) := by
        show _ = _; unfold chkS; rw [if_neg (by omega)]; rfl
      go_enter Tryz.func58, Tryz.ntmps58
      go_wp2_with fail
      go_loopw [20] (fun i wr => ∃ k : Nat, k ≤ n ∧ i = .int .i64 k ∧ Hid (∀ j, j < k → valS (Ls.getD j []) = 0) ∧ Below w.heap.size w wr) (fun i _ => n - (intOf i).toNat)
      case atStart => exact ⟨0, Nat.zero_le _, rfl, Lib.hid (fun j hj => by omega), Below.refl _ _⟩
      case round =>
        obtain ⟨k, hk, rfl, hno, hb⟩ := hrel
        by_cases hlt : k < n
        · obtain ⟨L, hL⟩ : ∃ L, Ls[k]? = some L := ⟨Ls[k]'(by have := HN.out; omega), List.getElem?_eq_getElem _⟩
          have hgd : Ls.getD k [] = L := by simp [List.getD, hL]
          obtain ⟨b, o, a', n', c', ha, hc, hr⟩ := (HR.out.below hb).get hL
          subst ha
          have HV := Lib.hid (valid_c L a' n' c' wr hr)
          by_cases hv : valS L = 0
          · have hno' : Hid (∀ j, j < k + 1 → valS (Ls.getD j []) = 0) := Lib.hid (fun j hj => by
              by_cases h1 : j < k
              · exact hno.out j h1
              · obtain rfl : j = k := by omega
                rw [hgd]; exact hv)
            rw [hv] at HV
            clear hno hL hgd hr hv
            go_wp2_with fail
            refine HV.out.mono ?_
            rintro e w1 ⟨rfl, hb2⟩
            have hb3 := Below.next hb hb2
            clear hb hb2
            go_wp2_with fail
            go_roundw
            case rel => exact ⟨k + 1, by omega, by go_num, hno', hb3⟩
            case measure => simp [intOf]; omega
          · have hE : Hid (chkS m Ls = valS L) := by
              show _ = _
              have := firstE_hit (fun j => valS (Ls.getD j [])) Ls.length k (by have := HN.out; omega) hno.out (by show valS (Ls.getD k []) ≠ 0; rw [hgd]; exact hv)
              rw [hC.out, this, hgd, if_pos hv]
            obtain ⟨v, hvv⟩ : ∃ v, valS L = v := ⟨_, rfl⟩
            rw [hvv] at HV hE hv
            have hv1 : (v != 0) = true := by simpa using hv
            clear hno hL hgd hr hv hvv
            go_wp2_with fail
            refine HV.out.mono ?_
            rintro e w1 ⟨rfl, hb2⟩
            have hb3 := Below.next hb hb2
            clear hb hb2
            go_wp2_with fail
            go_ret
            exact ⟨by rw [hE.out]; rfl, hb3⟩
        · have hF : Hid (firstE (fun j => valS (Ls.getD j [])) Ls.length = 0) := firstE_none _ _ (fun j hj => hno.out j (by have := HN.out; omega))
          have hC2 : Hid (chkS m Ls = if Ls.any (offB m) then 7 else if Ls.any hasZ then 9 else 0) := by
            show _ = _; rw [hC.out, hF.out]; rfl
          clear hno hF hC
          go_wp2_with fail
          go_loopw [32] (fun i wr => ∃ k : Nat, k ≤ n ∧ i = .int .i64 k ∧ Hid (∀ (j : Nat) (L : List (BitVec 16)), j < k → Ls[j]? = some L → offB m L = false) ∧ Below w.heap.size w wr) (fun i _ => n - (intOf i).toNat)
          case atStart => exact ⟨0, Nat.zero_le _, rfl, Lib.hid (fun j L hj => by omega), hb⟩
          case round =>
            clear hb
            obtain ⟨k, hk, rfl, hno, hb⟩ := hrel
            by_cases hlt2 : k < n
            · obtain ⟨L, hL⟩ : ∃ L, Ls[k]? = some L := ⟨Ls[k]'(by have := HN.out; omega), List.getElem?_eq_getElem _⟩
              obtain ⟨b, o, a', n', c', ha, hc, hr⟩ := (HR.out.below hb).get hL
              subst ha
              have HV := Lib.hid (support_c L a' n' c' wr hr)
              cases ho : offB m L
              · have hno' : Hid (∀ (j : Nat) (L : List (BitVec 16)), j < k + 1 → Ls[j]? = some L → offB m L = false) := Lib.hid (fun j L' hj hj' => by
                  by_cases h1 : j < k
                  · exact hno.out j L' h1 hj'
                  · obtain rfl : j = k := by omega
                    rw [hL] at hj'; cases hj'; exact ho)
                unfold offB at ho
                obtain ⟨sv, hsv⟩ : ∃ s, supS L = s := ⟨_, rfl⟩
                rw [hsv] at HV ho
                clear hno hL hr hsv
                go_wp2_with fail
                refine HV.out.mono ?_
                rintro e w1 ⟨rfl, rfl⟩
                go_wp2_with fail
                go_roundw
                case rel => exact ⟨k + 1, by omega, by go_num, hno', hb⟩
                case measure => simp [intOf]; omega
              · have hE : Hid (chkS m Ls = 7) := by show _ = _; rw [hC2.out, if_pos (anyL_hit hL ho)]
                unfold offB at ho
                obtain ⟨sv, hsv⟩ : ∃ s, supS L = s := ⟨_, rfl⟩
                rw [hsv] at HV ho
                clear hno hL hr hsv
                go_wp2_with fail
                refine HV.out.mono ?_
                rintro e w1 ⟨rfl, rfl⟩
                go_wp2_with fail
                go_ret
                exact ⟨by rw [hE.out]; rfl, hb⟩
            · have hC3 : Hid (chkS m Ls = if Ls.any hasZ then 9 else 0) := by
                show _ = _; rw [hC2.out, anyL_none (fun j L hL => hno.out j L (by have := (List.getElem?_eq_some_iff.1 hL).1; have := HN.out; omega) hL)]; rfl
              clear hno hC2
              go_wp2_with fail
              go_loopw [44] (fun i wr => ∃ k : Nat, k ≤ n ∧ i = .int .i64 k ∧ Hid (∀ (j : Nat) (L : List (BitVec 16)), j < k → Ls[j]? = some L → hasZ L = false) ∧ Below w.heap.size w wr) (fun i _ => n - (intOf i).toNat)
              case atStart => exact ⟨0, Nat.zero_le _, rfl, Lib.hid (fun j L hj => by omega), hb⟩
              case round =>
                clear hb
                obtain ⟨k, hk, rfl, hno, hb⟩ := hrel
                by_cases hlt3 : k < n
                · obtain ⟨L, hL⟩ : ∃ L, Ls[k]? = some L := ⟨Ls[k]'(by have := HN.out; omega), List.getElem?_eq_getElem _⟩
                  obtain ⟨b, o, a', n', c', ha, hc, hr⟩ := (HR.out.below hb).get hL
                  subst ha
                  have HV : Hid (Calls Tryz.prog 91 #[.slice a' n' c', .int .u16 0] wr fun e w' => e = .returned (.bool (hasZ L)) ∧ w' = wr) := Lib.hid (containsv_c L 0#16 a' n' c' wr hr)
                  cases ho : hasZ L
                  · have hno' : Hid (∀ (j : Nat) (L : List (BitVec 16)), j < k + 1 → Ls[j]? = some L → hasZ L = false) := Lib.hid (fun j L' hj hj' => by
                      by_cases h1 : j < k
                      · exact hno.out j L' h1 hj'
                      · obtain rfl : j = k := by omega
                        rw [hL] at hj'; cases hj'; exact ho)
                    rw [ho] at HV
                    clear hno hL hr ho
                    go_wp2_with fail
                    refine HV.out.mono ?_
                    rintro e w1 ⟨rfl, rfl⟩
                    go_wp2_with fail
                    go_roundw
                    case rel => exact ⟨k + 1, by omega, by go_num, hno', hb⟩
                    case measure => simp [intOf]; omega
                  · have hE : Hid (chkS m Ls = 9) := by show _ = _; rw [hC3.out, if_pos (anyL_hit hL ho)]
                    rw [ho] at HV
                    clear hno hL hr ho
                    go_wp2_with fail
                    refine HV.out.mono ?_
                    rintro e w1 ⟨rfl, rfl⟩
                    go_wp2_with fail
                    go_ret
                    exact ⟨by rw [hE.out]; rfl, hb⟩
                · have hE : Hid (chkS m Ls = 0) := by
                    show _ = _; rw [hC3.out, anyL_none (fun j L hL => hno.out j L (by have := (List.getElem?_eq_some_iff.1 hL).1; have := HN.out; omega) hL)]; rfl
                  clear hno
                  go_wp2_with fail
                  go_ret
                  exact ⟨by rw [hE.out]; rfl, hb⟩

/-- the first disjoint pair -/
def disS (f g : List (BitVec 16)) : Option (BitVec 16 × BitVec 16) :=
  (f.flatMap fun x => g.map fun y => (x, y)).find? fun p => p.1 &&& p.2 == 0#16
theorem dis_row (x : BitVec 16) (g : List (BitVec 16)) (k : Nat) (h : ∀ j, j < k → (x &&& g.getD j 0#16 == 0#16) = false) (hk : k ≤ g.length) : (g.map fun y => (x, y)).find? (fun p => p.1 &&& p.2 == 0#16) = ((g.drop k).map fun y => (x, y)).find? (fun p => p.1 &&& p.2 == 0#16) := by
  have e : (g.map fun y => (x, y)) = ((g.take k).map fun y => (x, y)) ++ ((g.drop k).map fun y => (x, y)) := by rw [← List.map_append, List.take_append_drop]
  rw [e, List.find?_append]
  rw [List.find?_eq_none.2]
  · rfl
  · intro p hp
    obtain ⟨y, hy, rfl⟩ := List.mem_map.1 hp
    obtain ⟨j, hj, rfl⟩ := List.mem_iff_getElem.1 hy
    rw [List.length_take] at hj
    have := h j (by omega)
    rw [getD_at (by omega)] at this
    rw [List.getElem_take]
    simpa using this
theorem disS_drop (f g : List (BitVec 16)) (k : Nat) (h : ∀ j, j < k → ∀ i, i < g.length → (f.getD j 0#16 &&& g.getD i 0#16 == 0#16) = false) (hk : k ≤ f.length) : disS f g = disS (f.drop k) g := by
  unfold disS
  have e : (f.flatMap fun x => g.map fun y => (x, y)) = ((f.take k).flatMap fun x => g.map fun y => (x, y)) ++ ((f.drop k).flatMap fun x => g.map fun y => (x, y)) := by rw [← List.flatMap_append, List.take_append_drop]
  rw [e, List.find?_append]
  rw [List.find?_eq_none.2]
  · rfl
  · intro p hp
    obtain ⟨x, hx, hp⟩ := List.mem_flatMap.1 hp
    obtain ⟨y, hy, rfl⟩ := List.mem_map.1 hp
    obtain ⟨j, hj, rfl⟩ := List.mem_iff_getElem.1 hx
    obtain ⟨i, hi, rfl⟩ := List.mem_iff_getElem.1 hy
    rw [List.length_take] at hj
    have := h j (by omega) i hi
    rw [getD_at (by omega), getD_at hi] at this
    rw [List.getElem_take]
    simpa using this
theorem disS_none (f g : List (BitVec 16)) (h : ∀ j, j < f.length → ∀ i, i < g.length → (f.getD j 0#16 &&& g.getD i 0#16 == 0#16) = false) : disS f g = none := by
  rw [disS_drop f g f.length h (Nat.le_refl _), List.drop_length]; rfl
theorem disS_hit (f g : List (BitVec 16)) (k i : Nat) (hk : k < f.length) (hi : i < g.length) (h : ∀ j, j < k → ∀ i, i < g.length → (f.getD j 0#16 &&& g.getD i 0#16 == 0#16) = false) (h2 : ∀ j, j < i → (f.getD k 0#16 &&& g.getD j 0#16 == 0#16) = false)
    (h3 : (f.getD k 0#16 &&& g.getD i 0#16 == 0#16) = true) : disS f g = some (f.getD k 0#16, g.getD i 0#16) := by
  rw [disS_drop f g k h (by omega)]
  unfold disS
  rw [List.drop_eq_getElem_cons hk, List.flatMap_cons, List.find?_append, ← getD_at hk, dis_row _ _ i h2 (by omega), List.drop_eq_getElem_cons hi, ← getD_at hi, List.map_cons, List.find?_cons]
  simp only [h3]
  rfl
def disT (f g : List (BitVec 16)) : BitVec 16 × BitVec 16 × Int := match disS f g with | some (x, y) => (x, y, 0) | none => (0#16, 0#16, 13)

set_option maxRecDepth 100000 in
set_option maxHeartbeats 2000000 in
theorem disjoint_c (f g : List (BitVec 16)) (a : Option Addr) (n c : Nat) (a2 : Option Addr) (n2 c2 : Nat) (w : World) (h : Rd w a n c (f.map setV2)) (h2 : Rd w a2 n2 c2 (g.map setV2)) :
    Calls Tryz.prog 64 #[.slice a n c, .slice a2 n2 c2] w fun e w' => e = .returned (.tuple #[.int .u16 (U (disT f g).1), .int .u16 (U (disT f g).2.1), .int .i64 (disT f g).2.2]) ∧ w' = w := by
  have hnl : f.length = n := by have := h.len; simp at this; omega
  have hnl2 : g.length = n2 := by have := h2.len; simp at this; omega
  have hm := h.max
  have hle := h.le
  have hm2 := h2.max
  have hle2 := h2.le
  unfold maxLen at hm hm2
  have HR := Lib.hid h
  have HN := Lib.hid hnl
  have HR2 := Lib.hid h2
  have HN2 := Lib.hid hnl2
  clear h hnl h2 hnl2
  go_enter Tryz.func64, Tryz.ntmps64
  go_wp2_with fail
  go_loop [13] (fun i => ∃ k : Nat, k ≤ n ∧ i = .int .i64 k ∧ Hid (∀ j, j < k → ∀ i, i < g.length → (f.getD j 0#16 &&& g.getD i 0#16 == 0#16) = false)) (fun i => n - (intOf i).toNat)
  case atStart => exact ⟨0, Nat.zero_le _, rfl, Lib.hid (fun j hj => by omega)⟩
  case round =>
    obtain ⟨k, hk, rfl, hno⟩ := hrel
    by_cases hlt : k < n
    · obtain ⟨b, o, ha, hcell⟩ := HR.out.at' (by omega)
      have hc := hcell k _ (at_cell (by have := HN.out; omega))
      obtain ⟨x, hx⟩ : ∃ x, f.getD k 0#16 = x := ⟨_, rfl⟩
      rw [hx] at hc
      have HX := Lib.hid hx
      subst ha
      clear hcell hx
      go_wp2_with fail
      go_loop [19] (fun i => ∃ j : Nat, j ≤ n2 ∧ i = .int .i64 j ∧ Hid (∀ i, i < j → (x &&& g.getD i 0#16 == 0#16) = false)) (fun i => n2 - (intOf i).toNat)
      case atStart => exact ⟨0, Nat.zero_le _, rfl, Lib.hid (fun j hj => by omega)⟩
      case round =>
        obtain ⟨j, hj, rfl, hno2⟩ := hrel
        by_cases hlt2 : j < n2
        · obtain ⟨b2, o2, ha2, hcell2⟩ := HR2.out.at' (by omega)
          have hc2 := hcell2 j _ (at_cell (by have := HN2.out; omega))
          obtain ⟨y, hy⟩ : ∃ y, g.getD j 0#16 = y := ⟨_, rfl⟩
          rw [hy] at hc2
          subst ha2
          cases hq : (x &&& y == 0#16)
          · have hno3 : Hid (∀ i, i < j + 1 → (x &&& g.getD i 0#16 == 0#16) = false) := Lib.hid (fun i hi => by
              by_cases h1 : i < j
              · exact hno2.out i h1
              · obtain rfl : i = j := by omega
                rw [hy]; exact hq)
            clear hcell2 hno2 hy
            go_wp2_with fail
            go_round
            case rel => exact ⟨j + 1, by omega, by go_num, hno3⟩
            case measure => simp [intOf]; omega
          · have hD : Hid (disT f g = (x, y, 0)) := by
              show _ = _
              unfold disT
              rw [disS_hit f g k j (by have := HN.out; omega) (by have := HN2.out; omega) hno.out (by rw [HX.out]; exact hno2.out) (by rw [HX.out, hy]; exact hq), HX.out, hy]
            clear hcell2 hno2 hy hno
            go_wp2_with fail
            exact bodyPost_ret (v := .tuple #[.int .u16 (U x), .int .u16 (U y), .int .i64 0]) (by simp [results, Tryz.results64, go_sem]) rfl ⟨by rw [hD.out], rfl⟩
        · have hno3 : Hid (∀ j, j < k + 1 → ∀ i, i < g.length → (f.getD j 0#16 &&& g.getD i 0#16 == 0#16) = false) := Lib.hid (fun j' hj' i hi => by
            by_cases h1 : j' < k
            · exact hno.out j' h1 i hi
            · obtain rfl : j' = k := by omega
              rw [HX.out]; exact hno2.out i (by have := HN2.out; omega))
          clear hno hno2
          go_wp2_with fail
          go_round
          case rel => exact ⟨k + 1, by omega, by go_num, hno3⟩
          case measure => simp [intOf]; omega
    · have hD : Hid (disT f g = (0#16, 0#16, 13)) := by
        show _ = _
        unfold disT
        rw [disS_none f g (fun j hj => hno.out j (by have := HN.out; omega))]
      clear hno
      go_wp2_with fail
      exact bodyPost_ret (v := .tuple #[.int .u16 0, .int .u16 0, .int .i64 13]) (by simp [results, Tryz.results64, go_sem]) rfl ⟨by rw [hD.out]; rfl, rfl⟩
end Go.Proofs.YtmjgdnpfgkpaoaaGreatDoor
namespace Go.Proofs.YtmjgdnpfgkpaoaaGreatDoor

structure Ev where
  kind : Int
  server : Int
  ballot : Int
  value : ByteArray
  deriving DecidableEq
def evC (e : Ev) : List Value := [.int .i64 e.kind, .int .i64 e.server, .int .i64 e.ballot, .string e.value]
theorem evC_len (e : Ev) : (evC e).length = 4 := rfl
theorem ev_one (l : List Ev) : ∀ u ∈ l.flatMap evC, u.oneCell' = true := by
  intro u hu
  obtain ⟨r, _, hu⟩ := List.mem_flatMap.1 hu
  simp only [evC, List.mem_cons, List.not_mem_nil, or_false] at hu
  rcases hu with rfl | rfl | rfl | rfl <;> rfl

/-- the value of a ballot -/
def valB (b : Nat) : ByteArray := ⟨(118 :: Lib.decDigits b).toArray⟩
def evP (b s : Nat) : Ev := ⟨1, s, b, ⟨#[]⟩⟩
def evA (b s : Nat) : Ev := ⟨2, s, b, valB b⟩
def blkS (q w : BitVec 16) (b : Nat) : List Ev := (memS q).map (evP b) ++ (memS w).map (evA b)
/-- the events of the first k ballots -/
def atkTo (q0 r w : BitVec 16) : Nat → List Ev
  | 0 => []
  | 1 => blkS q0 w 1
  | _ => blkS q0 w 1 ++ blkS r w 2
def attS (read write : List (BitVec 16)) (n : Int) : List Ev × Int :=
  if chkS n [read, write] ≠ 0 then ([], chkS n [read, write]) else match disS read write with
  | none => ([], 13)
  | some (r, w) => (atkTo (read.getD 0 0#16) r w 2, 0)
theorem blk_len (q w : BitVec 16) (b : Nat) : (blkS q w b).length = cnt q + cnt w := by unfold blkS cnt; simp
theorem atkTo_succ (q0 r w : BitVec 16) (k : Nat) (hk : k < 2) : atkTo q0 r w (k + 1) = atkTo q0 r w k ++ blkS (if k = 0 then q0 else r) w (k + 1) := by
  match k, hk with
  | 0, _ => simp [atkTo]
  | 1, _ => simp [atkTo]
theorem dis_mem {f g : List (BitVec 16)} {x y : BitVec 16} (h : disS f g = some (x, y)) : x ∈ f ∧ y ∈ g ∧ (x &&& y == 0#16) = true := by
  unfold disS at h
  have h1 := List.mem_of_find?_eq_some h
  have h2 := List.find?_some h
  obtain ⟨x', hx, hp⟩ := List.mem_flatMap.1 h1
  obtain ⟨y', hy, e⟩ := List.mem_map.1 hp
  cases e
  exact ⟨hx, hy, h2⟩
theorem mem_take_succ {α : Type} {f : Nat → α} {q : BitVec 16} {k i : Nat} (h : (memS q)[k]? = some i) : ((memS q).take (k + 1)).map f = ((memS q).take k).map f ++ [f i] := by
  rw [List.take_add_one, h]; simp
end Go.Proofs.YtmjgdnpfgkpaoaaGreatDoor
namespace Go.Proofs
open Go.Shelf

def Tryz.lays171_ren : Go.Shelf.Ren := ⟨fun | 171 => 66 | 243 => 97 | 246 => 129 | 283 => 146 | 284 => 147 | 285 => 148 | 286 => 149 | 129 => 128 | 317 => 151 | 318 => 152 | 319 => 153 | 320 => 154 | 337 => 155 | 338 => 156 | n => n, fun | 3 => 3 | 9 => 9 | 2 => 2 | 4 => 4 | 171 => 201 | 0 => 0 | 53 => 189 | 37 => 44 | 5 => 5 | 173 => 203 | 212 => 210 | 51 => 129 | 20 => 20 | 213 => 211 | 46 => 130 | 232 => 128 | 233 => 212 | n => n, fun | 17 => 1 | 18 => 0 | 19 => 2 | n => n⟩

theorem Tryz.lays171 : Go.Proofs.Lays.n171 Tryz.prog Tryz.lays171_ren := {
  mixed := by kernel_rfl
  f129 := Tryz.func128.trans (congrArg some (by kernel_rfl))
  f171 := Tryz.func66.trans (congrArg some (by kernel_rfl))
  f243 := Tryz.func97.trans (congrArg some (by kernel_rfl))
  f246 := Tryz.func129.trans (congrArg some (by kernel_rfl))
  f283 := Tryz.func146.trans (congrArg some (by kernel_rfl))
  f284 := Tryz.func147.trans (congrArg some (by kernel_rfl))
  f285 := Tryz.func148.trans (congrArg some (by kernel_rfl))
  f286 := Tryz.func149.trans (congrArg some (by kernel_rfl))
  f317 := Tryz.func151.trans (congrArg some (by kernel_rfl))
  f318 := Tryz.func152.trans (congrArg some (by kernel_rfl))
  f319 := Tryz.func153.trans (congrArg some (by kernel_rfl))
  f320 := Tryz.func154.trans (congrArg some (by kernel_rfl))
  f337 := Tryz.func155.trans (congrArg some (by kernel_rfl))
  f338 := Tryz.func156.trans (congrArg some (by kernel_rfl))
  t0 := Tryz.underlying0
  a0 := Tryz.isAgg0
  z0 := Tryz.sizeOf0
  v0 := Tryz.zeroValue0
  t2 := Tryz.underlying2
  a2 := Tryz.isAgg2
  z2 := Tryz.sizeOf2
  v2 := Tryz.zeroValue2
  t3 := Tryz.underlying3
  a3 := Tryz.isAgg3
  z3 := Tryz.sizeOf3
  v3 := Tryz.zeroValue3
  t4 := Tryz.underlying4
  a4 := Tryz.isAgg4
  z4 := Tryz.sizeOf4
  v4 := Tryz.zeroValue4
  t5 := Tryz.underlying5
  a5 := Tryz.isAgg5
  z5 := Tryz.sizeOf5
  v5 := Tryz.zeroValue5
  t9 := Tryz.underlying9
  a9 := Tryz.isAgg9
  z9 := Tryz.sizeOf9
  v9 := Tryz.zeroValue9
  t20 := Tryz.underlying20
  a20 := Tryz.isAgg20
  z20 := Tryz.sizeOf20
  v20 := Tryz.zeroValue20
  t37 := Tryz.underlying44
  a37 := Tryz.isAgg44
  z37 := Tryz.sizeOf44
  v37 := Tryz.zeroValue44
  t46 := Tryz.underlying130
  a46 := Tryz.isAgg130
  z46 := Tryz.sizeOf130
  v46 := Tryz.zeroValue130
  t51 := Tryz.underlying129
  a51 := Tryz.isAgg129
  z51 := Tryz.sizeOf129
  v51 := Tryz.zeroValue129
  t53 := Tryz.underlying189
  a53 := Tryz.isAgg189
  z53 := Tryz.sizeOf189
  v53 := Tryz.zeroValue189
  t171 := Tryz.underlying201
  a171 := Tryz.isAgg201
  z171 := Tryz.sizeOf201
  v171 := Tryz.zeroValue201
  t173 := Tryz.underlying203
  a173 := Tryz.isAgg203
  z173 := Tryz.sizeOf203
  v173 := Tryz.zeroValue203
  t212 := Tryz.underlying210
  a212 := Tryz.isAgg210
  z212 := Tryz.sizeOf210
  v212 := Tryz.zeroValue210
  t213 := Tryz.underlying211
  a213 := Tryz.isAgg211
  z213 := Tryz.sizeOf211
  t232 := Tryz.underlying128
  a232 := Tryz.isAgg128
  z232 := Tryz.sizeOf128
  v232 := Tryz.zeroValue128
  t233 := Tryz.underlying212
  a233 := Tryz.isAgg212
  z233 := Tryz.sizeOf212
  v233 := Tryz.zeroValue212
  g17 := by kernel_rfl
  g18 := by kernel_rfl
  g19 := by kernel_rfl }

open Go.RowKit Go.Sort Go.Lib in
theorem Tryz.strconv_Itoa_small (i : Nat) (hi : i < 100) (w : World) :
    Calls Tryz.prog 66 #[.int .i64 i] w fun e w' => e = .returned (.string ⟨(Lib.decDigits i).toArray⟩) ∧ w' = w := Any.strconv_Itoa_small Tryz.lays171 i hi w

def Tryz.lays190_ren : Go.Shelf.Ren := ⟨fun | 190 => 62 | 125 => 96 | 258 => 95 | 128 => 127 | 129 => 128 | 302 => 118 | 303 => 119 | 304 => 120 | 305 => 121 | 306 => 122 | 307 => 123 | 308 => 124 | 309 => 125 | 310 => 126 | 333 => 140 | 329 => 141 | 330 => 142 | 334 => 143 | 335 => 144 | 336 => 145 | 344 => 150 | n => n, fun | 31 => 41 | 9 => 9 | 3 => 3 | 46 => 130 | 0 => 0 | 51 => 129 | 53 => 189 | 4 => 4 | 183 => 180 | 182 => 179 | 131 => 185 | 5 => 5 | 218 => 195 | 222 => 199 | 228 => 205 | 229 => 206 | n => n, fun | n => n⟩

theorem Tryz.lays190 : Go.Proofs.Lays.n190 Tryz.prog Tryz.lays190_ren := {
  mixed := by kernel_rfl
  f125 := Tryz.func96.trans (congrArg some (by kernel_rfl))
  f128 := Tryz.func127.trans (congrArg some (by kernel_rfl))
  f129 := Tryz.func128.trans (congrArg some (by kernel_rfl))
  f190 := Tryz.func62.trans (congrArg some (by kernel_rfl))
  f258 := Tryz.func95.trans (congrArg some (by kernel_rfl))
  f302 := Tryz.func118.trans (congrArg some (by kernel_rfl))
  f303 := Tryz.func119.trans (congrArg some (by kernel_rfl))
  f304 := Tryz.func120.trans (congrArg some (by kernel_rfl))
  f305 := Tryz.func121.trans (congrArg some (by kernel_rfl))
  f306 := Tryz.func122.trans (congrArg some (by kernel_rfl))
  f307 := Tryz.func123.trans (congrArg some (by kernel_rfl))
  f308 := Tryz.func124.trans (congrArg some (by kernel_rfl))
  f309 := Tryz.func125.trans (congrArg some (by kernel_rfl))
  f310 := Tryz.func126.trans (congrArg some (by kernel_rfl))
  f329 := Tryz.func141.trans (congrArg some (by kernel_rfl))
  f330 := Tryz.func142.trans (congrArg some (by kernel_rfl))
  f333 := Tryz.func140.trans (congrArg some (by kernel_rfl))
  f334 := Tryz.func143.trans (congrArg some (by kernel_rfl))
  f335 := Tryz.func144.trans (congrArg some (by kernel_rfl))
  f336 := Tryz.func145.trans (congrArg some (by kernel_rfl))
  f344 := Tryz.func150.trans (congrArg some (by kernel_rfl))
  t0 := Tryz.underlying0
  a0 := Tryz.isAgg0
  z0 := Tryz.sizeOf0
  v0 := Tryz.zeroValue0
  t3 := Tryz.underlying3
  a3 := Tryz.isAgg3
  z3 := Tryz.sizeOf3
  v3 := Tryz.zeroValue3
  t4 := Tryz.underlying4
  a4 := Tryz.isAgg4
  z4 := Tryz.sizeOf4
  v4 := Tryz.zeroValue4
  t5 := Tryz.underlying5
  a5 := Tryz.isAgg5
  z5 := Tryz.sizeOf5
  v5 := Tryz.zeroValue5
  t9 := Tryz.underlying9
  a9 := Tryz.isAgg9
  z9 := Tryz.sizeOf9
  v9 := Tryz.zeroValue9
  t31 := Tryz.underlying41
  a31 := Tryz.isAgg41
  z31 := Tryz.sizeOf41
  v31 := Tryz.zeroValue41
  t46 := Tryz.underlying130
  a46 := Tryz.isAgg130
  z46 := Tryz.sizeOf130
  v46 := Tryz.zeroValue130
  t51 := Tryz.underlying129
  a51 := Tryz.isAgg129
  z51 := Tryz.sizeOf129
  v51 := Tryz.zeroValue129
  t53 := Tryz.underlying189
  a53 := Tryz.isAgg189
  z53 := Tryz.sizeOf189
  v53 := Tryz.zeroValue189
  t131 := Tryz.underlying185
  a131 := Tryz.isAgg185
  z131 := Tryz.sizeOf185
  v131 := Tryz.zeroValue185
  t182 := Tryz.underlying179
  a182 := Tryz.isAgg179
  z182 := Tryz.sizeOf179
  v182 := Tryz.zeroValue179
  t183 := Tryz.underlying180
  a183 := Tryz.isAgg180
  z183 := Tryz.sizeOf180
  v183 := Tryz.zeroValue180
  t218 := Tryz.underlying195
  a218 := Tryz.isAgg195
  z218 := Tryz.sizeOf195
  v218 := Tryz.zeroValue195
  t222 := Tryz.underlying199
  a222 := Tryz.isAgg199
  z222 := Tryz.sizeOf199
  v222 := Tryz.zeroValue199
  t228 := Tryz.underlying205
  a228 := Tryz.isAgg205
  z228 := Tryz.sizeOf205
  v228 := Tryz.zeroValue205
  t229 := Tryz.underlying206
  a229 := Tryz.isAgg206
  z229 := Tryz.sizeOf206
  v229 := Tryz.zeroValue206 }

open Go.Sort Go.RowKit in
theorem Tryz.slices_Sort_string (blk off cap : Nat) (ss : List (List UInt8)) (w : World) (hH : Holds encStr w blk off ss.toArray) (hblk : blk < w.heap.size) (hsz : ss.length < 4611686018427387904) :
    Calls Tryz.prog 62 #[.slice (some ⟨blk, off, none⟩) ss.length cap] w fun e w' =>
      e = .returned (.tuple #[]) ∧ ∃ n os, w' = grow (putRow encStr (Sort.ahead w n) blk off (ss.mergeSort fun x y => decide (x ≤ y)).toArray) os := Any.slices_Sort_string Tryz.lays190 blk off cap ss w hH hblk hsz

def Tryz.lays194_ren : Go.Shelf.Ren := ⟨fun | 194 => 63 | n => n, fun | 31 => 41 | 9 => 9 | 3 => 3 | 4 => 4 | 0 => 0 | n => n, fun | n => n⟩

theorem Tryz.lays194 : Go.Proofs.Lays.n194 Tryz.prog Tryz.lays194_ren := {
  mixed := by kernel_rfl
  f194 := Tryz.func63.trans (congrArg some (by kernel_rfl))
  t0 := Tryz.underlying0
  a0 := Tryz.isAgg0
  z0 := Tryz.sizeOf0
  v0 := Tryz.zeroValue0
  t3 := Tryz.underlying3
  a3 := Tryz.isAgg3
  z3 := Tryz.sizeOf3
  v3 := Tryz.zeroValue3
  t4 := Tryz.underlying4
  a4 := Tryz.isAgg4
  z4 := Tryz.sizeOf4
  v4 := Tryz.zeroValue4
  t9 := Tryz.underlying9
  a9 := Tryz.isAgg9
  z9 := Tryz.sizeOf9
  v9 := Tryz.zeroValue9
  t31 := Tryz.underlying41
  a31 := Tryz.isAgg41
  z31 := Tryz.sizeOf41
  v31 := Tryz.zeroValue41 }

open Go.RowKit Go.Lib Go.Sort in
theorem Tryz.slices_Compact_string (blk off cap : Nat) (zs : List (List UInt8)) (w : World) (hH : Holds encStr w blk off zs.toArray) (hsz : zs.length ≤ 9223372036854775807) (hcap : zs.length ≤ cap) :
    Calls Tryz.prog 63 #[.slice (some ⟨blk, off, none⟩) zs.length cap] w fun e w' => e = .returned (.slice (some ⟨blk, off, none⟩) (Lib.compact zs).length cap) ∧ ∃ q, w' = putRow encStr (Sort.ahead w q) blk off (Lib.compact zs ++ List.replicate (zs.length - (Lib.compact zs).length) []).toArray := Any.slices_Compact_string Tryz.lays194 blk off cap zs w hH hsz hcap

open Go.RowKit Go.Lib Go.Sort in
theorem Tryz.slices_Compact_string_empty (a : Option Addr) (cap : Nat) (w : World) :
    Calls Tryz.prog 63 #[.slice a 0 cap] w fun e w' => e = .returned (.slice a 0 cap) ∧ w' = w := Any.slices_Compact_string_empty Tryz.lays194 a cap w

open Go.RowKit Go.Sort in
theorem Tryz.slices_Sort_string_none (p : Option Addr) (cap : Nat) (w : World) :
    Calls Tryz.prog 62 #[.slice p 0 cap] w fun e w' => e = .returned (.tuple #[]) ∧ w' = w := Any.slices_Sort_string_none Tryz.lays190 p cap w

end Go.Proofs
namespace Go.Proofs.YtmjgdnpfgkpaoaaGreatDoor
open Go.RowKit Go.Shelf

theorem Tryz.infoEv : (Tryz.prog.info? 68).map (fun i => (i.zero, i.size, i.bytes)) = some (some (.agg #[.int .i64 0, .int .i64 0, .int .i64 0, .string ⟨#[]⟩]), 4, 40) := by kernel_rfl
theorem cat2 (a b : List UInt8) : (⟨a.toArray⟩ : ByteArray) ++ (⟨b.toArray⟩ : ByteArray) = ⟨(a ++ b).toArray⟩ := by
  apply ByteArray.ext
  simp
theorem dec_small (b : Nat) (h : b < 10) : (Lib.decDigits b).length = 1 := by rw [Lib.decDigits_one h]; rfl

set_option maxRecDepth 100000 in
set_option maxHeartbeats 4000000 in
theorem attack_c (read write : List (BitVec 16)) (nn : Int) (a : Option Addr) (n c : Nat) (a2 : Option Addr) (n2 c2 : Nat) (w : World) (h : Rd w a n c (read.map setV2)) (h2 : Rd w a2 n2 c2 (write.map setV2)) (ht : HasTab w) :
    Calls Tryz.prog 24 #[.slice a n c, .slice a2 n2 c2, .int .i64 nn] w fun e w' => ∃ a' c', e = .returned (.tuple #[.slice a' (attS read write nn).1.length c', .int .i64 (attS read write nn).2]) ∧ RdK 4 w' a' (attS read write nn).1.length c' ((attS read write nn).1.flatMap evC) ∧ Below w.heap.size w w' := by
  have hnl : read.length = n := by have := h.len; simp at this; omega
  have HR := Lib.hid h
  have HR2 := Lib.hid h2
  have HN := Lib.hid hnl
  have HT := Lib.hid ht
  have hb0 : Below w.heap.size w (w.alloc (.cells #[.slice a n c, .slice a2 n2 c2] 25)) := (Below.refl _ w).alloc (Nat.le_refl _) _
  have hss : RdSS (w.alloc (.cells #[.slice a n c, .slice a2 n2 c2] 25)) (some ⟨w.heap.size, 0, none⟩) 2 2 [read, write] := by
    refine ⟨[.slice a n c, .slice a2 n2 c2], Rd.lit _ _ _ 2 _ rfl rfl (by decide), rfl, fun i L hi => ?_⟩
    match i, hi with
    | 0, hi => cases hi; exact ⟨a, n, c, rfl, h.below hb0⟩
    | 1, hi => cases hi; exact ⟨a2, n2, c2, rfl, h2.below hb0⟩
    | i + 2, hi => simp at hi
  have HC := Lib.hid (check_c nn [read, write] _ 2 2 _ hss)
  have HB0 := Lib.hid hb0
  clear h h2 hnl ht hss hb0
  by_cases he : chkS nn [read, write] = 0
  · rw [he] at HC
    have HD := Lib.hid (fun w h h2 => disjoint_c read write a n c a2 n2 c2 w h h2)
    cases hd : disS read write with
    | none =>
      have hA : Hid (attS read write nn = ([], 13)) := by show _ = _; unfold attS; rw [if_neg (by rw [he]; decide), hd]
      have hT : disT read write = (0#16, 0#16, 13) := by unfold disT; rw [hd]
      rw [hT] at HD
      clear hT hd he
      go_enter Tryz.func24, Tryz.ntmps24
      go_wp2_with fail
      refine HC.out.mono ?_
      rintro e w1 ⟨rfl, hb1⟩
      have hb2 := Below.next HB0.out (by exact hb1)
      clear hb1
      go_wp2_with fail
      refine (HD.out w1 (HR.out.below hb2) (HR2.out.below hb2)).mono ?_
      rintro e w2 ⟨rfl, rfl⟩
      go_wp2_with fail
      go_ret2
      rw [hA.out]
      exact ⟨_, _, rfl, RdK.none_ _ _, hb2⟩
    | some p =>
      obtain ⟨r, q⟩ := p
      have hA : Hid (attS read write nn = (atkTo (read.getD 0 0#16) r q 2, 0)) := by show _ = _; unfold attS; rw [if_neg (by rw [he]; decide), hd]
      have hT : disT read write = (r, q, 0) := by unfold disT; rw [hd]
      have hn0 : 0 < n := by have := (dis_mem hd).1; have := List.length_pos_of_mem this; have := HN.out; omega
      have hx0 := at_cell (l := read) (k := 0) (by have := HN.out; omega)
      rw [hT] at HD
      obtain ⟨q0, hq0⟩ : ∃ q0, read.getD 0 0#16 = q0 := ⟨_, rfl⟩
      rw [hq0] at hA hx0
      have HX0 := Lib.hid hx0
      clear hT hd he hx0 hq0
      go_enter Tryz.func24, Tryz.ntmps24
      go_wp2_with fail
      refine HC.out.mono ?_
      rintro e w1 ⟨rfl, hb1⟩
      have hb2 := Below.next HB0.out (by exact hb1)
      clear hb1
      go_wp2_with fail
      refine (HD.out w1 (HR.out.below hb2) (HR2.out.below hb2)).mono ?_
      rintro e w2 ⟨rfl, rfl⟩
      obtain ⟨b, o, ha, hcell⟩ := (HR.out.below hb2).at' hn0
      have hc : w2.cell? ⟨b, o, none⟩ = some (.int .u16 (U q0)) := hcell 0 _ HX0.out
      subst ha
      clear hcell HD HC
      go_wp2_with fail
      obtain ⟨W, hW⟩ : ∃ W, w2.alloc (.cells #[.int .u16 (U q0), .int .u16 (U r)] 27) = W := ⟨_, rfl⟩
      obtain ⟨B, hB⟩ : ∃ B, w2.heap.size = B := ⟨_, rfl⟩
      have g0 : W.cell? ⟨B, 0, none⟩ = some (.int .u16 (U q0)) := by rw [← hW, ← hB]; exact cell_new _ _ _ 0 _ rfl
      have g1 : W.cell? ⟨B, 1, none⟩ = some (.int .u16 (U r)) := by rw [← hW, ← hB]; exact cell_new _ _ _ 1 _ rfl
      have hbW : Below w.heap.size w W := by rw [← hW]; exact hb2.alloc hb2.size _
      have G0 := Lib.hid g0
      have G1 := Lib.hid g1
      have HBW := Lib.hid hbW
      rw [hW, hB]
      clear hW hB g0 g1 hbW hc hb2
      go_loopw [12, 43] (fun v i wr => ∃ (k m : Nat), k ≤ 2 ∧ i = .int .i64 k ∧ m ≤ 32 * k ∧ wr.ownsRow W.heap.size 68 4 v m ((atkTo q0 r q k).flatMap evC) ∧ Hid ((atkTo q0 r q k).length = m) ∧ Below W.heap.size W wr) (fun _ i _ => 2 - (intOf i).toNat)
      case atStart => exact ⟨0, 0, by omega, rfl, by omega, World.ownsRow_nil _ _ _ _, rfl, Below.refl _ _⟩
      case round =>
        obtain ⟨k, m, hk, rfl, hm, hown, hml, hb⟩ := hrel
        by_cases hlt : k < 2
        · obtain ⟨x, hx⟩ : ∃ x, (if k = 0 then q0 else r) = x := ⟨_, rfl⟩
          have hc : wr.cell? ⟨B, k, none⟩ = some (.int .u16 (U x)) := by
            rw [← hx]
            match k, hlt with
            | 0, _ => exact (hb.cell (p := ⟨B, 0, none⟩) (cell_lt G0.out)).trans G0.out
            | 1, _ => exact (hb.cell (p := ⟨B, 1, none⟩) (cell_lt G1.out)).trans G1.out
          have hstep := atkTo_succ q0 r q k hlt
          rw [hx] at hstep
          have HST := Lib.hid hstep
          have HTB : Hid (∀ w', Below W.heap.size W w' → HasTab w') := Lib.hid (fun w' h => HT.out.below (Below.next HBW.out h))
          have HM := Lib.hid (members_c x _ wr rfl (HTB.out wr hb))
          have hcx := cnt_le x
          have hcq := cnt_le q
          clear hstep hx
          go_wp2_with fail
          refine HM.out.mono ?_
          rintro e w1 ⟨mv, rfl, hmo, hb1⟩
          obtain ⟨am, cm, rfl, hr⟩ := hmo.rdn (cnt x) (by simp [cnt])
          have hclr := Clear.own (n := cnt x) hmo hown
          have hown1 := rowK_below hown hb1
          have hb3 := Below.next hb hb1
          have hrl := hr.le
          have hrm := hr.max
          unfold maxLen at hrm
          clear hmo hown hb hb1 HM
          go_wp2_with fail
          go_loopw [12, 51] (fun v i wr => ∃ (j : Nat), j ≤ cnt x ∧ i = .int .i64 j ∧ wr.ownsRow W.heap.size 68 4 v (m + j) ((atkTo q0 r q k ++ ((memS x).take j).map (evP (k + 1))).flatMap evC) ∧ Rd wr am (cnt x) cm ((memS x).map intV) ∧ Clear (cnt x) v am ∧ Below W.heap.size W wr) (fun _ i _ => cnt x - (intOf i).toNat)
          case atStart => exact ⟨0, Nat.zero_le _, rfl, by simpa using hown1, hr, hclr, hb3⟩
          case round =>
            clear hown1 hr hclr hb3
            obtain ⟨j, hj, rfl, hown, hr, hclr, hb⟩ := hrel
            by_cases hlt2 : j < cnt x
            · obtain ⟨i, hi⟩ : ∃ i, (memS x)[j]? = some i := ⟨_, List.getElem?_eq_getElem (show j < (memS x).length from hlt2)⟩
              have hi16 := memS_16 _ _ (List.mem_of_getElem? hi)
              obtain ⟨b, o, hab, hcell⟩ := hr.at' (by omega)
              have hci := hcell j (intV i) (by simp [hi])
              unfold intV at hci
              have HTK := Lib.hid (mem_take_succ (f := evP (k + 1)) hi)
              have HRR := Lib.hid hr
              have HCL := Lib.hid hclr
              subst hab
              clear hcell hi hr hclr
              go_wp2_with (at_builtin; go_must (refine wpList_appK2 4 _ _ 57 40 (.agg #[.int .i64 0, .int .i64 0, .int .i64 0, .string ⟨#[]⟩]) (evC (evP (k + 1) i)) _ Tryz.underlying57 Tryz.infoEv rfl (by decide) hown hb (Nat.le_refl _) rfl rfl rfl rfl rfl (by intro u hu; exact ev_one [evP (k + 1) i] u (by simpa using hu)) (by unfold maxLen; omega) (by omega) ?_))
              intro v' w4 hown4 hb4 hg4 hs4 hv4
              clear hown hb hci
              have hr4 := HRR.out.grown hg4 HCL.out
              have hcl4 := HCL.out.step HRR.out hv4
              go_wp2_with fail
              go_roundw
              case rel => exact ⟨j + 1, by omega, by go_num, by rw [HTK.out, ← List.append_assoc, List.flatMap_append, ← Nat.add_assoc]; simpa using hown4, hr4, hcl4, hb4⟩
              case measure => simp [intOf]; omega
            · have hE : Hid ((memS x).take j = memS x) := List.take_of_length_le (by show cnt x ≤ j; omega)
              have hjx : j = cnt x := by omega
              rw [hE.out] at hown
              have HTQ := Lib.hid (HTB.out wr hb)
              have HM := Lib.hid (members_c q _ wr rfl HTQ.out)
              subst hjx
              have hjx2 : m + cnt x ≤ 32 * k + 16 := by omega
              clear hr hclr hE
              go_wp2_with fail
              refine HM.out.mono ?_
              rintro e w5 ⟨mv, rfl, hmo, hb1⟩
              obtain ⟨am2, cm2, rfl, hr⟩ := hmo.rdn (cnt q) (by simp [cnt])
              have hclr := Clear.own (n := cnt q) hmo hown
              have hown1 := rowK_below hown hb1
              have hb3 := Below.next hb hb1
              have hrl2 := hr.le
              have hrm2 := hr.max
              unfold maxLen at hrm2
              clear hmo hown hb hb1 HM
              go_wp2_with fail
              go_loopw [12, 66] (fun v i wr => ∃ (j : Nat), j ≤ cnt q ∧ i = .int .i64 j ∧ wr.ownsRow W.heap.size 68 4 v (m + cnt x + j) ((atkTo q0 r q k ++ (memS x).map (evP (k + 1)) ++ ((memS q).take j).map (evA (k + 1))).flatMap evC) ∧ Rd wr am2 (cnt q) cm2 ((memS q).map intV) ∧ Clear (cnt q) v am2 ∧ Below W.heap.size W wr) (fun _ i _ => cnt q - (intOf i).toNat)
              case atStart => exact ⟨0, Nat.zero_le _, rfl, by simpa using hown1, hr, hclr, hb3⟩
              case round =>
                clear hown1 hr hclr hb3
                obtain ⟨j, hj, rfl, hown, hr, hclr, hb⟩ := hrel
                by_cases hlt3 : j < cnt q
                · obtain ⟨i, hi⟩ : ∃ i, (memS q)[j]? = some i := ⟨_, List.getElem?_eq_getElem (show j < (memS q).length from hlt3)⟩
                  have hi16 := memS_16 _ _ (List.mem_of_getElem? hi)
                  obtain ⟨b, o, hab, hcell⟩ := hr.at' (by omega)
                  have hci := hcell j (intV i) (by simp [hi])
                  unfold intV at hci
                  have HTK := Lib.hid (mem_take_succ (f := evA (k + 1)) hi)
                  have HRR := Lib.hid hr
                  have HCL := Lib.hid hclr
                  have HI := Lib.hid (Tryz.strconv_Itoa_small (k + 1) (by omega))
                  have hdl := dec_small (k + 1) (by omega)
                  have HCAT := Lib.hid (cat2 [118] (Lib.decDigits (k + 1)))
                  have HVB : Hid (valB (k + 1) = (⟨#[118]⟩ : ByteArray) ++ (⟨(Lib.decDigits (k + 1)).toArray⟩ : ByteArray)) := by show _ = _; exact HCAT.out.symm
                  obtain ⟨dd, hdd⟩ : ∃ dd, Lib.decDigits (k + 1) = dd := ⟨_, rfl⟩
                  rw [hdd] at HI hdl HVB
                  subst hab
                  clear hcell hi hr hclr HCAT hdd
                  go_wp2_with fail
                  refine (HI.out _).mono ?_
                  rintro e w6 ⟨rfl, rfl⟩
                  go_wp2_with (at_builtin; go_must (refine wpList_appK2 4 _ _ 57 40 (.agg #[.int .i64 0, .int .i64 0, .int .i64 0, .string ⟨#[]⟩]) [.int .i64 2, .int .i64 i, .int .i64 ((k + 1 : Nat) : Int), .string ((⟨#[118]⟩ : ByteArray) ++ (⟨dd.toArray⟩ : ByteArray))] _ Tryz.underlying57 Tryz.infoEv rfl (by decide) hown hb (Nat.le_refl _) rfl rfl rfl rfl rfl (by intro u hu; simp only [List.mem_cons, List.not_mem_nil, or_false] at hu; rcases hu with rfl | rfl | rfl | rfl <;> rfl) (by unfold maxLen; omega) (by omega) ?_))
                  intro v' w4 hown4 hb4 hg4 hs4 hv4
                  clear hown hb hci
                  have hr4 := HRR.out.grown hg4 HCL.out
                  have hcl4 := HCL.out.step HRR.out hv4
                  go_wp2_with fail
                  go_roundw
                  case rel => exact ⟨j + 1, by omega, by go_num, by rw [HTK.out, ← List.append_assoc, List.flatMap_append, ← Nat.add_assoc]; simpa [evC, evA, HVB.out] using hown4, hr4, hcl4, hb4⟩
                  case measure => simp [intOf]; omega
                · have hE : Hid ((memS q).take j = memS q) := List.take_of_length_le (by show cnt q ≤ j; omega)
                  have hjx : j = cnt q := by omega
                  rw [hE.out] at hown
                  subst hjx
                  have hlen2 : Hid ((atkTo q0 r q (k + 1)).length = m + cnt x + cnt q) := by show _ = _; rw [HST.out, List.length_append, blk_len, hml.out]; omega
                  clear hr hclr hE
                  go_wp2_with fail
                  go_roundw
                  case rel => exact ⟨k + 1, m + cnt x + cnt q, by omega, by go_num, by omega, by rw [HST.out]; unfold blkS; rw [← List.append_assoc]; exact hown, hlen2, hb⟩
                  case measure => simp [intOf]; omega
        · obtain rfl : k = 2 := by omega
          obtain ⟨ar, cr, rfl, hr⟩ := rdK_of_row hown
          have HRR := Lib.hid hr
          clear hown hr
          go_wp2_with fail
          go_ret2
          rw [hA.out]
          show ∃ a' c', _
          exact ⟨ar, cr, by rw [hml.out]; rfl, by show RdK 4 _ _ (atkTo q0 r q 2).length _ _; rw [hml.out]; exact HRR.out, Below.next HBW.out hb⟩
  · have hA : Hid (attS read write nn = ([], chkS nn [read, write])) := by show _ = _; unfold attS; rw [if_pos he]
    obtain ⟨v, hv⟩ : ∃ v, chkS nn [read, write] = v := ⟨_, rfl⟩
    rw [hv] at HC hA he
    have hv1 : (v != 0) = true := by simpa using he
    clear hv he
    go_enter Tryz.func24, Tryz.ntmps24
    go_wp2_with fail
    refine HC.out.mono ?_
    rintro e w1 ⟨rfl, hb1⟩
    have hb2 := Below.next HB0.out (by exact hb1)
    clear hb1
    go_wp2_with fail
    go_ret2
    rw [hA.out]
    exact ⟨_, _, rfl, RdK.none_ _ _, hb2⟩
end Go.Proofs.YtmjgdnpfgkpaoaaGreatDoor
