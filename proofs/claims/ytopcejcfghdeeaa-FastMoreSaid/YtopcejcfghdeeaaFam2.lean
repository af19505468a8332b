/- Package family: Accepts, Support, Valid; slices.Contains, ContainsFunc of sets. -/
import Derived.Test.YtopcejcfghdeeaaFam1
import Derived.Shelf.GgClosure.Gives
namespace Go.Proofs.Ytopcejcfghdeeaa
open Go.RowKit Go.Shelf

def setV2 (x : BitVec 16) : Value := .int .u16 (U x)

theorem at_some {l : List (BitVec 16)} {k : Nat} (h : k < l.length) : l[k]? = some (l.getD k 0#16) := by rw [List.getElem?_eq_getElem h, getD_at h]
theorem at_cell {l : List (BitVec 16)} {k : Nat} (h : k < l.length) : (l.map setV2)[k]? = some (.int .u16 (U (l.getD k 0#16))) := by rw [List.getElem?_map, at_some h]; rfl
theorem any_hit {p : BitVec 16 → Bool} {l : List (BitVec 16)} {k : Nat} (h : k < l.length) (hp : p (l.getD k 0#16) = true) : l.any p = true :=
  List.any_eq_true.2 ⟨_, by rw [getD_at h]; exact List.getElem_mem h, hp⟩
theorem any_none {p : BitVec 16 → Bool} {l : List (BitVec 16)} (h : ∀ j, j < l.length → p (l.getD j 0#16) = false) : l.any p = false := by
  rw [Bool.eq_false_iff]
  intro hc
  obtain ⟨x, hx, hp⟩ := List.any_eq_true.1 hc
  obtain ⟨j, hj, rfl⟩ := List.mem_iff_getElem.1 hx
  rw [← getD_at hj, h j hj] at hp; cases hp

/-- the first place of a set, or -1 -/
def idxS (p : BitVec 16 → Bool) (l : List (BitVec 16)) : Int := if l.any p then (l.findIdx p : Int) else -1
theorem idxS_hit {p : BitVec 16 → Bool} {l : List (BitVec 16)} {k : Nat} (hk : k < l.length) (h : ∀ j, j < k → p (l.getD j 0#16) = false) (hp : p (l.getD k 0#16) = true) : idxS p l = k := by
  unfold idxS
  rw [if_pos (any_hit hk hp)]
  have : l.findIdx p = k := by
    rw [List.findIdx_eq hk]
    refine ⟨by rw [← getD_at hk]; exact hp, fun j hj => ?_⟩
    have := h j hj
    rw [getD_at (by omega)] at this
    exact this
  rw [this]
theorem idxS_none {p : BitVec 16 → Bool} {l : List (BitVec 16)} (h : ∀ j, j < l.length → p (l.getD j 0#16) = false) : idxS p l = -1 := by
  unfold idxS; rw [any_none h]; rfl
theorem idxS_ge (p : BitVec 16 → Bool) (l : List (BitVec 16)) : decide (0 ≤ idxS p l) = l.any p := by
  unfold idxS
  cases l.any p <;> simp

set_option maxRecDepth 100000 in
set_option maxHeartbeats 1000000 in
theorem idxF_c (g : Nat) (lb : Array Value) (eg : ∀ args w, (callFunc g args).run Try.prog w = .ok (.enter g args) w) (p : BitVec 16 → Bool) (l : List (BitVec 16)) (a : Option Addr) (n c : Nat) (w : World)
    (h : Rd w a n c (l.map setV2)) (hp : PredAt Try.prog g lb setV2 p w) :
    Calls Try.prog 36 #[.slice a n c, .func (.func g) #[] lb] w fun e w' => e = .returned (.int .i64 (idxS p l)) ∧ Below w.heap.size w w' := by
  have hn : n ≤ l.length ∧ l.length ≤ n := by have := h.len; simp at this; omega
  obtain ⟨hn1, hn2⟩ := hn
  have hm := h.max
  have hle := h.le
  unfold maxLen at hm
  have HP := Lib.hid hp
  have HR := Lib.hid h
  clear hp h
  go_enter Try.func36, Try.ntmps36
  go_wp2_with fail
  go_loopw [8] (fun i wr => ∃ k : Nat, k ≤ n ∧ i = .int .i64 k ∧ Hid (∀ j, j < k → p (l.getD j 0#16) = false) ∧ Below w.heap.size w wr) (fun i _ => n - (intOf i).toNat)
  case atStart => exact ⟨0, Nat.zero_le _, rfl, Lib.hid (fun j hj => by omega), Below.refl _ _⟩
  case round =>
    obtain ⟨k, hk, rfl, hno, hb⟩ := hrel
    by_cases hlt : k < n
    · obtain ⟨b, o, ha, hcell⟩ := (HR.out.below hb).at' (by omega)
      have hc := hcell k _ (at_cell (by omega))
      subst ha
      have HF : Hid (Calls Try.prog g (#[.int .u16 (U (l.getD k 0#16))] ++ lb) wr fun e w' => e = .returned (.bool (p (l.getD k 0#16))) ∧ ∃ q, w' = wr.drewN q) := HP.out wr (l.getD k 0#16) hb
      cases hq : p (l.getD k 0#16)
      · have hno' : Hid (∀ j, j < k + 1 → p (l.getD j 0#16) = false) := Lib.hid (fun j hj => by
          by_cases h1 : j < k
          · exact hno.out j h1
          · obtain rfl : j = k := by omega
            exact hq)
        rw [hq] at HF
        obtain ⟨x, hx⟩ : ∃ x, l.getD k 0#16 = x := ⟨_, rfl⟩
        rw [hx] at hc HF
        clear hq hcell hno hx
        go_wp2_with (go_at_fn g; refine HF.out.mono ?_; rintro e w' ⟨rfl, q, rfl⟩)
        go_roundw
        case rel => exact ⟨k + 1, by omega, by go_num, hno', below_drewN hb⟩
        case measure => simp [intOf]; omega
      · have hI : Hid (idxS p l = k) := idxS_hit (by omega) hno.out hq
        rw [hq] at HF
        obtain ⟨x, hx⟩ : ∃ x, l.getD k 0#16 = x := ⟨_, rfl⟩
        rw [hx] at hc HF
        clear hq hcell hno hx
        go_wp2_with (go_at_fn g; refine HF.out.mono ?_; rintro e w' ⟨rfl, q, rfl⟩)
        go_ret
        exact ⟨ret_int hI.out.symm, below_drewN hb⟩
    · have hI : Hid (idxS p l = -1) := idxS_none (fun j hj => hno.out j (by omega))
      clear hno
      go_wp2_with fail
      go_ret
      exact ⟨ret_int hI.out.symm, hb⟩

set_option maxRecDepth 100000 in
set_option maxHeartbeats 1000000 in
theorem containsF_c (g : Nat) (lb : Array Value) (eg : ∀ args w, (callFunc g args).run Try.prog w = .ok (.enter g args) w) (p : BitVec 16 → Bool) (l : List (BitVec 16)) (a : Option Addr) (n c : Nat) (w : World)
    (h : Rd w a n c (l.map setV2)) (hp : PredAt Try.prog g lb setV2 p w) :
    Calls Try.prog 64 #[.slice a n c, .func (.func g) #[] lb] w fun e w' => e = .returned (.bool (l.any p)) ∧ Below w.heap.size w w' := by
  have HC := Lib.hid (idxF_c g lb eg p l a n c w h hp)
  have hi := idxS_ge p l
  clear h hp eg
  obtain ⟨i, hi2⟩ : ∃ i, idxS p l = i := ⟨_, rfl⟩
  rw [hi2] at HC hi
  have HI := Lib.hid hi
  clear hi hi2
  go_enter Try.func64, Try.ntmps64
  go_wp2_with fail
  refine HC.out.mono ?_
  rintro e w1 ⟨rfl, hb⟩
  go_wp2_with fail
  go_ret
  exact ⟨ret_bool HI.out, hb⟩

set_option maxHeartbeats 400000 in
theorem contains_c (x y : BitVec 16) (w : World) :
    Calls Try.prog 66 #[.int .u16 (U x), .int .u16 (U y)] w fun e w' => e = .returned (.bool (subB x y)) ∧ w' = w := by
  go_enter Try.func66, Try.ntmps66
  go_wp2
  go_ret
  exact ⟨rfl, rfl⟩

theorem accepts1_at (w : World) (B : Nat) (s : BitVec 16) (hc : w.cell? ⟨B, 0, none⟩ = some (.int .u16 (U s))) :
    PredAt Try.prog 65 #[.pointer (some ⟨B, 0, none⟩)] setV2 (fun x => subB s x) w := fun W x hb => by
  have hc' : W.cell? ⟨B, 0, none⟩ = some (.int .u16 (U s)) := (hb.cell (p := ⟨B, 0, none⟩) (cell_lt hc)).trans hc
  unfold FnGives setV2
  clear hb hc
  go_enter Try.func65, Try.ntmps65
  go_wp2_with fail
  refine (contains_c s x _).mono ?_
  rintro e w1 ⟨rfl, rfl⟩
  go_wp2_with fail
  go_ret
  exact ⟨rfl, 0, rfl⟩

set_option maxRecDepth 100000 in
set_option maxHeartbeats 1000000 in
theorem accepts_c (l : List (BitVec 16)) (s : BitVec 16) (a : Option Addr) (n c : Nat) (w : World) (h : Rd w a n c (l.map setV2)) :
    Calls Try.prog 41 #[.slice a n c, .int .u16 (U s)] w fun e w' => e = .returned (.bool (accS l s)) ∧ Below w.heap.size w w' := by
  have hb0 : Below w.heap.size w (w.alloc (.cells #[.int .u16 (U s)] 26)) := (Below.refl _ w).alloc (Nat.le_refl _) _
  have HC := Lib.hid (containsF_c 65 #[.pointer (some ⟨w.heap.size, 0, none⟩)] (enters_of Try.func65 (by kernel_rfl) rfl) (fun x => subB s x) l a n c _ (h.below hb0) (accepts1_at _ w.heap.size s (cell_new _ _ _ 0 _ rfl)))
  have HB := Lib.hid hb0
  clear h hb0
  go_enter Try.func41, Try.ntmps41
  go_wp2_with fail
  refine HC.out.mono ?_
  rintro e w1 ⟨rfl, hb⟩
  go_wp2_with fail
  go_ret
  exact ⟨rfl, Below.next HB.out hb⟩

/-- the union -/
def supS (l : List (BitVec 16)) : BitVec 16 := l.foldl (· ||| ·) 0#16
theorem supS_take {l : List (BitVec 16)} {k : Nat} (h : k < l.length) : supS (l.take (k + 1)) = supS (l.take k) ||| l.getD k 0#16 := by
  unfold supS; rw [List.take_add_one, at_some h]; simp

set_option maxRecDepth 100000 in
set_option maxHeartbeats 1000000 in
theorem support_c (l : List (BitVec 16)) (a : Option Addr) (n c : Nat) (w : World) (h : Rd w a n c (l.map setV2)) :
    Calls Try.prog 52 #[.slice a n c] w fun e w' => e = .returned (.int .u16 (U (supS l))) ∧ w' = w := by
  have hn : n ≤ l.length ∧ l.length ≤ n := by have := h.len; simp at this; omega
  obtain ⟨hn1, hn2⟩ := hn
  have hm := h.max
  have hle := h.le
  unfold maxLen at hm
  go_enter Try.func52, Try.ntmps52
  go_wp2_with fail
  go_loop [3, 8] (fun v i => ∃ (k : Nat) (s : BitVec 16), k ≤ n ∧ i = .int .i64 k ∧ v = .int .u16 (U s) ∧ Hid (s = supS (l.take k))) (fun _ i => n - (intOf i).toNat)
  case atStart => exact ⟨0, 0#16, Nat.zero_le _, rfl, rfl, rfl⟩
  case round =>
    obtain ⟨k, s, hk, rfl, rfl, hs⟩ := hrel
    by_cases hlt : k < n
    · obtain ⟨b, o, ha, hcell⟩ := h.at' (by omega)
      have hc := hcell k _ (at_cell (by omega))
      have HS := Lib.hid (supS_take (l := l) (k := k) (by omega))
      obtain ⟨x, hx⟩ : ∃ x, l.getD k 0#16 = x := ⟨_, rfl⟩
      rw [hx] at hc HS
      subst ha
      clear hcell h hx
      go_wp2_with fail
      go_round
      case rel => exact ⟨k + 1, s ||| x, by omega, by go_num, rfl, by show _ = _; rw [HS.out, hs.out]⟩
      case measure => simp [intOf]; omega
    · have hE : Hid (l.take k = l) := List.take_of_length_le (by omega)
      clear h
      go_wp2_with fail
      go_ret
      exact ⟨by rw [hs.out, hE.out]; rfl, rfl⟩

set_option maxRecDepth 100000 in
set_option maxHeartbeats 1000000 in
theorem index_c (l : List (BitVec 16)) (y : BitVec 16) (a : Option Addr) (n c : Nat) (w : World) (h : Rd w a n c (l.map setV2)) :
    Calls Try.prog 78 #[.slice a n c, .int .u16 (U y)] w fun e w' => e = .returned (.int .i64 (idxS (fun x => y == x) l)) ∧ w' = w := by
  have hn : n ≤ l.length ∧ l.length ≤ n := by have := h.len; simp at this; omega
  obtain ⟨hn1, hn2⟩ := hn
  have hm := h.max
  have hle := h.le
  unfold maxLen at hm
  go_enter Try.func78, Try.ntmps78
  go_wp2_with fail
  go_loop [8] (fun i => ∃ (k : Nat), k ≤ n ∧ i = .int .i64 k ∧ Hid (∀ j, j < k → (y == l.getD j 0#16) = false)) (fun i => n - (intOf i).toNat)
  case atStart => exact ⟨0, Nat.zero_le _, rfl, Lib.hid (fun j hj => by omega)⟩
  case round =>
    obtain ⟨k, hk, rfl, hno⟩ := hrel
    by_cases hlt : k < n
    · obtain ⟨b, o, ha, hcell⟩ := h.at' (by omega)
      have hc := hcell k _ (at_cell (by omega))
      obtain ⟨x, hx⟩ : ∃ x, l.getD k 0#16 = x := ⟨_, rfl⟩
      subst ha
      by_cases hq : (y == x) = true
      · have hI : Hid (idxS (fun x => y == x) l = k) := idxS_hit (p := fun x => y == x) (by omega) hno.out (by rw [hx]; exact hq)
        rw [hx] at hc
        clear hcell h hx hno
        go_wp2_with fail
        go_ret
        exact ⟨ret_int hI.out.symm, rfl⟩
      · have hq' : (y == x) = false := by simpa using hq
        have hno' : Hid (∀ j, j < k + 1 → (y == l.getD j 0#16) = false) := Lib.hid (fun j hj => by
          by_cases h1 : j < k
          · exact hno.out j h1
          · obtain rfl : j = k := by omega
            rw [hx]; exact hq')
        rw [hx] at hc
        clear hcell h hx hno hq
        go_wp2_with fail
        go_round
        case rel => exact ⟨k + 1, by omega, by go_num, hno'⟩
        case measure => simp [intOf]; omega
    · have hI : Hid (idxS (fun x => y == x) l = -1) := idxS_none (fun j hj => hno.out j (by omega))
      clear hno h
      go_wp2_with fail
      go_ret
      exact ⟨ret_int hI.out.symm, rfl⟩

set_option maxRecDepth 100000 in
set_option maxHeartbeats 1000000 in
theorem containsv_c (l : List (BitVec 16)) (y : BitVec 16) (a : Option Addr) (n c : Nat) (w : World) (h : Rd w a n c (l.map setV2)) :
    Calls Try.prog 74 #[.slice a n c, .int .u16 (U y)] w fun e w' => e = .returned (.bool (l.any (fun x => y == x))) ∧ w' = w := by
  have HC := Lib.hid (index_c l y a n c w h)
  have hi := idxS_ge (fun x => y == x) l
  clear h
  obtain ⟨i, hi2⟩ : ∃ i, idxS (fun x => y == x) l = i := ⟨_, rfl⟩
  rw [hi2] at HC hi
  have HI := Lib.hid hi
  clear hi hi2
  go_enter Try.func74, Try.ntmps74
  go_wp2_with fail
  refine HC.out.mono ?_
  rintro e w1 ⟨rfl, rfl⟩
  go_wp2_with fail
  go_ret
  exact ⟨ret_bool HI.out, rfl⟩
end Go.Proofs.Ytopcejcfghdeeaa
