/- Texts laid together. The reference of layer 8: Size, Before, Contains, Range, Accepts, Support, Valid. The reference's Valid of layer 8. Layer 38: families of quorums, the first clash. Layer 38: Clash and Safe. The reference's Of, Rename, Choose, Subsets, Same; set.Rename; slices.Equal and Clone of ints. The reference's Rename, Within, Choose, Subsets, Same; slices.Equal and Clone of ints. The reference's Choose. The reference's Subsets, Same; slices.Equal and Clone of ints. Layer 10, plain: expressions, what satisfies them, their families. No program. Layer 20, plain: decision trees, certificates. No program. Expressions and trees in memory. Plain lemmas over the model, no program. slices.IndexFunc and ContainsFunc of ints; a node's error (expr.valid). expr.Valid, intersect.two. The reference's tests of equality: same, Same of layer 10, Same of layer 8 answer true for equal lists. The reference's Same of families (layer 9). slices.Clone of sets. -/
import Derived.Test.YtmjgdnpfgkpaoaaGreatDoorGC1
import Derived.Test.YtmjgdnpfgkpaoaaGreatDoorGC2
import Derived.IntWalk
import Derived.Deep.QuietTactic
import Derived.BigQuiet
import Derived.Lib.SliceRun
import Derived.Deep.OwnRows
namespace Go.Proofs.YtmjgdnpfgkpaoaaGreatDoor
open Go.RowKit Go.Shelf

theorem cntTo_succ (x : BitVec 16) (k : Nat) : (memTo x (k + 1)).length = (memTo x k).length + (if hasB x k then 1 else 0) := by
  rw [memTo_succ]; cases hasB x k <;> simp
@[go_sem] theorem b01_conv (b : Bool) : IntKind.i64.wrap (b01 b) = b01 b := by cases b <;> decide

set_option maxRecDepth 100000 in
set_option maxHeartbeats 1000000 in
theorem size8_c (x : BitVec 16) (w : World) :
    Calls Tryz.prog 25 #[.int .u16 (U x)] w fun e w' => e = .returned (.int .i64 (cnt x)) ∧ w' = w := by
  go_enter Tryz.func25, Tryz.ntmps25
  go_wp2_with fail
  go_loop [3, 4] (fun v i => ∃ (k : Nat) (m : Nat), k ≤ 16 ∧ m ≤ k ∧ i = .int .i64 k ∧ v = .int .i64 m ∧ Hid (m = (memTo x k).length)) (fun _ i => 16 - (intOf i).toNat)
  case atStart => exact ⟨0, 0, Nat.zero_le _, Nat.zero_le _, rfl, rfl, rfl⟩
  case round =>
    obtain ⟨k, m, hk, hmk, rfl, rfl, hm⟩ := hrel
    by_cases hlt : k < 16
    · have HS := Lib.hid (cntTo_succ x k)
      cases hb : hasB x k
      · have HB := Lib.hid hb
        have hb0 : b01 (hasB x k) = 0 := by rw [hb]; rfl
        clear hb
        go_wp2_with fail
        go_round
        case rel => exact ⟨k + 1, m, by omega, by omega, by go_num, by (try go_num), by show _ = _; rw [HS.out, HB.out, hm.out]; rfl⟩
        case measure => simp [intOf]; omega
      · have HB := Lib.hid hb
        have hb0 : b01 (hasB x k) = 1 := by rw [hb]; rfl
        clear hb
        go_wp2_with fail
        go_round
        case rel => exact ⟨k + 1, m + 1, by omega, by omega, by go_num, by go_num, by show _ = _; rw [HS.out, HB.out, hm.out]; rfl⟩
        case measure => simp [intOf]; omega
    · have hE : Hid (m = cnt x) := by
        obtain rfl : k = 16 := by omega
        exact hm.out
      go_wp2_with fail
      go_ret
      exact ⟨ret_int (by rw [hE.out]), rfl⟩

/-- x comes before y -/
def befB (x y : BitVec 16) : Bool := decide (keyS x < keyS y)
theorem bef_ne {x y : BitVec 16} (h : cnt x ≠ cnt y) : befB x y = decide (cnt x < cnt y) := by
  unfold befB keyS; have := x.isLt; have := y.isLt
  rw [Bool.eq_iff_iff, decide_eq_true_iff, decide_eq_true_iff]; omega
theorem bef_eq {x y : BitVec 16} (h : cnt x = cnt y) : befB x y = decide (U x < U y) := by
  unfold befB keyS U
  rw [Bool.eq_iff_iff, decide_eq_true_iff, decide_eq_true_iff]; omega

set_option maxRecDepth 100000 in
set_option maxHeartbeats 1000000 in
theorem before8_c (x y : BitVec 16) (w : World) :
    Calls Tryz.prog 98 #[.int .u16 (U x), .int .u16 (U y)] w fun e w' => e = .returned (.bool (befB x y)) ∧ w' = w := by
  by_cases hc : cnt x = cnt y
  · have HE := Lib.hid (bef_eq hc)
    obtain ⟨m, hm⟩ : ∃ m, cnt x = m := ⟨_, rfl⟩
    have H1 := Lib.hid (fun w => size8_c x w)
    have H2 := Lib.hid (fun w => size8_c y w)
    rw [← hc, hm] at H2
    rw [hm] at H1
    clear hc hm
    go_enter Tryz.func98, Tryz.ntmps98
    go_wp2_with fail
    refine (H1.out _).mono ?_
    rintro e w1 ⟨rfl, rfl⟩
    go_wp2_with fail
    refine (H2.out _).mono ?_
    rintro e w1 ⟨rfl, rfl⟩
    go_wp2_with fail
    go_ret
    exact ⟨ret_bool HE.out.symm, rfl⟩
  · have HE := Lib.hid (bef_ne hc)
    obtain ⟨m, hm⟩ : ∃ m, cnt x = m := ⟨_, rfl⟩
    obtain ⟨m2, hm2⟩ : ∃ m, cnt y = m := ⟨_, rfl⟩
    have H1 := Lib.hid (fun w => size8_c x w)
    have H2 := Lib.hid (fun w => size8_c y w)
    rw [hm2] at H2 HE hc
    rw [hm] at H1 HE hc
    have hne : ((m : Int) != (m2 : Int)) = true := by rw [bne_iff_ne]; omega
    have hcm : decide ((m : Int) < m2) = decide (m < m2) := by rw [Bool.eq_iff_iff, decide_eq_true_iff, decide_eq_true_iff]; omega
    have HCM := Lib.hid hcm
    clear hc hm hm2 hcm
    go_enter Tryz.func98, Tryz.ntmps98
    go_wp2_with fail
    refine (H1.out _).mono ?_
    rintro e w1 ⟨rfl, rfl⟩
    go_wp2_with fail
    refine (H2.out _).mono ?_
    rintro e w1 ⟨rfl, rfl⟩
    go_wp2_with fail
    refine (H1.out _).mono ?_
    rintro e w1 ⟨rfl, rfl⟩
    go_wp2_with fail
    refine (H2.out _).mono ?_
    rintro e w1 ⟨rfl, rfl⟩
    go_wp2_with fail
    go_ret
    exact ⟨ret_bool (by rw [HE.out]; (try first | rfl | exact HCM.out | simp)), rfl⟩

set_option maxHeartbeats 400000 in
theorem contains8_c (x y : BitVec 16) (w : World) :
    Calls Tryz.prog 68 #[.int .u16 (U x), .int .u16 (U y)] w fun e w' => e = .returned (.bool (subB x y)) ∧ w' = w := by
  go_enter Tryz.func68, Tryz.ntmps68
  go_wp2
  go_ret
  exact ⟨rfl, rfl⟩
end Go.Proofs.YtmjgdnpfgkpaoaaGreatDoor
namespace Go.Proofs.YtmjgdnpfgkpaoaaGreatDoor
open Go.RowKit Go.Shelf

theorem bef_cmp (x y : BitVec 16) : befB x y = decide (cmpS x y < 0) := by
  unfold befB
  rw [Bool.eq_iff_iff, decide_eq_true_iff, decide_eq_true_iff]
  exact (cmpS_key x y).2.symm

end Go.Proofs.YtmjgdnpfgkpaoaaGreatDoor
namespace Go.Proofs.YtmjgdnpfgkpaoaaGreatDoor
open Go.RowKit Go.Shelf

theorem fs_hit {α β : Type} {f : α → Option β} {l : List α} {k : Nat} {x : α} {y : β} (hx : l[k]? = some x) (h : ∀ (j : Nat) (z : α), j < k → l[j]? = some z → f z = none) (hy : f x = some y) : l.findSome? f = some y := by
  obtain ⟨hk, hxe⟩ := List.getElem?_eq_some_iff.1 hx
  have e : l = l.take k ++ x :: l.drop (k + 1) := by
    rw [← hxe, ← List.drop_eq_getElem_cons hk, List.take_append_drop]
  rw [e, List.findSome?_append, List.findSome?_cons, hy]
  rw [List.findSome?_eq_none_iff.2]
  · rfl
  · intro z hz
    obtain ⟨j, hj⟩ := List.mem_iff_getElem?.1 hz
    have hjl := (List.getElem?_eq_some_iff.1 hj).1
    rw [List.length_take] at hjl
    rw [List.getElem?_take_of_lt (by omega)] at hj
    exact h j z (by omega) hj
theorem fs_none {α β : Type} {f : α → Option β} {l : List α} (h : ∀ (j : Nat) (z : α), l[j]? = some z → f z = none) : l.findSome? f = none := by
  rw [List.findSome?_eq_none_iff]
  intro z hz
  obtain ⟨j, hj⟩ := List.mem_iff_getElem?.1 hz
  exact h j z hj

/-- the error of a family of quorums, of two -/
def quoS (f : List (BitVec 16)) : Int := if valS f ≠ 0 then valS f else if hasZ f then 9 else 0
def botS (f g : List (BitVec 16)) : Int := if quoS f ≠ 0 then quoS f else quoS g
/-- three sets without a common server -/
def tri (a b r : BitVec 16) : Bool := a &&& b &&& r == 0#16
def claB (read : List (BitVec 16)) (a b : BitVec 16) : Option (BitVec 16 × BitVec 16 × BitVec 16) := (read.find? fun r => tri a b r).map fun r => (a, b, r)
def claA (read fast : List (BitVec 16)) (a : BitVec 16) : Option (BitVec 16 × BitVec 16 × BitVec 16) := fast.findSome? fun b => claB read a b
def claS (read fast : List (BitVec 16)) : Option (BitVec 16 × BitVec 16 × BitVec 16) := fast.findSome? fun a => claA read fast a
def claM : Option (BitVec 16 × BitVec 16 × BitVec 16) → BitVec 16 × BitVec 16 × BitVec 16 × Int
  | some (a, b, r) => (a, b, r, 0)
  | none => (0#16, 0#16, 0#16, 13)
def claT (read fast : List (BitVec 16)) : BitVec 16 × BitVec 16 × BitVec 16 × Int :=
  if botS read fast ≠ 0 then (0#16, 0#16, 0#16, botS read fast) else claM (claS read fast)
theorem find_hit {p : BitVec 16 → Bool} {l : List (BitVec 16)} {k : Nat} (hk : k < l.length) (h : ∀ j, j < k → p (l.getD j 0#16) = false) (hp : p (l.getD k 0#16) = true) : l.find? p = some (l.getD k 0#16) := by
  have e : l = l.take k ++ l.getD k 0#16 :: l.drop (k + 1) := by
    rw [getD_at hk, ← List.drop_eq_getElem_cons hk, List.take_append_drop]
  have e2 : l.find? p = (l.take k ++ l.getD k 0#16 :: l.drop (k + 1)).find? p := by rw [← e]
  rw [e2, List.find?_append, List.find?_cons, hp]
  rw [List.find?_eq_none.2]
  · rfl
  · intro z hz
    obtain ⟨j, hj, rfl⟩ := List.mem_iff_getElem.1 hz
    rw [List.length_take] at hj
    have := h j (by omega)
    rw [getD_at (by omega)] at this
    rw [List.getElem_take]
    simpa using this
theorem find_none {p : BitVec 16 → Bool} {l : List (BitVec 16)} (h : ∀ j, j < l.length → p (l.getD j 0#16) = false) : l.find? p = none := by
  rw [List.find?_eq_none]
  intro z hz
  obtain ⟨j, hj, rfl⟩ := List.mem_iff_getElem.1 hz
  have := h j hj
  rw [getD_at hj] at this
  simpa using this
theorem idx_find {p : BitVec 16 → Bool} {l : List (BitVec 16)} : (l.find? p = none ∧ idxS p l = -1) ∨ ∃ k, k < l.length ∧ idxS p l = k ∧ l.find? p = some (l.getD k 0#16) ∧ p (l.getD k 0#16) = true := by
  by_cases ha : l.any p = true
  · right
    have hlt : l.findIdx p < l.length := List.findIdx_lt_length_of_exists (by
      obtain ⟨x, hx, hp⟩ := List.any_eq_true.1 ha
      exact ⟨x, hx, hp⟩)
    have hp : p (l.getD (l.findIdx p) 0#16) = true := by rw [getD_at hlt]; exact List.findIdx_getElem (w := hlt)
    refine ⟨l.findIdx p, hlt, by unfold idxS; rw [if_pos ha], find_hit hlt (fun j hj => ?_) hp, hp⟩
    rw [getD_at (by omega)]
    have := List.not_of_lt_findIdx hj
    simpa using this
  · left
    have hf : ∀ j, j < l.length → p (l.getD j 0#16) = false := fun j hj => by
      cases h : p (l.getD j 0#16)
      · rfl
      · exact absurd (any_hit hj h) ha
    exact ⟨find_none hf, idxS_none hf⟩

set_option maxRecDepth 100000 in
set_option maxHeartbeats 1000000 in
theorem quorums_c (f : List (BitVec 16)) (a : Option Addr) (n c : Nat) (w : World) (h : Rd w a n c (f.map setV2)) :
    Calls Tryz.prog 84 #[.slice a n c] w fun e w' => e = .returned (.int .i64 (quoS f)) ∧ Below w.heap.size w w' := by
  have HR := Lib.hid h
  have HV := Lib.hid (valid_c f a n c w h)
  clear h
  by_cases hv : valS f = 0
  · have HZ : Hid (∀ w, Rd w a n c (f.map setV2) → Calls Tryz.prog 91 #[.slice a n c, .int .u16 0] w fun e w' => e = .returned (.bool (hasZ f)) ∧ w' = w) := Lib.hid (fun w h => containsv_c f 0#16 a n c w h)
    rw [hv] at HV
    cases hz : hasZ f
    · have hE : Hid (quoS f = 0) := by show _ = _; unfold quoS; rw [hv, hz]; rfl
      rw [hz] at HZ
      clear hv hz
      go_enter Tryz.func84, Tryz.ntmps84
      go_wp2_with fail
      refine HV.out.mono ?_
      rintro e w1 ⟨rfl, b1⟩
      go_wp2_with fail
      refine (HZ.out w1 (HR.out.below b1)).mono ?_
      rintro e w2 ⟨rfl, rfl⟩
      go_wp2_with fail
      go_ret
      exact ⟨by rw [hE.out]; rfl, b1⟩
    · have hE : Hid (quoS f = 9) := by show _ = _; unfold quoS; rw [hv, hz]; rfl
      rw [hz] at HZ
      clear hv hz
      go_enter Tryz.func84, Tryz.ntmps84
      go_wp2_with fail
      refine HV.out.mono ?_
      rintro e w1 ⟨rfl, b1⟩
      go_wp2_with fail
      refine (HZ.out w1 (HR.out.below b1)).mono ?_
      rintro e w2 ⟨rfl, rfl⟩
      go_wp2_with fail
      go_ret
      exact ⟨by rw [hE.out]; rfl, b1⟩
  · have hE : Hid (quoS f = valS f) := by show _ = _; unfold quoS; rw [if_pos hv]
    obtain ⟨v, hvv⟩ : ∃ v, valS f = v := ⟨_, rfl⟩
    rw [hvv] at HV hE hv
    have hv1 : (v != 0) = true := by simpa using hv
    clear hv hvv
    go_enter Tryz.func84, Tryz.ntmps84
    go_wp2_with fail
    refine HV.out.mono ?_
    rintro e w1 ⟨rfl, b1⟩
    go_wp2_with fail
    go_ret
    exact ⟨by rw [hE.out]; rfl, b1⟩

set_option maxRecDepth 100000 in
set_option maxHeartbeats 1000000 in
theorem both_c (f g : List (BitVec 16)) (a : Option Addr) (n c : Nat) (a2 : Option Addr) (n2 c2 : Nat) (w : World) (h : Rd w a n c (f.map setV2)) (h2 : Rd w a2 n2 c2 (g.map setV2)) :
    Calls Tryz.prog 49 #[.slice a n c, .slice a2 n2 c2] w fun e w' => e = .returned (.int .i64 (botS f g)) ∧ Below w.heap.size w w' := by
  have HR2 := Lib.hid h2
  have HV := Lib.hid (quorums_c f a n c w h)
  have HV2 := Lib.hid (fun w h => quorums_c g a2 n2 c2 w h)
  clear h h2
  by_cases hv : quoS f = 0
  · have hE : Hid (botS f g = quoS g) := by show _ = _; unfold botS; rw [hv]; rfl
    obtain ⟨v, hvv⟩ : ∃ v, quoS g = v := ⟨_, rfl⟩
    rw [hvv] at HV2 hE
    rw [hv] at HV
    clear hv hvv
    go_enter Tryz.func49, Tryz.ntmps49
    go_wp2_with fail
    refine HV.out.mono ?_
    rintro e w1 ⟨rfl, b1⟩
    go_wp2_with fail
    refine (HV2.out w1 (HR2.out.below b1)).mono ?_
    rintro e w2 ⟨rfl, b2⟩
    go_wp2_with fail
    go_ret
    exact ⟨by rw [hE.out]; rfl, Below.next b1 b2⟩
  · have hE : Hid (botS f g = quoS f) := by show _ = _; unfold botS; rw [if_pos hv]
    obtain ⟨v, hvv⟩ : ∃ v, quoS f = v := ⟨_, rfl⟩
    rw [hvv] at HV hE hv
    have hv1 : (v != 0) = true := by simpa using hv
    clear hv hvv
    go_enter Tryz.func49, Tryz.ntmps49
    go_wp2_with fail
    refine HV.out.mono ?_
    rintro e w1 ⟨rfl, b1⟩
    go_wp2_with fail
    go_ret
    exact ⟨by rw [hE.out]; rfl, b1⟩
end Go.Proofs.YtmjgdnpfgkpaoaaGreatDoor
namespace Go.Proofs.YtmjgdnpfgkpaoaaGreatDoor
open Go.RowKit Go.Shelf

theorem clash1_at (w : World) (B1 B2 : Nat) (x y : BitVec 16) (h1 : w.cell? ⟨B1, 0, none⟩ = some (.int .u16 (U x))) (h2 : w.cell? ⟨B2, 0, none⟩ = some (.int .u16 (U y))) :
    PredAt Tryz.prog 82 #[.pointer (some ⟨B1, 0, none⟩), .pointer (some ⟨B2, 0, none⟩)] setV2 (fun r => tri x y r) w := fun W r hb => by
  have c1 : W.cell? ⟨B1, 0, none⟩ = some (.int .u16 (U x)) := (hb.cell (p := ⟨B1, 0, none⟩) (cell_lt h1)).trans h1
  have c2 : W.cell? ⟨B2, 0, none⟩ = some (.int .u16 (U y)) := (hb.cell (p := ⟨B2, 0, none⟩) (cell_lt h2)).trans h2
  unfold FnGives setV2
  clear hb h1 h2
  go_enter Tryz.func82, Tryz.ntmps82
  go_wp2
  go_ret
  exact ⟨rfl, 0, rfl⟩

def V4 (p : BitVec 16 × BitVec 16 × BitVec 16 × Int) : Value := .tuple #[.int .u16 (U p.1), .int .u16 (U p.2.1), .int .u16 (U p.2.2.1), .int .i64 p.2.2.2]

theorem claA_step {read fast : List (BitVec 16)} {a b : BitVec 16} {m : Nat} (hb : fast[m]? = some b) (hno : ∀ (j : Nat) (z : BitVec 16), j < m → fast[j]? = some z → claB read a z = none) (h : claB read a b = none) :
    ∀ (j : Nat) (z : BitVec 16), j < m + 1 → fast[j]? = some z → claB read a z = none := by
  intro j z hj hz
  by_cases h1 : j < m
  · exact hno j z h1 hz
  · obtain rfl : j = m := by omega
    rw [hb] at hz; cases hz; exact h
theorem claS_step {read fast : List (BitVec 16)} {a : BitVec 16} {k : Nat} (ha : fast[k]? = some a) (hno : ∀ (j : Nat) (z : BitVec 16), j < k → fast[j]? = some z → claA read fast z = none) (h : claA read fast a = none) :
    ∀ (j : Nat) (z : BitVec 16), j < k + 1 → fast[j]? = some z → claA read fast z = none := by
  intro j z hj hz
  by_cases h1 : j < k
  · exact hno j z h1 hz
  · obtain rfl : j = k := by omega
    rw [ha] at hz; cases hz; exact h

set_option maxRecDepth 100000 in
set_option maxHeartbeats 4000000 in
theorem clash_c (read fast : List (BitVec 16)) (a : Option Addr) (n c : Nat) (a2 : Option Addr) (n2 c2 : Nat) (w : World) (h : Rd w a n c (read.map setV2)) (h2 : Rd w a2 n2 c2 (fast.map setV2)) :
    Calls Tryz.prog 45 #[.slice a n c, .slice a2 n2 c2] w fun e w' => e = .returned (V4 (claT read fast)) ∧ Below w.heap.size w w' := by
  have hnl : read.length = n := by have := h.len; simp at this; omega
  have hnl2 : fast.length = n2 := by have := h2.len; simp at this; omega
  have hm := h.max
  have hle := h.le
  have hm2 := h2.max
  have hle2 := h2.le
  unfold maxLen at hm hm2
  have HR := Lib.hid h
  have HR2 := Lib.hid h2
  have HN := Lib.hid hnl
  have HN2 := Lib.hid hnl2
  have HB := Lib.hid (both_c read fast a n c a2 n2 c2 w h h2)
  clear h h2 hnl hnl2
  by_cases hbo : botS read fast = 0
  · have hC : Hid (claT read fast = claM (claS read fast)) := by show _ = _; unfold claT; rw [if_neg (by rw [hbo]; decide)]
    rw [hbo] at HB
    clear hbo
    go_enter Tryz.func45, Tryz.ntmps45
    go_wp2_with fail
    refine HB.out.mono ?_
    rintro e w1 ⟨rfl, b1⟩
    clear HB
    go_wp2_with fail
    go_loopw [22] (fun i wr => ∃ k : Nat, k ≤ n2 ∧ i = .int .i64 k ∧ Hid (∀ (j : Nat) (z : BitVec 16), j < k → fast[j]? = some z → claA read fast z = none) ∧ Below w.heap.size w wr) (fun i _ => n2 - (intOf i).toNat)
    case atStart => exact ⟨0, Nat.zero_le _, rfl, Lib.hid (fun j z hj => by omega), b1⟩
    case round =>
      clear b1
      obtain ⟨k, hk, rfl, hno, hb⟩ := hrel
      by_cases hlt : k < n2
      · obtain ⟨b, o, hao, hcell⟩ := (HR2.out.below hb).at' (by omega)
        have hkl : k < fast.length := by have := HN2.out; omega
        have hc := hcell k _ (at_cell hkl)
        have hxs := at_some hkl
        obtain ⟨x, hx⟩ : ∃ x, fast.getD k 0#16 = x := ⟨_, rfl⟩
        rw [hx] at hc hxs
        have HXS := Lib.hid hxs
        subst hao
        clear hcell hkl hx hxs
        go_wp2_with fail
        obtain ⟨W, hW⟩ : ∃ W, wr.alloc (.cells #[.int .u16 (U x)] 27) = W := ⟨_, rfl⟩
        obtain ⟨B1, hB1⟩ : ∃ B, wr.heap.size = B := ⟨_, rfl⟩
        have g1 : W.cell? ⟨B1, 0, none⟩ = some (.int .u16 (U x)) := by rw [← hW, ← hB1]; exact cell_new _ _ _ 0 _ rfl
        have hbW : Below w.heap.size w W := by rw [← hW]; exact hb.alloc hb.size _
        have hWs : B1 < W.heap.size := cell_lt g1
        have G1 := Lib.hid g1
        have HBW := Lib.hid hbW
        rw [hW, hB1]
        clear hW hB1 g1 hb hc
        go_loopw [28] (fun i wr => ∃ m : Nat, m ≤ n2 ∧ i = .int .i64 m ∧ Hid (∀ (j : Nat) (z : BitVec 16), j < m → fast[j]? = some z → claB read x z = none) ∧ Below W.heap.size W wr) (fun i _ => n2 - (intOf i).toNat)
        case atStart => exact ⟨0, Nat.zero_le _, rfl, Lib.hid (fun j z hj => by omega), Below.refl _ _⟩
        case round =>
          obtain ⟨m, hmn, rfl, hno2, hb⟩ := hrel
          have hbw := Below.next HBW.out hb
          by_cases hlt2 : m < n2
          · obtain ⟨b2, o2, hao2, hcell2⟩ := (HR2.out.below hbw).at' (by omega)
            have hml : m < fast.length := by have := HN2.out; omega
            have hc2 := hcell2 m _ (at_cell hml)
            have hys := at_some hml
            obtain ⟨y, hy⟩ : ∃ y, fast.getD m 0#16 = y := ⟨_, rfl⟩
            rw [hy] at hc2 hys
            cases hao2
            have hsz := hb.size
            have HYS := Lib.hid hys
            -- the world with both boxes
            have hb2 : Below wr.heap.size wr (wr.alloc (.cells #[.int .u16 (U y)] 27)) := (Below.refl _ _).alloc (Nat.le_refl _) _
            have e1 : (wr.alloc (.cells #[.int .u16 (U y)] 27)).cell? ⟨B1, 0, none⟩ = some (.int .u16 (U x)) := ((Below.next hb hb2).cell (p := ⟨B1, 0, none⟩) (cell_lt G1.out)).trans G1.out
            have e2 : (wr.alloc (.cells #[.int .u16 (U y)] 27)).cell? ⟨wr.heap.size, 0, none⟩ = some (.int .u16 (U y)) := cell_new _ _ _ 0 _ rfl
            have HI := Lib.hid (idxF_c 82 #[.pointer (some ⟨B1, 0, none⟩), .pointer (some ⟨wr.heap.size, 0, none⟩)] (enters_of Tryz.func82 (by kernel_rfl) rfl) (fun r => tri x y r) read a n c _ (HR.out.below (Below.next hbw hb2)) (clash1_at _ B1 wr.heap.size x y e1 e2))
            have E1 := Lib.hid e1
            have E2 := Lib.hid e2
            have HBX := Lib.hid (Below.next hb hb2)
            rcases idx_find (p := fun r => tri x y r) (l := read) with ⟨hf, hi⟩ | ⟨i, hil, hi, hf, _⟩
            · have hB0 : claB read x y = none := by unfold claB; rw [hf]; rfl
              have hno3 := Lib.hid (claA_step HYS.out hno2.out hB0)
              rw [hi] at HI
              clear hcell2 hml hy hys hf hi hB0 hno2 e1 e2 hb hb2
              go_wp2_with fail
              refine HI.out.mono ?_
              rintro e w3 ⟨rfl, b3⟩
              have b4 := Below.next HBX.out b3
              clear HI E1 E2 HBX b3
              go_wp2_with fail
              go_roundw
              case rel => exact ⟨m + 1, by omega, by go_num, hno3, b4⟩
              case measure => simp [intOf]; omega
            · have hB1 : claB read x y = some (x, y, read.getD i 0#16) := by unfold claB; rw [hf]; rfl
              have hA1 : claA read fast x = some (x, y, read.getD i 0#16) := fs_hit (f := fun b => claB read x b) HYS.out hno2.out hB1
              have hS1 : claS read fast = some (x, y, read.getD i 0#16) := fs_hit (f := fun a => claA read fast a) HXS.out hno.out hA1
              have hE : Hid (claT read fast = (x, y, read.getD i 0#16, 0)) := by show _ = _; rw [hC.out, hS1]; rfl
              have hin : i < n := by have := HN.out; omega
              have hcr := at_cell hil
              rw [hi] at HI
              clear hcell2 hml hy hys hf hi hB1 hA1 hS1 hno2 e1 e2 hb hb2
              go_wp2_with fail
              refine HI.out.mono ?_
              rintro e w3 ⟨rfl, b3⟩
              have b4 := Below.next HBX.out b3
              have b5 := Below.next HBW.out b4
              have f1 : w3.cell? ⟨B1, 0, none⟩ = some (.int .u16 (U x)) := (b3.cell (p := ⟨B1, 0, none⟩) (cell_lt E1.out)).trans E1.out
              have f2 : w3.cell? ⟨wr.heap.size, 0, none⟩ = some (.int .u16 (U y)) := (b3.cell (p := ⟨wr.heap.size, 0, none⟩) (cell_lt E2.out)).trans E2.out
              obtain ⟨b6, o6, hao6, hcell6⟩ := (HR.out.below b5).at' (by omega)
              have f3 := hcell6 i _ hcr
              obtain ⟨r, hr⟩ : ∃ r, read.getD i 0#16 = r := ⟨_, rfl⟩
              rw [hr] at f3 hE
              cases hao6
              have hi0 : (0 : Int) ≤ (i : Int) := by omega
              have hi1 : (i : Int) < (n : Int) := by omega
              clear HI E1 E2 HBX b3 b4 hcell6 hcr hr hil
              go_wp2_with fail
              go_quiet (fail)
              go_wp2_with fail
              exact bodyPost_ret (v := V4 (x, y, r, 0)) (by simp [results, Tryz.results45, go_sem, V4]) rfl ⟨by rw [hE.out], below_drewN b5⟩
          · have hA0 : claA read fast x = none := fs_none (f := fun b => claB read x b) (fun j z hz => hno2.out j z (by have := (List.getElem?_eq_some_iff.1 hz).1; have := HN2.out; omega) hz)
            have hno3 := Lib.hid (claS_step HXS.out hno.out hA0)
            clear hno hno2 hA0
            go_wp2_with fail
            go_roundw
            case rel => exact ⟨k + 1, by omega, by go_num, hno3, hbw⟩
            case measure => simp [intOf]; omega
      · have hS0 : claS read fast = none := fs_none (f := fun a => claA read fast a) (fun j z hz => hno.out j z (by have := (List.getElem?_eq_some_iff.1 hz).1; have := HN2.out; omega) hz)
        have hE : Hid (claT read fast = (0#16, 0#16, 0#16, 13)) := by show _ = _; rw [hC.out, hS0]; rfl
        clear hno hS0
        go_wp2_with fail
        exact bodyPost_ret (v := V4 (0#16, 0#16, 0#16, 13)) (by simp [results, Tryz.results45, go_sem, V4]) rfl ⟨by rw [hE.out], hb⟩
  · have hE : Hid (claT read fast = (0#16, 0#16, 0#16, botS read fast)) := by show _ = _; unfold claT; rw [if_pos hbo]
    obtain ⟨v, hv⟩ : ∃ v, botS read fast = v := ⟨_, rfl⟩
    rw [hv] at HB hE hbo
    have hv1 : (v != 0) = true := by simpa using hbo
    clear hv hbo
    go_enter Tryz.func45, Tryz.ntmps45
    go_wp2_with fail
    refine HB.out.mono ?_
    rintro e w1 ⟨rfl, b1⟩
    go_wp2_with fail
    exact bodyPost_ret (v := V4 (0#16, 0#16, 0#16, v)) (by simp [results, Tryz.results45, go_sem, V4]) rfl ⟨by rw [hE.out], b1⟩

set_option maxRecDepth 100000 in
set_option maxHeartbeats 1000000 in
theorem safe_c (read fast : List (BitVec 16)) (a : Option Addr) (n c : Nat) (a2 : Option Addr) (n2 c2 : Nat) (w : World) (h : Rd w a n c (read.map setV2)) (h2 : Rd w a2 n2 c2 (fast.map setV2)) :
    Calls Tryz.prog 14 #[.slice a n c, .slice a2 n2 c2] w fun e w' => e = .returned (.bool ((claT read fast).2.2.2 == 13)) ∧ Below w.heap.size w w' := by
  have HC := Lib.hid (clash_c read fast a n c a2 n2 c2 w h h2)
  clear h h2
  obtain ⟨⟨x, y, r, e⟩, he⟩ : ∃ p, claT read fast = p := ⟨_, rfl⟩
  rw [he] at HC
  have HE := Lib.hid he
  unfold V4 at HC
  clear he
  go_enter Tryz.func14, Tryz.ntmps14
  go_wp2_with fail
  refine HC.out.mono ?_
  rintro e w1 ⟨rfl, b1⟩
  go_wp2_with fail
  go_ret
  exact ⟨by rw [HE.out]; rfl, b1⟩
end Go.Proofs.YtmjgdnpfgkpaoaaGreatDoor
namespace Go.Proofs.YtmjgdnpfgkpaoaaGreatDoor
open Go.RowKit

/-- the entries of the members -/
def entries (x : BitVec 16) (to : List Int) : List Int := (memS x).map fun i => (to[i]?).getD (-1)
def renS (x : BitVec 16) (to : List Int) : BitVec 16 × Int := ofS 0#16 (entries x to)

theorem memS_lt {x : BitVec 16} {k i : Nat} (h : (memS x)[k]? = some i) : i < 16 := by
  have := List.mem_of_getElem? h
  simp [memS] at this
  exact this.1
theorem addS_neg (s : BitVec 16) : addS s (-1) = (0#16, 7) := by simp [addS]

end Go.Proofs.YtmjgdnpfgkpaoaaGreatDoor
namespace Go.Proofs.YtmjgdnpfgkpaoaaGreatDoor
open Go.RowKit

theorem ofS_append (p q : List Int) : ∀ s, ofS s (p ++ q) = if (ofS s p).2 = 0 then ofS (ofS s p).1 q else ofS s p := by
  induction p with
  | nil => intro s; simp [ofS]
  | cons i p ih =>
    intro s
    by_cases h0 : (addS s i).2 = 0
    · simp only [List.cons_append, ofS, if_pos h0]; exact ih _
    · simp only [List.cons_append, ofS, if_neg h0]

theorem ofS_stop {l : List Int} {k : Nat} (h : l[k]? = some (-1)) (s : BitVec 16) : ofS s (l.take (k + 1)) = ofS s l := by
  have e : l = l.take (k + 1) ++ l.drop (k + 1) := (List.take_append_drop _ _).symm
  have h2 : (ofS s (l.take (k + 1))).2 ≠ 0 := by
    rw [List.take_add_one, h, ofS_append]
    by_cases h0 : (ofS s (l.take k)).2 = 0
    · rw [if_pos h0]; simp [ofS, addS_neg]
    · rw [if_neg h0]; exact h0
  conv => rhs; rw [e, ofS_append, if_neg h2]

theorem entries_len (x : BitVec 16) (to : List Int) : (entries x to).length = cnt x := by simp [entries, cnt]
def intV' (i : Int) : Value := .int .i64 i

set_option maxHeartbeats 400000 in
theorem within_c (x y : BitVec 16) (s t : Int) (w : World) (hs : s = U x) (ht : t = U y) :
    Calls Tryz.prog 69 #[.int .u16 s, .int .u16 t] w fun e w' => e = .returned (.bool (x &&& ~~~y == 0#16)) ∧ w = w' := by
  subst hs ht
  go_enter Tryz.func69, Tryz.ntmps69
  go_wp2
  go_ret
  exact ⟨rfl, rfl⟩

def setV (x : BitVec 16) : Value := .int .u16 (U x)
def pickB (x : BitVec 16) (k : Int) (n : Nat) : Bool := (BitVec.ofNat 16 n &&& ~~~x == 0#16) && ((cnt (BitVec.ofNat 16 n) : Int) == k)
def pickTo (x : BitVec 16) (k : Int) (N : Nat) : List (BitVec 16) := ((List.range N).filter (pickB x k)).map (BitVec.ofNat 16)
/-- the subsets of x with k members, in order -/
def chooseS (x : BitVec 16) (k : Int) : List (BitVec 16) := pickTo x k 65536
theorem pickTo_succ (x : BitVec 16) (k : Int) (N : Nat) : pickTo x k (N + 1) = if pickB x k N then pickTo x k N ++ [BitVec.ofNat 16 N] else pickTo x k N := by
  unfold pickTo; rw [List.range_succ, List.filter_append]; cases h : pickB x k N <;> simp [h]
theorem pickTo_le (x : BitVec 16) (k : Int) (N : Nat) : (pickTo x k N).length ≤ N := by
  unfold pickTo; rw [List.length_map]; exact Nat.le_trans (List.length_filter_le _ _) (by simp)
theorem U_ofNat (n : Nat) (h : n < 65536) : (n : Int) = U (BitVec.ofNat 16 n) := by simp [U]; omega
theorem Tryz.infoSet : (Tryz.prog.info? 27).map (fun i => (i.zero, i.size, i.bytes)) = some (some (.int .u16 0), 1, 2) := by kernel_rfl

end Go.Proofs.YtmjgdnpfgkpaoaaGreatDoor
namespace Go.Proofs.YtmjgdnpfgkpaoaaGreatDoor
open Go.RowKit

set_option maxRecDepth 100000 in
set_option maxHeartbeats 2000000 in
theorem rchoose_c (x : BitVec 16) (s kk : Int) (w : World) (hs : s = U x) :
    Calls Tryz.prog 29 #[.int .u16 s, .int .i64 kk] w fun e w' => ∃ v, e = .returned v ∧ Own w w' 27 v ((chooseS x kk).map setV) ∧ Below w.heap.size w w' := by
  subst hs
  go_enter Tryz.func29, Tryz.ntmps29
  go_wp2
  go_loopw [5, 6] (fun v i wr => ∃ (n : Nat), Hid (n ≤ 65536) ∧ i = .int .i64 n ∧ wr.ownsRow w.heap.size 27 1 v (pickTo x kk n).length ((pickTo x kk n).map setV) ∧ Below w.heap.size w wr) (fun _ i _ => 65536 - (intOf i).toNat)
  case atStart => exact ⟨0, Nat.zero_le 65536, rfl, World.ownsRow_nil _ _ _ _, Below.refl _ _⟩
  case round =>
    obtain ⟨n, hn, rfl, hown, hb⟩ := hrel
    have hq : n / 256 ≤ 256 := by have := hn.out; omega
    by_cases hlt0 : n < 65536
    · have hlt := Lib.hid hlt0
      have HN := Lib.hid (U_ofNat n hlt0)
      have hdt : decide ((n : Int) < 65536) = true := by rw [decide_eq_true_eq]; omega
      have hwr : IntKind.u16.wrap (n : Int) = (n : Int) := by rw [IntKind.wrap_u16]; omega
      clear hlt0
      have hs := pickTo_succ x kk n
      have hle := pickTo_le x kk n
      cases hw : (BitVec.ofNat 16 n &&& ~~~x == 0#16)
      · have hp : pickB x kk n = false := by simp only [pickB, hw, Bool.false_and]
        rw [hp] at hs
        have HS := Lib.hid hs
        have HW := Lib.hid hw
        clear hs hw hp
        go_wp2_with fail
        refine (within_c (BitVec.ofNat 16 n) x _ _ _ HN.out rfl).mono ?_
        rintro e w2 ⟨rfl, rfl⟩
        rw [HW.out]
        go_wp2_with fail
        go_roundw
        case rel => exact ⟨n + 1, (by have := hlt.out; show n + 1 ≤ 65536; omega), by go_num, by rw [HS.out]; exact hown, hb⟩
        case measure => have := hlt.out; show 65536 - (n + 1) < 65536 - n; omega
      · cases hc : ((cnt (BitVec.ofNat 16 n) : Int) == kk)
        · have hp : pickB x kk n = false := by simp only [pickB, hc, Bool.and_false]
          rw [hp] at hs
          have HS := Lib.hid hs
          have HW := Lib.hid hw
          clear hs hw hp
          go_wp2_with fail
          refine (within_c (BitVec.ofNat 16 n) x _ _ _ HN.out rfl).mono ?_
          rintro e w2 ⟨rfl, rfl⟩
          rw [HW.out]
          go_wp2_with fail
          refine (rcount_c (BitVec.ofNat 16 n) _ _ HN.out).mono ?_
          rintro e w2 ⟨rfl, hb2⟩
          have hown2 := Own.below (w := w) (l := (pickTo x kk n).map setV) (by rw [Own, List.length_map]; exact hown) hb2
          go_wp2_with fail
          go_roundw
          case rel => exact ⟨n + 1, (by have := hlt.out; show n + 1 ≤ 65536; omega), by go_num, by rw [HS.out]; rw [Own, List.length_map] at hown2; exact hown2, Below.next hb hb2⟩
          case measure => have := hlt.out; show 65536 - (n + 1) < 65536 - n; omega
        · have hp : pickB x kk n = true := by simp only [pickB, hc, hw, Bool.and_true]
          rw [hp] at hs
          have HS := Lib.hid hs
          have HW := Lib.hid hw
          clear hs hw hp
          go_wp2_with fail
          refine (within_c (BitVec.ofNat 16 n) x _ _ _ HN.out rfl).mono ?_
          rintro e w2 ⟨rfl, rfl⟩
          rw [HW.out]
          go_wp2_with fail
          refine (rcount_c (BitVec.ofNat 16 n) _ _ HN.out).mono ?_
          rintro e w2 ⟨rfl, hb2⟩
          have hown2 := Own.below (w := w) (l := (pickTo x kk n).map setV) (by rw [Own, List.length_map]; exact hown) hb2
          rw [Own, List.length_map] at hown2
          have hb3 := Below.next hb hb2
          clear hown hb hb2
          go_wp2_with (at_builtin; go_must (refine wpList_app _ _ 25 2 (.int .u16 0) (.int .u16 n) _ Tryz.underlying25 Tryz.infoSet rfl hown2 hb3 (Nat.le_refl _) rfl rfl rfl rfl rfl (by unfold maxLen; omega) (by omega) ?_))
          intro v' w1 hown1 hb1 _ _
          clear hown2 hb3 hc
          go_wp2_with fail
          go_roundw
          case rel => exact ⟨n + 1, (by have := hlt.out; show n + 1 ≤ 65536; omega), by go_num, by rw [HS.out]; simp only [if_true, List.length_append, List.map_append, List.map_cons, List.map_nil, setV, ← HN.out]; exact hown1, hb1⟩
          case measure => have := hlt.out; show 65536 - (n + 1) < 65536 - n; omega
    · have hdt : decide ((n : Int) < 65536) = false := by rw [decide_eq_false_iff_not]; omega
      have hN : Hid (n = 65536) := by have := hn.out; show n = 65536; omega
      clear hlt0
      go_wp2_with fail
      go_ret
      exact ⟨_, rfl, by unfold Own chooseS; rw [List.length_map, ← hN.out]; exact hown, hb⟩
end Go.Proofs.YtmjgdnpfgkpaoaaGreatDoor
namespace Go.Proofs.YtmjgdnpfgkpaoaaGreatDoor
open Go.RowKit

/-- all subsets up to k members, in order -/
def subsTo (x : BitVec 16) (K : Nat) : List (BitVec 16) := (List.range K).flatMap fun (k : Nat) => chooseS x (k : Int)
def subsS (x : BitVec 16) : List (BitVec 16) := subsTo x (cnt x + 1)
theorem subsTo_succ (x : BitVec 16) (K : Nat) : subsTo x (K + 1) = subsTo x K ++ chooseS x K := by
  simp [subsTo, List.range_succ]
theorem chooseS_le (x : BitVec 16) (k : Int) : (chooseS x k).length ≤ 70000 := Nat.le_trans (pickTo_le x k 65536) (by decide)
theorem subsTo_le (x : BitVec 16) (K : Nat) : (subsTo x K).length ≤ 70000 * K := by
  induction K with
  | zero => simp [subsTo]
  | succ K ih => rw [subsTo_succ, List.length_append]; have := chooseS_le x K; omega

/-- two lists of sets are the same -/
theorem same_take {α : Type} [DecidableEq α] {l m : List α} {k : Nat} (_hl : l.length = m.length) {x y : α} (hx : l[k]? = some x) (hy : m[k]? = some y) (ht : l.take k = m.take k) :
    (x = y → l.take (k + 1) = m.take (k + 1)) ∧ (x ≠ y → l ≠ m) := by
  refine ⟨fun e => ?_, fun e h => ?_⟩
  · rw [List.take_add_one, List.take_add_one, hx, hy, ht, e]
  · rw [h, hy] at hx; exact e (Option.some.inj hx).symm

end Go.Proofs.YtmjgdnpfgkpaoaaGreatDoor
namespace Go.Proofs.YtmjgdnpfgkpaoaaGreatDoor

structure Nod where
  kind : Int
  server : Int
  need : Int
  weights : List Int
  kids : List Int
structure Xpr where
  nodes : List Nod
  root : Int
def nod0 : Nod := ⟨0, 0, 0, [], []⟩

/-- a weight, a kid that is out of range -/
def hvyB (w : Int) : Bool := decide (w < 1) || decide (1000 < w)
def unkB (i : Nat) (k : Int) : Bool := decide (k < 0) || decide ((i : Int) ≤ k)
/-- the error of the node with an index -/
def nodE (nd : Nod) (i : Nat) : Int :=
  if (nd.kind ≠ 1 ∧ nd.kind ≠ 2) ∨ (nd.kind = 1 ∧ (nd.need ≠ 0 ∨ nd.weights ≠ [] ∨ nd.kids ≠ [])) ∨ (nd.kind = 2 ∧ nd.server ≠ 0) then 1
  else if (nd.server < 0 ∨ 12 ≤ nd.server ∨ nd.need < 0 ∨ 100000 < nd.need) ∨ nd.weights.any hvyB = true then 7
  else if nd.weights ≠ [] ∧ nd.weights.length ≠ nd.kids.length then 6
  else if nd.kids.any (unkB i) = true then 4 else 0
/-- the first error among the nodes from an index on -/
def nodsE : List Nod → Nat → Int
  | [], _ => 0
  | nd :: l, i => if nodE nd i ≠ 0 then nodE nd i else nodsE l (i + 1)
/-- the error of an expression -/
def xprE (x : Xpr) : Int :=
  if x.nodes = [] then 9 else if 60 < x.nodes.length then 3 else if nodsE x.nodes 0 ≠ 0 then nodsE x.nodes 0
  else if x.root < 0 ∨ (x.nodes.length : Int) ≤ x.root then 4 else 0

theorem nodsE_drop {l : List Nod} {i k : Nat} {nd : Nod} (h : l[k]? = some nd) : nodsE (l.drop k) i = if nodE nd i ≠ 0 then nodE nd i else nodsE (l.drop (k + 1)) (i + 1) := by
  have hk := (List.getElem?_eq_some_iff.1 h).1
  rw [List.drop_eq_getElem_cons hk]
  have : l[k] = nd := (List.getElem?_eq_some_iff.1 h).2
  rw [this]; rfl
theorem nodsE_ok : ∀ {l : List Nod} {i : Nat}, nodsE l i = 0 → ∀ (k : Nat) (nd : Nod), l[k]? = some nd → nodE nd (i + k) = 0 := by
  intro l
  induction l with
  | nil => intro i _ k nd h; simp at h
  | cons y l ih =>
    intro i h k nd hk
    unfold nodsE at h
    split at h
    · rename_i h1; exact absurd h h1
    · rename_i h1
      cases k with
      | zero => simp at hk; subst hk; simpa using h1
      | succ k =>
        have := ih h k nd (by simpa using hk)
        rw [show i + (k + 1) = i + 1 + k by omega]; exact this

/-- the weight of a kid -/
def wgtN (nd : Nod) (k : Nat) : Int := if nd.weights = [] then 1 else nd.weights.getD k 0
/-- the sum of the weights of the satisfied kids, of the first k -/
def gotTo (nd : Nod) (is : List Bool) : Nat → Int
  | 0 => 0
  | k + 1 => gotTo nd is k + (if is.getD (nd.kids.getD k 0).toNat false = true then wgtN nd k else 0)
def valN (nd : Nod) (is : List Bool) (s : BitVec 16) : Bool := if nd.kind = 1 then hasB s nd.server.toNat else decide (nd.need ≤ gotTo nd is nd.kids.length)
def holdTo (nodes : List Nod) (s : BitVec 16) : Nat → List Bool
  | 0 => []
  | k + 1 => holdTo nodes s k ++ [valN (nodes.getD k nod0) (holdTo nodes s k) s]
/-- a set satisfies an expression -/
def holdX (x : Xpr) (s : BitVec 16) : Bool := (holdTo x.nodes s x.nodes.length).getD x.root.toNat false

theorem holdTo_len (nodes : List Nod) (s : BitVec 16) : ∀ k, (holdTo nodes s k).length = k := by
  intro k
  induction k with
  | zero => rfl
  | succ k ih => rw [holdTo, List.length_append, ih]; rfl
theorem holdTo_get {nodes : List Nod} {s : BitVec 16} {i : Nat} : ∀ k, i < k → (holdTo nodes s k).getD i false = valN (nodes.getD i nod0) (holdTo nodes s i) s := by
  intro k
  induction k with
  | zero => intro h; omega
  | succ k ih =>
    intro h
    rw [holdTo, List.getD_eq_getElem?_getD]
    by_cases h1 : i < k
    · rw [List.getElem?_append_left (by rw [holdTo_len]; exact h1), ← List.getD_eq_getElem?_getD]
      exact ih h1
    · obtain rfl : i = k := by omega
      rw [List.getElem?_append_right (by rw [holdTo_len]; exact Nat.le_refl _), holdTo_len, Nat.sub_self]; rfl
/-- the value of the root needs no node behind it -/
theorem holdX_root {x : Xpr} {s : BitVec 16} {r : Nat} (hr : x.root = (r : Int)) (hl : r < x.nodes.length) : holdX x s = (holdTo x.nodes s (r + 1)).getD r false := by
  unfold holdX
  rw [hr, Int.toNat_natCast, holdTo_get _ hl, holdTo_get _ (Nat.lt_succ_self r)]

/-! what holds of valid nodes -/
structure NodOk (nd : Nod) (i : Nat) : Prop where
  kind : nd.kind = 1 ∨ nd.kind = 2
  server : 0 ≤ nd.server ∧ nd.server < 12
  need : 0 ≤ nd.need ∧ nd.need ≤ 100000
  weights : ∀ w ∈ nd.weights, 1 ≤ w ∧ w ≤ 1000
  arity : nd.weights = [] ∨ nd.weights.length = nd.kids.length
  kids : ∀ k ∈ nd.kids, 0 ≤ k ∧ k < (i : Int)
  leaf : nd.kind = 1 → nd.need = 0 ∧ nd.weights = [] ∧ nd.kids = []
theorem nodE_ok {nd : Nod} {i : Nat} (h : nodE nd i = 0) : NodOk nd i := by
  unfold nodE at h
  split at h
  · cases h
  · rename_i h1
    split at h
    · cases h
    · rename_i h2
      split at h
      · cases h
      · rename_i h3
        split at h
        · cases h
        · rename_i h4
          refine ⟨?_, ?_, ?_, fun w hw => ?_, ?_, fun k hk => ?_, fun hk => ?_⟩
          · omega
          · omega
          · omega
          · have : hvyB w = false := by
              cases hq : hvyB w
              · rfl
              · exact absurd (.inr (List.any_eq_true.2 ⟨w, hw, hq⟩)) h2
            unfold hvyB at this
            rw [Bool.or_eq_false_iff, decide_eq_false_iff_not, decide_eq_false_iff_not] at this
            omega
          · by_cases hw : nd.weights = []
            · exact .inl hw
            · exact .inr (Classical.byContradiction fun hn => h3 ⟨hw, hn⟩)
          · have : unkB i k = false := by
              cases hq : unkB i k
              · rfl
              · exact absurd (List.any_eq_true.2 ⟨k, hk, hq⟩) h4
            unfold unkB at this
            rw [Bool.or_eq_false_iff, decide_eq_false_iff_not, decide_eq_false_iff_not] at this
            omega
          · refine ⟨?_, ?_, ?_⟩ <;> apply Classical.byContradiction <;> intro hn
            · exact h1 (.inr (.inl ⟨hk, .inl hn⟩))
            · exact h1 (.inr (.inl ⟨hk, .inr (.inl hn)⟩))
            · exact h1 (.inr (.inl ⟨hk, .inr (.inr hn)⟩))
structure XprOk (x : Xpr) : Prop where
  pos : 0 < x.nodes.length
  most : x.nodes.length ≤ 60
  node : ∀ (k : Nat) (nd : Nod), x.nodes[k]? = some nd → NodOk nd k
  root : 0 ≤ x.root ∧ x.root < (x.nodes.length : Int)
theorem xprE_ok {x : Xpr} (h : xprE x = 0) : XprOk x := by
  unfold xprE at h
  split at h
  · cases h
  · rename_i h1
    split at h
    · cases h
    · rename_i h2
      split at h
      · rename_i h3; exact absurd h h3
      · rename_i h3
        split at h
        · cases h
        · rename_i h4
          exact ⟨List.length_pos_iff.2 h1, by omega, fun k nd hk => by have := nodE_ok (nodsE_ok (by simpa using h3) k nd hk); rwa [Nat.zero_add] at this, by omega⟩

theorem wgt_pos {nd : Nod} {i : Nat} (h : NodOk nd i) (k : Nat) : 0 ≤ wgtN nd k ∧ wgtN nd k ≤ 1000 := by
  unfold wgtN
  split
  · omega
  · rw [List.getD_eq_getElem?_getD]
    cases hq : nd.weights[k]? with
    | none => decide
    | some w => have := h.weights w (List.mem_of_getElem? hq); show 0 ≤ w ∧ w ≤ 1000; omega
theorem got_bd {nd : Nod} {i : Nat} (h : NodOk nd i) (is : List Bool) : ∀ k, 0 ≤ gotTo nd is k ∧ gotTo nd is k ≤ 1000 * k := by
  intro k
  induction k with
  | zero => exact ⟨Int.le_refl _, by simp [gotTo]⟩
  | succ k ih =>
    have := wgt_pos h k
    unfold gotTo
    split <;> omega
theorem got_mono {nd : Nod} {i : Nat} (h : NodOk nd i) {is is' : List Bool} (hi : ∀ j, is.getD j false = true → is'.getD j false = true) : ∀ k, gotTo nd is k ≤ gotTo nd is' k := by
  intro k
  induction k with
  | zero => exact Int.le_refl _
  | succ k ih =>
    have := wgt_pos h k
    unfold gotTo
    by_cases h1 : is.getD (nd.kids.getD k 0).toNat false = true
    · rw [if_pos h1, if_pos (hi _ h1)]; omega
    · rw [if_neg h1]; split <;> omega
theorem val_mono {nd : Nod} {i : Nat} (h : NodOk nd i) {is is' : List Bool} {s s' : BitVec 16} (hi : ∀ j, is.getD j false = true → is'.getD j false = true) (hs : ∀ p, hasB s p = true → hasB s' p = true) (hv : valN nd is s = true) : valN nd is' s' = true := by
  unfold valN at hv ⊢
  split
  · rename_i hk; rw [if_pos hk] at hv; exact hs _ hv
  · rename_i hk
    rw [if_neg hk] at hv
    have h1 := of_decide_eq_true hv
    have h2 := got_mono h hi nd.kids.length
    exact decide_eq_true (by omega)
theorem hold_mono {x : Xpr} (h : XprOk x) {s s' : BitVec 16} (hs : ∀ p, hasB s p = true → hasB s' p = true) : ∀ k, k ≤ x.nodes.length → ∀ j, (holdTo x.nodes s k).getD j false = true → (holdTo x.nodes s' k).getD j false = true := by
  intro k
  induction k with
  | zero => intro _ j hj; simp [holdTo] at hj
  | succ k ih =>
    intro hk j hj
    have hjk : j < k + 1 := by
      apply Classical.byContradiction
      intro hn
      rw [List.getD_eq_getElem?_getD, List.getElem?_eq_none (by rw [holdTo_len]; omega)] at hj
      cases hj
    by_cases h1 : j < k
    · have e1 := holdTo_get (nodes := x.nodes) (s := s) (k + 1) hjk
      have e2 := holdTo_get (nodes := x.nodes) (s := s) k h1
      have e3 := holdTo_get (nodes := x.nodes) (s := s') (k + 1) hjk
      have e4 := holdTo_get (nodes := x.nodes) (s := s') k h1
      rw [e3, ← e4]
      exact ih (by omega) j (by rw [e2, ← e1]; exact hj)
    · obtain rfl : j = k := by omega
      rw [holdTo_get _ hjk] at hj ⊢
      have hnd : x.nodes[j]? = some (x.nodes.getD j nod0) := by rw [List.getD_eq_getElem?_getD, List.getElem?_eq_getElem (by omega)]; rfl
      exact val_mono (h.node j _ hnd) (ih (by omega)) hs hj
/-- what is satisfied stays so with more servers -/
theorem holdX_mono {x : Xpr} (h : XprOk x) {s s' : BitVec 16} (hs : ∀ p, hasB s p = true → hasB s' p = true) (hx : holdX x s = true) : holdX x s' = true := hold_mono h hs _ (Nat.le_refl _) _ hx

/-- the servers of an expression -/
def srvTo (nodes : List Nod) (k : Nat) : BitVec 16 := (nodes.take k).foldl (fun o nd => if nd.kind = 1 then o ||| bitS nd.server.toNat else o) 0#16
def srvX (x : Xpr) : BitVec 16 := srvTo x.nodes x.nodes.length
theorem srvTo_succ {nodes : List Nod} {k : Nat} {nd : Nod} (h : nodes[k]? = some nd) : srvTo nodes (k + 1) = if nd.kind = 1 then srvTo nodes k ||| bitS nd.server.toNat else srvTo nodes k := by
  unfold srvTo; rw [List.take_add_one, h]; simp
theorem srvTo_has {x : Xpr} (h : XprOk x) {p : Nat} : ∀ k, k ≤ x.nodes.length → (hasB (srvTo x.nodes k) p = true ↔ ∃ nd ∈ x.nodes.take k, nd.kind = 1 ∧ nd.server = (p : Int)) := by
  intro k
  induction k with
  | zero => intro _; simp [srvTo, hasB_zero]
  | succ k ih =>
    intro hk
    have he : x.nodes[k]? = some (x.nodes[k]'(by omega)) := List.getElem?_eq_getElem _
    obtain ⟨nd, hnd⟩ : ∃ nd, x.nodes[k]'(by omega) = nd := ⟨_, rfl⟩
    rw [hnd] at he
    have hok := h.node k nd he
    have ht : x.nodes.take (k + 1) = x.nodes.take k ++ [nd] := by rw [List.take_add_one, he]; rfl
    rw [srvTo_succ he, ht]
    have key : (∃ d ∈ x.nodes.take k ++ [nd], d.kind = 1 ∧ d.server = (p : Int)) ↔ (∃ d ∈ x.nodes.take k, d.kind = 1 ∧ d.server = (p : Int)) ∨ (nd.kind = 1 ∧ nd.server = (p : Int)) := by
      constructor
      · rintro ⟨d, hd, hq⟩
        rcases List.mem_append.1 hd with hd | hd
        · exact .inl ⟨d, hd, hq⟩
        · rw [List.mem_singleton] at hd; subst hd; exact .inr hq
      · rintro (⟨d, hd, hq⟩ | hq)
        · exact ⟨d, List.mem_append_left _ hd, hq⟩
        · exact ⟨nd, List.mem_append_right _ (List.mem_singleton_self _), hq⟩
    rw [key, ← ih (by omega)]
    by_cases h1 : nd.kind = 1
    · rw [if_pos h1, hasB_or, Bool.or_eq_true, hasB_bit _ _ (by have := hok.server; omega), decide_eq_true_eq]
      have hs := hok.server
      constructor
      · rintro (h2 | h2)
        · exact .inl h2
        · exact .inr ⟨h1, by omega⟩
      · rintro (h2 | h2)
        · exact .inl h2
        · exact .inr (by omega)
    · rw [if_neg h1]
      constructor
      · exact .inl
      · rintro (h2 | h2)
        · exact h2
        · exact absurd h2.1 h1
theorem srvX_has {x : Xpr} (h : XprOk x) {p : Nat} : hasB (srvX x) p = true ↔ ∃ nd ∈ x.nodes, nd.kind = 1 ∧ nd.server = (p : Int) := by
  have := srvTo_has h (p := p) _ (Nat.le_refl _)
  rwa [List.take_length] at this
theorem srvX_12 {x : Xpr} (h : XprOk x) {p : Nat} (hp : hasB (srvX x) p = true) : p < 12 := by
  obtain ⟨nd, hnd, _, hs⟩ := (srvX_has h).1 hp
  obtain ⟨k, hk⟩ := List.mem_iff_getElem?.1 hnd
  have := (h.node k nd hk).server
  omega
/-- only its servers matter -/
theorem hold_only {x : Xpr} (h : XprOk x) {s s' : BitVec 16} (hs : ∀ p, hasB (srvX x) p = true → hasB s p = hasB s' p) : ∀ k, k ≤ x.nodes.length → holdTo x.nodes s k = holdTo x.nodes s' k := by
  intro k
  induction k with
  | zero => intro _; rfl
  | succ k ih =>
    intro hk
    unfold holdTo
    rw [ih (by omega)]
    congr 2
    have hnd : x.nodes[k]? = some (x.nodes.getD k nod0) := by rw [List.getD_eq_getElem?_getD, List.getElem?_eq_getElem (by omega)]; rfl
    have hok := h.node k _ hnd
    unfold valN
    split
    · rename_i hk1
      refine hs _ ((srvX_has h).2 ⟨_, List.mem_of_getElem? hnd, hk1, ?_⟩)
      have := hok.server; omega
    · rfl
theorem holdX_only {x : Xpr} (h : XprOk x) {s s' : BitVec 16} (hs : ∀ p, hasB (srvX x) p = true → hasB s p = hasB s' p) : holdX x s = holdX x s' := by
  unfold holdX; rw [hold_only h hs _ (Nat.le_refl _)]

/-- minimal sets, out of a list of sets in order -/
def famStep (x : Xpr) (o : List (BitVec 16)) (s : BitVec 16) : List (BitVec 16) := if accS o s = true then o else if holdX x s = true then o ++ [s] else o
def famOf (x : Xpr) (l : List (BitVec 16)) : List (BitVec 16) := l.foldl (famStep x) []
theorem acc_app (l m : List (BitVec 16)) (s : BitVec 16) : accS (l ++ m) s = (accS l s || accS m s) := by unfold accS; rw [List.any_append]
theorem fam_grow (x : Xpr) : ∀ (l o : List (BitVec 16)) (s : BitVec 16), accS o s = true → accS (l.foldl (famStep x) o) s = true := by
  intro l
  induction l with
  | nil => intro o s h; exact h
  | cons y l ih =>
    intro o s h
    rw [List.foldl_cons]
    apply ih
    unfold famStep
    split
    · exact h
    · split
      · rw [acc_app, h]; rfl
      · exact h
theorem fam_only (x : Xpr) : ∀ (l o : List (BitVec 16)), ∀ f ∈ l.foldl (famStep x) o, f ∈ o ∨ (f ∈ l ∧ holdX x f = true) := by
  intro l
  induction l with
  | nil => intro o f h; exact .inl h
  | cons y l ih =>
    intro o f h
    rw [List.foldl_cons] at h
    rcases ih _ f h with h1 | ⟨h1, h2⟩
    · unfold famStep at h1
      split at h1
      · exact .inl h1
      · split at h1
        · rename_i hq
          rcases List.mem_append.1 h1 with h1 | h1
          · exact .inl h1
          · rw [List.mem_singleton] at h1; subst h1; exact .inr ⟨List.mem_cons_self .., hq⟩
        · exact .inl h1
    · exact .inr ⟨List.mem_cons_of_mem _ h1, h2⟩
theorem acc_self' (s : BitVec 16) : accS [s] s = true := by
  unfold accS; rw [List.any_cons, Bool.or_eq_true]; exact .inl ((subB_iff s s).2 fun _ h => h)
theorem fam_all (x : Xpr) : ∀ (l o : List (BitVec 16)) (s : BitVec 16), s ∈ l → holdX x s = true → accS (l.foldl (famStep x) o) s = true := by
  intro l
  induction l with
  | nil => intro o s h; cases h
  | cons y l ih =>
    intro o s h hx
    rw [List.foldl_cons]
    rcases List.mem_cons.1 h with rfl | h
    · apply fam_grow
      unfold famStep
      split
      · assumption
      · first | rw [if_pos hx, acc_app, acc_self', Bool.or_true] | rw [acc_app, acc_self', Bool.or_true]
    · exact ih _ s h hx
/-- a family that was read off all subsets says what satisfies the expression -/
theorem fam_holds {x : Xpr} (h : XprOk x) {l : List (BitVec 16)} (hl : ∀ s, (∀ p, hasB s p = true → hasB (srvX x) p = true) → s ∈ l) (s : BitVec 16) : accS (famOf x l) s = holdX x s := by
  rw [Bool.eq_iff_iff]
  constructor
  · intro ha
    unfold accS at ha
    obtain ⟨f, hf, hs⟩ := List.any_eq_true.1 ha
    rcases fam_only x l [] f hf with h1 | ⟨_, h2⟩
    · cases h1
    · exact holdX_mono h ((subB_iff _ _).1 hs) h2
  · intro hx
    have hsub : ∀ p, hasB (s &&& srvX x) p = true → hasB (srvX x) p = true := fun p hp => by
      rw [hasB_and, Bool.and_eq_true] at hp; exact hp.2
    have h1 : holdX x (s &&& srvX x) = true := by
      rw [← hx]; exact holdX_only h fun p hp => by rw [hasB_and, hp, Bool.and_true]
    have h2 := fam_all x l [] _ (hl _ hsub) h1
    obtain ⟨f, hf, hs⟩ := List.any_eq_true.1 h2
    unfold famOf accS
    rw [List.any_eq_true]
    refine ⟨f, hf, (subB_iff _ _).2 fun p hp => ?_⟩
    have := (subB_iff _ _).1 hs p hp
    rw [hasB_and, Bool.and_eq_true] at this
    exact this.1
end Go.Proofs.YtmjgdnpfgkpaoaaGreatDoor
namespace Go.Proofs.YtmjgdnpfgkpaoaaGreatDoor

structure Cho where
  server : Int
  first : Int
  second : Int
structure Tre where
  nodes : List Cho
  root : Int
def cho0 : Cho := ⟨0, 0, 0⟩
def leafC (c : Cho) : Bool := decide (c.server = -1) || decide (c.server = -2)
/-- a node with an index is right -/
def nodC (c : Cho) (i : Nat) : Bool := if leafC c = true then decide (c.first = 0) && decide (c.second = 0) else ((decide (0 ≤ c.server) && decide (c.server < 12)) && (decide (0 ≤ c.first) && decide (c.first < (i : Int)))) && (decide (0 ≤ c.second) && decide (c.second < (i : Int)))
/-- the numbers of parents -/
def bumpS (ps : List Int) (j : Int) : List Int := ps.set j.toNat (ps.getD j.toNat 0 + 1)
def parStep (ps : List Int) (c : Cho) : List Int := if leafC c = true then ps else bumpS (bumpS ps c.first) c.second
def parTo (nodes : List Cho) (k : Nat) : List Int := (nodes.take k).foldl parStep (List.replicate nodes.length 0)
def nodsC (nodes : List Cho) : Bool := (List.range nodes.length).all fun i => nodC (nodes.getD i cho0) i
def parB (root : Int) (ps : List Int) (i : Nat) : Bool := if (i : Int) = root then ps.getD i 0 == 0 else ps.getD i 0 == 1
def parsB (t : Tre) : Bool := (List.range t.nodes.length).all (parB t.root (parTo t.nodes t.nodes.length))
def sizeC (t : Tre) : Bool := ((decide (1 ≤ t.nodes.length) && decide (t.nodes.length ≤ 8191)) && decide (0 ≤ t.root)) && decide (t.root < (t.nodes.length : Int))
/-- a tree is well formed -/
def formC (t : Tre) : Bool := (sizeC t && nodsC t.nodes) && parsB t

theorem parTo_succ {nodes : List Cho} {k : Nat} {c : Cho} (h : nodes[k]? = some c) : parTo nodes (k + 1) = parStep (parTo nodes k) c := by
  unfold parTo; rw [List.take_add_one, h]; simp
theorem bump_len (ps : List Int) (j : Int) : (bumpS ps j).length = ps.length := by unfold bumpS; rw [List.length_set]
theorem parStep_len (ps : List Int) (c : Cho) : (parStep ps c).length = ps.length := by
  unfold parStep; split
  · rfl
  · rw [bump_len, bump_len]
theorem parTo_len (nodes : List Cho) (k : Nat) : (parTo nodes k).length = nodes.length := by
  unfold parTo
  have : ∀ (l : List Cho) (o : List Int), (l.foldl parStep o).length = o.length := by
    intro l
    induction l with
    | nil => intro o; rfl
    | cons c l ih => intro o; rw [List.foldl_cons, ih, parStep_len]
  rw [this, List.length_replicate]

/-! right trees -/
def allV : BitVec 16 := 4095#16
def rightF (x y : Xpr) (b : BitVec 16) (nodes : List Cho) : Nat → Int → BitVec 16 → BitVec 16 → Bool
  | 0, _, _, _ => false
  | f + 1, i, p, q =>
    if (nodes.getD i.toNat cho0).server = -1 then !holdX x (allV &&& ~~~q)
    else if (nodes.getD i.toNat cho0).server = -2 then !holdX y (allV &&& ~~~p)
    else if ((bitS (nodes.getD i.toNat cho0).server.toNat &&& (b ||| p ||| q)) == 0#16) = true then
      rightF x y b nodes f (nodes.getD i.toNat cho0).first (p ||| bitS (nodes.getD i.toNat cho0).server.toNat) q && rightF x y b nodes f (nodes.getD i.toNat cho0).second p (q ||| bitS (nodes.getD i.toNat cho0).server.toNat)
    else false
/-- a tree is a certificate (for valid expressions) -/
def certC (x y : Xpr) (b : BitVec 16) (t : Tre) : Bool := formC t && rightF x y b t.nodes t.nodes.length t.root 0#16 0#16
def viol (x y b : BitVec 16) : Bool := x &&& y &&& ~~~b == 0#16
def famsB (f g : List (BitVec 16)) (b : BitVec 16) : Bool := f.all fun x => g.all fun y => !viol x y b

theorem hasB_not (x : BitVec 16) (i : Nat) (h : i < 16) : hasB (~~~x) i = !hasB x i := by unfold hasB; rw [BitVec.getLsbD_not]; simp [h]
theorem hasB_all (i : Nat) : hasB allV i = decide (i < 12) := by
  by_cases h : i < 16
  · have : ∀ i : Fin 16, hasB allV i.val = decide (i.val < 12) := by decide +kernel
    exact this ⟨i, h⟩
  · rw [decide_eq_false (by omega)]
    cases hq : hasB allV i
    · rfl
    · exact absurd (hasB_lt hq) h
theorem hasB_allnot (q : BitVec 16) (i : Nat) : hasB (allV &&& ~~~q) i = (decide (i < 12) && !hasB q i) := by
  rw [hasB_and, hasB_all]
  by_cases h : i < 12
  · rw [hasB_not _ _ (by omega)]
  · rw [decide_eq_false h]; rfl
theorem viol_iff (x y b : BitVec 16) : viol x y b = true ↔ ∀ i, hasB x i = true → hasB y i = true → hasB b i = true := by
  unfold viol
  rw [beq_iff_eq]
  constructor
  · intro h i hx hy
    cases hb : hasB b i
    · exfalso
      have h1 : hasB (x &&& y &&& ~~~b) i = true := by rw [hasB_and, hasB_and, hx, hy, hasB_not _ _ (hasB_lt hx), hb]; rfl
      rw [h, hasB_zero] at h1; cases h1
    · rfl
  · intro h
    refine hasB_ext fun i hi => ?_
    rw [hasB_zero, hasB_and, hasB_and, hasB_not _ _ hi]
    cases hx : hasB x i
    · rfl
    · cases hy : hasB y i
      · rfl
      · rw [h i hx hy]; rfl
theorem nodsC_at {nodes : List Cho} (h : nodsC nodes = true) {i : Nat} (hi : i < nodes.length) : nodC (nodes.getD i cho0) i = true := List.all_eq_true.1 h i (List.mem_range.2 hi)
/-- a certificate shows that there is no violating pair -/
theorem right_sound {x y : Xpr} (hx : XprOk x) (hy : XprOk y) {b F G : BitVec 16} (hF : holdX x F = true) (hG : holdX y G = true) (hFG : ∀ i, hasB F i = true → hasB G i = true → hasB b i = true) (hF12 : ∀ i, hasB F i = true → i < 12) (hG12 : ∀ i, hasB G i = true → i < 12) (nodes : List Cho) :
    ∀ (f : Nat) (i : Int) (p q : BitVec 16), (∀ j, hasB p j = true → hasB G j = false) → (∀ j, hasB q j = true → hasB F j = false) → (∀ c ∈ nodes, leafC c = false → 0 ≤ c.server ∧ c.server < 12) → 0 ≤ i → (i.toNat < nodes.length) → rightF x y b nodes f i p q = true → (∀ (k : Nat) c, nodes[k]? = some c → leafC c = false → (0 ≤ c.first ∧ c.first.toNat < k) ∧ 0 ≤ c.second ∧ c.second.toNat < k) → False := by
  intro f
  induction f with
  | zero => intro i p q _ _ _ _ _ h _; cases h
  | succ f ih =>
    intro i p q hp hq hsv hi0 hin h hk
    have hc : nodes[i.toNat]? = some (nodes.getD i.toNat cho0) := by rw [List.getD_eq_getElem?_getD, List.getElem?_eq_getElem hin]; rfl
    obtain ⟨c, hce⟩ : ∃ c, nodes.getD i.toNat cho0 = c := ⟨_, rfl⟩
    unfold rightF at h
    rw [hce] at h hc
    by_cases h1 : c.server = -1
    · rw [if_pos h1] at h
      have : holdX x (allV &&& ~~~q) = true := holdX_mono hx (fun j hj => by
        rw [hasB_allnot, decide_eq_true (hF12 j hj)]
        cases hqj : hasB q j
        · rfl
        · rw [hq j hqj] at hj; cases hj) hF
      rw [this] at h; cases h
    · rw [if_neg h1] at h
      by_cases h2 : c.server = -2
      · rw [if_pos h2] at h
        have : holdX y (allV &&& ~~~p) = true := holdX_mono hy (fun j hj => by
          rw [hasB_allnot, decide_eq_true (hG12 j hj)]
          cases hpj : hasB p j
          · rfl
          · rw [hp j hpj] at hj; cases hj) hG
        rw [this] at h; cases h
      · rw [if_neg h2] at h
        have hlf : leafC c = false := by unfold leafC; rw [decide_eq_false h1, decide_eq_false h2]; rfl
        obtain ⟨hs0, hs12⟩ := hsv c (List.mem_of_getElem? hc) hlf
        obtain ⟨⟨f0, fl⟩, s0, sl⟩ := hk _ c hc hlf
        split at h
        · rename_i hz
          rw [Bool.and_eq_true] at h
          have hsb : hasB b c.server.toNat = false := by
            cases hq2 : hasB b c.server.toNat
            · rfl
            · exfalso
              have h9 : hasB (bitS c.server.toNat &&& (b ||| p ||| q)) c.server.toNat = true := by rw [hasB_and, hasB_bit _ _ (by omega), hasB_or, hasB_or, hq2]; simp
              rw [eq_of_beq hz, hasB_zero] at h9; cases h9
          cases hG2 : hasB G c.server.toNat
          · refine ih c.first _ q (fun j hj => ?_) hq hsv f0 (by omega) h.1 hk
            rw [hasB_or, Bool.or_eq_true, hasB_bit _ _ (by omega), decide_eq_true_eq] at hj
            rcases hj with hj | rfl
            · exact hp j hj
            · exact hG2
          · refine ih c.second p _ hp (fun j hj => ?_) hsv s0 (by omega) h.2 hk
            rw [hasB_or, Bool.or_eq_true, hasB_bit _ _ (by omega), decide_eq_true_eq] at hj
            rcases hj with hj | rfl
            · exact hq j hj
            · cases hF2 : hasB F c.server.toNat
              · rfl
              · have := hFG _ hF2 hG2; rw [hsb] at this; cases this
        · cases h
theorem formC_parts {t : Tre} (h : formC t = true) : (1 ≤ t.nodes.length ∧ t.nodes.length ≤ 8191 ∧ 0 ≤ t.root ∧ t.root < (t.nodes.length : Int)) ∧ nodsC t.nodes = true ∧ parsB t = true := by
  unfold formC sizeC at h
  simp only [Bool.and_eq_true, decide_eq_true_eq] at h
  exact ⟨⟨h.1.1.1.1.1, h.1.1.1.1.2, h.1.1.1.2, h.1.1.2⟩, h.1.2, h.2⟩
theorem nodC_leaf {c : Cho} {i : Nat} (h : nodC c i = true) (hl : leafC c = false) : (0 ≤ c.server ∧ c.server < 12) ∧ (0 ≤ c.first ∧ c.first < (i : Int)) ∧ 0 ≤ c.second ∧ c.second < (i : Int) := by
  unfold nodC at h
  rw [hl, if_neg (by decide)] at h
  simp only [Bool.and_eq_true, decide_eq_true_eq] at h
  omega
theorem cert_sound {x y : Xpr} (hx : XprOk x) (hy : XprOk y) {b : BitVec 16} {t : Tre} (h : certC x y b t = true) {f g : List (BitVec 16)} (hf : ∀ F ∈ f, holdX x F = true ∧ ∀ i, hasB F i = true → i < 12) (hg : ∀ G ∈ g, holdX y G = true ∧ ∀ i, hasB G i = true → i < 12) : famsB f g b = true := by
  unfold certC at h
  rw [Bool.and_eq_true] at h
  obtain ⟨⟨h1, h2, h3, h4⟩, hn, _⟩ := formC_parts h.1
  refine List.all_eq_true.2 fun F hF => List.all_eq_true.2 fun G hG => ?_
  cases hv : viol F G b
  · rfl
  · exfalso
    refine right_sound hx hy (hf F hF).1 (hg G hG).1 ((viol_iff _ _ _).1 hv) (hf F hF).2 (hg G hG).2 t.nodes _ t.root 0#16 0#16 (fun j hj => by rw [hasB_zero] at hj; cases hj) (fun j hj => by rw [hasB_zero] at hj; cases hj) (fun c hc hl => ?_) h3 (by omega) h.2 (fun k c hk hl => ?_)
    · obtain ⟨k, hk⟩ := List.mem_iff_getElem?.1 hc
      have hk2 := (List.getElem?_eq_some_iff.1 hk).1
      have := nodsC_at hn hk2
      rw [List.getD_eq_getElem?_getD, hk, Option.getD_some] at this
      exact (nodC_leaf this hl).1
    · have hk2 := (List.getElem?_eq_some_iff.1 hk).1
      have := nodsC_at hn hk2
      rw [List.getD_eq_getElem?_getD, hk, Option.getD_some] at this
      have := (nodC_leaf this hl).2
      omega
/-- a certificate outside of a set is one outside of each part -/
theorem right_part {x y : Xpr} {b b' : BitVec 16} (hb : ∀ i, hasB b' i = true → hasB b i = true) (nodes : List Cho) : ∀ (f : Nat) (i : Int) (p q : BitVec 16), rightF x y b nodes f i p q = true → rightF x y b' nodes f i p q = true := by
  intro f
  induction f with
  | zero => intro i p q h; cases h
  | succ f ih =>
    intro i p q h
    unfold rightF at h ⊢
    split
    · rename_i h1; rw [if_pos h1] at h; exact h
    · rename_i h1
      rw [if_neg h1] at h
      split
      · rename_i h2; rw [if_pos h2] at h; exact h
      · rename_i h2
        rw [if_neg h2] at h
        split at h
        · rename_i hz
          rw [Bool.and_eq_true] at h
          rw [if_pos, ih _ _ _ h.1, ih _ _ _ h.2]
          · rfl
          · rw [beq_iff_eq]
            refine hasB_ext fun j hj => ?_
            have h9 := congrArg (fun v => hasB v j) (eq_of_beq hz)
            simp only [hasB_and, hasB_or, hasB_zero] at h9 ⊢
            cases hs : hasB (bitS (nodes.getD i.toNat cho0).server.toNat) j
            · rfl
            · rw [hs] at h9
              simp only [Bool.true_and, Bool.or_eq_false_iff] at h9 ⊢
              refine ⟨⟨?_, h9.1.2⟩, h9.2⟩
              cases hq : hasB b' j
              · rfl
              · rw [hb j hq] at h9; cases h9.1.1
        · cases h
theorem cert_part {x y : Xpr} {b b' : BitVec 16} (hb : ∀ i, hasB b' i = true → hasB b i = true) {t : Tre} (h : certC x y b t = true) : certC x y b' t = true := by
  unfold certC at h ⊢
  rw [Bool.and_eq_true] at h ⊢
  exact ⟨h.1, right_part hb _ _ _ _ _ h.2⟩
theorem fams_part {f g : List (BitVec 16)} {b b' : BitVec 16} (hb : ∀ i, hasB b' i = true → hasB b i = true) (h : famsB f g b = true) : famsB f g b' = true := by
  refine List.all_eq_true.2 fun F hF => List.all_eq_true.2 fun G hG => ?_
  have := List.all_eq_true.1 (List.all_eq_true.1 h F hF) G hG
  cases hv : viol F G b'
  · rfl
  · exfalso
    have h1 := (viol_iff F G b).2 fun i h2 h3 => hb i ((viol_iff F G b').1 hv i h2 h3)
    rw [h1] at this; cases this
end Go.Proofs.YtmjgdnpfgkpaoaaGreatDoor
namespace Go.Proofs.YtmjgdnpfgkpaoaaGreatDoor
open Go.RowKit

/-- the five cells of a node -/
structure NodM (w : World) (b o : Nat) (nd : Nod) : Prop where
  c0 : w.cell? ⟨b, o, none⟩ = some (.int .i64 nd.kind)
  c1 : w.cell? ⟨b, o + 1, none⟩ = some (.int .i64 nd.server)
  c2 : w.cell? ⟨b, o + 2, none⟩ = some (.int .i64 nd.need)
  ws : ∃ a n c, w.cell? ⟨b, o + 3, none⟩ = some (.slice a n c) ∧ Rd w a n c (nd.weights.map (Value.int .i64))
  ks : ∃ a n c, w.cell? ⟨b, o + 4, none⟩ = some (.slice a n c) ∧ Rd w a n c (nd.kids.map (Value.int .i64))
/-- the slice value '.slice a n c' reads as these nodes -/
structure XM (w : World) (a : Option Addr) (n c : Nat) (nodes : List Nod) : Prop where
  len : nodes.length = n
  le : n ≤ c
  max : c ≤ maxLen
  nil : a = none → c = 0
  at' : 0 < n → ∃ b o, a = some ⟨b, o, none⟩ ∧ ∀ i nd, nodes[i]? = some nd → NodM w b (o + i * 5) nd
theorem XM.none_ (w : World) : XM w none 0 0 [] := ⟨rfl, Nat.le_refl _, by simp [maxLen], fun _ => rfl, fun h => absurd h (by decide)⟩

theorem cell_keep {w w' : World} {b o : Nat} {v : Value} (hb : Below w.heap.size w w') (h : w.cell? ⟨b, o, none⟩ = some v) : w'.cell? ⟨b, o, none⟩ = some v :=
  (hb.cell (p := ⟨b, o, none⟩) (cell_lt h)).trans h
theorem NodM.below {w w' : World} {b o : Nat} {nd : Nod} (h : NodM w b o nd) (hb : Below w.heap.size w w') : NodM w' b o nd := by
  obtain ⟨a, n, c, h3, r3⟩ := h.ws
  obtain ⟨a', n', c', h4, r4⟩ := h.ks
  exact ⟨cell_keep hb h.c0, cell_keep hb h.c1, cell_keep hb h.c2, ⟨a, n, c, cell_keep hb h3, r3.below hb⟩, ⟨a', n', c', cell_keep hb h4, r4.below hb⟩⟩
theorem XM.below {w w' : World} {a : Option Addr} {n c : Nat} {nodes : List Nod} (h : XM w a n c nodes) (hb : Below w.heap.size w w') : XM w' a n c nodes := by
  refine ⟨h.len, h.le, h.max, h.nil, fun hn => ?_⟩
  obtain ⟨b, o, ha, hc⟩ := h.at' hn
  exact ⟨b, o, ha, fun i nd hi => (hc i nd hi).below hb⟩
theorem NodM.drewN {w : World} {b o : Nat} {nd : Nod} (h : NodM w b o nd) (q : Nat) : NodM (w.drewN q) b o nd := by
  obtain ⟨a, n, c, h3, r3⟩ := h.ws
  obtain ⟨a', n', c', h4, r4⟩ := h.ks
  exact ⟨h.c0, h.c1, h.c2, ⟨a, n, c, h3, ⟨r3.len, r3.le, r3.max, r3.nil, r3.at'⟩⟩, ⟨a', n', c', h4, ⟨r4.len, r4.le, r4.max, r4.nil, r4.at'⟩⟩⟩
theorem XM.drewN {w : World} {a : Option Addr} {n c : Nat} {nodes : List Nod} (h : XM w a n c nodes) (q : Nat) : XM (w.drewN q) a n c nodes := by
  refine ⟨h.len, h.le, h.max, h.nil, fun hn => ?_⟩
  obtain ⟨b, o, ha, hc⟩ := h.at' hn
  exact ⟨b, o, ha, fun i nd hi => (hc i nd hi).drewN q⟩
theorem XM.take {w : World} {a : Option Addr} {n c : Nat} {nodes : List Nod} (h : XM w a n c nodes) (k : Nat) (hk : k ≤ n) : XM w a k c (nodes.take k) := by
  refine ⟨by rw [List.length_take, h.len]; omega, by have := h.le; omega, h.max, h.nil, fun hn => ?_⟩
  obtain ⟨b, o, ha, hc⟩ := h.at' (by omega)
  refine ⟨b, o, ha, fun i nd hi => hc i nd ?_⟩
  rw [List.getElem?_take] at hi
  split at hi
  · exact hi
  · cases hi

/-! nodes as values, in a row of the call's own -/
structure NodV where
  kind : Int
  server : Int
  need : Int
  wv : Value
  kv : Value
def nodVC (p : NodV) : List Value := [.int .i64 p.kind, .int .i64 p.server, .int .i64 p.need, p.wv, p.kv]
theorem nodVC_len (p : NodV) : (nodVC p).length = 5 := rfl
/-- a node's value reads as the node -/
structure NodR (w : World) (p : NodV) (nd : Nod) : Prop where
  e0 : p.kind = nd.kind
  e1 : p.server = nd.server
  e2 : p.need = nd.need
  ws : ∃ a n c, p.wv = .slice a n c ∧ Rd w a n c (nd.weights.map (Value.int .i64))
  ks : ∃ a n c, p.kv = .slice a n c ∧ Rd w a n c (nd.kids.map (Value.int .i64))
theorem NodR.below {w w' : World} {p : NodV} {nd : Nod} (h : NodR w p nd) (hb : Below w.heap.size w w') : NodR w' p nd := by
  obtain ⟨a, n, c, h3, r3⟩ := h.ws
  obtain ⟨a', n', c', h4, r4⟩ := h.ks
  exact ⟨h.e0, h.e1, h.e2, ⟨a, n, c, h3, r3.below hb⟩, ⟨a', n', c', h4, r4.below hb⟩⟩
theorem XM.of_rdK {w : World} {a : Option Addr} {n c : Nat} {V : List NodV} {nodes : List Nod} (h : RdK 5 w a n c (V.flatMap nodVC)) (hn : V.length = nodes.length) (hV : ∀ (i : Nat) p nd, V[i]? = some p → nodes[i]? = some nd → NodR w p nd) : XM w a n c nodes := by
  have hl := h.len
  rw [flat_len 5 nodVC nodVC_len] at hl
  have hVn : V.length = n := by omega
  refine ⟨by omega, h.le, h.max, h.nil, fun h0 => ?_⟩
  obtain ⟨b, o, ha, hc⟩ := RdK.cells h nodVC_len h0
  refine ⟨b, o, ha, fun i nd hi => ?_⟩
  have hil := (List.getElem?_eq_some_iff.1 hi).1
  obtain ⟨p, hp⟩ : ∃ p, V[i]? = some p := ⟨_, List.getElem?_eq_getElem (by omega)⟩
  have r := hV i p nd hp hi
  have g := hc i p hp
  obtain ⟨a3, n3, c3, h3, r3⟩ := r.ws
  obtain ⟨a4, n4, c4, h4, r4⟩ := r.ks
  refine ⟨?_, ?_, ?_, ⟨a3, n3, c3, ?_, r3⟩, ⟨a4, n4, c4, ?_, r4⟩⟩
  · rw [← r.e0]; exact g 0 (by omega)
  · rw [← r.e1]; exact g 1 (by omega)
  · rw [← r.e2]; exact g 2 (by omega)
  · rw [← h3]; exact g 3 (by omega)
  · rw [← h4]; exact g 4 (by omega)
theorem XM.of_row {w : World} {B n : Nat} {e : TypeId} {v : Value} {V : List NodV} {nodes : List Nod} (h : w.ownsRow B e 5 v n (V.flatMap nodVC)) (hn : V.length = nodes.length) (hV : ∀ (i : Nat) p nd, V[i]? = some p → nodes[i]? = some nd → NodR w p nd) : ∃ a c, v = .slice a n c ∧ XM w a n c nodes := by
  obtain ⟨a, c, hv, hr⟩ := rdK_of_row h
  exact ⟨a, c, hv, .of_rdK hr hn hV⟩

/-! trees -/
def choC (c : Cho) : List Value := [.int .i64 c.server, .int .i64 c.first, .int .i64 c.second]
theorem choC_len (c : Cho) : (choC c).length = 3 := rfl
def choA (c : Cho) : Value := .agg #[.int .i64 c.server, .int .i64 c.first, .int .i64 c.second]
abbrev TM (w : World) (a : Option Addr) (n c : Nat) (nodes : List Cho) : Prop := RdK 3 w a n c (nodes.flatMap choC)
theorem TM.len {w : World} {a : Option Addr} {n c : Nat} {nodes : List Cho} (h : TM w a n c nodes) : nodes.length = n := by
  have := RdK.len h; rw [flat_len 3 choC choC_len] at this; omega
/-- the three cells of a node of a tree -/
theorem TM.at3 {w : World} {a : Option Addr} {n c : Nat} {nodes : List Cho} (h : TM w a n c nodes) (hn : 0 < n) : ∃ b o, a = some ⟨b, o, none⟩ ∧ ∀ i x, nodes[i]? = some x → w.cell? ⟨b, o + i * 3, none⟩ = some (.int .i64 x.server) ∧ w.cell? ⟨b, o + i * 3 + 1, none⟩ = some (.int .i64 x.first) ∧ w.cell? ⟨b, o + i * 3 + 2, none⟩ = some (.int .i64 x.second) := by
  obtain ⟨b, o, ha, hc⟩ := RdK.cells h choC_len hn
  exact ⟨b, o, ha, fun i x hx => ⟨hc i x hx 0 (by omega), hc i x hx 1 (by omega), hc i x hx 2 (by omega)⟩⟩
end Go.Proofs.YtmjgdnpfgkpaoaaGreatDoor
namespace Go.Proofs.YtmjgdnpfgkpaoaaGreatDoor
open Go.RowKit Go.Shelf

theorem getD_atI {l : List Int} {k : Nat} (h : k < l.length) : l.getD k 0 = l[k] := by rw [List.getD_eq_getElem?_getD, List.getElem?_eq_getElem h]; rfl
theorem at_someI {l : List (Int)} {k : Nat} (h : k < l.length) : l[k]? = some (l.getD k 0) := by rw [List.getElem?_eq_getElem h, getD_atI h]
theorem at_cellI {l : List (Int)} {k : Nat} (h : k < l.length) : (l.map (Value.int .i64))[k]? = some (.int .i64 (l.getD k 0)) := by rw [List.getElem?_map, at_someI h]; rfl
theorem any_hitI {p : Int → Bool} {l : List (Int)} {k : Nat} (h : k < l.length) (hp : p (l.getD k 0) = true) : l.any p = true :=
  List.any_eq_true.2 ⟨_, by rw [getD_atI h]; exact List.getElem_mem h, hp⟩
theorem any_noneI {p : Int → Bool} {l : List (Int)} (h : ∀ j, j < l.length → p (l.getD j 0) = false) : l.any p = false := by
  rw [Bool.eq_false_iff]
  intro hc
  obtain ⟨x, hx, hp⟩ := List.any_eq_true.1 hc
  obtain ⟨j, hj, rfl⟩ := List.mem_iff_getElem.1 hx
  rw [← getD_atI hj, h j hj] at hp; cases hp

/-- the first place of a set, or -1 -/
def idxI (p : Int → Bool) (l : List (Int)) : Int := if l.any p then (l.findIdx p : Int) else -1
theorem idxI_hit {p : Int → Bool} {l : List (Int)} {k : Nat} (hk : k < l.length) (h : ∀ j, j < k → p (l.getD j 0) = false) (hp : p (l.getD k 0) = true) : idxI p l = k := by
  unfold idxI
  rw [if_pos (any_hitI hk hp)]
  have : l.findIdx p = k := by
    rw [List.findIdx_eq hk]
    refine ⟨by rw [← getD_atI hk]; exact hp, fun j hj => ?_⟩
    have := h j hj
    rw [getD_atI (by omega)] at this
    exact this
  rw [this]
theorem idxI_none {p : Int → Bool} {l : List (Int)} (h : ∀ j, j < l.length → p (l.getD j 0) = false) : idxI p l = -1 := by
  unfold idxI; rw [any_noneI h]; rfl
theorem idxI_ge (p : Int → Bool) (l : List (Int)) : decide (0 ≤ idxI p l) = l.any p := by
  unfold idxI
  cases l.any p <;> simp

/-- a node's error by numbers -/
def nodF (kind server need : Int) (nw nk : Nat) (hv un : Bool) : Int :=
  if (kind ≠ 1 ∧ kind ≠ 2) ∨ (kind = 1 ∧ (need ≠ 0 ∨ nw ≠ 0 ∨ nk ≠ 0)) ∨ (kind = 2 ∧ server ≠ 0) then 1
  else if (server < 0 ∨ 12 ≤ server ∨ need < 0 ∨ 100000 < need) ∨ hv = true then 7
  else if nw ≠ 0 ∧ nw ≠ nk then 6
  else if un = true then 4 else 0
theorem nodE_F (nd : Nod) (i : Nat) : nodE nd i = nodF nd.kind nd.server nd.need nd.weights.length nd.kids.length (nd.weights.any hvyB) (nd.kids.any (unkB i)) := by
  have e : ∀ l : List Int, (l ≠ []) = (l.length ≠ 0) := fun l => by cases l <;> simp
  unfold nodE nodF
  simp only [e]

end Go.Proofs.YtmjgdnpfgkpaoaaGreatDoor
namespace Go.Proofs.YtmjgdnpfgkpaoaaGreatDoor
open Go.RowKit Go.Shelf

theorem xprE_hit {x : Xpr} {k : Nat} {nd : Nod} (h0 : x.nodes ≠ []) (h60 : ¬ 60 < x.nodes.length) (h : x.nodes[k]? = some nd) (hd : nodsE x.nodes 0 = nodsE (x.nodes.drop k) k) (he : nodE nd k ≠ 0) : xprE x = nodE nd k := by
  have : nodsE x.nodes 0 = nodE nd k := by rw [hd, nodsE_drop h, if_pos he]
  unfold xprE
  rw [if_neg h0, if_neg h60, this, if_pos he]
theorem xprE_next {x : Xpr} {k : Nat} {nd : Nod} (h : x.nodes[k]? = some nd) (hd : nodsE x.nodes 0 = nodsE (x.nodes.drop k) k) (he : nodE nd k = 0) : nodsE x.nodes 0 = nodsE (x.nodes.drop (k + 1)) (k + 1) := by
  rw [hd, nodsE_drop h, if_neg (by simpa using he)]
theorem xprE_end {x : Xpr} {n : Nat} (h0 : x.nodes ≠ []) (h60 : ¬ 60 < x.nodes.length) (hn : x.nodes.length = n) (hd : nodsE x.nodes 0 = nodsE (x.nodes.drop n) n) : xprE x = if x.root < 0 ∨ (n : Int) ≤ x.root then 4 else 0 := by
  have : nodsE x.nodes 0 = 0 := by rw [hd, ← hn, List.drop_length]; rfl
  unfold xprE
  rw [if_neg h0, if_neg h60, this, if_neg (by simp), hn]

/-- two struct arguments of two cells, laid -/
theorem args22 (w : World) (u0 u1 v0 v1 : Value) (t t' : TypeId) {W : World} (hW : W = (w.alloc (.cells #[u0, u1] t)).alloc (.cells #[v0, v1] t')) :
    Below w.heap.size w W ∧ ∀ y, Below W.heap.size W y → (y.cell? ⟨w.heap.size, 0, none⟩ = some u0 ∧ y.cell? ⟨w.heap.size, 1, none⟩ = some u1) ∧ y.cell? ⟨w.heap.size + 1, 0, none⟩ = some v0 ∧ y.cell? ⟨w.heap.size + 1, 1, none⟩ = some v1 := by
  refine ⟨by rw [hW]; exact ((Below.refl _ w).alloc (Nat.le_refl _) _).alloc (by simp) _, fun y hy => ?_⟩
  have g0 : W.heap[w.heap.size]? = some (.cells #[u0, u1] t (0, 0)) := by rw [hW]; exact heap_alloc_at (heap_alloc_new _ _) _
  have g1 : W.heap[w.heap.size + 1]? = some (.cells #[v0, v1] t' (0, 0)) := by
    rw [hW]
    have := heap_alloc_new (w.alloc (.cells #[u0, u1] t)) (.cells #[v0, v1] t')
    rwa [World.size_alloc] at this
  have e0 := heap_below hy g0
  have e1 := heap_below hy g1
  exact ⟨⟨cell_of_row _ _ 0 _ _ _ e0, cell_of_row _ _ 1 _ _ _ e0⟩, cell_of_row _ _ 0 _ _ _ e1, cell_of_row _ _ 1 _ _ _ e1⟩

end Go.Proofs.YtmjgdnpfgkpaoaaGreatDoor
namespace Go.Proofs.YtmjgdnpfgkpaoaaGreatDoor
open Go.RowKit Go.Shelf

end Go.Proofs.YtmjgdnpfgkpaoaaGreatDoor
namespace Go.Proofs.YtmjgdnpfgkpaoaaGreatDoor
open Go.RowKit Go.Shelf

set_option maxRecDepth 100000 in
set_option maxHeartbeats 2000000 in
theorem rsame9_c (l m : List (BitVec 16)) (a b : Option Addr) (n c n' c' : Nat) (w : World) (h : Rd w a n c (l.map setV)) (h' : Rd w b n' c' (m.map setV)) :
    Calls Tryz.prog 30 #[.slice a n c, .slice b n' c'] w fun e w' => e = .returned (.bool (decide (l = m))) ∧ Below w.heap.size w w' := by
  have hn : n ≤ l.length ∧ l.length ≤ n := by have := h.len; simp at this; omega
  obtain ⟨hn1, hn2⟩ := hn
  have hn' : n' ≤ m.length ∧ m.length ≤ n' := by have := h'.len; simp at this; omega
  obtain ⟨hm1, hm2⟩ := hn'
  have hm := h.max
  have hle := h.le
  have hm' := h'.max
  have hle' := h'.le
  unfold maxLen at hm hm'
  by_cases hnn : n = n'
  · subst hnn
    have hlm : Hid (l.length = m.length) := by show l.length = m.length; omega
    have hne : ((n : Int) != (n : Int)) = false := by simp
    go_enter Tryz.func30, Tryz.ntmps30
    go_wp2_with fail
    go_loopw [5] (fun i wr => ∃ (k : Nat), k ≤ n ∧ i = .int .i64 k ∧ Hid (l.take k = m.take k) ∧ Below w.heap.size w wr) (fun i _ => n - (intOf i).toNat)
    case atStart => exact ⟨0, Nat.zero_le _, rfl, rfl, Below.refl _ _⟩
    case round =>
      obtain ⟨k, hk, rfl, ht, hbw⟩ := hrel
      have hw := h.below hbw
      have hw' := h'.below hbw
      by_cases hlt : k < n
      · obtain ⟨x, hx⟩ : ∃ x, l[k]? = some x := ⟨_, List.getElem?_eq_getElem (by omega)⟩
        obtain ⟨y, hy⟩ : ∃ y, m[k]? = some y := ⟨_, List.getElem?_eq_getElem (by omega)⟩
        have T := Lib.hid (same_take hlm.out hx hy ht.out)
        obtain ⟨b1, o1, rfl, hcell⟩ := hw.at' (by omega)
        have hc : wr.cell? ⟨b1, o1 + k, none⟩ = some (.int .u16 (U x)) := hcell k (setV x) (by simp [hx])
        obtain ⟨b2, o2, rfl, hcell2⟩ := hw'.at' (by omega)
        have hc2 : wr.cell? ⟨b2, o2 + k, none⟩ = some (.int .u16 (U y)) := hcell2 k (setV y) (by simp [hy])
        have hk1 : (k : Int) < n := by omega
        have hk2 : (0 : Int) ≤ k := by omega
        clear hcell hcell2 hx hy h h' ht hw hw'
        by_cases hxy : x = y
        · have hb : (x != y) = false := by simpa using hxy
          have HX := Lib.hid hxy
          clear hxy
          go_wp2_with fail
          go_quiet (fail)
          go_wp2_with fail
          go_roundw
          case rel => exact ⟨k + 1, by omega, by go_num, T.out.1 HX.out, below_drewN hbw⟩
          case measure => simp [intOf]; omega
        · have hb : (x != y) = true := by simpa using hxy
          have HX := Lib.hid hxy
          clear hxy
          go_wp2_with fail
          go_quiet (fail)
          go_wp2_with fail
          go_ret
          exact ⟨ret_bool (by simp [T.out.2 HX.out]), below_drewN hbw⟩
      · have hE : Hid (l = m) := by
          have := ht.out
          rw [List.take_of_length_le (by omega), List.take_of_length_le (by omega)] at this
          exact this
        clear ht h h' hw hw'
        go_wp2_with fail
        go_ret
        exact ⟨ret_bool (by simp [hE.out]), hbw⟩
  · have hne : ((n : Int) != (n' : Int)) = true := by rw [bne_iff_ne]; omega
    have hE : Hid (l ≠ m) := by intro e; subst e; omega
    clear hnn h h'
    go_enter Tryz.func30, Tryz.ntmps30
    go_wp2_with fail
    go_ret
    exact ⟨ret_bool (by simp [hE.out]), Below.refl _ _⟩
end Go.Proofs.YtmjgdnpfgkpaoaaGreatDoor
namespace Go.Proofs.YtmjgdnpfgkpaoaaGreatDoor
open Go.RowKit Go.Shelf

theorem Tryz.infoSet2 : (Tryz.prog.info? 27).map (fun i => (i.zero, i.size, i.bytes)) = some (some (.int .u16 0), 1, 2) := by kernel_rfl
set_option maxRecDepth 100000 in
set_option maxHeartbeats 1000000 in
theorem clones_c (l : List (BitVec 16)) (a : Option Addr) (n c : Nat) (w : World) (h : Rd w a n c (l.map setV2)) (hb : n ≤ 1000000) :
    Calls Tryz.prog 9 #[.slice a n c] w fun e w' => ∃ a' c', e = .returned (.slice a' n c') ∧ Rd w' a' n c' (l.map setV2) ∧ Below w.heap.size w w' := by
  have hlen : (l.map setV2).length = n := h.len.symm
  cases a with
  | none =>
    have hc := h.nil rfl
    have hn : n = 0 := by have := h.le; omega
    subst hc hn
    have hl : l = [] := by simpa using hlen
    subst hl
    clear h hlen hb
    have q : ∀ (w : World) (a : Option Addr) (n c n' c' : Nat), (binOp .eql 25 (.slice a n c) (.slice none n' c')).run Tryz.prog w = .ok (.bool a.isNone) w := fun w a n c n' c' => Lib.run_eql_slice_nil w _ _ a n c n' c' Tryz.underlying25
    go_enter Tryz.func9, Tryz.ntmps9
    go_wp2
    go_ret
    exact ⟨_, _, rfl, Rd.none_ _, Below.refl _ _⟩
  | some ad =>
    have hh := Lib.hid h
    have hl2 := Lib.hid hlen
    clear h hlen
    have q : ∀ (w : World) (a : Option Addr) (n c n' c' : Nat), (binOp .eql 25 (.slice a n c) (.slice none n' c')).run Tryz.prog w = .ok (.bool a.isNone) w := fun w a n c n' c' => Lib.run_eql_slice_nil w _ _ a n c n' c' Tryz.underlying25
    go_enter Tryz.func9, Tryz.ntmps9
    go_wp2_with (at_builtin; go_must (refine wpList_apps _ _ 25 2 (.int .u16 0) _ _ _ (l.map setV2) Tryz.underlying25 Tryz.infoSet2 rfl (World.ownsRow_made w #[] 0 (Nat.le_refl _) (Nat.zero_le _) rfl) ((Below.refl _ w).alloc (Nat.le_refl _) _) (Nat.le_refl _) (hh.out.below ((Below.refl _ w).alloc (Nat.le_refl _) _)) (by intro u hu; obtain ⟨_, _, rfl⟩ := List.mem_map.1 hu; rfl) rfl rfl rfl rfl (by unfold maxLen; simp; omega) (by simp; omega) ?_))
    intro v' w1 hown1 hb1 _
    have hown2 : w1.ownsRow w.heap.size 27 1 v' n (l.map setV2) := by simpa using hown1
    obtain ⟨a', c', rfl, hr⟩ := rd_of_row hown2
    have HRR := Lib.hid hr
    clear hb hown1 hown2 hr
    go_wp2
    go_ret
    exact ⟨_, _, rfl, HRR.out, hb1⟩
end Go.Proofs.YtmjgdnpfgkpaoaaGreatDoor
