/- Layer 38: families of quorums, the first clash. -/
import Derived.Test.YtopcejcfghdeeaaR8v
import Derived.Test.YtopcejcfghdeeaaChk
namespace Go.Proofs.Ytopcejcfghdeeaa
open Go.RowKit Go.Shelf

theorem fs_hit {α β : Type} {f : α → Option β} {l : List α} {k : Nat} {x : α} {y : β} (hx : l[k]? = some x) (h : ∀ (j : Nat) (z : α), j < k → l[j]? = some z → f z = none) (hy : f x = some y) : l.findSome? f = some y := by
  obtain ⟨hk, hxe⟩ := List.getElem?_eq_some_iff.1 hx
  have e : l = l.take k ++ x :: l.drop (k + 1) := by
    rw [← hxe, ← List.drop_eq_getElem_cons hk, List.take_append_drop]
  rw [e, List.findSome?_append, List.findSome?_cons, hy]
  rw [List.findSome?_eq_none_iff.2]
  · rfl
  · intro z hz
    obtain ⟨j, hj⟩ := List.mem_iff_getElem?.1 hz
    have hjl := (List.getElem?_eq_some_iff.1 hj).1
    rw [List.length_take] at hjl
    rw [List.getElem?_take_of_lt (by omega)] at hj
    exact h j z (by omega) hj
theorem fs_none {α β : Type} {f : α → Option β} {l : List α} (h : ∀ (j : Nat) (z : α), l[j]? = some z → f z = none) : l.findSome? f = none := by
  rw [List.findSome?_eq_none_iff]
  intro z hz
  obtain ⟨j, hj⟩ := List.mem_iff_getElem?.1 hz
  exact h j z hj

/-- the error of a family of quorums, of two -/
def quoS (f : List (BitVec 16)) : Int := if valS f ≠ 0 then valS f else if hasZ f then 9 else 0
def botS (f g : List (BitVec 16)) : Int := if quoS f ≠ 0 then quoS f else quoS g
/-- three sets without a common server -/
def tri (a b r : BitVec 16) : Bool := a &&& b &&& r == 0#16
def claB (read : List (BitVec 16)) (a b : BitVec 16) : Option (BitVec 16 × BitVec 16 × BitVec 16) := (read.find? fun r => tri a b r).map fun r => (a, b, r)
def claA (read fast : List (BitVec 16)) (a : BitVec 16) : Option (BitVec 16 × BitVec 16 × BitVec 16) := fast.findSome? fun b => claB read a b
def claS (read fast : List (BitVec 16)) : Option (BitVec 16 × BitVec 16 × BitVec 16) := fast.findSome? fun a => claA read fast a
def claM : Option (BitVec 16 × BitVec 16 × BitVec 16) → BitVec 16 × BitVec 16 × BitVec 16 × Int
  | some (a, b, r) => (a, b, r, 0)
  | none => (0#16, 0#16, 0#16, 13)
def claT (read fast : List (BitVec 16)) : BitVec 16 × BitVec 16 × BitVec 16 × Int :=
  if botS read fast ≠ 0 then (0#16, 0#16, 0#16, botS read fast) else claM (claS read fast)
theorem find_hit {p : BitVec 16 → Bool} {l : List (BitVec 16)} {k : Nat} (hk : k < l.length) (h : ∀ j, j < k → p (l.getD j 0#16) = false) (hp : p (l.getD k 0#16) = true) : l.find? p = some (l.getD k 0#16) := by
  have e : l = l.take k ++ l.getD k 0#16 :: l.drop (k + 1) := by
    rw [getD_at hk, ← List.drop_eq_getElem_cons hk, List.take_append_drop]
  have e2 : l.find? p = (l.take k ++ l.getD k 0#16 :: l.drop (k + 1)).find? p := by rw [← e]
  rw [e2, List.find?_append, List.find?_cons, hp]
  rw [List.find?_eq_none.2]
  · rfl
  · intro z hz
    obtain ⟨j, hj, rfl⟩ := List.mem_iff_getElem.1 hz
    rw [List.length_take] at hj
    have := h j (by omega)
    rw [getD_at (by omega)] at this
    rw [List.getElem_take]
    simpa using this
theorem find_none {p : BitVec 16 → Bool} {l : List (BitVec 16)} (h : ∀ j, j < l.length → p (l.getD j 0#16) = false) : l.find? p = none := by
  rw [List.find?_eq_none]
  intro z hz
  obtain ⟨j, hj, rfl⟩ := List.mem_iff_getElem.1 hz
  have := h j hj
  rw [getD_at hj] at this
  simpa using this
theorem idx_find {p : BitVec 16 → Bool} {l : List (BitVec 16)} : (l.find? p = none ∧ idxS p l = -1) ∨ ∃ k, k < l.length ∧ idxS p l = k ∧ l.find? p = some (l.getD k 0#16) ∧ p (l.getD k 0#16) = true := by
  by_cases ha : l.any p = true
  · right
    have hlt : l.findIdx p < l.length := List.findIdx_lt_length_of_exists (by
      obtain ⟨x, hx, hp⟩ := List.any_eq_true.1 ha
      exact ⟨x, hx, hp⟩)
    have hp : p (l.getD (l.findIdx p) 0#16) = true := by rw [getD_at hlt]; exact List.findIdx_getElem (w := hlt)
    refine ⟨l.findIdx p, hlt, by unfold idxS; rw [if_pos ha], find_hit hlt (fun j hj => ?_) hp, hp⟩
    rw [getD_at (by omega)]
    have := List.not_of_lt_findIdx hj
    simpa using this
  · left
    have hf : ∀ j, j < l.length → p (l.getD j 0#16) = false := fun j hj => by
      cases h : p (l.getD j 0#16)
      · rfl
      · exact absurd (any_hit hj h) ha
    exact ⟨find_none hf, idxS_none hf⟩

set_option maxRecDepth 100000 in
set_option maxHeartbeats 1000000 in
theorem quorums_c (f : List (BitVec 16)) (a : Option Addr) (n c : Nat) (w : World) (h : Rd w a n c (f.map setV2)) :
    Calls Try.prog 60 #[.slice a n c] w fun e w' => e = .returned (.int .i64 (quoS f)) ∧ Below w.heap.size w w' := by
  have HR := Lib.hid h
  have HV := Lib.hid (valid_c f a n c w h)
  clear h
  by_cases hv : valS f = 0
  · have HZ : Hid (∀ w, Rd w a n c (f.map setV2) → Calls Try.prog 74 #[.slice a n c, .int .u16 0] w fun e w' => e = .returned (.bool (hasZ f)) ∧ w' = w) := Lib.hid (fun w h => containsv_c f 0#16 a n c w h)
    rw [hv] at HV
    cases hz : hasZ f
    · have hE : Hid (quoS f = 0) := by show _ = _; unfold quoS; rw [hv, hz]; rfl
      rw [hz] at HZ
      clear hv hz
      go_enter Try.func60, Try.ntmps60
      go_wp2_with fail
      refine HV.out.mono ?_
      rintro e w1 ⟨rfl, b1⟩
      go_wp2_with fail
      refine (HZ.out w1 (HR.out.below b1)).mono ?_
      rintro e w2 ⟨rfl, rfl⟩
      go_wp2_with fail
      go_ret
      exact ⟨by rw [hE.out]; rfl, b1⟩
    · have hE : Hid (quoS f = 9) := by show _ = _; unfold quoS; rw [hv, hz]; rfl
      rw [hz] at HZ
      clear hv hz
      go_enter Try.func60, Try.ntmps60
      go_wp2_with fail
      refine HV.out.mono ?_
      rintro e w1 ⟨rfl, b1⟩
      go_wp2_with fail
      refine (HZ.out w1 (HR.out.below b1)).mono ?_
      rintro e w2 ⟨rfl, rfl⟩
      go_wp2_with fail
      go_ret
      exact ⟨by rw [hE.out]; rfl, b1⟩
  · have hE : Hid (quoS f = valS f) := by show _ = _; unfold quoS; rw [if_pos hv]
    obtain ⟨v, hvv⟩ : ∃ v, valS f = v := ⟨_, rfl⟩
    rw [hvv] at HV hE hv
    have hv1 : (v != 0) = true := by simpa using hv
    clear hv hvv
    go_enter Try.func60, Try.ntmps60
    go_wp2_with fail
    refine HV.out.mono ?_
    rintro e w1 ⟨rfl, b1⟩
    go_wp2_with fail
    go_ret
    exact ⟨by rw [hE.out]; rfl, b1⟩

set_option maxRecDepth 100000 in
set_option maxHeartbeats 1000000 in
theorem rfamily_c (f : List (BitVec 16)) (a : Option Addr) (n c : Nat) (w : World) (h : Rd w a n c (f.map setV2)) :
    Calls Try.prog 61 #[.slice a n c] w fun e w' => e = .returned (.int .i64 (quoS f)) ∧ Below w.heap.size w w' := by
  have hnl : f.length = n := by have := h.len; simp at this; omega
  have hm := h.max
  have hle := h.le
  unfold maxLen at hm
  have HR := Lib.hid h
  have HN := Lib.hid hnl
  have HV := Lib.hid (valid8_c f a n c w h)
  clear h hnl
  by_cases hv : valS f = 0
  · have hC : Hid (quoS f = if hasZ f then 9 else 0) := by show _ = _; unfold quoS; rw [hv]; rfl
    rw [hv] at HV
    clear hv
    go_enter Try.func61, Try.ntmps61
    go_wp2_with fail
    refine HV.out.mono ?_
    rintro e w1 ⟨rfl, b1⟩
    have HR1 := Lib.hid (HR.out.below b1)
    go_wp2_with fail
    go_loop [4] (fun i => ∃ k : Nat, k ≤ n ∧ i = .int .i64 k ∧ Hid (∀ j, j < k → (f.getD j 0#16 == 0#16) = false)) (fun i => n - (intOf i).toNat)
    case atStart => exact ⟨0, Nat.zero_le _, rfl, Lib.hid (fun j hj => by omega)⟩
    case round =>
      obtain ⟨k, hk, rfl, hno⟩ := hrel
      by_cases hlt : k < n
      · obtain ⟨b, o, ha, hcell⟩ := HR1.out.at' (by omega)
        have hkl : k < f.length := by have := HN.out; omega
        have hc := hcell k _ (at_cell hkl)
        obtain ⟨x, hx⟩ : ∃ x, f.getD k 0#16 = x := ⟨_, rfl⟩
        rw [hx] at hc
        subst ha
        cases hq : (x == 0#16)
        · have hno' : Hid (∀ j, j < k + 1 → (f.getD j 0#16 == 0#16) = false) := Lib.hid (fun j hj => by
            by_cases h1 : j < k
            · exact hno.out j h1
            · obtain rfl : j = k := by omega
              rw [hx]; exact hq)
          clear hcell hx hno hkl
          go_wp2_with fail
          go_round
          case rel => exact ⟨k + 1, by omega, by go_num, hno'⟩
          case measure => simp [intOf]; omega
        · have hE : Hid (quoS f = 9) := by
            show _ = _
            rw [hC.out, if_pos]
            refine List.any_eq_true.2 ⟨f.getD k 0#16, by rw [getD_at hkl]; exact List.getElem_mem hkl, ?_⟩
            rw [hx, eq_of_beq hq]; rfl
          clear hcell hx hno hkl
          go_wp2_with fail
          go_ret
          exact ⟨by rw [hE.out]; rfl, b1⟩
      · have hE : Hid (quoS f = 0) := by
          show _ = _
          rw [hC.out, if_neg]
          intro hz
          unfold hasZ at hz
          obtain ⟨x, hx, hp⟩ := List.any_eq_true.1 hz
          obtain ⟨j, hj, rfl⟩ := List.mem_iff_getElem.1 hx
          have := hno.out j (by have := HN.out; omega)
          rw [getD_at hj, ← eq_of_beq hp] at this
          cases this
        clear hno
        go_wp2_with fail
        go_ret
        exact ⟨by rw [hE.out]; rfl, b1⟩
  · have hE : Hid (quoS f = valS f) := by show _ = _; unfold quoS; rw [if_pos hv]
    obtain ⟨v, hvv⟩ : ∃ v, valS f = v := ⟨_, rfl⟩
    rw [hvv] at HV hE hv
    have hv1 : (v != 0) = true := by simpa using hv
    clear hv hvv
    go_enter Try.func61, Try.ntmps61
    go_wp2_with fail
    refine HV.out.mono ?_
    rintro e w1 ⟨rfl, b1⟩
    go_wp2_with fail
    go_ret
    exact ⟨by rw [hE.out]; rfl, b1⟩

set_option maxRecDepth 100000 in
set_option maxHeartbeats 1000000 in
theorem both_c (f g : List (BitVec 16)) (a : Option Addr) (n c : Nat) (a2 : Option Addr) (n2 c2 : Nat) (w : World) (h : Rd w a n c (f.map setV2)) (h2 : Rd w a2 n2 c2 (g.map setV2)) :
    Calls Try.prog 35 #[.slice a n c, .slice a2 n2 c2] w fun e w' => e = .returned (.int .i64 (botS f g)) ∧ Below w.heap.size w w' := by
  have HR2 := Lib.hid h2
  have HV := Lib.hid (quorums_c f a n c w h)
  have HV2 := Lib.hid (fun w h => quorums_c g a2 n2 c2 w h)
  clear h h2
  by_cases hv : quoS f = 0
  · have hE : Hid (botS f g = quoS g) := by show _ = _; unfold botS; rw [hv]; rfl
    obtain ⟨v, hvv⟩ : ∃ v, quoS g = v := ⟨_, rfl⟩
    rw [hvv] at HV2 hE
    rw [hv] at HV
    clear hv hvv
    go_enter Try.func35, Try.ntmps35
    go_wp2_with fail
    refine HV.out.mono ?_
    rintro e w1 ⟨rfl, b1⟩
    go_wp2_with fail
    refine (HV2.out w1 (HR2.out.below b1)).mono ?_
    rintro e w2 ⟨rfl, b2⟩
    go_wp2_with fail
    go_ret
    exact ⟨by rw [hE.out]; rfl, Below.next b1 b2⟩
  · have hE : Hid (botS f g = quoS f) := by show _ = _; unfold botS; rw [if_pos hv]
    obtain ⟨v, hvv⟩ : ∃ v, quoS f = v := ⟨_, rfl⟩
    rw [hvv] at HV hE hv
    have hv1 : (v != 0) = true := by simpa using hv
    clear hv hvv
    go_enter Try.func35, Try.ntmps35
    go_wp2_with fail
    refine HV.out.mono ?_
    rintro e w1 ⟨rfl, b1⟩
    go_wp2_with fail
    go_ret
    exact ⟨by rw [hE.out]; rfl, b1⟩
set_option maxRecDepth 100000 in
set_option maxHeartbeats 1000000 in
theorem rboth_c (f g : List (BitVec 16)) (a : Option Addr) (n c : Nat) (a2 : Option Addr) (n2 c2 : Nat) (w : World) (h : Rd w a n c (f.map setV2)) (h2 : Rd w a2 n2 c2 (g.map setV2)) :
    Calls Try.prog 38 #[.slice a n c, .slice a2 n2 c2] w fun e w' => e = .returned (.int .i64 (botS f g)) ∧ Below w.heap.size w w' := by
  have HR2 := Lib.hid h2
  have HV := Lib.hid (rfamily_c f a n c w h)
  have HV2 := Lib.hid (fun w h => rfamily_c g a2 n2 c2 w h)
  clear h h2
  by_cases hv : quoS f = 0
  · have hE : Hid (botS f g = quoS g) := by show _ = _; unfold botS; rw [hv]; rfl
    obtain ⟨v, hvv⟩ : ∃ v, quoS g = v := ⟨_, rfl⟩
    rw [hvv] at HV2 hE
    rw [hv] at HV
    clear hv hvv
    go_enter Try.func38, Try.ntmps38
    go_wp2_with fail
    refine HV.out.mono ?_
    rintro e w1 ⟨rfl, b1⟩
    go_wp2_with fail
    refine (HV2.out w1 (HR2.out.below b1)).mono ?_
    rintro e w2 ⟨rfl, b2⟩
    go_wp2_with fail
    go_ret
    exact ⟨by rw [hE.out]; rfl, Below.next b1 b2⟩
  · have hE : Hid (botS f g = quoS f) := by show _ = _; unfold botS; rw [if_pos hv]
    obtain ⟨v, hvv⟩ : ∃ v, quoS f = v := ⟨_, rfl⟩
    rw [hvv] at HV hE hv
    have hv1 : (v != 0) = true := by simpa using hv
    clear hv hvv
    go_enter Try.func38, Try.ntmps38
    go_wp2_with fail
    refine HV.out.mono ?_
    rintro e w1 ⟨rfl, b1⟩
    go_wp2_with fail
    go_ret
    exact ⟨by rw [hE.out]; rfl, b1⟩
end Go.Proofs.Ytopcejcfghdeeaa
