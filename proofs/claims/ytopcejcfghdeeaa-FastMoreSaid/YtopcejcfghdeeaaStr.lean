/- Lists of texts: Equal, Same, the voters of a value; the arguments of layer 38. -/
import Derived.Test.YtopcejcfghdeeaaVal
import Derived.Laws.Strings
namespace Go.Proofs.Ytopcejcfghdeeaa
open Go.RowKit Go.Shelf

theorem st_some {V : List ByteArray} {k : Nat} (h : k < V.length) : V[k]? = some (V.getD k ⟨#[]⟩) := by rw [List.getElem?_eq_getElem h]; simp [List.getD, h]
theorem st_cell {V : List ByteArray} {k : Nat} (h : k < V.length) : (V.map Value.string)[k]? = some (.string (V.getD k ⟨#[]⟩)) := by rw [List.getElem?_map, st_some h]; rfl
theorem st_same {l m : List ByteArray} {k : Nat} (hl : l.length = m.length) (hk : k < l.length) (h : l.take k = m.take k) :
    (((l.getD k ⟨#[]⟩).toList == (m.getD k ⟨#[]⟩).toList) = true → l.take (k + 1) = m.take (k + 1)) ∧ (((l.getD k ⟨#[]⟩).toList == (m.getD k ⟨#[]⟩).toList) = false → l ≠ m) := by
  constructor
  · intro he
    rw [List.take_add_one, List.take_add_one, st_some hk, st_some (by omega), h, bs_ext (eq_of_beq he)]
  · rintro he rfl
    rw [beq_self_eq_true] at he; cases he

set_option maxRecDepth 100000 in
set_option maxHeartbeats 2000000 in
theorem rsameT_c (l m : List ByteArray) (a : Option Addr) (n c : Nat) (a2 : Option Addr) (n2 c2 : Nat) (w : World) (h : Rd w a n c (l.map Value.string)) (h2 : Rd w a2 n2 c2 (m.map Value.string)) :
    Calls Try.prog 22 #[.slice a n c, .slice a2 n2 c2] w fun e w' => e = .returned (.bool (decide (l = m))) ∧ Below w.heap.size w w' := by
  have hnl : l.length = n := by have := h.len; simp at this; omega
  have hnl2 : m.length = n2 := by have := h2.len; simp at this; omega
  have hm := h.max
  have hle := h.le
  have hm2 := h2.max
  have hle2 := h2.le
  unfold maxLen at hm hm2
  have HR := Lib.hid h
  have HN := Lib.hid hnl
  have HR2 := Lib.hid h2
  have HN2 := Lib.hid hnl2
  clear h hnl h2 hnl2
  by_cases hnn : n = n2
  · subst hnn
    go_enter Try.func22, Try.ntmps22
    go_wp2_with fail
    go_loopw [5] (fun i wr => ∃ k : Nat, k ≤ n ∧ i = .int .i64 k ∧ Hid (l.take k = m.take k) ∧ Below w.heap.size w wr) (fun i _ => n - (intOf i).toNat)
    case atStart => exact ⟨0, Nat.zero_le _, rfl, rfl, Below.refl _ _⟩
    case round =>
      obtain ⟨k, hk, rfl, ht, hb⟩ := hrel
      by_cases hlt : k < n
      · obtain ⟨b, o, ha, hcell⟩ := (HR.out.below hb).at' (by omega)
        obtain ⟨b2, o2, ha2, hcell2⟩ := (HR2.out.below hb).at' (by omega)
        have hc := hcell k _ (st_cell (by have := HN.out; omega))
        have hc2 := hcell2 k _ (st_cell (by have := HN2.out; omega))
        obtain ⟨s1, s2⟩ := st_same (by rw [HN.out, HN2.out]) (by have := HN.out; omega) ht.out
        obtain ⟨x, hx⟩ : ∃ x, l.getD k ⟨#[]⟩ = x := ⟨_, rfl⟩
        obtain ⟨y, hy⟩ : ∃ y, m.getD k ⟨#[]⟩ = y := ⟨_, rfl⟩
        rw [hx] at hc s1 s2
        rw [hy] at hc2 s1 s2
        subst ha ha2
        cases hq : (x.toList == y.toList)
        · have hE : Hid (decide (l = m) = false) := decide_eq_false (s2 hq)
          clear hcell hcell2 hx hy s1 s2 ht
          go_wp2_with fail
          go_quiet (fail)
          go_wp2_with fail
          go_ret
          exact ⟨by rw [hE.out]; rfl, below_drewN hb⟩
        · have ht2 : Hid (l.take (k + 1) = m.take (k + 1)) := s1 hq
          clear hcell hcell2 hx hy s1 s2 ht
          go_wp2_with fail
          go_quiet (fail)
          go_wp2_with fail
          go_roundw
          case rel => exact ⟨k + 1, by omega, by go_num, ht2, below_drewN hb⟩
          case measure => simp [intOf]; omega
      · have hE : Hid (decide (l = m) = true) := by
          refine decide_eq_true ?_
          have e1 := HN.out; have e2 := HN2.out
          have := ht.out
          rw [List.take_of_length_le (by omega), List.take_of_length_le (by omega)] at this
          exact this
        clear ht
        go_wp2_with fail
        go_ret
        exact ⟨by rw [hE.out]; rfl, hb⟩
  · have hE : Hid (decide (l = m) = false) := by
      refine decide_eq_false ?_
      rintro rfl
      have e1 := HN.out; have e2 := HN2.out
      omega
    go_enter Try.func22, Try.ntmps22
    go_wp2_with fail
    go_ret
    exact ⟨by rw [hE.out]; rfl, Below.refl _ _⟩

set_option maxRecDepth 100000 in
set_option maxHeartbeats 2000000 in
theorem equalT_c (l m : List ByteArray) (a : Option Addr) (n c : Nat) (a2 : Option Addr) (n2 c2 : Nat) (w : World) (h : Rd w a n c (l.map Value.string)) (h2 : Rd w a2 n2 c2 (m.map Value.string)) :
    Calls Try.prog 34 #[.slice a n c, .slice a2 n2 c2] w fun e w' => e = .returned (.bool (decide (l = m))) ∧ Below w.heap.size w w' := by
  have hnl : l.length = n := by have := h.len; simp at this; omega
  have hnl2 : m.length = n2 := by have := h2.len; simp at this; omega
  have hm := h.max
  have hle := h.le
  have hm2 := h2.max
  have hle2 := h2.le
  unfold maxLen at hm hm2
  have HR := Lib.hid h
  have HN := Lib.hid hnl
  have HR2 := Lib.hid h2
  have HN2 := Lib.hid hnl2
  clear h hnl h2 hnl2
  by_cases hnn : n = n2
  · subst hnn
    go_enter Try.func34, Try.ntmps34
    go_wp2_with fail
    go_loopw [13] (fun i wr => ∃ k : Nat, k ≤ n ∧ i = .int .i64 k ∧ Hid (l.take k = m.take k) ∧ Below w.heap.size w wr) (fun i _ => n - (intOf i).toNat)
    case atStart => exact ⟨0, Nat.zero_le _, rfl, rfl, Below.refl _ _⟩
    case round =>
      obtain ⟨k, hk, rfl, ht, hb⟩ := hrel
      by_cases hlt : k < n
      · obtain ⟨b, o, ha, hcell⟩ := (HR.out.below hb).at' (by omega)
        obtain ⟨b2, o2, ha2, hcell2⟩ := (HR2.out.below hb).at' (by omega)
        have hc := hcell k _ (st_cell (by have := HN.out; omega))
        have hc2 := hcell2 k _ (st_cell (by have := HN2.out; omega))
        obtain ⟨s1, s2⟩ := st_same (by rw [HN.out, HN2.out]) (by have := HN.out; omega) ht.out
        obtain ⟨x, hx⟩ : ∃ x, l.getD k ⟨#[]⟩ = x := ⟨_, rfl⟩
        obtain ⟨y, hy⟩ : ∃ y, m.getD k ⟨#[]⟩ = y := ⟨_, rfl⟩
        rw [hx] at hc s1 s2
        rw [hy] at hc2 s1 s2
        subst ha ha2
        cases hq : (x.toList == y.toList)
        · have hE : Hid (decide (l = m) = false) := decide_eq_false (s2 hq)
          clear hcell hcell2 hx hy s1 s2 ht
          go_wp2_with fail
          go_quiet (fail)
          go_wp2_with fail
          go_ret
          exact ⟨by rw [hE.out]; rfl, below_drewN hb⟩
        · have ht2 : Hid (l.take (k + 1) = m.take (k + 1)) := s1 hq
          clear hcell hcell2 hx hy s1 s2 ht
          go_wp2_with fail
          go_quiet (fail)
          go_wp2_with fail
          go_roundw
          case rel => exact ⟨k + 1, by omega, by go_num, ht2, below_drewN hb⟩
          case measure => simp [intOf]; omega
      · have hE : Hid (decide (l = m) = true) := by
          refine decide_eq_true ?_
          have e1 := HN.out; have e2 := HN2.out
          have := ht.out
          rw [List.take_of_length_le (by omega), List.take_of_length_le (by omega)] at this
          exact this
        clear ht
        go_wp2_with fail
        go_ret
        exact ⟨by rw [hE.out]; rfl, hb⟩
  · have hE : Hid (decide (l = m) = false) := by
      refine decide_eq_false ?_
      rintro rfl
      have e1 := HN.out; have e2 := HN2.out
      omega
    go_enter Try.func34, Try.ntmps34
    go_wp2_with fail
    go_ret
    exact ⟨by rw [hE.out]; rfl, Below.refl _ _⟩

set_option maxRecDepth 100000 in
set_option maxHeartbeats 2000000 in
theorem rvoters_c (V : List ByteArray) (x : ByteArray) (a : Option Addr) (n c : Nat) (w : World) (hn : n ≤ 16) (h : Rd w a n c (V.map Value.string)) :
    Calls Try.prog 45 #[.slice a n c, .string x] w fun e w' => e = .returned (.int .u16 (U (votS V x))) ∧ Below w.heap.size w w' := by
  have hnl : V.length = n := by have := h.len; simp at this; omega
  have hm := h.max
  have hle := h.le
  unfold maxLen at hm
  have HR := Lib.hid h
  have HN := Lib.hid hnl
  clear h hnl
  go_enter Try.func45, Try.ntmps45
  go_wp2_with fail
  go_loopw [5, 6] (fun v i wr => ∃ k : Nat, k ≤ n ∧ i = .int .i64 k ∧ (∃ s, v = .int .u16 (U s) ∧ Hid (s = votTo V x k)) ∧ Below w.heap.size w wr) (fun _ i _ => n - (intOf i).toNat)
  case atStart => exact ⟨0, Nat.zero_le _, rfl, ⟨0#16, rfl, rfl⟩, Below.refl _ _⟩
  case round =>
    obtain ⟨k, hk, rfl, ⟨s, rfl, hs⟩, hb⟩ := hrel
    by_cases hlt : k < n
    · obtain ⟨b, o, ha, hcell⟩ := (HR.out.below hb).at' (by omega)
      have hc := hcell k _ (st_cell (by have := HN.out; omega))
      have hst := votTo_succ V x k
      rw [← hs.out] at hst
      obtain ⟨y, hy⟩ : ∃ y, V.getD k ⟨#[]⟩ = y := ⟨_, rfl⟩
      rw [hy] at hc hst
      subst ha
      cases hq : (y.toList == x.toList)
      · rw [hq] at hst
        have HS : Hid (s = votTo V x (k + 1)) := hst.symm
        clear hcell hy hst hs
        go_wp2_with fail
        go_roundw
        case rel => exact ⟨k + 1, by omega, by go_num, ⟨s, rfl, HS⟩, hb⟩
        case measure => simp [intOf]; omega
      · rw [hq] at hst
        have HS : Hid (s ||| bitS k = votTo V x (k + 1)) := hst.symm
        clear hcell hy hst hs
        go_wp2_with fail
        go_roundw
        case rel => exact ⟨k + 1, by omega, by go_num, ⟨s ||| bitS k, rfl, HS⟩, hb⟩
        case measure => simp [intOf]; omega
    · have hE : Hid (s = votS V x) := by
        show _ = _
        have : k = n := by omega
        subst this
        rw [hs.out]; unfold votS; rw [HN.out]
      clear hs
      go_wp2_with fail
      go_ret
      exact ⟨by rw [hE.out]; rfl, hb⟩

def argS (f : List (BitVec 16)) (n : Nat) : Int := if quoS f ≠ 0 then quoS f else if n = 0 then 9 else if 12 < n then 3 else 0
set_option maxRecDepth 100000 in
set_option maxHeartbeats 2000000 in
theorem args_c (f : List (BitVec 16)) (a : Option Addr) (n c : Nat) (a2 : Option Addr) (n2 c2 : Nat) (w : World) (h : Rd w a n c (f.map setV2)) (hn2 : n2 ≤ 100) :
    Calls Try.prog 39 #[.slice a n c, .slice a2 n2 c2] w fun e w' => e = .returned (.int .i64 (argS f n2)) ∧ Below w.heap.size w w' := by
  have HV := Lib.hid (quorums_c f a n c w h)
  clear h
  by_cases hv : quoS f = 0
  · have hC : Hid (argS f n2 = if n2 = 0 then 9 else if 12 < n2 then 3 else 0) := by show _ = _; unfold argS; rw [hv]; rfl
    rw [hv] at HV
    clear hv
    by_cases h0 : n2 = 0
    · have hE : Hid (argS f n2 = 9) := by show _ = _; rw [hC.out, if_pos h0]
      subst h0
      go_enter Try.func39, Try.ntmps39
      go_wp2_with fail
      refine HV.out.mono ?_
      rintro e w1 ⟨rfl, b1⟩
      go_wp2_with fail
      go_ret
      exact ⟨by rw [hE.out]; rfl, b1⟩
    · by_cases h1 : 12 < n2
      · have hE : Hid (argS f n2 = 3) := by show _ = _; rw [hC.out, if_neg h0, if_pos h1]
        go_enter Try.func39, Try.ntmps39
        go_wp2_with fail
        refine HV.out.mono ?_
        rintro e w1 ⟨rfl, b1⟩
        go_wp2_with fail
        go_ret
        exact ⟨by rw [hE.out]; rfl, b1⟩
      · have hE : Hid (argS f n2 = 0) := by show _ = _; rw [hC.out, if_neg h0, if_neg h1]
        go_enter Try.func39, Try.ntmps39
        go_wp2_with fail
        refine HV.out.mono ?_
        rintro e w1 ⟨rfl, b1⟩
        go_wp2_with fail
        go_ret
        exact ⟨by rw [hE.out]; rfl, b1⟩
  · have hE : Hid (argS f n2 = quoS f) := by show _ = _; unfold argS; rw [if_pos hv]
    obtain ⟨v, hvv⟩ : ∃ v, quoS f = v := ⟨_, rfl⟩
    rw [hvv] at HV hE hv
    have hv1 : (v != 0) = true := by simpa using hv
    clear hv hvv
    go_enter Try.func39, Try.ntmps39
    go_wp2_with fail
    refine HV.out.mono ?_
    rintro e w1 ⟨rfl, b1⟩
    go_wp2_with fail
    go_ret
    exact ⟨by rw [hE.out]; rfl, b1⟩
set_option maxRecDepth 100000 in
set_option maxHeartbeats 2000000 in
theorem rargs_c (f : List (BitVec 16)) (a : Option Addr) (n c : Nat) (a2 : Option Addr) (n2 c2 : Nat) (w : World) (h : Rd w a n c (f.map setV2)) (hn2 : n2 ≤ 100) :
    Calls Try.prog 42 #[.slice a n c, .slice a2 n2 c2] w fun e w' => e = .returned (.int .i64 (argS f n2)) ∧ Below w.heap.size w w' := by
  have HV := Lib.hid (rfamily_c f a n c w h)
  clear h
  by_cases hv : quoS f = 0
  · have hC : Hid (argS f n2 = if n2 = 0 then 9 else if 12 < n2 then 3 else 0) := by show _ = _; unfold argS; rw [hv]; rfl
    rw [hv] at HV
    clear hv
    by_cases h0 : n2 = 0
    · have hE : Hid (argS f n2 = 9) := by show _ = _; rw [hC.out, if_pos h0]
      subst h0
      go_enter Try.func42, Try.ntmps42
      go_wp2_with fail
      refine HV.out.mono ?_
      rintro e w1 ⟨rfl, b1⟩
      go_wp2_with fail
      go_ret
      exact ⟨by rw [hE.out]; rfl, b1⟩
    · by_cases h1 : 12 < n2
      · have hE : Hid (argS f n2 = 3) := by show _ = _; rw [hC.out, if_neg h0, if_pos h1]
        go_enter Try.func42, Try.ntmps42
        go_wp2_with fail
        refine HV.out.mono ?_
        rintro e w1 ⟨rfl, b1⟩
        go_wp2_with fail
        go_ret
        exact ⟨by rw [hE.out]; rfl, b1⟩
      · have hE : Hid (argS f n2 = 0) := by show _ = _; rw [hC.out, if_neg h0, if_neg h1]
        go_enter Try.func42, Try.ntmps42
        go_wp2_with fail
        refine HV.out.mono ?_
        rintro e w1 ⟨rfl, b1⟩
        go_wp2_with fail
        go_ret
        exact ⟨by rw [hE.out]; rfl, b1⟩
  · have hE : Hid (argS f n2 = quoS f) := by show _ = _; unfold argS; rw [if_pos hv]
    obtain ⟨v, hvv⟩ : ∃ v, quoS f = v := ⟨_, rfl⟩
    rw [hvv] at HV hE hv
    have hv1 : (v != 0) = true := by simpa using hv
    clear hv hvv
    go_enter Try.func42, Try.ntmps42
    go_wp2_with fail
    refine HV.out.mono ?_
    rintro e w1 ⟨rfl, b1⟩
    go_wp2_with fail
    go_ret
    exact ⟨by rw [hE.out]; rfl, b1⟩
end Go.Proofs.Ytopcejcfghdeeaa
