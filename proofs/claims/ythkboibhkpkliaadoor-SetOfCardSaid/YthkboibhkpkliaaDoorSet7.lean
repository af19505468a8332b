/- The reference's Subsets, Same; slices.Equal and Clone of ints. -/
import Derived.Test.YthkboibhkpkliaaDoorSet6
namespace Go.Proofs.YthkboibhkpkliaaDoor
open Go.RowKit

/-- all subsets up to k members, in order -/
def subsTo (x : BitVec 16) (K : Nat) : List (BitVec 16) := (List.range K).flatMap fun (k : Nat) => chooseS x (k : Int)
def subsS (x : BitVec 16) : List (BitVec 16) := subsTo x (cnt x + 1)
theorem subsTo_succ (x : BitVec 16) (K : Nat) : subsTo x (K + 1) = subsTo x K ++ chooseS x K := by
  simp [subsTo, List.range_succ]
theorem chooseS_le (x : BitVec 16) (k : Int) : (chooseS x k).length ≤ 70000 := Nat.le_trans (pickTo_le x k 65536) (by decide)
theorem subsTo_le (x : BitVec 16) (K : Nat) : (subsTo x K).length ≤ 70000 * K := by
  induction K with
  | zero => simp [subsTo]
  | succ K ih => rw [subsTo_succ, List.length_append]; have := chooseS_le x K; omega

set_option maxRecDepth 100000 in
set_option maxHeartbeats 2000000 in
theorem rsubsets_c (x : BitVec 16) (s : Int) (w : World) (hs : s = U x) :
    Calls Tryd.prog 20 #[.int .u16 s] w fun e w' => ∃ v, e = .returned v ∧ Own w w' 23 v ((subsS x).map setV) ∧ Below w.heap.size w w' := by
  subst hs
  have hcl := cnt_le x
  go_enter Tryd.func20, Tryd.ntmps20
  go_wp2_with fail
  go_loopw [3, 4] (fun v i wr => ∃ (k : Nat), k ≤ cnt x + 1 ∧ i = .int .i64 k ∧ wr.ownsRow w.heap.size 23 1 v (subsTo x k).length ((subsTo x k).map setV) ∧ Below w.heap.size w wr) (fun _ i _ => cnt x + 1 - (intOf i).toNat)
  case atStart => exact ⟨0, Nat.zero_le _, rfl, World.ownsRow_nil _ _ _ _, Below.refl _ _⟩
  case round =>
    obtain ⟨k, hk, rfl, hown, hb⟩ := hrel
    go_wp2_with fail
    refine (rcount_c x _ _ rfl).mono ?_
    rintro e w1 ⟨rfl, hb1⟩
    have hown1 := row_below hown hb1
    have hb2 := Below.next hb hb1
    clear hown hb hb1
    by_cases hlt : k ≤ cnt x
    · go_wp2_with fail
      refine (rchoose_c x _ k _ rfl).mono ?_
      rintro e w2 ⟨v2, rfl, hown2, hb3⟩
      obtain ⟨a2, c2, rfl, hrd⟩ := hown2.rdn (chooseS x k).length (by simp)
      have hown3 := row_below hown1 hb3
      have hb4 := Below.next hb2 hb3
      have hl1 := subsTo_le x k
      have hl2 := chooseS_le x k
      have hs := Lib.hid (subsTo_succ x k)
      clear hown1 hown2 hb2 hb3
      go_wp2_with (at_builtin; go_must (refine wpList_apps _ _ 28 2 (.int .u16 0) _ _ _ ((chooseS x k).map setV) Tryd.underlying28 Tryd.infoSet rfl hown3 hb4 (Nat.le_refl _) hrd (by intro u hu; obtain ⟨_, _, rfl⟩ := List.mem_map.1 hu; rfl) rfl rfl rfl rfl (by unfold maxLen; omega) (by omega) ?_))
      intro v' w4 hown5 hb5 _
      clear hown3 hb4 hrd
      go_wp2_with fail
      go_roundw
      case rel => exact ⟨k + 1, by omega, by go_num, by rw [hs.out, List.length_append, List.map_append]; exact hown5, hb5⟩
      case measure => simp [intOf]; omega
    · obtain rfl : k = cnt x + 1 := by omega
      go_wp2_with fail
      go_ret
      exact ⟨_, rfl, by unfold Own subsS; rw [List.length_map]; exact hown1, hb2⟩

/-- two lists of sets are the same -/
theorem same_take {α : Type} [DecidableEq α] {l m : List α} {k : Nat} (hl : l.length = m.length) {x y : α} (hx : l[k]? = some x) (hy : m[k]? = some y) (ht : l.take k = m.take k) :
    (x = y → l.take (k + 1) = m.take (k + 1)) ∧ (x ≠ y → l ≠ m) := by
  refine ⟨fun e => ?_, fun e h => ?_⟩
  · rw [List.take_add_one, List.take_add_one, hx, hy, ht, e]
  · rw [h, hy] at hx; exact e (Option.some.inj hx).symm

set_option maxRecDepth 100000 in
set_option maxHeartbeats 2000000 in
theorem rsame_c (l m : List (BitVec 16)) (a b : Option Addr) (n c n' c' : Nat) (w : World) (h : Rd w a n c (l.map setV)) (h' : Rd w b n' c' (m.map setV)) :
    Calls Tryd.prog 19 #[.slice a n c, .slice b n' c'] w fun e w' => e = .returned (.bool (decide (l = m))) ∧ Below w.heap.size w w' := by
  have hn : n ≤ l.length ∧ l.length ≤ n := by have := h.len; simp at this; omega
  obtain ⟨hn1, hn2⟩ := hn
  have hn' : n' ≤ m.length ∧ m.length ≤ n' := by have := h'.len; simp at this; omega
  obtain ⟨hm1, hm2⟩ := hn'
  have hm := h.max
  have hle := h.le
  have hm' := h'.max
  have hle' := h'.le
  unfold maxLen at hm hm'
  by_cases hnn : n = n'
  · subst hnn
    have hlm : Hid (l.length = m.length) := by show l.length = m.length; omega
    have hne : ((n : Int) != (n : Int)) = false := by simp
    go_enter Tryd.func19, Tryd.ntmps19
    go_wp2_with fail
    go_loopw [5] (fun i wr => ∃ (k : Nat), k ≤ n ∧ i = .int .i64 k ∧ Hid (l.take k = m.take k) ∧ Below w.heap.size w wr) (fun i _ => n - (intOf i).toNat)
    case atStart => exact ⟨0, Nat.zero_le _, rfl, rfl, Below.refl _ _⟩
    case round =>
      obtain ⟨k, hk, rfl, ht, hbw⟩ := hrel
      have hw := h.below hbw
      have hw' := h'.below hbw
      by_cases hlt : k < n
      · obtain ⟨x, hx⟩ : ∃ x, l[k]? = some x := ⟨_, List.getElem?_eq_getElem (by omega)⟩
        obtain ⟨y, hy⟩ : ∃ y, m[k]? = some y := ⟨_, List.getElem?_eq_getElem (by omega)⟩
        have T := Lib.hid (same_take hlm.out hx hy ht.out)
        obtain ⟨b1, o1, rfl, hcell⟩ := hw.at' (by omega)
        have hc : wr.cell? ⟨b1, o1 + k, none⟩ = some (.int .u16 (U x)) := hcell k (setV x) (by simp [hx])
        obtain ⟨b2, o2, rfl, hcell2⟩ := hw'.at' (by omega)
        have hc2 : wr.cell? ⟨b2, o2 + k, none⟩ = some (.int .u16 (U y)) := hcell2 k (setV y) (by simp [hy])
        have hk1 : (k : Int) < n := by omega
        have hk2 : (0 : Int) ≤ k := by omega
        clear hcell hcell2 hx hy h h' ht hw hw'
        by_cases hxy : x = y
        · have hb : (x != y) = false := by simpa using hxy
          have HX := Lib.hid hxy
          clear hxy
          go_wp2_with fail
          go_quiet (fail)
          go_wp2_with fail
          go_roundw
          case rel => exact ⟨k + 1, by omega, by go_num, T.out.1 HX.out, below_drewN hbw⟩
          case measure => simp [intOf]; omega
        · have hb : (x != y) = true := by simpa using hxy
          have HX := Lib.hid hxy
          clear hxy
          go_wp2_with fail
          go_quiet (fail)
          go_wp2_with fail
          go_ret
          exact ⟨ret_bool (by simp [T.out.2 HX.out]), below_drewN hbw⟩
      · have hE : Hid (l = m) := by
          have := ht.out
          rw [List.take_of_length_le (by omega), List.take_of_length_le (by omega)] at this
          exact this
        clear ht h h' hw hw'
        go_wp2_with fail
        go_ret
        exact ⟨ret_bool (by simp [hE.out]), hbw⟩
  · have hne : ((n : Int) != (n' : Int)) = true := by rw [bne_iff_ne]; omega
    have hE : Hid (l ≠ m) := by intro e; subst e; omega
    clear hnn h h'
    go_enter Tryd.func19, Tryd.ntmps19
    go_wp2_with fail
    go_ret
    exact ⟨ret_bool (by simp [hE.out]), Below.refl _ _⟩

set_option maxRecDepth 100000 in
set_option maxHeartbeats 2000000 in
theorem equali_c (l m : List Int) (a b : Option Addr) (n c n' c' : Nat) (w : World) (h : Rd w a n c (l.map (Value.int .i64))) (h' : Rd w b n' c' (m.map (Value.int .i64))) :
    Calls Tryd.prog 31 #[.slice a n c, .slice b n' c'] w fun e w' => e = .returned (.bool (decide (l = m))) ∧ Below w.heap.size w w' := by
  have hn : n ≤ l.length ∧ l.length ≤ n := by have := h.len; simp at this; omega
  obtain ⟨hn1, hn2⟩ := hn
  have hn' : n' ≤ m.length ∧ m.length ≤ n' := by have := h'.len; simp at this; omega
  obtain ⟨hm1, hm2⟩ := hn'
  have hm := h.max
  have hle := h.le
  have hm' := h'.max
  have hle' := h'.le
  unfold maxLen at hm hm'
  by_cases hnn : n = n'
  · subst hnn
    have hlm : Hid (l.length = m.length) := by show l.length = m.length; omega
    have hne : ((n : Int) != (n : Int)) = false := by simp
    go_enter Tryd.func31, Tryd.ntmps31
    go_wp2_with fail
    go_loopw [13] (fun i wr => ∃ (k : Nat), k ≤ n ∧ i = .int .i64 k ∧ Hid (l.take k = m.take k) ∧ Below w.heap.size w wr) (fun i _ => n - (intOf i).toNat)
    case atStart => exact ⟨0, Nat.zero_le _, rfl, rfl, Below.refl _ _⟩
    case round =>
      obtain ⟨k, hk, rfl, ht, hbw⟩ := hrel
      have hw := h.below hbw
      have hw' := h'.below hbw
      by_cases hlt : k < n
      · obtain ⟨x, hx⟩ : ∃ x, l[k]? = some x := ⟨_, List.getElem?_eq_getElem (by omega)⟩
        obtain ⟨y, hy⟩ : ∃ y, m[k]? = some y := ⟨_, List.getElem?_eq_getElem (by omega)⟩
        have T := Lib.hid (same_take hlm.out hx hy ht.out)
        obtain ⟨b1, o1, rfl, hcell⟩ := hw.at' (by omega)
        have hc : wr.cell? ⟨b1, o1 + k, none⟩ = some (.int .i64 x) := hcell k (.int .i64 x) (by simp [hx])
        obtain ⟨b2, o2, rfl, hcell2⟩ := hw'.at' (by omega)
        have hc2 : wr.cell? ⟨b2, o2 + k, none⟩ = some (.int .i64 y) := hcell2 k (.int .i64 y) (by simp [hy])
        have hk1 : (k : Int) < n := by omega
        have hk2 : (0 : Int) ≤ k := by omega
        clear hcell hcell2 hx hy h h' ht hw hw'
        by_cases hxy : x = y
        · have hb : (x != y) = false := by simpa using hxy
          have HX := Lib.hid hxy
          clear hxy
          go_wp2_with fail
          go_quiet (fail)
          go_wp2_with fail
          go_roundw
          case rel => exact ⟨k + 1, by omega, by go_num, T.out.1 HX.out, below_drewN hbw⟩
          case measure => simp [intOf]; omega
        · have hb : (x != y) = true := by simpa using hxy
          have HX := Lib.hid hxy
          clear hxy
          go_wp2_with fail
          go_quiet (fail)
          go_wp2_with fail
          go_ret
          exact ⟨ret_bool (by simp [T.out.2 HX.out]), below_drewN hbw⟩
      · have hE : Hid (l = m) := by
          have := ht.out
          rw [List.take_of_length_le (by omega), List.take_of_length_le (by omega)] at this
          exact this
        clear ht h h' hw hw'
        go_wp2_with fail
        go_ret
        exact ⟨ret_bool (by simp [hE.out]), hbw⟩
  · have hne : ((n : Int) != (n' : Int)) = true := by rw [bne_iff_ne]; omega
    have hE : Hid (l ≠ m) := by intro e; subst e; omega
    clear hnn h h'
    go_enter Tryd.func31, Tryd.ntmps31
    go_wp2_with fail
    go_ret
    exact ⟨ret_bool (by simp [hE.out]), Below.refl _ _⟩
end Go.Proofs.YthkboibhkpkliaaDoor
