/- The reference's Rename, Within, Choose, Subsets, Same; slices.Equal and Clone of ints. -/
import Derived.Test.YthkboibhkpkliaaDoorSet4
namespace Go.Proofs.YthkboibhkpkliaaDoor
open Go.RowKit

theorem ofS_append (p q : List Int) : ∀ s, ofS s (p ++ q) = if (ofS s p).2 = 0 then ofS (ofS s p).1 q else ofS s p := by
  induction p with
  | nil => intro s; simp [ofS]
  | cons i p ih =>
    intro s
    by_cases h0 : (addS s i).2 = 0
    · simp only [List.cons_append, ofS, if_pos h0]; exact ih _
    · simp only [List.cons_append, ofS, if_neg h0, if_false]

theorem ofS_stop {l : List Int} {k : Nat} (h : l[k]? = some (-1)) (s : BitVec 16) : ofS s (l.take (k + 1)) = ofS s l := by
  have e : l = l.take (k + 1) ++ l.drop (k + 1) := (List.take_append_drop _ _).symm
  have h2 : (ofS s (l.take (k + 1))).2 ≠ 0 := by
    rw [List.take_add_one, h, ofS_append]
    by_cases h0 : (ofS s (l.take k)).2 = 0
    · rw [if_pos h0]; simp [ofS, addS_neg]
    · rw [if_neg h0]; exact h0
  conv => rhs; rw [e, ofS_append, if_neg h2]

theorem entries_len (x : BitVec 16) (to : List Int) : (entries x to).length = cnt x := by simp [entries, cnt]
def intV' (i : Int) : Value := .int .i64 i

set_option maxRecDepth 100000 in
set_option maxHeartbeats 2000000 in
theorem rrename_c (x : BitVec 16) (s : Int) (to : List Int) (a : Option Addr) (n c : Nat) (w : World) (hs : s = U x) (h : Rd w a n c (to.map (Value.int .i64))) :
    Calls Tryd.prog 27 #[.int .u16 s, .slice a n c] w fun e w' => e = .returned (.tuple #[.int .u16 (U (renS x to).1), .int .i64 (renS x to).2]) ∧ Below w.heap.size w w' := by
  subst hs
  have hn : n ≤ to.length ∧ to.length ≤ n := by have := h.len; simp at this; omega
  obtain ⟨hn1, hn2⟩ := hn
  have hm := h.max
  have hle := h.le
  unfold maxLen at hm
  go_enter Tryd.func27, Tryd.ntmps27
  go_wp2_with fail
  refine (rmembers_c x _ _ rfl).mono ?_
  rintro e w1 ⟨v, rfl, hown, hb⟩
  obtain ⟨ma, mc, rfl, hr⟩ := hown.rd
  have h2 := h.below hb
  have hml := cnt_le x
  have e1 : ((memS x).map intV).length = cnt x := by simp [cnt]
  rw [e1] at hr ⊢
  have hrl := hr.le
  have hrm := hr.max
  unfold maxLen at hrm
  clear hown h
  go_wp2_with fail
  go_loopw [6, 8] (fun v i wr => ∃ (k : Nat), k ≤ cnt x ∧ i = .int .i64 k ∧ wr.ownsRow w1.heap.size 3 1 v k (((entries x to).map intV').take k) ∧ Below w1.heap.size w1 wr) (fun _ i _ => cnt x - (intOf i).toNat)
  case atStart => exact ⟨0, Nat.zero_le _, rfl, World.ownsRow_nil _ _ _ _, Below.refl _ _⟩
  case round =>
    obtain ⟨k, hk, rfl, hown, hbr⟩ := hrel
    by_cases hlt : k < cnt x
    · obtain ⟨i, hi⟩ : ∃ i, (memS x)[k]? = some i := ⟨_, List.getElem?_eq_getElem (show k < (memS x).length from hlt)⟩
      have hi16 := memS_lt hi
      have hx : (entries x to)[k]? = some ((to[i]?).getD (-1)) := by simp [entries, hi]
      have hr' := hr.below hbr
      have h2' := h2.below hbr
      obtain ⟨b, o, rfl, hcell⟩ := hr'.at' (by omega)
      have hc := hcell k (intV i) (by simp [hi])
      unfold intV at hc
      clear hcell hi hr' hr
      by_cases hin : i < n
      · obtain ⟨y, hy⟩ : ∃ y, to[i]? = some y := ⟨to[i]'(by omega), by simp⟩
        rw [hy, Option.getD_some] at hx
        have HX := Lib.hid hx
        obtain ⟨b2, o2, rfl, hcell2⟩ := h2'.at' (by omega)
        have hc2 := hcell2 i (.int .i64 y) (by simp [hy])
        clear hcell2 hy h2 h2' hx
        go_wp2_with (at_builtin; go_must (refine wpList_app _ _ 44 8 (.int .i64 0) (intV' y) _ Tryd.underlying44 Tryd.infoInt rfl hown hbr (Nat.le_refl _) rfl rfl rfl rfl rfl (by unfold maxLen; omega) (by omega) ?_))
        intro v' w2 hown1 hb1 _ _
        clear hown hbr hc hc2
        go_wp2_with fail
        go_roundw
        case rel => exact ⟨k + 1, by omega, by go_num, by rw [List.take_add_one, List.getElem?_map, HX.out]; exact hown1, hb1⟩
        case measure => simp [intOf]; omega
      · have hy : to[i]? = none := List.getElem?_eq_none (by omega)
        rw [hy, Option.getD_none] at hx
        clear hy
        have HX := Lib.hid hx
        clear h2 h2' hx
        go_wp2_with (at_builtin; go_must (refine wpList_app _ _ 44 8 (.int .i64 0) (intV' (-1)) _ Tryd.underlying44 Tryd.infoInt rfl hown hbr (Nat.le_refl _) rfl rfl rfl rfl rfl (by unfold maxLen; omega) (by omega) ?_))
        intro v' w2 hown1 hb1 _ _
        clear hown hbr hc
        have hown2 : w2.ownsRow w1.heap.size 3 1 v' (k + 1) (((entries x to).take (k + 1)).map (Value.int .i64)) := by
          rw [List.map_take, List.take_add_one, List.getElem?_map, HX.out]; exact hown1
        obtain ⟨la, lc, rfl, hrd⟩ := rd_of_row hown2
        clear hown1 hown2
        go_wp2_with fail
        refine (rof_c _ _ _ _ _ hrd).mono ?_
        rintro e w3 ⟨rfl, rfl⟩
        rw [ofS_stop HX.out]
        go_wp2_with fail
        go_ret2
        exact ⟨rfl, Below.next hb hb1⟩
    · have hkn : k = cnt x := by omega
      subst hkn
      have hown2 : wr.ownsRow w1.heap.size 3 1 u6 (cnt x) ((entries x to).map (Value.int .i64)) := by
        rw [List.take_of_length_le (by rw [List.length_map, entries_len]; exact Nat.le_refl _)] at hown; exact hown
      obtain ⟨la, lc, rfl, hrd⟩ := rd_of_row hown2
      clear hown hown2 hr h2
      go_wp2_with fail
      refine (rof_c _ _ _ _ _ hrd).mono ?_
      rintro e w3 ⟨rfl, rfl⟩
      go_wp2_with fail
      go_ret2
      exact ⟨rfl, Below.next hb hbr⟩

set_option maxHeartbeats 400000 in
theorem within_c (x y : BitVec 16) (s t : Int) (w : World) (hs : s = U x) (ht : t = U y) :
    Calls Tryd.prog 47 #[.int .u16 s, .int .u16 t] w fun e w' => e = .returned (.bool (x &&& ~~~y == 0#16)) ∧ w = w' := by
  subst hs ht
  go_enter Tryd.func47, Tryd.ntmps47
  go_wp2
  go_ret
  exact ⟨rfl, rfl⟩

def setV (x : BitVec 16) : Value := .int .u16 (U x)
def pickB (x : BitVec 16) (k : Int) (n : Nat) : Bool := (BitVec.ofNat 16 n &&& ~~~x == 0#16) && ((cnt (BitVec.ofNat 16 n) : Int) == k)
def pickTo (x : BitVec 16) (k : Int) (N : Nat) : List (BitVec 16) := ((List.range N).filter (pickB x k)).map (BitVec.ofNat 16)
/-- the subsets of x with k members, in order -/
def chooseS (x : BitVec 16) (k : Int) : List (BitVec 16) := pickTo x k 65536
theorem pickTo_succ (x : BitVec 16) (k : Int) (N : Nat) : pickTo x k (N + 1) = if pickB x k N then pickTo x k N ++ [BitVec.ofNat 16 N] else pickTo x k N := by
  unfold pickTo; rw [List.range_succ, List.filter_append]; cases h : pickB x k N <;> simp [h]
theorem pickTo_le (x : BitVec 16) (k : Int) (N : Nat) : (pickTo x k N).length ≤ N := by
  unfold pickTo; rw [List.length_map]; exact Nat.le_trans (List.length_filter_le _ _) (by simp)
theorem U_ofNat (n : Nat) (h : n < 65536) : (n : Int) = U (BitVec.ofNat 16 n) := by simp [U]; omega
theorem Tryd.infoSet : (Tryd.prog.info? 23).map (fun i => (i.zero, i.size, i.bytes)) = some (some (.int .u16 0), 1, 2) := by kernel_rfl

end Go.Proofs.YthkboibhkpkliaaDoor
