/- Has and Members of the reference. -/
import Derived.Test.YtgfjmplifmbmlaaDoorLib
import Derived.Test.YtgfjmplifmbmlaaDoorMa1
import Derived.Test.YtgfjmplifmbmlaaDoorProg
namespace Go.Proofs.YtgfjmplifmbmlaaDoor
open Go.RowKit

def memTo (x : BitVec 16) (k : Nat) : List Nat := (List.range k).filter (hasB x)
def intV (i : Nat) : Value := .int .i64 i
theorem memTo_succ (x : BitVec 16) (k : Nat) : memTo x (k + 1) = if hasB x k then memTo x k ++ [k] else memTo x k := by
  rw [memTo, List.range_succ, List.filter_append]; cases h : hasB x k <;> simp [memTo, h]
theorem memTo_le (x : BitVec 16) (k : Nat) : (memTo x k).length ≤ k := Nat.le_trans (List.length_filter_le _ _) (by simp)

/-- the reference's Has -/
def hasI (x : BitVec 16) (i : Int) : Bool := decide (0 ≤ i) && decide (i < 16) && hasB x i.toNat

theorem Tryd.infoInt : (Tryd.prog.info? 3).map (fun i => (i.zero, i.size, i.bytes)) = some (some (.int .i64 0), 1, 8) := by kernel_rfl

set_option maxRecDepth 100000 in
set_option maxHeartbeats 1000000 in
theorem ones_c (x : BitVec 16) (s : Int) (w : World) (hs : s = U x) :
    Calls Tryd.prog 108 #[.int .u16 s] w fun e w' => e = .returned (.int .i64 (cnt x)) ∧ ∃ q, w' = w.drewN q := by
  subst hs
  obtain ⟨hi, lo, h1, h2, hh, hl, hp⟩ := cnt_tables x
  have hle := cnt_le x
  have HP := Lib.hid hp
  clear hp
  have h3 : (hi : Int) ≤ 255 := by omega
  have h4 : (lo : Int) ≤ 255 := by omega
  have h8 := bv16_shr x 8
  simp only [Int.reducePow] at h8
  go_enter Tryd.func108, Tryd.ntmps108
  go_wp2
  go_quiet (fail)
  go_wp2
  go_ret
  exact ⟨ret_int (by rw [HP.out]; omega), _, rfl⟩

set_option maxRecDepth 100000 in
set_option maxHeartbeats 1000000 in
theorem count_c (x : BitVec 16) (s : Int) (w : World) (hs : s = U x) :
    Calls Tryd.prog 95 #[.int .u16 s] w fun e w' => e = .returned (.int .i64 (cnt x)) ∧ ∃ q, w' = w.drewN q := by
  subst hs
  go_enter Tryd.func95, Tryd.ntmps95
  go_wp2_with (go_at_call 108; refine (ones_c x _ _ rfl).mono ?_; rintro e w' ⟨rfl, q, rfl⟩)
  go_ret
  exact ⟨rfl, _, rfl⟩

/-- the table that TrailingZeros16 reads -/
def deB : List Int := [0, 1, 28, 2, 29, 14, 24, 3, 30, 22, 20, 15, 25, 17, 4, 8, 31, 27, 13, 23, 21, 19, 16, 7, 26, 12, 18, 6, 11, 5, 10, 9]
def HasTab (w : World) : Prop := ∀ i, i < 32 → w.cell? ⟨0, i, none⟩ = some (.int .u8 (deB.getD i 0))
theorem HasTab.below {w w' : World} (h : HasTab w) (hb : Below w.heap.size w w') : HasTab w' := fun i hi => by
  have := h i hi
  exact (hb.cell (p := ⟨0, i, none⟩) (cell_lt this)).trans this

@[go_sem] theorem bv16_neg (x : BitVec 16) : IntKind.u16.wrap (-(U x)) = U (-x) := by
  rw [IntKind.wrap_u16]; unfold U; rw [BitVec.toNat_neg]; have := x.isLt; omega

set_option maxRecDepth 100000 in
set_option maxHeartbeats 1000000 in
theorem tz_k (k : Nat) (hk : k < 16) (x : BitVec 16) (w : World) (h0 : (x == 0#16) = false) (he : x &&& -x = bitS k) (ht : HasTab w) :
    Calls Tryd.prog 62 #[.int .u16 (U x)] w fun e w' => e = .returned (.int .i64 k) ∧ w = w' := by
  match k, hk with
  | 0, _ =>
    have hc : w.cell? ⟨0, 0, none⟩ = some (.int .u8 0) := ht 0 (by decide)
    have hu : U (bitS 0) = 1 := by decide
    clear ht
    go_enter Tryd.func62, Tryd.ntmps62
    go_wp2
    go_ret
    exact ⟨rfl, rfl⟩
  | 1, _ =>
    have hc : w.cell? ⟨0, 1, none⟩ = some (.int .u8 1) := ht 1 (by decide)
    have hu : U (bitS 1) = 2 := by decide
    clear ht
    go_enter Tryd.func62, Tryd.ntmps62
    go_wp2
    go_ret
    exact ⟨rfl, rfl⟩
  | 2, _ =>
    have hc : w.cell? ⟨0, 3, none⟩ = some (.int .u8 2) := ht 3 (by decide)
    have hu : U (bitS 2) = 4 := by decide
    clear ht
    go_enter Tryd.func62, Tryd.ntmps62
    go_wp2
    go_ret
    exact ⟨rfl, rfl⟩
  | 3, _ =>
    have hc : w.cell? ⟨0, 7, none⟩ = some (.int .u8 3) := ht 7 (by decide)
    have hu : U (bitS 3) = 8 := by decide
    clear ht
    go_enter Tryd.func62, Tryd.ntmps62
    go_wp2
    go_ret
    exact ⟨rfl, rfl⟩
  | 4, _ =>
    have hc : w.cell? ⟨0, 14, none⟩ = some (.int .u8 4) := ht 14 (by decide)
    have hu : U (bitS 4) = 16 := by decide
    clear ht
    go_enter Tryd.func62, Tryd.ntmps62
    go_wp2
    go_ret
    exact ⟨rfl, rfl⟩
  | 5, _ =>
    have hc : w.cell? ⟨0, 29, none⟩ = some (.int .u8 5) := ht 29 (by decide)
    have hu : U (bitS 5) = 32 := by decide
    clear ht
    go_enter Tryd.func62, Tryd.ntmps62
    go_wp2
    go_ret
    exact ⟨rfl, rfl⟩
  | 6, _ =>
    have hc : w.cell? ⟨0, 27, none⟩ = some (.int .u8 6) := ht 27 (by decide)
    have hu : U (bitS 6) = 64 := by decide
    clear ht
    go_enter Tryd.func62, Tryd.ntmps62
    go_wp2
    go_ret
    exact ⟨rfl, rfl⟩
  | 7, _ =>
    have hc : w.cell? ⟨0, 23, none⟩ = some (.int .u8 7) := ht 23 (by decide)
    have hu : U (bitS 7) = 128 := by decide
    clear ht
    go_enter Tryd.func62, Tryd.ntmps62
    go_wp2
    go_ret
    exact ⟨rfl, rfl⟩
  | 8, _ =>
    have hc : w.cell? ⟨0, 15, none⟩ = some (.int .u8 8) := ht 15 (by decide)
    have hu : U (bitS 8) = 256 := by decide
    clear ht
    go_enter Tryd.func62, Tryd.ntmps62
    go_wp2
    go_ret
    exact ⟨rfl, rfl⟩
  | 9, _ =>
    have hc : w.cell? ⟨0, 31, none⟩ = some (.int .u8 9) := ht 31 (by decide)
    have hu : U (bitS 9) = 512 := by decide
    clear ht
    go_enter Tryd.func62, Tryd.ntmps62
    go_wp2
    go_ret
    exact ⟨rfl, rfl⟩
  | 10, _ =>
    have hc : w.cell? ⟨0, 30, none⟩ = some (.int .u8 10) := ht 30 (by decide)
    have hu : U (bitS 10) = 1024 := by decide
    clear ht
    go_enter Tryd.func62, Tryd.ntmps62
    go_wp2
    go_ret
    exact ⟨rfl, rfl⟩
  | 11, _ =>
    have hc : w.cell? ⟨0, 28, none⟩ = some (.int .u8 11) := ht 28 (by decide)
    have hu : U (bitS 11) = 2048 := by decide
    clear ht
    go_enter Tryd.func62, Tryd.ntmps62
    go_wp2
    go_ret
    exact ⟨rfl, rfl⟩
  | 12, _ =>
    have hc : w.cell? ⟨0, 25, none⟩ = some (.int .u8 12) := ht 25 (by decide)
    have hu : U (bitS 12) = 4096 := by decide
    clear ht
    go_enter Tryd.func62, Tryd.ntmps62
    go_wp2
    go_ret
    exact ⟨rfl, rfl⟩
  | 13, _ =>
    have hc : w.cell? ⟨0, 18, none⟩ = some (.int .u8 13) := ht 18 (by decide)
    have hu : U (bitS 13) = 8192 := by decide
    clear ht
    go_enter Tryd.func62, Tryd.ntmps62
    go_wp2
    go_ret
    exact ⟨rfl, rfl⟩
  | 14, _ =>
    have hc : w.cell? ⟨0, 5, none⟩ = some (.int .u8 14) := ht 5 (by decide)
    have hu : U (bitS 14) = 16384 := by decide
    clear ht
    go_enter Tryd.func62, Tryd.ntmps62
    go_wp2
    go_ret
    exact ⟨rfl, rfl⟩
  | 15, _ =>
    have hc : w.cell? ⟨0, 11, none⟩ = some (.int .u8 15) := ht 11 (by decide)
    have hu : U (bitS 15) = 32768 := by decide
    clear ht
    go_enter Tryd.func62, Tryd.ntmps62
    go_wp2
    go_ret
    exact ⟨rfl, rfl⟩  | k + 16, hk => exact absurd hk (by omega)

set_option maxRecDepth 100000 in
set_option maxHeartbeats 1000000 in
theorem members_c (x0 : BitVec 16) (s : Int) (w : World) (hs : s = U x0) (ht : HasTab w) :
    Calls Tryd.prog 42 #[.int .u16 s] w fun e w' => ∃ v, e = .returned v ∧ Own w w' 3 v ((memS x0).map intV) ∧ Below w.heap.size w w' := by
  subst hs
  go_enter Tryd.func42, Tryd.ntmps42
  go_wp2
  go_loopw [0, 3] (fun s v wr => ∃ (x : BitVec 16) (l : List Nat), s = .int .u16 (U x) ∧ wr.ownsRow w.heap.size 3 1 v l.length (l.map intV) ∧ Below w.heap.size w wr ∧ Hid (memS x0 = l ++ memS x)) (fun s _ _ => cnt (BitVec.ofInt 16 (intOf s)))
  case atStart => exact ⟨x0, [], rfl, World.ownsRow_nil _ _ _ _, Below.refl _ _, rfl⟩
  case round =>
    obtain ⟨x, l, rfl, hown, hb, hm⟩ := hrel
    have hlen : l.length ≤ 16 := by have := cnt_le x0; unfold cnt at this; rw [hm.out, List.length_append] at this; omega
    by_cases h0 : x = 0#16
    · subst h0
      go_wp2
      go_ret
      exact ⟨_, rfl, by unfold Own; rw [hm.out, memS_zero, List.append_nil, List.length_map]; exact hown, hb⟩
    · have hx : (x != 0#16) = true := by simpa using h0
      have hx' : (x == 0#16) = false := by simpa using h0
      have h0' := Lib.hid h0
      clear h0
      obtain ⟨k, hk, he, hbit, hstep⟩ := memS_step x h0'.out
      have hc := Lib.hid (cnt_step x h0'.out)
      have HT := Lib.hid (ht.below hb)
      have HE := Lib.hid he
      have HS := Lib.hid hstep
      clear he hbit hstep
      go_wp2_with (first | (go_at_call 62; refine (tz_k k hk x _ hx' HE.out HT.out).mono ?_; rintro e w' ⟨rfl, rfl⟩) | (at_builtin; go_must (refine wpList_app _ _ 77 8 (.int .i64 0) (intV k) _ Tryd.underlying77 Tryd.infoInt rfl hown hb (Nat.le_refl _) rfl rfl rfl rfl rfl (by unfold maxLen; omega) (by omega) ?_)))
      intro v' w1 hown1 hb1 _ _
      clear hown hb HT
      go_wp2
      go_roundw
      case rel => exact ⟨_, l ++ [k], rfl, by simpa using hown1, hb1, by rw [Hid, hm.out, HS.out]; simp⟩
      case measure => show cnt (BitVec.ofInt 16 (U (x &&& (x - 1#16)))) < cnt (BitVec.ofInt 16 (U x)); rw [U_ofInt, U_ofInt, hc.out]; omega

/-- set.Full -/
def fullS (n : Int) : BitVec 16 × Int := if n < 0 ∨ 12 < n then (0#16, 7) else (bitS n.toNat - 1#16, 0)

end Go.Proofs.YtgfjmplifmbmlaaDoor
