/- Texts laid together. The reference of layer 9. The reference of layer 9: Minimal, Made. The reference of layer 9: Made. Minimal families are valid. Plain Lean, no program. Layer 37, plain: runs. What a list of events has done, as the program keeps it and as the reference reads it off. No program. Ascending lists of texts; the order of bytes. Plain Lean, no program. Layer 37, plain: the program's state follows the reference's. No program. Layer 37, plain: if all read sets meet all write sets, at most one value is chosen by events that follow the rules. No program. Layer 37, plain: the chosen values. No program. The reference's Given. Layer 37, plain: the attack follows the rules, and two values are chosen in it. No program. TopPhases, plain side: the minimal transversals of a family. slices.Clone of reports and of events. Layer 37: Promise, Accept of the program and of the reference. Maps that the call itself has made, as functions from keys. Over any program. single.pick, Pick. Layer 37: a run in memory; run.value. Maps as functions from keys: stores in a statement whose order is open; an entry that is made first and filled later. Over any program. Layer 37: what a promise and an acceptance do to a run in memory. Layer 37: run.add, a promise. -/
import Derived.Test.YtmjgdnpfgkpaoaaGreatDoorGC1
import Derived.Test.YtmjgdnpfgkpaoaaGreatDoorGC2
import Derived.Test.YtmjgdnpfgkpaoaaGreatDoorGC3
import Derived.Test.YtmjgdnpfgkpaoaaGreatDoorGC10
import Derived.Lib.SlicesCompact
import Derived.Lib.SortBridge
import Derived.IntWalk
import Derived.BigQuiet
import Derived.Maps.OwnOps
import Derived.Maps.RangeWalk
import Derived.Maps.Views
import Derived.Deep.RegionHeld3
import Derived.StillTailTactics
import Derived.Deep.QuietTactic
import Derived.WideKeyEntry
import Derived.Deep.AppendLies
namespace Go.Proofs.YtmjgdnpfgkpaoaaGreatDoor
open Go.RowKit Go.Shelf

set_option maxRecDepth 100000 in
set_option maxHeartbeats 1000000 in
theorem count9_c (x : BitVec 16) (w : World) :
    Calls Tryz.prog 137 #[.int .u16 (U x)] w fun e w' => e = .returned (.int .i64 (cnt x)) ∧ w' = w := by
  go_enter Tryz.func137, Tryz.ntmps137
  go_wp2_with fail
  go_loop [3, 4] (fun v i => ∃ (k : Nat) (m : Nat), k ≤ 16 ∧ m ≤ k ∧ i = .int .i64 k ∧ v = .int .i64 m ∧ Hid (m = (memTo x k).length)) (fun _ i => 16 - (intOf i).toNat)
  case atStart => exact ⟨0, 0, Nat.zero_le _, Nat.zero_le _, rfl, rfl, rfl⟩
  case round =>
    obtain ⟨k, m, hk, hmk, rfl, rfl, hm⟩ := hrel
    by_cases hlt : k < 16
    · have HS := Lib.hid (cntTo_succ x k)
      cases hb : hasB x k
      · have HB := Lib.hid hb
        have hb0 : b01 (hasB x k) = 0 := by rw [hb]; rfl
        clear hb
        go_wp2_with fail
        go_round
        case rel => exact ⟨k + 1, m, by omega, by omega, by go_num, by (try go_num), by show _ = _; rw [HS.out, HB.out, hm.out]; rfl⟩
        case measure => simp [intOf]; omega
      · have HB := Lib.hid hb
        have hb0 : b01 (hasB x k) = 1 := by rw [hb]; rfl
        clear hb
        go_wp2_with fail
        go_round
        case rel => exact ⟨k + 1, m + 1, by omega, by omega, by go_num, by go_num, by show _ = _; rw [HS.out, HB.out, hm.out]; rfl⟩
        case measure => simp [intOf]; omega
    · have hE : Hid (m = cnt x) := by
        obtain rfl : k = 16 := by omega
        exact hm.out
      go_wp2_with fail
      go_ret
      exact ⟨ret_int (by rw [hE.out]), rfl⟩

set_option maxRecDepth 100000 in
set_option maxHeartbeats 1000000 in
theorem support9_c (l : List (BitVec 16)) (a : Option Addr) (n c : Nat) (w : World) (h : Rd w a n c (l.map setV2)) :
    Calls Tryz.prog 111 #[.slice a n c] w fun e w' => e = .returned (.int .u16 (U (supS l))) ∧ w' = w := by
  have hn : n ≤ l.length ∧ l.length ≤ n := by have := h.len; simp at this; omega
  obtain ⟨hn1, hn2⟩ := hn
  have hm := h.max
  have hle := h.le
  unfold maxLen at hm
  go_enter Tryz.func111, Tryz.ntmps111
  go_wp2_with fail
  go_loop [3, 4] (fun v i => ∃ (k : Nat) (s : BitVec 16), k ≤ n ∧ i = .int .i64 k ∧ v = .int .u16 (U s) ∧ Hid (s = supS (l.take k))) (fun _ i => n - (intOf i).toNat)
  case atStart => exact ⟨0, 0#16, Nat.zero_le _, rfl, rfl, rfl⟩
  case round =>
    obtain ⟨k, s, hk, rfl, rfl, hs⟩ := hrel
    by_cases hlt : k < n
    · obtain ⟨b, o, ha, hcell⟩ := h.at' (by omega)
      have hc := hcell k _ (at_cell (by omega))
      have HS := Lib.hid (supS_take (l := l) (k := k) (by omega))
      obtain ⟨x, hx⟩ : ∃ x, l.getD k 0#16 = x := ⟨_, rfl⟩
      rw [hx] at hc HS
      subst ha
      clear hcell h hx
      go_wp2_with fail
      go_round
      case rel => exact ⟨k + 1, s ||| x, by omega, by go_num, rfl, by show _ = _; rw [HS.out, hs.out]⟩
      case measure => simp [intOf]; omega
    · have hE : Hid (l.take k = l) := List.take_of_length_le (by omega)
      clear h
      go_wp2_with fail
      go_ret
      exact ⟨by rw [hs.out, hE.out]; rfl, rfl⟩
set_option maxRecDepth 100000 in
set_option maxHeartbeats 1000000 in
theorem accepts9_c (l : List (BitVec 16)) (s : BitVec 16) (a : Option Addr) (n c : Nat) (w : World) (h : Rd w a n c (l.map setV2)) :
    Calls Tryz.prog 112 #[.slice a n c, .int .u16 (U s)] w fun e w' => e = .returned (.bool (accS l s)) ∧ w' = w := by
  have hnl : l.length = n := by have := h.len; simp at this; omega
  have hm := h.max
  have hle := h.le
  unfold maxLen at hm
  have HR := Lib.hid h
  have HN := Lib.hid hnl
  clear h hnl
  go_enter Tryz.func112, Tryz.ntmps112
  go_wp2_with fail
  go_loop [5] (fun i => ∃ k : Nat, k ≤ n ∧ i = .int .i64 k ∧ Hid (∀ j, j < k → subB s (l.getD j 0#16) = false)) (fun i => n - (intOf i).toNat)
  case atStart => exact ⟨0, Nat.zero_le _, rfl, Lib.hid (fun j hj => by omega)⟩
  case round =>
    obtain ⟨k, hk, rfl, hno⟩ := hrel
    by_cases hlt : k < n
    · obtain ⟨b, o, ha, hcell⟩ := HR.out.at' (by omega)
      have hkl : k < l.length := by have := HN.out; omega
      have hc := hcell k _ (at_cell hkl)
      obtain ⟨x, hx⟩ : ∃ x, l.getD k 0#16 = x := ⟨_, rfl⟩
      rw [hx] at hc
      subst ha
      cases hq : (x &&& ~~~s == 0#16)
      · have hno' : Hid (∀ j, j < k + 1 → subB s (l.getD j 0#16) = false) := Lib.hid (fun j hj => by
          by_cases h1 : j < k
          · exact hno.out j h1
          · obtain rfl : j = k := by omega
            rw [hx]; exact hq)
        clear hcell hno hx hkl
        go_wp2_with fail
        go_round
        case rel => exact ⟨k + 1, by omega, by go_num, hno'⟩
        case measure => simp [intOf]; omega
      · have hA : Hid (accS l s = true) := any_hit (p := fun x => subB s x) hkl (by rw [hx]; exact hq)
        clear hcell hno hx hkl
        go_wp2_with fail
        go_ret
        exact ⟨ret_bool hA.out.symm, rfl⟩
    · have hA : Hid (accS l s = false) := any_none (p := fun x => subB s x) (fun j hj => hno.out j (by have := HN.out; omega))
      clear hno
      go_wp2_with fail
      go_ret
      exact ⟨ret_bool hA.out.symm, rfl⟩

/-- all subsets, in order -/
def subsT9 (s : BitVec 16) (k : Nat) : List (BitVec 16) := (List.range k).flatMap fun (j : Nat) => pickTo s (j : Int) (s.toNat + 1)
def subsS9 (s : BitVec 16) : List (BitVec 16) := subsT9 s (cnt s + 1)
theorem subsT9_succ (s : BitVec 16) (k : Nat) : subsT9 s (k + 1) = subsT9 s k ++ pickTo s k (s.toNat + 1) := by
  unfold subsT9; rw [List.range_succ, List.flatMap_append]; simp
theorem subsTo_len (s : BitVec 16) : ∀ k, (subsT9 s k).length ≤ k * 65536 := by
  intro k
  induction k with
  | zero => simp [subsT9]
  | succ k ih =>
    rw [subsT9_succ, List.length_append]
    have := pickTo_le s k (s.toNat + 1)
    have := s.isLt
    omega

set_option maxRecDepth 100000 in
set_option maxHeartbeats 2000000 in
theorem subsets9_c (x : BitVec 16) (w : World) :
    Calls Tryz.prog 110 #[.int .u16 (U x)] w fun e w' => ∃ v, e = .returned v ∧ Own w w' 27 v ((subsS9 x).map setV2) ∧ Below w.heap.size w w' := by
  have hc16 := cnt_le x
  have hub := U_bd x
  have HCX := Lib.hid (fun w => count9_c x w)
  obtain ⟨C, hC⟩ : ∃ C, cnt x = C := ⟨_, rfl⟩
  rw [hC] at HCX hc16
  have HC := Lib.hid hC
  clear hC
  go_enter Tryz.func110, Tryz.ntmps110
  go_wp2_with fail
  go_loopw [3, 4] (fun v i wr => ∃ k : Nat, k ≤ C + 1 ∧ i = .int .i64 k ∧ wr.ownsRow w.heap.size 27 1 v (subsT9 x k).length ((subsT9 x k).map setV2) ∧ Below w.heap.size w wr) (fun _ i _ => C + 1 - (intOf i).toNat)
  case atStart => exact ⟨0, Nat.zero_le _, rfl, World.ownsRow_nil _ _ _ _, Below.refl _ _⟩
  case round =>
    obtain ⟨k, hk, rfl, hown, hb⟩ := hrel
    have hsl := subsTo_len x k
    by_cases hlt : k ≤ C
    · have hs := subsT9_succ x k
      have HS := Lib.hid hs
      clear hs
      go_wp2_with fail
      refine (HCX.out _).mono ?_
      rintro e w2 ⟨rfl, rfl⟩
      go_wp2_with fail
      obtain ⟨D, hD⟩ : ∃ D, (subsT9 x k).length = D := ⟨_, rfl⟩
      have HD := Lib.hid hD
      rw [hD] at hsl
      have HO := Lib.hid hown
      have HB := Lib.hid hb
      clear hown hb hD
      go_loopw [3, 5] (fun v i wr => ∃ n : Nat, (n : Int) ≤ U x + 1 ∧ i = .int .i64 n ∧ wr.ownsRow w.heap.size 27 1 v (subsT9 x k ++ pickTo x k n).length ((subsT9 x k ++ pickTo x k n).map setV2) ∧ Below w.heap.size w wr) (fun _ i _ => 65537 - (intOf i).toNat)
      case atStart => exact ⟨0, by have := hub.1; omega, rfl, by simpa [pickTo] using HO.out, HB.out⟩
      case round =>
        obtain ⟨n, hn, rfl, hown, hb⟩ := hrel
        have hpl := pickTo_le x k n
        by_cases hle : (n : Int) ≤ U x
        · have hps := pickTo_succ x k n
          obtain ⟨y, hy⟩ : ∃ y, BitVec.ofNat 16 n = y := ⟨_, rfl⟩
          have hny : (n : Int) = U y := by rw [← hy]; exact U_ofNat n (by omega)
          have hyw := U_wrap y
          obtain ⟨hy0, hy1⟩ := U_bd y
          have hcy := cnt_le y
          unfold pickB at hps
          rw [hy] at hps
          rw [hny]
          rw [hny] at hle
          have HNY := Lib.hid hny
          have HLN : Hid ((subsT9 x k ++ pickTo x k n).length ≤ 2000000) := by show _ ≤ _; rw [List.length_append, HD.out]; omega
          clear hny hy hpl
          cases hw : (y &&& ~~~x == 0#16)
          · rw [hw] at hps
            have HS : Hid (pickTo x k (n + 1) = pickTo x k n) := by show _ = _; rw [hps]; simp
            clear hps
            go_wp2_with fail
            go_roundw
            case rel => exact ⟨n + 1, by have := HNY.out; omega, by rw [← HNY.out]; go_num, by rw [HS.out]; exact hown, hb⟩
            case measure => simp only [intOf]; omega
          · have HCY := Lib.hid (fun w => count9_c y w)
            obtain ⟨t, ht⟩ : ∃ t, cnt y = t := ⟨_, rfl⟩
            rw [ht] at HCY hcy hps
            rw [hw, Bool.true_and] at hps
            clear ht
            cases hq : ((t : Int) == (k : Int))
            · rw [hq] at hps
              have HS : Hid (pickTo x k (n + 1) = pickTo x k n) := by show _ = _; rw [hps]; simp
              clear hps
              go_wp2_with fail
              refine (HCY.out _).mono ?_
              rintro e w4 ⟨rfl, rfl⟩
              go_wp2_with fail
              go_roundw
              case rel => exact ⟨n + 1, by have := HNY.out; omega, by rw [← HNY.out]; go_num, by rw [HS.out]; exact hown, hb⟩
              case measure => simp only [intOf]; omega
            · rw [hq, if_pos rfl] at hps
              have HS : Hid ((subsT9 x k ++ pickTo x k (n + 1)).map setV2 = (subsT9 x k ++ pickTo x k n).map setV2 ++ [.int .u16 (U y)]) := by
                show _ = _
                rw [hps, ← List.append_assoc, List.map_append]; rfl
              have HSL : Hid ((subsT9 x k ++ pickTo x k (n + 1)).length = (subsT9 x k ++ pickTo x k n).length + 1) := by
                show _ = _
                rw [hps, ← List.append_assoc, List.length_append]; rfl
              obtain ⟨G, hG⟩ : ∃ G, (subsT9 x k ++ pickTo x k n).length = G := ⟨_, rfl⟩
              obtain ⟨GL, hGL⟩ : ∃ G, (subsT9 x k ++ pickTo x k n).map setV2 = G := ⟨_, rfl⟩
              rw [hG, hGL] at hown
              have hg2 : G ≤ 2000000 := by rw [← hG]; exact HLN.out
              have HG := Lib.hid hG
              have HGL := Lib.hid hGL
              clear hps hG hGL
              go_wp2_with fail
              refine (HCY.out _).mono ?_
              rintro e w4 ⟨rfl, rfl⟩
              go_wp2_with (at_builtin; go_must (refine wpList_app _ _ 25 2 (.int .u16 0) (.int .u16 (U y)) _ Tryz.underlying25 Tryz.infoSet rfl hown hb (Nat.le_refl _) rfl rfl rfl rfl rfl (by unfold maxLen; omega) (by omega) ?_))
              intro v' w1 hown1 hb1 _ _
              clear hown hb
              go_wp2_with fail
              go_roundw
              case rel => exact ⟨n + 1, by have := HNY.out; omega, by rw [← HNY.out]; go_num, by rw [HS.out, HSL.out, HG.out, HGL.out]; exact hown1, hb1⟩
              case measure => simp only [intOf]; omega
        · have hnx : n = x.toNat + 1 := by unfold U at hle hn; omega
          subst hnx
          have hown2 := hown
          rw [← HS.out] at hown2
          have HO2 := Lib.hid hown2
          clear hown hown2
          go_wp2_with fail
          go_roundw
          case rel => exact ⟨k + 1, by omega, by go_num, HO2.out, hb⟩
          case measure => simp [intOf]; omega
    · obtain rfl : k = C + 1 := by omega
      have hE : subsT9 x (C + 1) = subsS9 x := by unfold subsS9; rw [HC.out]
      rw [hE] at hown
      have HO : Hid (Own w wr 27 u3 ((subsS9 x).map setV2)) := by show Own _ _ _ _ _; unfold Own; rw [List.length_map]; exact hown
      clear hown hE hsl
      go_wp2_with fail
      refine (HCX.out _).mono ?_
      rintro e w2 ⟨rfl, rfl⟩
      go_wp2_with fail
      go_ret
      exact ⟨_, rfl, HO.out, hb⟩
end Go.Proofs.YtmjgdnpfgkpaoaaGreatDoor
namespace Go.Proofs.YtmjgdnpfgkpaoaaGreatDoor
open Go.RowKit Go.Shelf

/-- the minimal sets of a list, in order -/
def minSt (f : List (BitVec 16)) (o : List (BitVec 16)) (x : BitVec 16) : List (BitVec 16) := if ((f.any fun y => y == x) && !accS o x) = true then o ++ [x] else o
def minTo (f : List (BitVec 16)) (m : Nat) : List (BitVec 16) := ((subsS9 (supS f)).take m).foldl (minSt f) []
def minS (f : List (BitVec 16)) : List (BitVec 16) := (subsS9 (supS f)).foldl (minSt f) []
theorem minTo_succ {f : List (BitVec 16)} {m : Nat} {x : BitVec 16} (hx : (subsS9 (supS f))[m]? = some x) : minTo f (m + 1) = minSt f (minTo f m) x := by
  unfold minTo; rw [List.take_add_one, hx, Option.toList_some, List.foldl_append]; rfl
theorem minTo_all {f : List (BitVec 16)} {m : Nat} (h : (subsS9 (supS f)).length = m) : minTo f m = minS f := by
  unfold minTo minS; rw [List.take_of_length_le (by omega)]
theorem minSt_le (f o : List (BitVec 16)) (x : BitVec 16) : (minSt f o x).length ≤ o.length + 1 := by
  unfold minSt; split
  · simp
  · omega
theorem fold_le (f : List (BitVec 16)) : ∀ (l o : List (BitVec 16)), (l.foldl (minSt f) o).length ≤ o.length + l.length := by
  intro l
  induction l with
  | nil => intro o; simp
  | cons x l ih =>
    intro o
    rw [List.foldl_cons, List.length_cons]
    have := ih (minSt f o x)
    have := minSt_le f o x
    omega
theorem minTo_le (f : List (BitVec 16)) (m : Nat) : (minTo f m).length ≤ m := by
  unfold minTo
  have := fold_le f ((subsS9 (supS f)).take m) []
  rw [List.length_take] at this
  simp at this
  omega
/-- within the inner loop -/
def inK (f o : List (BitVec 16)) (x : BitVec 16) (k : Nat) : List (BitVec 16) := minSt (f.take k) o x
theorem acc_self (o : List (BitVec 16)) (x : BitVec 16) : accS (o ++ [x]) x = true := by
  unfold accS subB
  rw [List.any_append, Bool.or_eq_true]
  right
  have : x &&& ~~~x = 0#16 := by
    apply BitVec.eq_of_getLsbD_eq
    intro i hi
    simp
  simp [this]
theorem any_take {f : List (BitVec 16)} {k : Nat} (hk : k < f.length) (x : BitVec 16) : ((f.take (k + 1)).any fun y => y == x) = (((f.take k).any fun y => y == x) || (f.getD k 0#16 == x)) := by
  rw [List.take_add_one, at_some hk, Option.toList_some, List.any_append]; simp
theorem inK_ne {f o : List (BitVec 16)} {x : BitVec 16} {k : Nat} (hk : k < f.length) (h : (f.getD k 0#16 == x) = false) : inK f o x (k + 1) = inK f o x k := by
  unfold inK minSt
  rw [any_take hk, h, Bool.or_false]
theorem inK_acc {f o : List (BitVec 16)} {x : BitVec 16} {k : Nat} (hk : k < f.length) (h : (f.getD k 0#16 == x) = true) (ha : accS (inK f o x k) x = true) : inK f o x (k + 1) = inK f o x k := by
  unfold inK minSt at ha ⊢
  rw [any_take hk, h, Bool.or_true, Bool.true_and]
  cases h1 : (f.take k).any fun y => y == x
  · rw [h1] at ha
    simp only [Bool.false_and, Bool.false_eq_true, if_false] at ha ⊢
    rw [ha]; simp
  · simp
theorem inK_new {f o : List (BitVec 16)} {x : BitVec 16} {k : Nat} (hk : k < f.length) (h : (f.getD k 0#16 == x) = true) (ha : accS (inK f o x k) x = false) : inK f o x (k + 1) = inK f o x k ++ [x] := by
  unfold inK minSt at ha ⊢
  rw [any_take hk, h, Bool.or_true, Bool.true_and]
  cases h1 : (f.take k).any fun y => y == x
  · rw [h1] at ha
    simp only [Bool.false_and, Bool.false_eq_true, if_false] at ha ⊢
    rw [ha]; simp
  · rw [h1] at ha
    simp only [Bool.true_and] at ha
    cases h2 : accS o x
    · rw [h2] at ha
      simp only [Bool.not_false, if_true] at ha
      rw [acc_self] at ha; cases ha
    · rw [h2] at ha
      simp only [Bool.not_true, Bool.false_eq_true, if_false] at ha
      rw [h2] at ha; cases ha
theorem inK_len (f o : List (BitVec 16)) (x : BitVec 16) (k : Nat) : (inK f o x k).length ≤ o.length + 1 := minSt_le _ _ _
theorem rd_drewN {w : World} {a : Option Addr} {n c : Nat} {l : List Value} (h : Rd w a n c l) (q : Nat) : Rd (w.drewN q) a n c l := ⟨h.len, h.le, h.max, h.nil, h.at'⟩
theorem row_drewN {w : World} {B k n : Nat} {e : TypeId} {v : Value} {xs : List Value} (h : w.ownsRow B e k v n xs) (q : Nat) : (w.drewN q).ownsRow B e k v n xs := h

set_option maxRecDepth 100000 in
set_option maxHeartbeats 4000000 in
theorem minimal9_c (f : List (BitVec 16)) (a : Option Addr) (n c : Nat) (w : World) (h : Rd w a n c (f.map setV2)) :
    Calls Tryz.prog 80 #[.slice a n c] w fun e w' => ∃ v, e = .returned v ∧ Own w w' 27 v ((minS f).map setV2) ∧ Below w.heap.size w w' := by
  have hnl : f.length = n := by have := h.len; simp at this; omega
  have hm := h.max
  have hle := h.le
  unfold maxLen at hm
  have HR := Lib.hid h
  have HN := Lib.hid hnl
  have HSU := Lib.hid (support9_c f a n c w h)
  have HSB := Lib.hid (fun w => subsets9_c (supS f) w)
  clear h hnl
  obtain ⟨L, hL⟩ : ∃ L, subsS9 (supS f) = L := ⟨_, rfl⟩
  have hL17 : L.length ≤ 1200000 := by
    rw [← hL]; unfold subsS9
    have := subsTo_len (supS f) (cnt (supS f) + 1)
    have := cnt_le (supS f)
    omega
  have HL := Lib.hid hL
  rw [hL] at HSB
  obtain ⟨S, hS⟩ : ∃ S, supS f = S := ⟨_, rfl⟩
  rw [hS] at HSU HSB
  obtain ⟨p, hp⟩ : ∃ p, L.length = p := ⟨_, rfl⟩
  rw [hp] at hL17
  have HP := Lib.hid hp
  clear hL hS hp
  go_enter Tryz.func80, Tryz.ntmps80
  go_wp2_with fail
  refine HSU.out.mono ?_
  rintro e w1 ⟨rfl, rfl⟩
  go_wp2_with fail
  refine (HSB.out _).mono ?_
  rintro e w2 ⟨v2, rfl, o2, b2⟩
  obtain ⟨al, cl, rfl, hrl⟩ := o2.rdn p (by rw [List.length_map, HP.out])
  have hlc := hrl.le
  have hlm := hrl.max
  unfold maxLen at hlm
  have HRL := Lib.hid hrl
  have HB2 := Lib.hid b2
  clear o2 hrl b2 HSU HSB
  go_wp2_with fail
  go_loopw [3, 5] (fun v i wr => ∃ m : Nat, m ≤ p ∧ i = .int .i64 m ∧ wr.ownsRow w2.heap.size 27 1 v (minTo f m).length ((minTo f m).map setV2) ∧ Below w2.heap.size w2 wr) (fun _ i _ => p - (intOf i).toNat)
  case atStart => exact ⟨0, Nat.zero_le _, rfl, World.ownsRow_nil _ _ _ _, Below.refl _ _⟩
  case round =>
    obtain ⟨m, hm2, rfl, hown, hb⟩ := hrel
    by_cases hlt : m < p
    · have hml : m < L.length := by have := HP.out; omega
      have hcx := at_cell hml
      have hxs := at_some hml
      obtain ⟨x, hx⟩ : ∃ x, L.getD m 0#16 = x := ⟨_, rfl⟩
      rw [hx] at hcx hxs
      have HST := Lib.hid (minTo_succ (f := f) (m := m) (by rw [HL.out]; exact hxs))
      have hol := minTo_le f m
      obtain ⟨o, ho⟩ : ∃ o, minTo f m = o := ⟨_, rfl⟩
      rw [ho] at HST hown hol
      have HCX := Lib.hid hcx
      have HO := Lib.hid hown
      have HB := Lib.hid hb
      clear hml hcx hxs hx ho hown hb
      go_wp2_with fail
      go_loopw [3, 6] (fun v i wr => ∃ k : Nat, k ≤ n ∧ i = .int .i64 k ∧ wr.ownsRow w2.heap.size 27 1 v (inK f o x k).length ((inK f o x k).map setV2) ∧ Below w2.heap.size w2 wr) (fun _ i _ => n - (intOf i).toNat)
      case atStart => exact ⟨0, Nat.zero_le _, rfl, by simpa [inK, minSt] using HO.out, HB.out⟩
      case round =>
        obtain ⟨k, hk, rfl, hown, hb⟩ := hrel
        have hil := inK_len f o x k
        by_cases hlt2 : k < n
        · have hkl : k < f.length := by have := HN.out; omega
          obtain ⟨b1, o1, ha1, hcell1⟩ := (HR.out.below (Below.next HB2.out hb)).at' (by omega)
          obtain ⟨b3, o3, ha3, hcell3⟩ := (HRL.out.below hb).at' (by omega)
          have hc1 := hcell1 k _ (at_cell hkl)
          have hc3 := hcell3 m _ HCX.out
          obtain ⟨g, hg⟩ : ∃ g, inK f o x k = g := ⟨_, rfl⟩
          have hne := inK_ne (o := o) (x := x) hkl
          have hac := inK_acc (o := o) (x := x) hkl
          have hnw := inK_new (o := o) (x := x) hkl
          rw [hg] at hown hil hne hac hnw
          obtain ⟨y, hy⟩ : ∃ y, f.getD k 0#16 = y := ⟨_, rfl⟩
          rw [hy] at hc1 hne hac hnw
          obtain ⟨ag, cg, rfl, hrg⟩ := rd_of_row hown
          have HAC := Lib.hid (fun q => accepts9_c g x ag g.length cg (wr.drewN q) (rd_drewN hrg q))
          cases ha1
          cases ha3
          clear hcell1 hcell3 hg hy hkl hrg
          cases hq : (y == x)
          · have HS := Lib.hid (hne hq)
            clear hne hac hnw
            go_wp2_with fail
            go_quiet (fail)
            go_wp2_with fail
            go_roundw
            case rel => exact ⟨k + 1, by omega, by go_num, by rw [HS.out]; exact row_drewN hown _, below_drewN hb⟩
            case measure => simp [intOf]; omega
          · cases ha : accS g x
            · have HS := Lib.hid (hnw hq ha)
              rw [ha] at HAC
              obtain ⟨G, hG⟩ : ∃ G, g.length = G := ⟨_, rfl⟩
              rw [hG] at hown hil HAC ⊢
              have HL2 : Hid ((inK f o x (k + 1)).length = G + 1) := by show _ = _; rw [HS.out, List.length_append, hG]; rfl
              have HM2 : Hid ((inK f o x (k + 1)).map setV2 = g.map setV2 ++ [.int .u16 (U x)]) := by show _ = _; rw [HS.out, List.map_append]; rfl
              clear hne hac hnw hG HS
              go_wp2_with fail
              go_quiet ((go_at_call 112; exact Calls.quiet_of_same (HAC.out _)))
              have hown2 := row_drewN hown nq
              have hb2 := below_drewN (q := nq) hb
              have hc3' : (wr.drewN nq).cell? ⟨b3, o3 + m, none⟩ = some (.int .u16 (U x)) := hc3
              generalize wr.drewN nq = wn at hown2 hb2 hc3' ⊢
              clear hown hb hc3 hc1 HAC
              go_wp2_with (at_builtin; go_must (refine wpList_app _ _ 25 2 (.int .u16 0) (.int .u16 (U x)) _ Tryz.underlying25 Tryz.infoSet rfl hown2 hb2 (Nat.le_refl _) rfl rfl rfl rfl rfl (by unfold maxLen; omega) (by omega) ?_))
              intro v' w4 hown4 hb4 _ _
              clear hown2 hb2
              go_wp2_with fail
              go_roundw
              case rel => exact ⟨k + 1, by omega, by go_num, by rw [HM2.out, HL2.out]; exact hown4, hb4⟩
              case measure => simp [intOf]; omega
            · have HS := Lib.hid (hac hq ha)
              rw [ha] at HAC
              clear hne hac hnw
              go_wp2_with fail
              go_quiet ((go_at_call 112; exact Calls.quiet_of_same (HAC.out _)))
              go_wp2_with fail
              go_roundw
              case rel => exact ⟨k + 1, by omega, by go_num, by rw [HS.out]; exact row_drewN hown _, below_drewN hb⟩
              case measure => simp [intOf]; omega
        · obtain rfl : k = n := by omega
          have hE : inK f o x k = minTo f (m + 1) := by
            unfold inK
            rw [HST.out, List.take_of_length_le (by have := HN.out; omega)]
          rw [hE] at hown
          have HO2 := Lib.hid hown
          clear hE hown
          go_wp2_with fail
          go_roundw
          case rel => exact ⟨m + 1, by omega, by go_num, HO2.out, hb⟩
          case measure => simp [intOf]; omega
    · obtain rfl : m = p := by omega
      rw [minTo_all (by rw [HL.out, HP.out])] at hown
      have HO : Hid (Own w2 wr 27 u3 ((minS f).map setV2)) := by show Own _ _ _ _ _; unfold Own; rw [List.length_map]; exact hown
      clear hown
      go_wp2_with fail
      go_ret
      exact ⟨_, rfl, HO.out.mono HB2.out.size, Below.next HB2.out hb⟩
end Go.Proofs.YtmjgdnpfgkpaoaaGreatDoor
namespace Go.Proofs.YtmjgdnpfgkpaoaaGreatDoor
open Go.RowKit Go.Shelf

def mad (z : Int) : BitVec 16 := BitVec.ofInt 16 (z % 64)
theorem and63 (z : Int) (h0 : 0 ≤ z) (h1 : z < 256) : bits .and .u8 z 63 = U (mad z) := by
  obtain ⟨k, rfl⟩ := Int.eq_ofNat_of_zero_le h0
  have : ∀ k : Fin 256, bits .and .u8 (k.val : Int) 63 = U (mad (k.val : Int)) := by decide +kernel
  exact this ⟨k, by omega⟩
def madL (l : List Int) (k : Nat) : List (BitVec 16) := (l.take k).map mad
theorem madL_succ {l : List Int} {k : Nat} {z : Int} (h : l[k]? = some z) : madL l (k + 1) = madL l k ++ [mad z] := by
  unfold madL; rw [List.take_add_one, h, List.map_append]; rfl
theorem madL_len {l : List Int} {k : Nat} (h : k ≤ l.length) : (madL l k).length = k := by unfold madL; rw [List.length_map, List.length_take]; omega
def madS (l : List Int) : List (BitVec 16) := minS (madL l (min 20 l.length))

set_option maxRecDepth 100000 in
set_option maxHeartbeats 4000000 in
theorem made9_c (l : List Int) (hw : ∀ z ∈ l, 0 ≤ z ∧ z < 256) (a : Option Addr) (n c : Nat) (w : World) (h : Rd w a n c (l.map (Value.int .u8))) :
    Calls Tryz.prog 44 #[.slice a n c] w fun e w' => ∃ v, e = .returned v ∧ Own w w' 27 v ((madS l).map setV2) ∧ Below w.heap.size w w' := by
  have hnl : l.length = n := by have := h.len; simp at this; omega
  have hm := h.max
  have hle := h.le
  unfold maxLen at hm
  have HR := Lib.hid h
  have HN := Lib.hid hnl
  have HW := Lib.hid hw
  clear h hnl hw
  go_enter Tryz.func44, Tryz.ntmps44
  go_wp2_with fail
  go_loopw [3, 4] (fun v i wr => ∃ k : Nat, k ≤ n ∧ k ≤ 20 ∧ i = .int .i64 k ∧ wr.ownsRow w.heap.size 27 1 v k ((madL l k).map setV2) ∧ Below w.heap.size w wr) (fun _ i _ => n - (intOf i).toNat)
  case atStart => exact ⟨0, Nat.zero_le _, Nat.zero_le _, rfl, World.ownsRow_nil _ _ _ _, Below.refl _ _⟩
  case round =>
    obtain ⟨k, hk, hk20, rfl, hown, hb⟩ := hrel
    by_cases hlt : k < n
    · by_cases hlt2 : k < 20
      · obtain ⟨z, hz⟩ : ∃ z, l[k]? = some z := ⟨_, List.getElem?_eq_getElem (by have := HN.out; omega)⟩
        obtain ⟨hz0, hz1⟩ := HW.out z (List.mem_of_getElem? hz)
        obtain ⟨b, o, ha, hcell⟩ := (HR.out.below hb).at' (by omega)
        have hc := hcell k (.int .u8 z) (by rw [List.getElem?_map, hz]; rfl)
        have h63 := and63 z hz0 hz1
        obtain ⟨y, hy⟩ : ∃ y, mad z = y := ⟨_, rfl⟩
        have hs := madL_succ hz
        rw [hy] at h63 hs
        have hyb : 0 ≤ U y ∧ U y < 65536 := U_bd y
        have HS : Hid ((madL l (k + 1)).map setV2 = (madL l k).map setV2 ++ [.int .u16 (U y)]) := by show _ = _; rw [hs, List.map_append]; rfl
        have hyw := U_wrap y
        subst ha
        clear hcell hz hs hy
        go_wp2_with (at_builtin; go_must (refine wpList_app _ _ 25 2 (.int .u16 0) (.int .u16 (U y)) _ Tryz.underlying25 Tryz.infoSet rfl hown hb (Nat.le_refl _) rfl rfl rfl rfl rfl (by unfold maxLen; omega) (by omega) ?_))
        intro v' w4 hown4 hb4 _ _
        clear hown hb hc
        go_wp2_with fail
        go_roundw
        case rel => exact ⟨k + 1, by omega, by omega, by go_num, by rw [HS.out]; exact hown4, hb4⟩
        case measure => simp [intOf]; omega
      · obtain rfl : k = 20 := by omega
        have hE : minS (madL l 20) = madS l := by unfold madS; rw [Nat.min_eq_left (by have := HN.out; omega)]
        obtain ⟨ao, co, rfl, hro⟩ := rd_of_row hown
        have HMI := Lib.hid (minimal9_c (madL l 20) ao 20 co wr hro)
        rw [hE] at HMI
        have HB := Lib.hid hb
        clear hown hro hb hE
        go_wp2_with fail
        refine HMI.out.mono ?_
        rintro e w2 ⟨v, rfl, o2, b2⟩
        have HO2 := Lib.hid o2
        clear HMI o2
        go_wp2_with fail
        go_ret
        exact ⟨v, rfl, HO2.out.mono HB.out.size, Below.next HB.out b2⟩
    · obtain rfl : k = n := by omega
      have hE : minS (madL l k) = madS l := by unfold madS; rw [Nat.min_eq_right (by have := HN.out; omega), HN.out]
      obtain ⟨ao, co, rfl, hro⟩ := rd_of_row hown
      have HMI := Lib.hid (minimal9_c (madL l k) ao k co wr hro)
      rw [hE] at HMI
      have HB := Lib.hid hb
      clear hown hro hb hE
      go_wp2_with fail
      refine HMI.out.mono ?_
      rintro e w2 ⟨v, rfl, o2, b2⟩
      have HO2 := Lib.hid o2
      clear HMI o2
      go_wp2_with fail
      go_ret
      exact ⟨v, rfl, HO2.out.mono HB.out.size, Below.next HB.out b2⟩
end Go.Proofs.YtmjgdnpfgkpaoaaGreatDoor
namespace Go.Proofs.YtmjgdnpfgkpaoaaGreatDoor
open Go.RowKit Go.Shelf

theorem subB_self (x : BitVec 16) : subB x x = true := (subB_iff x x).2 fun _ h => h
theorem subB_trans {a b c : BitVec 16} (h1 : subB a b = true) (h2 : subB b c = true) : subB a c = true := (subB_iff a c).2 fun i h => (subB_iff a b).1 h1 i ((subB_iff b c).1 h2 i h)
def Rk (a b : BitVec 16) : Prop := keyS a < keyS b
def Rs (a b : BitVec 16) : Prop := keyS a < keyS b ∧ subB b a = false
theorem pick_mem {s : BitVec 16} {k : Int} {N : Nat} {x : BitVec 16} (h : x ∈ pickTo s k N) : subB s x = true ∧ (cnt x : Int) = k ∧ ∃ n, n < N ∧ x = BitVec.ofNat 16 n := by
  unfold pickTo at h
  obtain ⟨n, hn, rfl⟩ := List.mem_map.1 h
  obtain ⟨h1, h2⟩ := List.mem_filter.1 hn
  unfold pickB at h2
  rw [Bool.and_eq_true] at h2
  exact ⟨h2.1, eq_of_beq h2.2, n, List.mem_range.1 h1, rfl⟩
theorem pick_asc (s : BitVec 16) (k : Int) : ∀ N, N ≤ 65536 → (pickTo s k N).Pairwise Rk := by
  intro N
  induction N with
  | zero => intro _; unfold pickTo; simp
  | succ N ih =>
    intro hN
    rw [pickTo_succ]
    split
    · rename_i hp
      rw [List.pairwise_append]
      refine ⟨ih (by omega), List.pairwise_singleton _ _, fun a ha b hb => ?_⟩
      rw [List.mem_singleton] at hb
      subst hb
      obtain ⟨_, h2, n, hn, rfl⟩ := pick_mem ha
      unfold pickB at hp
      rw [Bool.and_eq_true] at hp
      have h3 := eq_of_beq hp.2
      unfold Rk keyS
      have e1 : (BitVec.ofNat 16 n).toNat = n := by simp; omega
      have e2 : (BitVec.ofNat 16 N).toNat = N := by simp; omega
      rw [e1, e2]
      omega
    · exact ih (by omega)
theorem subsTo_asc (s : BitVec 16) : ∀ K, (subsT9 s K).Pairwise Rk ∧ ∀ x ∈ subsT9 s K, subB s x = true ∧ cnt x < K := by
  intro K
  induction K with
  | zero => exact ⟨by simp [subsT9], fun x hx => by simp [subsT9] at hx⟩
  | succ K ih =>
    rw [subsT9_succ]
    refine ⟨?_, fun x hx => ?_⟩
    · rw [List.pairwise_append]
      refine ⟨ih.1, pick_asc s K _ (by have := s.isLt; omega), fun a ha b hb => ?_⟩
      have h1 := (ih.2 a ha).2
      have h2 := (pick_mem hb).2.1
      unfold Rk keyS
      have := a.isLt
      have := b.isLt
      omega
    · rcases List.mem_append.1 hx with h | h
      · exact ⟨(ih.2 x h).1, by have := (ih.2 x h).2; omega⟩
      · exact ⟨(pick_mem h).1, by have := (pick_mem h).2.1; omega⟩
theorem fold_good (f : List (BitVec 16)) : ∀ (l o : List (BitVec 16)), l.Pairwise Rk → o.Pairwise Rs → (∀ a ∈ o, ∀ b ∈ l, keyS a < keyS b) → (l.foldl (minSt f) o).Pairwise Rs ∧ ∀ x ∈ l.foldl (minSt f) o, x ∈ o ∨ (x ∈ l ∧ x ∈ f) := by
  intro l
  induction l with
  | nil => intro o _ h2 _; exact ⟨h2, fun x hx => .inl hx⟩
  | cons y l ih =>
    intro o h1 h2 h3
    rw [List.pairwise_cons] at h1
    rw [List.foldl_cons]
    by_cases hc : ((f.any fun z => z == y) && !accS o y) = true
    · have e : minSt f o y = o ++ [y] := by unfold minSt; rw [if_pos hc]
      rw [e]
      rw [Bool.and_eq_true, Bool.not_eq_true'] at hc
      have hyf : y ∈ f := by
        obtain ⟨z, hz, hzy⟩ := List.any_eq_true.1 hc.1
        rw [eq_of_beq hzy] at hz; exact hz
      obtain ⟨g1, g2⟩ := ih (o ++ [y]) h1.2 (by
        rw [List.pairwise_append]
        refine ⟨h2, List.pairwise_singleton _ _, fun a ha b hb => ?_⟩
        rw [List.mem_singleton] at hb; subst hb
        refine ⟨h3 a ha b (List.mem_cons_self ..), ?_⟩
        cases hs : subB b a
        · rfl
        · have : accS o b = true := by unfold accS; exact List.any_eq_true.2 ⟨a, ha, hs⟩
          rw [hc.2] at this; cases this) (by
        intro a ha b hb
        rcases List.mem_append.1 ha with ha | ha
        · exact h3 a ha b (List.mem_cons_of_mem _ hb)
        · rw [List.mem_singleton] at ha; subst ha; exact h1.1 b hb)
      refine ⟨g1, fun x hx => ?_⟩
      rcases g2 x hx with h | ⟨h, h'⟩
      · rcases List.mem_append.1 h with h | h
        · exact .inl h
        · rw [List.mem_singleton] at h; subst h; exact .inr ⟨List.mem_cons_self .., hyf⟩
      · exact .inr ⟨List.mem_cons_of_mem _ h, h'⟩
    · have e : minSt f o y = o := by unfold minSt; rw [if_neg hc]
      rw [e]
      obtain ⟨g1, g2⟩ := ih o h1.2 h2 fun a ha b hb => h3 a ha b (List.mem_cons_of_mem _ hb)
      refine ⟨g1, fun x hx => ?_⟩
      rcases g2 x hx with h | ⟨h, h'⟩
      · exact .inl h
      · exact .inr ⟨List.mem_cons_of_mem _ h, h'⟩
theorem minS_good (f : List (BitVec 16)) : (minS f).Pairwise Rs ∧ ∀ x ∈ minS f, x ∈ f := by
  obtain ⟨h1, h2⟩ := fold_good f (subsS9 (supS f)) [] (subsTo_asc (supS f) _).1 List.Pairwise.nil (fun a ha => by cases ha)
  exact ⟨h1, fun x hx => by
    rcases h2 x hx with h | h
    · cases h
    · exact h.2⟩
theorem nodup_len {α : Type} [DecidableEq α] : ∀ (l m : List α), l.Nodup → (∀ x ∈ l, x ∈ m) → l.length ≤ m.length := by
  intro l
  induction l with
  | nil => intro m _ _; simp
  | cons a l ih =>
    intro m h1 h2
    rw [List.nodup_cons] at h1
    have ha := h2 a (List.mem_cons_self ..)
    have := ih (m.erase a) h1.2 (fun x hx => (List.mem_erase_of_ne (by rintro rfl; exact h1.1 hx)).2 (h2 x (List.mem_cons_of_mem _ hx)))
    rw [List.length_erase_of_mem ha] at this
    have := List.length_pos_of_mem ha
    rw [List.length_cons]
    omega
theorem good_nodup {l : List (BitVec 16)} (h : l.Pairwise Rs) : l.Nodup := h.imp fun {a b} hab he => by
  have := hab.1; rw [he] at this; omega
theorem minS_len (f : List (BitVec 16)) : (minS f).length ≤ f.length := nodup_len _ _ (good_nodup (minS_good f).1) (minS_good f).2
theorem good_valid {l : List (BitVec 16)} (h : l.Pairwise Rs) (hb : ∀ x ∈ l, x.toNat < 4096) (hn : l.length ≤ 400) : valS l = 0 := by
  have h0 : ∀ j, j < l.length → e1 l j = 0 := by
    intro j hj
    unfold e1
    have hx := hb l[j] (List.getElem_mem hj)
    rw [if_neg (by rw [getD_at hj]; unfold U; omega), if_neg]
    rintro ⟨h1, h2⟩
    rw [getD_at hj, getD_at (show j - 1 < l.length by omega)] at h2
    have h3 := (List.pairwise_iff_getElem.1 h (j - 1) j (by omega) hj (by omega)).1
    have := (cmpS_key l[j - 1] l[j]).1.1 h2
    omega
  unfold valS
  rw [if_neg (by omega), firstE_none _ _ h0, if_neg (by decide), if_neg]
  intro ho
  obtain ⟨i, k, hi, hk, hs⟩ := (overB_iff l).1 ho
  rw [getD_at hi, getD_at (show k < l.length by omega)] at hs
  have := (List.pairwise_iff_getElem.1 h k i (by omega) hi hk).2
  rw [hs] at this; cases this
theorem mad_lt (z : Int) : (mad z).toNat < 64 := by
  unfold mad
  rw [BitVec.toNat_ofInt]
  omega
theorem madS_lt (l : List Int) : ∀ x ∈ madS l, x.toNat < 64 := fun x hx => by
  have := (minS_good _).2 x hx
  unfold madL at this
  obtain ⟨z, _, rfl⟩ := List.mem_map.1 this
  exact mad_lt z
theorem madS_le (l : List Int) : (madS l).length ≤ 20 := by
  have := minS_len (madL l (min 20 l.length))
  rw [madL_len (by omega)] at this
  unfold madS
  omega
theorem madS_good (l : List Int) : (madS l).Pairwise Rs := (minS_good _).1
theorem made_valid (l : List Int) : valS (madS l) = 0 := good_valid (madS_good l) (fun x hx => by have := madS_lt l x hx; omega) (by have := madS_le l; omega)
theorem mm_lt (l : List Int) : ∀ x ∈ minS (madS l), x.toNat < 64 := fun x hx => madS_lt l x ((minS_good _).2 x hx)
theorem mm_valid (l : List Int) : valS (minS (madS l)) = 0 := good_valid (minS_good _).1 (fun x hx => by have := mm_lt l x hx; omega) (by have := minS_len (madS l); have := madS_le l; omega)
theorem good_head {l : List (BitVec 16)} (h : l.Pairwise Rs) (h0 : l.length = 0 ∨ (l.getD 0 0#16 == 0#16) = false) : hasZ l = false := by
  cases l with
  | nil => rfl
  | cons y l =>
    have hy : (y == 0#16) = false := by
      rcases h0 with h0 | h0
      · simp at h0
      · exact h0
    rw [List.pairwise_cons] at h
    cases hz : hasZ (y :: l)
    · rfl
    · exfalso
      unfold hasZ at hz
      obtain ⟨x, hx, hx0⟩ := List.any_eq_true.1 hz
      have hx0' := eq_of_beq hx0
      subst hx0'
      rcases List.mem_cons.1 hx with hx | hx
      · rw [← hx] at hy; simp at hy
      · have := (h.1 _ hx).1
        have h0 : keyS 0#16 = 0 := by decide
        omega
theorem mm_quo (l : List Int) (h0 : (minS (madS l)).length = 0 ∨ ((minS (madS l)).getD 0 0#16 == 0#16) = false) : quoS (minS (madS l)) = 0 := by
  unfold quoS
  rw [mm_valid, if_neg (by decide), good_head (minS_good _).1 h0]
  rfl
end Go.Proofs.YtmjgdnpfgkpaoaaGreatDoor
namespace Go.Proofs.YtmjgdnpfgkpaoaaGreatDoor

structure Acc where
  prom : Int
  bal : Int
  val : ByteArray
def accC (a : Acc) : List Value := [.int .i64 a.prom, .int .i64 a.bal, .string a.val]
theorem accC_len (a : Acc) : (accC a).length = 3 := rfl
def acc0 : Acc := ⟨0, 0, ⟨#[]⟩⟩
def emB (v : ByteArray) : Bool := v.toList == []
def promB (a : Acc) (b : Int) : Bool := decide (a.prom < b)
def accpB (a : Acc) (b : Int) : Bool := decide (1 ≤ b) && decide (a.prom ≤ b)

/-- the acceptor of a server -/
def atS (l : List Acc) (s : Int) : Acc := l.getD s.toNat acc0
def inB (n : Nat) (s : Int) : Bool := decide (0 ≤ s) && decide (s < n)
/-- the acceptors behind an event -/
def stepA (l : List Acc) (e : Ev) : List Acc :=
  if e.kind = 1 then (if promB (atS l e.server) e.ballot then l.set e.server.toNat { atS l e.server with prom := e.ballot } else l)
  else if accpB (atS l e.server) e.ballot then l.set e.server.toNat ⟨e.ballot, e.ballot, e.value⟩ else l
def repA (n : Nat) (l : List Ev) : List Acc := l.foldl stepA (List.replicate n acc0)
/-- the report that an event makes of ballot b -/
def repE (n : Nat) (l : List Ev) (b : Int) (k : Nat) : List Rep :=
  match l[k]? with
  | some e => if e.kind = 1 ∧ e.ballot = b then [⟨e.server, (atS (repA n (l.take k)) e.server).bal, (atS (repA n (l.take k)) e.server).val⟩] else []
  | none => []
def repTo (n : Nat) (l : List Ev) (b : Int) (k : Nat) : List Rep := (List.range k).flatMap (repE n l b)
def repS (n : Nat) (l : List Ev) (b : Int) : List Rep := repTo n l b l.length
/-- the first acceptance of a ballot -/
def isAcc (b : Int) (e : Ev) : Bool := decide (e.kind = 2) && decide (e.ballot = b)
def valF (l : List Ev) (b : Int) : Option ByteArray := (l.find? (isAcc b)).map Ev.value
def demS (read : List (BitVec 16)) (n : Nat) (l : List Ev) (b : Int) : ByteArray × Int :=
  match valF l b with
  | some v => (v, 0)
  | none => pickS read b (repS n l b)
def okD (p : ByteArray × Int) (v : ByteArray) : Bool := decide (p.2 = 4) || (decide (p.2 = 0) && p.1.toList == v.toList)
def folS (read : List (BitVec 16)) (n : Nat) (l : List Ev) (x : Ev) : Bool :=
  if x.server < 0 ∨ (n : Int) ≤ x.server ∨ x.ballot < 1 then false
  else if x.kind = 1 then promB (atS (repA n l) x.server) x.ballot && emB x.value
  else if x.kind = 2 then (accpB (atS (repA n l) x.server) x.ballot && !emB x.value) && okD (demS read n l x.ballot) x.value
  else false

/-- what the program keeps -/
structure St where
  acc : List Acc
  rep : Int → List Rep
  vals : Int → Option ByteArray
def st0 (n : Nat) : St := ⟨List.replicate n acc0, fun _ => [], fun _ => none⟩
def valP (read : List (BitVec 16)) (st : St) (b : Int) : ByteArray × Bool × Bool :=
  match st.vals b with
  | some v => (v, false, true)
  | none => ((bestR (st.rep b)).2, (bestR (st.rep b)).1 == 0, accS read (seenR (st.rep b)))
def setF {α : Type} (f : Int → α) (b : Int) (v : α) : Int → α := fun x => if x = b then v else f x
def repOf (s : Int) (a : Acc) : Rep := ⟨s, a.bal, a.val⟩
def addP1 (st : St) (e : Ev) : St := ⟨st.acc.set e.server.toNat { atS st.acc e.server with prom := e.ballot }, setF st.rep e.ballot (st.rep e.ballot ++ [repOf e.server (atS st.acc e.server)]), st.vals⟩
def addP2 (st : St) (e : Ev) : St := ⟨st.acc.set e.server.toNat ⟨e.ballot, e.ballot, e.value⟩, st.rep, setF st.vals e.ballot (some e.value)⟩
def okP (p : ByteArray × Bool × Bool) (v : ByteArray) : Bool := p.2.2 && (p.2.1 || p.1.toList == v.toList)
def addP (read : List (BitVec 16)) (st : St) (e : Ev) : Option St :=
  if e.server < 0 ∨ (st.acc.length : Int) ≤ e.server ∨ e.ballot < 1 then none
  else if e.kind = 1 then (if (promB (atS st.acc e.server) e.ballot && emB e.value) = true then some (addP1 st e) else none)
  else if e.kind = 2 then (if ((accpB (atS st.acc e.server) e.ballot && !emB e.value) && okP (valP read st e.ballot) e.value) = true then some (addP2 st e) else none)
  else none

/-- the state of a list of events -/
def stOf (n : Nat) (l : List Ev) : St := ⟨repA n l, repS n l, valF l⟩
inductive Good (read : List (BitVec 16)) (n : Nat) : List Ev → Prop
  | nil : Good read n []
  | snoc {l : List Ev} {e : Ev} : Good read n l → folS read n l e = true → Good read n (l ++ [e])

theorem repA_snoc (n : Nat) (l : List Ev) (e : Ev) : repA n (l ++ [e]) = stepA (repA n l) e := by unfold repA; rw [List.foldl_append]; rfl
theorem stepA_len (l : List Acc) (e : Ev) : (stepA l e).length = l.length := by
  unfold stepA; split
  · split
    · rw [List.length_set]
    · rfl
  · split
    · rw [List.length_set]
    · rfl
theorem repA_len (n : Nat) (l : List Ev) : (repA n l).length = n := by
  unfold repA
  have : ∀ (l : List Ev) (o : List Acc), (l.foldl stepA o).length = o.length := by
    intro l
    induction l with
    | nil => intro o; rfl
    | cons e l ih => intro o; rw [List.foldl_cons, ih, stepA_len]
  rw [this, List.length_replicate]
theorem repE_old (n : Nat) (l : List Ev) (e : Ev) (b : Int) (k : Nat) (hk : k < l.length) : repE n (l ++ [e]) b k = repE n l b k := by
  unfold repE
  rw [List.getElem?_append_left hk, List.take_append_of_le_length (by omega)]
theorem repTo_old (n : Nat) (l : List Ev) (e : Ev) (b : Int) : ∀ k, k ≤ l.length → repTo n (l ++ [e]) b k = repTo n l b k := by
  intro k
  induction k with
  | zero => intro _; rfl
  | succ k ih =>
    intro hk
    unfold repTo at ih ⊢
    rw [List.range_succ, List.flatMap_append, List.flatMap_append, ih (by omega)]
    simp only [List.flatMap_cons, List.flatMap_nil, List.append_nil]
    rw [repE_old n l e b k (by omega)]
theorem repTo_succ (n : Nat) (l : List Ev) (b : Int) (k : Nat) : repTo n l b (k + 1) = repTo n l b k ++ repE n l b k := by
  unfold repTo
  rw [List.range_succ, List.flatMap_append]
  simp
theorem repS_snoc (n : Nat) (l : List Ev) (e : Ev) (b : Int) : repS n (l ++ [e]) b = repS n l b ++ (if e.kind = 1 ∧ e.ballot = b then [repOf e.server (atS (repA n l) e.server)] else []) := by
  unfold repS
  rw [List.length_append, List.length_singleton, repTo_succ, repTo_old n l e b l.length (Nat.le_refl _)]
  congr 1
  unfold repE
  rw [List.getElem?_append_right (Nat.le_refl _), Nat.sub_self]
  simp only [List.getElem?_cons_zero]
  rw [List.take_append_of_le_length (Nat.le_refl _), List.take_length]
  rfl
theorem valF_snoc (l : List Ev) (e : Ev) (b : Int) : valF (l ++ [e]) b = match valF l b with | some v => some v | none => if isAcc b e = true then some e.value else none := by
  unfold valF
  rw [List.find?_append]
  cases h : l.find? (isAcc b) with
  | some x => rfl
  | none =>
    simp only [Option.none_or, Option.map_none]
    rw [List.find?_cons]
    cases isAcc b e <;> rfl

theorem atS_set {l : List Acc} {s t : Int} {a : Acc} (hs : 0 ≤ s) (hs2 : s < l.length) (ht : 0 ≤ t) : atS (l.set s.toNat a) t = if t = s then a else atS l t := by
  unfold atS
  rw [List.getD, List.getElem?_set]
  by_cases h : t = s
  · subst h
    rw [if_pos rfl, if_pos (by omega), if_pos rfl]; rfl
  · rw [if_neg (by omega), if_neg h]; rfl

/-- what holds of the state of events that follow the rules -/
structure Inv (n : Nat) (l : List Ev) : Prop where
  srv : ∀ e ∈ l, 0 ≤ e.server ∧ e.server < n ∧ 1 ≤ e.ballot ∧ (e.kind = 1 ∨ e.kind = 2)
  bal : ∀ s : Int, 0 ≤ s → s < n → 0 ≤ (atS (repA n l) s).bal ∧ (atS (repA n l) s).bal ≤ (atS (repA n l) s).prom
  val : ∀ s : Int, 0 ≤ s → s < n → 0 < (atS (repA n l) s).bal → emB (atS (repA n l) s).val = false
  rep : ∀ (b : Int) (r : Rep), r ∈ repS n l b → 0 ≤ r.server ∧ r.server < n ∧ 0 ≤ r.ballot ∧ r.ballot < b ∧ b ≤ (atS (repA n l) r.server).prom ∧ (0 < r.ballot → emB r.value = false)
  seen : ∀ (b : Int), invR b 0#16 (repS n l b) = false
  vals : ∀ (b : Int) (v : ByteArray), valF l b = some v → emB v = false
end Go.Proofs.YtmjgdnpfgkpaoaaGreatDoor
namespace Go.Proofs.YtmjgdnpfgkpaoaaGreatDoor
theorem bs_ext {a b : ByteArray} (h : a.toList = b.toList) : a = b := by
  rw [ByteArray.toList_eq, ByteArray.toList_eq] at h
  exact ByteArray.ext (Array.toList_inj.1 h)
theorem bs_beq (a b : ByteArray) : (a.toList == b.toList) = decide (a = b) := by
  rw [Bool.eq_iff_iff, beq_iff_eq, decide_eq_true_eq]
  exact ⟨bs_ext, fun h => by rw [h]⟩
theorem bs_list (s : List UInt8) : (ByteArray.mk s.toArray).toList = s := by rw [ByteArray.toList_eq]
theorem bs_mk (b : ByteArray) : ByteArray.mk b.toList.toArray = b := bs_ext (bs_list _)

abbrev Str := List UInt8
theorem pw_at {l : List Str} (h : l.Pairwise (· < ·)) {i j : Nat} {x y : Str} (hx : l[i]? = some x) (hy : l[j]? = some y) (hij : i < j) : x < y := by
  obtain ⟨hi, rfl⟩ := List.getElem?_eq_some_iff.1 hx
  obtain ⟨hj, rfl⟩ := List.getElem?_eq_some_iff.1 hy
  exact List.pairwise_iff_getElem.1 h i j hi hj hij

theorem compact_to {l : List Str} (hs : l.Pairwise (· ≤ ·)) : ∀ m, m ≤ l.length → (Lib.compactUpTo l.toArray m).Pairwise (· < ·) ∧ ∀ x, x ∈ Lib.compactUpTo l.toArray m ↔ x ∈ l.take m := by
  intro m
  induction m with
  | zero => intro _; exact ⟨by simp [Lib.compactUpTo], by simp [Lib.compactUpTo]⟩
  | succ m ih =>
    intro hm
    obtain ⟨h1, h2⟩ := ih (by omega)
    have hd : l.toArray[m]! = l[m]'(by omega) := by simp [getElem!_pos, show m < l.length by omega]
    have ht : l.take (m + 1) = l.take m ++ [l[m]'(by omega)] := by
      rw [List.take_add_one, List.getElem?_eq_getElem (by omega)]; rfl
    have hle : ∀ x ∈ l.take m, x ≤ l[m]'(by omega) ∧ (∀ (h0 : 0 < m), x ≤ l[m - 1]'(by omega)) := by
      intro x hx
      obtain ⟨j, hj, rfl⟩ := List.mem_iff_getElem.1 hx
      rw [List.length_take] at hj
      rw [List.getElem_take]
      refine ⟨List.pairwise_iff_getElem.1 hs j m (by omega) (by omega) (by omega), fun h0 => ?_⟩
      by_cases hjm : j = m - 1
      · subst hjm; exact List.le_refl _
      · exact List.pairwise_iff_getElem.1 hs j (m - 1) (by omega) (by omega) (by omega)
    rw [Lib.compactUpTo_succ, ht]
    by_cases hk : Lib.keeps l.toArray m = true
    · rw [if_pos hk, hd]
      refine ⟨?_, fun x => by rw [List.mem_append, List.mem_append, h2]⟩
      rw [List.pairwise_append]
      refine ⟨h1, List.pairwise_singleton _ _, fun x hx y hy => ?_⟩
      rw [List.mem_singleton] at hy
      subst hy
      have hx' := (h2 x).1 hx
      have hm0 : 0 < m := by
        apply Nat.pos_of_ne_zero; intro h0; subst h0; simp at hx'
      obtain ⟨a1, a2⟩ := hle x hx'
      unfold Lib.keeps at hk
      rw [decide_eq_true_eq] at hk
      have hd1 : l.toArray[m - 1]! = l[m - 1]'(by omega) := by simp [getElem!_pos, show m - 1 < l.length by omega]
      rw [hd, hd1] at hk
      have hne : l[m]'(by omega) ≠ l[m - 1]'(by omega) := by
        rcases hk with hk | hk
        · omega
        · exact hk
      have b1 := a2 hm0
      have b2 : l[m - 1]'(by omega) ≤ l[m]'(by omega) := List.pairwise_iff_getElem.1 hs (m - 1) m (by omega) (by omega) (by omega)
      have b3 : l[m - 1]'(by omega) < l[m]'(by omega) := by
        apply List.not_le.1
        intro h
        exact hne (List.le_antisymm h b2)
      exact List.lt_of_le_of_lt b1 b3
    · rw [if_neg hk, List.append_nil]
      refine ⟨h1, fun x => ?_⟩
      rw [h2, List.mem_append, List.mem_singleton]
      refine ⟨.inl, fun h => ?_⟩
      rcases h with h | h
      · exact h
      · subst h
        unfold Lib.keeps at hk
        rw [decide_eq_true_eq] at hk
        have hm0 : 0 < m := by
          apply Nat.pos_of_ne_zero; intro h0; exact hk (.inl h0)
        have hd1 : l.toArray[m - 1]! = l[m - 1]'(by omega) := by simp [getElem!_pos, show m - 1 < l.length by omega]
        rw [hd, hd1] at hk
        have he : l[m]'(by omega) = l[m - 1]'(by omega) := by
          apply Classical.byContradiction; intro h; exact hk (.inr h)
        rw [he]
        exact List.mem_iff_getElem.2 ⟨m - 1, by rw [List.length_take]; omega, by rw [List.getElem_take]⟩

def leS (x y : Str) : Bool := decide (x ≤ y)
theorem sort_pw (l : List Str) : (l.mergeSort fun x y => decide (x ≤ y)).Pairwise (· ≤ ·) := by
  have := List.pairwise_mergeSort (le := fun x y : Str => decide (x ≤ y)) (fun a b c h1 h2 => by simp only [decide_eq_true_eq] at *; exact List.le_trans h1 h2) (fun a b => by simp only [Bool.or_eq_true, decide_eq_true_eq]; exact List.le_total a b) l
  simpa using this


theorem asc_ext : ∀ (l m : List Str), l.Pairwise (· < ·) → m.Pairwise (· < ·) → (∀ x, x ∈ l ↔ x ∈ m) → l = m := by
  intro l
  induction l with
  | nil =>
    intro m _ _ h
    cases m with
    | nil => rfl
    | cons y m => exact absurd ((h y).2 (List.mem_cons_self ..)) (by simp)
  | cons x l ih =>
    intro m hl hm h
    cases m with
    | nil => exact absurd ((h x).1 (List.mem_cons_self ..)) (by simp)
    | cons y m =>
      rw [List.pairwise_cons] at hl hm
      have hxy : x = y := by
        rcases List.mem_cons.1 ((h x).1 (List.mem_cons_self ..)) with h1 | h1
        · exact h1
        · rcases List.mem_cons.1 ((h y).2 (List.mem_cons_self ..)) with h2 | h2
          · exact h2.symm
          · exact absurd (List.lt_trans (hl.1 y h2) (hm.1 x h1)) (List.lt_irrefl _)
      subst hxy
      congr 1
      refine ih m hl.2 hm.2 fun z => ⟨fun hz => ?_, fun hz => ?_⟩
      · rcases List.mem_cons.1 ((h z).1 (List.mem_cons_of_mem _ hz)) with h1 | h1
        · subst h1; exact absurd (hl.1 z hz) (List.lt_irrefl _)
        · exact h1
      · rcases List.mem_cons.1 ((h z).2 (List.mem_cons_of_mem _ hz)) with h1 | h1
        · subst h1; exact absurd (hm.1 z hz) (List.lt_irrefl _)
        · exact h1
/-- adds a text to an ascending list, if it is not there -/
def insS (s : Str) : List Str → List Str
  | [] => [s]
  | x :: r => if s ≤ x then (if s = x then x :: r else s :: x :: r) else x :: insS s r
theorem insS_mem (s : Str) : ∀ (l : List Str) (x : Str), x ∈ insS s l ↔ x = s ∨ x ∈ l := by
  intro l
  induction l with
  | nil => intro x; simp [insS]
  | cons y l ih =>
    intro x
    unfold insS
    split
    · split
      · rename_i h; subst h; simp
      · simp
    · rw [List.mem_cons, ih, List.mem_cons]
      constructor
      · rintro (h | h | h)
        · exact .inr (.inl h)
        · exact .inl h
        · exact .inr (.inr h)
      · rintro (h | h | h)
        · exact .inr (.inl h)
        · exact .inl h
        · exact .inr (.inr h)
theorem lt_of_le_ne {a b : Str} (h : a ≤ b) (hne : a ≠ b) : a < b := by
  apply List.not_le.1
  intro h2
  exact hne (List.le_antisymm h h2)
theorem insS_asc (s : Str) : ∀ l : List Str, l.Pairwise (· < ·) → (insS s l).Pairwise (· < ·) := by
  intro l
  induction l with
  | nil => intro _; unfold insS; exact List.pairwise_singleton _ _
  | cons y l ih =>
    intro h
    rw [List.pairwise_cons] at h
    unfold insS
    split
    · rename_i hle
      split
      · rw [List.pairwise_cons]; exact h
      · rename_i hne
        have hlt := lt_of_le_ne hle hne
        rw [List.pairwise_cons, List.pairwise_cons]
        refine ⟨fun z hz => ?_, h⟩
        rcases List.mem_cons.1 hz with rfl | hz
        · exact hlt
        · exact List.lt_trans hlt (h.1 z hz)
    · rename_i hle
      rw [List.pairwise_cons]
      refine ⟨fun z hz => ?_, ih h.2⟩
      rcases (insS_mem s l z).1 hz with rfl | hz
      · exact List.not_le.1 hle
      · exact h.1 z hz
theorem asc_one {l : List Str} (h : l.Pairwise (· < ·)) (hs : ∀ x ∈ l, ∀ y ∈ l, x = y) : l.length ≤ 1 := by
  match l, h with
  | [], _ => simp
  | [_], _ => simp
  | x :: y :: r, h =>
    rw [List.pairwise_cons] at h
    have := h.1 y (List.mem_cons_self ..)
    rw [hs x (List.mem_cons_self ..) y (List.mem_cons_of_mem _ (List.mem_cons_self ..))] at this
    exact absurd this (List.lt_irrefl _)
end Go.Proofs.YtmjgdnpfgkpaoaaGreatDoor
namespace Go.Proofs.YtmjgdnpfgkpaoaaGreatDoor

theorem seen_mem : ∀ (l : List Rep) (o : BitVec 16) (i : Nat), (∀ r ∈ l, 0 ≤ r.server ∧ r.server < 12) → hasB (l.foldl seeR o) i = true → hasB o i = true ∨ ∃ r ∈ l, r.server = (i : Int) := by
  intro l
  induction l with
  | nil => intro o i _ h; exact .inl h
  | cons r l ih =>
    intro o i hr h
    rw [List.foldl_cons] at h
    rcases ih _ i (fun x hx => hr x (List.mem_cons_of_mem _ hx)) h with h | ⟨x, hx, he⟩
    · unfold seeR at h
      have h0 := hr r (List.mem_cons_self ..)
      rw [hasB_or, Bool.or_eq_true, hasB_bit _ _ (by omega), decide_eq_true_eq] at h
      rcases h with h | h
      · exact .inl h
      · exact .inr ⟨r, List.mem_cons_self .., by omega⟩
    · exact .inr ⟨x, List.mem_cons_of_mem _ hx, he⟩
theorem seen_has : ∀ (l : List Rep) (o : BitVec 16) (r : Rep), (∀ r ∈ l, 0 ≤ r.server ∧ r.server < 12) → r ∈ l → hasB (l.foldl seeR o) r.server.toNat = true := by
  have mono : ∀ (l : List Rep) (o : BitVec 16) (i : Nat), hasB o i = true → hasB (l.foldl seeR o) i = true := by
    intro l
    induction l with
    | nil => intro o i h; exact h
    | cons r l ih => intro o i h; rw [List.foldl_cons]; exact ih _ _ (by unfold seeR; rw [hasB_or, h]; rfl)
  intro l
  induction l with
  | nil => intro o r _ h; cases h
  | cons y l ih =>
    intro o r hr h
    rw [List.foldl_cons]
    rcases List.mem_cons.1 h with rfl | h
    · refine mono _ _ _ ?_
      have h0 := hr r (List.mem_cons_self ..)
      unfold seeR
      rw [hasB_or, hasB_bit _ _ (by omega)]; simp
    · exact ih _ _ (fun x hx => hr x (List.mem_cons_of_mem _ hx)) h
theorem inv_nil (n : Nat) : Inv n [] := by
  have h0 : ∀ s : Int, atS (repA n []) s = acc0 := by
    intro s
    unfold atS repA
    simp only [List.foldl_nil]
    rw [List.getD, List.getElem?_replicate]
    split <;> rfl
  refine ⟨fun e he => (by cases he), fun s _ _ => ?_, fun s _ _ h => ?_, fun b r hr => ?_, fun b => rfl, fun b v h => ?_⟩
  · rw [h0]; exact ⟨by decide, by decide⟩
  · rw [h0] at h; exact absurd h (by decide)
  · simp [repS, repTo] at hr
  · cases h
theorem okP_okD {read : List (BitVec 16)} {n : Nat} {l : List Ev} (hi : Inv n l) {b : Int} (hb : 1 ≤ b) (v : ByteArray) : okP (valP read (stOf n l) b) v = okD (demS read n l b) v := by
  unfold valP demS
  show okP (match valF l b with | some v => (v, false, true) | none => ((bestR (repS n l b)).2, (bestR (repS n l b)).1 == 0, accS read (seenR (repS n l b)))) v = _
  cases valF l b with
  | some x => simp [okP, okD]
  | none =>
    simp only
    unfold pickS
    rw [if_neg (by omega), hi.seen b]
    simp only [Bool.false_eq_true, if_false]
    cases ha : accS read (seenR (repS n l b))
    · simp [okP, okD]
    · simp only [Bool.true_eq_false, if_false]
      by_cases h0 : (bestR (repS n l b)).1 = 0
      · rw [if_pos h0]; simp [okP, okD, h0]
      · rw [if_neg h0]
        have : ((bestR (repS n l b)).1 == 0) = false := by simpa using h0
        simp [okP, okD, this]
theorem atS_repA {n : Nat} {l : List Ev} {e : Ev} (hs : 0 ≤ e.server) (hs2 : e.server < n) {a : Acc} (h : stepA (repA n l) e = (repA n l).set e.server.toNat a) {t : Int} (ht : 0 ≤ t) : atS (repA n (l ++ [e])) t = if t = e.server then a else atS (repA n l) t := by
  rw [repA_snoc, h]
  exact atS_set hs (by rw [repA_len]; exact hs2) ht
theorem fol_step {read : List (BitVec 16)} {n : Nat} {l : List Ev} {e : Ev} (hn : n ≤ 12) (hi : Inv n l) (hf : folS read n l e = true) : Inv n (l ++ [e]) ∧ addP read (stOf n l) e = some (stOf n (l ++ [e])) := by
  unfold folS at hf
  split at hf
  · cases hf
  · rename_i hr
    have hs0 : 0 ≤ e.server := by omega
    have hsn : e.server < n := by omega
    have hb1 : 1 ≤ e.ballot := by omega
    have hc : ¬ (e.server < 0 ∨ (((stOf n l).acc.length : Nat) : Int) ≤ e.server ∨ e.ballot < 1) := by
      show ¬ (e.server < 0 ∨ ((repA n l).length : Int) ≤ e.server ∨ e.ballot < 1)
      rw [repA_len]; exact hr
    split at hf
    · rename_i hk
      have hf0 := hf
      rw [Bool.and_eq_true] at hf
      obtain ⟨hp, hem⟩ := hf
      have hlt : (atS (repA n l) e.server).prom < e.ballot := by unfold promB at hp; simpa using hp
      have hst : stepA (repA n l) e = (repA n l).set e.server.toNat { atS (repA n l) e.server with prom := e.ballot } := by unfold stepA; rw [if_pos hk, if_pos hp]
      have hat := fun t ht => atS_repA (n := n) (l := l) (e := e) hs0 hsn hst (t := t) ht
      have hbal := hi.bal e.server hs0 hsn
      have hrepS : ∀ b, repS n (l ++ [e]) b = if b = e.ballot then repS n l b ++ [repOf e.server (atS (repA n l) e.server)] else repS n l b := by
        intro b
        rw [repS_snoc]
        by_cases h : b = e.ballot
        · rw [if_pos ⟨hk, h.symm⟩, if_pos h]
        · rw [if_neg (fun h2 => h h2.2.symm), if_neg h, List.append_nil]
      have hacc2 : ∀ b, isAcc b e = false := by intro b; unfold isAcc; rw [hk]; rfl
      have hval : ∀ b, valF (l ++ [e]) b = valF l b := by
        intro b; rw [valF_snoc, hacc2]; cases valF l b <;> rfl
      refine ⟨⟨?_, ?_, ?_, ?_, ?_, ?_⟩, ?_⟩
      · intro x hx
        rcases List.mem_append.1 hx with hx | hx
        · exact hi.srv x hx
        · rw [List.mem_singleton] at hx; subst hx; exact ⟨hs0, hsn, hb1, .inl hk⟩
      · intro s h0 h1
        rw [hat s h0]
        split
        · exact ⟨hbal.1, by show (atS (repA n l) e.server).bal ≤ e.ballot; have := hbal.2; omega⟩
        · exact hi.bal s h0 h1
      · intro s h0 h1 hb
        rw [hat s h0] at hb ⊢
        split at hb
        · rw [if_pos (by assumption)]; exact hi.val e.server hs0 hsn hb
        · rw [if_neg (by assumption)]; exact hi.val s h0 h1 hb
      · intro b r hrm
        rw [hrepS] at hrm
        have hold : r ∈ repS n l b → 0 ≤ r.server ∧ r.server < n ∧ 0 ≤ r.ballot ∧ r.ballot < b ∧ b ≤ (atS (repA n (l ++ [e])) r.server).prom ∧ (0 < r.ballot → emB r.value = false) := by
          intro h
          obtain ⟨a1, a2, a3, a4, a5, a6⟩ := hi.rep b r h
          refine ⟨a1, a2, a3, a4, ?_, a6⟩
          rw [hat _ a1]
          split
          · rename_i he; rw [he] at a5; show b ≤ e.ballot; omega
          · exact a5
        split at hrm
        · rename_i hbe
          rcases List.mem_append.1 hrm with h | h
          · exact hold h
          · rw [List.mem_singleton] at h
            subst h
            refine ⟨hs0, hsn, hbal.1, ?_, ?_, fun h => hi.val e.server hs0 hsn h⟩
            · show (atS (repA n l) e.server).bal < b; have := hbal.2; omega
            · show b ≤ (atS (repA n (l ++ [e])) e.server).prom
              rw [hat _ hs0, if_pos rfl, hbe]
              exact Int.le_refl _
        · exact hold hrm
      · intro b
        rw [hrepS]
        split
        · rename_i hbe
          rw [invR_app, hi.seen b, Bool.false_or]
          unfold invR
          rw [show invR b (seeR ((repS n l b).foldl seeR 0#16) (repOf e.server (atS (repA n l) e.server))) [] = false from rfl, Bool.or_false]
          unfold badR repOf
          simp only [Bool.or_eq_false_iff, decide_eq_false_iff_not]
          refine ⟨⟨⟨⟨by omega, by omega⟩, by have := hbal.1; omega⟩, by have := hbal.2; omega⟩, ?_⟩
          cases hq : hasB ((repS n l b).foldl seeR 0#16) e.server.toNat
          · rfl
          · exfalso
            rcases seen_mem _ _ _ (fun r hr => ⟨(hi.rep b r hr).1, by have := (hi.rep b r hr).2.1; omega⟩) hq with h | ⟨r, hr, he⟩
            · rw [hasB_zero] at h; cases h
            · have h5 := (hi.rep b r hr).2.2.2.2.1
              have : r.server = e.server := by omega
              rw [this] at h5
              omega
        · exact hi.seen b
      · intro b v hv; rw [hval] at hv; exact hi.vals b v hv
      · unfold addP
        rw [if_neg hc, if_pos hk, if_pos (by exact hf0)]
        congr 1
        unfold addP1 stOf
        simp only [St.mk.injEq]
        refine ⟨?_, ?_, ?_⟩
        · rw [repA_snoc, hst]
        · funext b
          rw [hrepS]
          unfold setF
          by_cases h : b = e.ballot
          · rw [if_pos h, if_pos h, h]
          · rw [if_neg h, if_neg h]
        · funext b; rw [hval]
    · rename_i hk1
      split at hf
      · rename_i hk
        have hf0 := hf
        rw [Bool.and_eq_true, Bool.and_eq_true, Bool.not_eq_true'] at hf
        obtain ⟨⟨hp, hem⟩, hd⟩ := hf
        have hle : (atS (repA n l) e.server).prom ≤ e.ballot := by unfold accpB at hp; simp at hp; exact hp.2
        have hst : stepA (repA n l) e = (repA n l).set e.server.toNat ⟨e.ballot, e.ballot, e.value⟩ := by unfold stepA; rw [if_neg hk1, if_pos hp]
        have hat := fun t ht => atS_repA (n := n) (l := l) (e := e) hs0 hsn hst (t := t) ht
        have hrepS : ∀ b, repS n (l ++ [e]) b = repS n l b := by
          intro b; rw [repS_snoc, if_neg (fun h => hk1 h.1), List.append_nil]
        have hok : okP (valP read (stOf n l) e.ballot) e.value = true := by rw [okP_okD hi hb1]; exact hd
        have hval : ∀ b, valF (l ++ [e]) b = if b = e.ballot then some e.value else valF l b := by
          intro b
          rw [valF_snoc]
          by_cases h : b = e.ballot
          · rw [if_pos h]
            have hia : isAcc b e = true := by unfold isAcc; simp [hk, h]
            cases hv : valF l b with
            | none => simp only; rw [if_pos hia]
            | some x =>
              simp only
              have : valP read (stOf n l) e.ballot = (x, false, true) := by
                unfold valP
                show (match valF l e.ballot with | some v => (v, false, true) | none => _) = _
                rw [← h, hv]
              rw [this] at hok
              have hx : x.toList = e.value.toList := by simpa [okP] using hok
              rw [bs_ext hx]
          · rw [if_neg h]
            have hia : isAcc b e = false := by unfold isAcc; simp; intro _ h2; exact h h2.symm
            cases valF l b with
            | none => simp only; rw [if_neg (by rw [hia]; decide)]
            | some x => rfl
        refine ⟨⟨?_, ?_, ?_, ?_, ?_, ?_⟩, ?_⟩
        · intro x hx
          rcases List.mem_append.1 hx with hx | hx
          · exact hi.srv x hx
          · rw [List.mem_singleton] at hx; subst hx; exact ⟨hs0, hsn, hb1, .inr hk⟩
        · intro s h0 h1
          rw [hat s h0]
          split
          · exact ⟨by show 0 ≤ e.ballot; omega, Int.le_refl _⟩
          · exact hi.bal s h0 h1
        · intro s h0 h1 hb
          rw [hat s h0] at hb ⊢
          split at hb
          · rw [if_pos (by assumption)]; exact hem
          · rw [if_neg (by assumption)]; exact hi.val s h0 h1 hb
        · intro b r hrm
          rw [hrepS] at hrm
          obtain ⟨a1, a2, a3, a4, a5, a6⟩ := hi.rep b r hrm
          refine ⟨a1, a2, a3, a4, ?_, a6⟩
          rw [hat _ a1]
          split
          · rename_i he; rw [he] at a5; show b ≤ e.ballot; omega
          · exact a5
        · intro b; rw [hrepS]; exact hi.seen b
        · intro b v hv
          rw [hval] at hv
          split at hv
          · injection hv with hv; rw [← hv]; exact hem
          · exact hi.vals b v hv
        · unfold addP
          rw [if_neg hc, if_neg hk1, if_pos hk, if_pos (by
            rw [hok, Bool.and_true, Bool.and_eq_true, Bool.not_eq_true']; exact ⟨hp, hem⟩)]
          congr 1
          unfold addP2 stOf
          simp only [St.mk.injEq]
          refine ⟨?_, ?_, ?_⟩
          · rw [repA_snoc, hst]
          · funext b; rw [hrepS]
          · funext b; rw [hval]; rfl
      · cases hf
theorem fol_none {read : List (BitVec 16)} {n : Nat} {l : List Ev} {e : Ev} (hi : Inv n l) (hf : folS read n l e = false) : addP read (stOf n l) e = none := by
  unfold folS at hf
  unfold addP
  have hc : ((e.server < 0 ∨ (((stOf n l).acc.length : Nat) : Int) ≤ e.server ∨ e.ballot < 1)) = (e.server < 0 ∨ (n : Int) ≤ e.server ∨ e.ballot < 1) := by
    show (e.server < 0 ∨ ((repA n l).length : Int) ≤ e.server ∨ e.ballot < 1) = _
    rw [repA_len]
  by_cases hr : e.server < 0 ∨ (n : Int) ≤ e.server ∨ e.ballot < 1
  · rw [if_pos (by rw [hc]; exact hr)]
  · rw [if_neg (by rw [hc]; exact hr)]
    rw [if_neg hr] at hf
    by_cases hk1 : e.kind = 1
    · rw [if_pos hk1]
      rw [if_pos hk1] at hf
      rw [if_neg (by show ¬ (promB (atS (repA n l) e.server) e.ballot && emB e.value) = true; rw [hf]; decide)]
    · rw [if_neg hk1]
      rw [if_neg hk1] at hf
      by_cases hk : e.kind = 2
      · rw [if_pos hk]
        rw [if_pos hk] at hf
        rw [if_neg]
        rw [okP_okD hi (by omega)]
        show ¬ (accpB (atS (repA n l) e.server) e.ballot && !emB e.value && okD (demS read n l e.ballot) e.value) = true
        rw [hf]; decide
      · rw [if_neg hk]
theorem good_inv {read : List (BitVec 16)} {n : Nat} (hn : n ≤ 12) {l : List Ev} (h : Good read n l) : Inv n l := by
  induction h with
  | nil => exact inv_nil n
  | snoc _ hf ih => exact (fol_step hn ih hf).1
end Go.Proofs.YtmjgdnpfgkpaoaaGreatDoor
namespace Go.Proofs.YtmjgdnpfgkpaoaaGreatDoor

theorem best_fold : ∀ (l : List Rep) (o : Int × ByteArray), o.1 ≤ (l.foldl stepR o).1 ∧ (∀ r ∈ l, r.ballot ≤ (l.foldl stepR o).1) ∧ (l.foldl stepR o = o ∨ ∃ r ∈ l, (l.foldl stepR o) = (r.ballot, r.value)) := by
  intro l
  induction l with
  | nil => intro o; exact ⟨Int.le_refl _, fun r hr => (by cases hr), .inl rfl⟩
  | cons x l ih =>
    intro o
    rw [List.foldl_cons]
    obtain ⟨h1, h2, h3⟩ := ih (stepR o x)
    have hx : o.1 ≤ (stepR o x).1 ∧ x.ballot ≤ (stepR o x).1 ∧ (stepR o x = o ∨ stepR o x = (x.ballot, x.value)) := by
      unfold stepR
      split
      · exact ⟨by show o.1 ≤ x.ballot; omega, Int.le_refl _, .inr rfl⟩
      · exact ⟨Int.le_refl _, by omega, .inl rfl⟩
    refine ⟨by omega, fun r hr => ?_, ?_⟩
    · rcases List.mem_cons.1 hr with rfl | hr
      · omega
      · exact h2 r hr
    · rcases h3 with h3 | ⟨r, hr, h3⟩
      · rcases hx.2.2 with h | h
        · exact .inl (h3.trans h)
        · exact .inr ⟨x, List.mem_cons_self .., h3.trans h⟩
      · exact .inr ⟨r, List.mem_cons_of_mem _ hr, h3⟩
theorem best_all (l : List Rep) : (∀ r ∈ l, r.ballot ≤ (bestR l).1) ∧ (0 < (bestR l).1 → ∃ r ∈ l, r.ballot = (bestR l).1 ∧ r.value = (bestR l).2) := by
  obtain ⟨_, h2, h3⟩ := best_fold l (0, ⟨#[]⟩)
  refine ⟨h2, fun h0 => ?_⟩
  unfold bestR at h0 ⊢
  rcases h3 with h3 | ⟨r, hr, h3⟩
  · rw [h3] at h0; exact absurd h0 (by decide)
  · exact ⟨r, hr, by rw [h3], by rw [h3]⟩

/-- an acceptance -/
def AccE (l : List Ev) (s b : Int) (v : ByteArray) : Prop := ∃ e ∈ l, e.kind = 2 ∧ e.server = s ∧ e.ballot = b ∧ e.value = v
structure Saf (read : List (BitVec 16)) (n : Nat) (l : List Ev) : Prop where
  s1 : ∀ s b v, AccE l s b v → b ≤ (atS (repA n l) s).bal
  s2 : ∀ (b' : Int) (r : Rep), r ∈ repS n l b' → ∀ b v, AccE l r.server b v → b < b' → b ≤ r.ballot
  s3a : ∀ s : Int, 0 ≤ s → s < n → 0 < (atS (repA n l) s).bal → AccE l s (atS (repA n l) s).bal (atS (repA n l) s).val
  s3 : ∀ (b' : Int) (r : Rep), r ∈ repS n l b' → 0 < r.ballot → AccE l r.server r.ballot r.value
  s4 : ∀ s s' b v v', AccE l s b v → AccE l s' b v' → v = v'
  s5 : ∀ s b v, AccE l s b v → ∃ L : List Rep, (∀ r ∈ L, r ∈ repS n l b) ∧ accS read (seenR L) = true ∧ ((bestR L).1 = 0 ∨ (bestR L).2 = v)
theorem accE_app {l : List Ev} {e : Ev} {s b : Int} {v : ByteArray} : AccE (l ++ [e]) s b v ↔ AccE l s b v ∨ (e.kind = 2 ∧ e.server = s ∧ e.ballot = b ∧ e.value = v) := by
  constructor
  · rintro ⟨x, hx, h⟩
    rcases List.mem_append.1 hx with hx | hx
    · exact .inl ⟨x, hx, h⟩
    · rw [List.mem_singleton] at hx; subst hx; exact .inr h
  · rintro (⟨x, hx, h⟩ | h)
    · exact ⟨x, List.mem_append_left _ hx, h⟩
    · exact ⟨e, List.mem_append_right _ (List.mem_singleton_self _), h⟩
theorem valF_accE {l : List Ev} {b : Int} {v : ByteArray} (h : valF l b = some v) : ∃ s, AccE l s b v := by
  unfold valF at h
  rw [Option.map_eq_some_iff] at h
  obtain ⟨e, he, hv⟩ := h
  have h1 := List.mem_of_find?_eq_some he
  have h2 := List.find?_some he
  unfold isAcc at h2
  simp at h2
  exact ⟨e.server, e, h1, h2.1, rfl, h2.2, hv⟩
theorem valF_none {l : List Ev} {b : Int} (h : valF l b = none) : ∀ s v, ¬ AccE l s b v := by
  rintro s v ⟨e, he, h1, _, h3, _⟩
  unfold valF at h
  rw [Option.map_eq_none_iff, List.find?_eq_none] at h
  have := h e he
  unfold isAcc at this
  simp [h1, h3] at this
theorem saf_nil (read : List (BitVec 16)) (n : Nat) : Saf read n [] := by
  have hn : ∀ s b v, ¬ AccE [] s b v := by rintro s b v ⟨e, he, _⟩; cases he
  have h0 : ∀ s : Int, atS (repA n []) s = acc0 := by
    intro s
    unfold atS repA
    simp only [List.foldl_nil]
    rw [List.getD, List.getElem?_replicate]
    split <;> rfl
  refine ⟨fun s b v h => absurd h (hn s b v), fun b' r hr => ?_, fun s _ _ h => ?_, fun b' r hr => ?_, fun s s' b v v' h => absurd h (hn _ _ _), fun s b v h => absurd h (hn s b v)⟩
  · simp [repS, repTo] at hr
  · rw [h0] at h; exact absurd h (by decide)
  · simp [repS, repTo] at hr
theorem saf_step {read : List (BitVec 16)} {n : Nat} {l : List Ev} {e : Ev} (hn : n ≤ 12) (hi : Inv n l) (hs : Saf read n l) (hf : folS read n l e = true) : Saf read n (l ++ [e]) := by
  unfold folS at hf
  split at hf
  · cases hf
  · rename_i hr
    have hs0 : 0 ≤ e.server := by omega
    have hsn : e.server < n := by omega
    have hb1 : 1 ≤ e.ballot := by omega
    split at hf
    · rename_i hk
      rw [Bool.and_eq_true] at hf
      obtain ⟨hp, hem⟩ := hf
      have hlt : (atS (repA n l) e.server).prom < e.ballot := by unfold promB at hp; simpa using hp
      have hst : stepA (repA n l) e = (repA n l).set e.server.toNat { atS (repA n l) e.server with prom := e.ballot } := by unfold stepA; rw [if_pos hk, if_pos hp]
      have hat := fun t ht => atS_repA (n := n) (l := l) (e := e) hs0 hsn hst (t := t) ht
      have hacc : ∀ s b v, AccE (l ++ [e]) s b v → AccE l s b v := by
        intro s b v h
        rcases accE_app.1 h with h | h
        · exact h
        · rw [hk] at h; exact absurd h.1 (by decide)
      have hsrv : ∀ s b v, AccE l s b v → 0 ≤ s ∧ s < n := by
        rintro s b v ⟨x, hx, _, rfl, _⟩; exact ⟨(hi.srv x hx).1, (hi.srv x hx).2.1⟩
      have hatb : ∀ s : Int, 0 ≤ s → (atS (repA n (l ++ [e])) s).bal = (atS (repA n l) s).bal ∧ (atS (repA n (l ++ [e])) s).val = (atS (repA n l) s).val := by
        intro s h0
        rw [hat s h0]
        split
        · rename_i h; subst h; exact ⟨rfl, rfl⟩
        · exact ⟨rfl, rfl⟩
      have hrep : ∀ b r, r ∈ repS n (l ++ [e]) b → r ∈ repS n l b ∨ (b = e.ballot ∧ r = repOf e.server (atS (repA n l) e.server)) := by
        intro b r h
        rw [repS_snoc] at h
        rcases List.mem_append.1 h with h | h
        · exact .inl h
        · split at h
          · rename_i hc; rw [List.mem_singleton] at h; exact .inr ⟨hc.2.symm, h⟩
          · cases h
      refine ⟨?_, ?_, ?_, ?_, ?_, ?_⟩
      · intro s b v h
        have h' := hacc s b v h
        rw [(hatb s (hsrv s b v h').1).1]; exact hs.s1 s b v h'
      · intro b' r h b v ha hlt2
        have ha' := hacc _ _ _ ha
        rcases hrep b' r h with h | ⟨_, rfl⟩
        · exact hs.s2 b' r h b v ha' hlt2
        · exact hs.s1 e.server b v ha'
      · intro s h0 h1 hb
        obtain ⟨e1, e2⟩ := hatb s h0
        rw [e1] at hb ⊢
        rw [e2]
        exact accE_app.2 (.inl (hs.s3a s h0 h1 hb))
      · intro b' r h hb
        rcases hrep b' r h with h | ⟨_, rfl⟩
        · exact accE_app.2 (.inl (hs.s3 b' r h hb))
        · exact accE_app.2 (.inl (hs.s3a e.server hs0 hsn hb))
      · intro s s' b v v' h1 h2
        exact hs.s4 s s' b v v' (hacc _ _ _ h1) (hacc _ _ _ h2)
      · intro s b v h
        obtain ⟨L, h1, h2⟩ := hs.s5 s b v (hacc _ _ _ h)
        exact ⟨L, fun r hr => by rw [repS_snoc]; exact List.mem_append_left _ (h1 r hr), h2⟩
    · rename_i hk1
      split at hf
      · rename_i hk
        rw [Bool.and_eq_true, Bool.and_eq_true, Bool.not_eq_true'] at hf
        obtain ⟨⟨hp, hem⟩, hd⟩ := hf
        have hle : (atS (repA n l) e.server).prom ≤ e.ballot := by unfold accpB at hp; simp at hp; exact hp.2
        have hst : stepA (repA n l) e = (repA n l).set e.server.toNat ⟨e.ballot, e.ballot, e.value⟩ := by unfold stepA; rw [if_neg hk1, if_pos hp]
        have hat := fun t ht => atS_repA (n := n) (l := l) (e := e) hs0 hsn hst (t := t) ht
        have hrepS : ∀ b, repS n (l ++ [e]) b = repS n l b := by
          intro b; rw [repS_snoc, if_neg (fun h => hk1 h.1), List.append_nil]
        have hsrv : ∀ s b v, AccE l s b v → 0 ≤ s ∧ s < n := by
          rintro s b v ⟨x, hx, _, rfl, _⟩; exact ⟨(hi.srv x hx).1, (hi.srv x hx).2.1⟩
        have hsame : ∀ s v, AccE l s e.ballot v → v = e.value := by
          intro s v h
          cases hv : valF l e.ballot with
          | none => exact absurd h (valF_none hv s v)
          | some x =>
            obtain ⟨s', h'⟩ := valF_accE hv
            have hx : x = e.value := by
              unfold demS at hd
              rw [hv] at hd
              unfold okD at hd
              simp at hd
              exact bs_ext hd
            rw [← hx]
            exact hs.s4 _ _ _ _ _ h h'
        refine ⟨?_, ?_, ?_, ?_, ?_, ?_⟩
        · intro s b v h
          rcases accE_app.1 h with h' | ⟨_, rfl, rfl, rfl⟩
          · have h0 := (hsrv s b v h').1
            rw [hat s h0]
            split
            · rename_i he
              have := hs.s1 s b v h'
              rw [he] at this
              have h2 := (hi.bal e.server hs0 hsn).2
              show b ≤ e.ballot
              omega
            · exact hs.s1 s b v h'
          · rw [hat _ hs0, if_pos rfl]; exact Int.le_refl _
        · intro b' r h b v ha hlt2
          rw [hrepS] at h
          rcases accE_app.1 ha with ha | ⟨_, h1, h2, _⟩
          · exact hs.s2 b' r h b v ha hlt2
          · exfalso
            have := (hi.rep b' r h).2.2.2.2.1
            rw [← h1] at this
            omega
        · intro s h0 h1 hb
          rw [hat s h0] at hb ⊢
          split
          · rename_i he; exact accE_app.2 (.inr ⟨hk, he.symm, rfl, rfl⟩)
          · rename_i he; rw [if_neg he] at hb; exact accE_app.2 (.inl (hs.s3a s h0 h1 hb))
        · intro b' r h hb
          rw [hrepS] at h
          exact accE_app.2 (.inl (hs.s3 b' r h hb))
        · intro s s' b v v' h1 h2
          rcases accE_app.1 h1 with h1 | ⟨_, _, rfl, rfl⟩ <;> rcases accE_app.1 h2 with h2 | ⟨_, _, h3, h4⟩
          · exact hs.s4 _ _ _ _ _ h1 h2
          · subst h3 h4; exact hsame _ _ h1
          · exact (hsame _ _ h2).symm
          · exact h4
        · intro s b v h
          have hold : ∀ s v, AccE l s b v → ∃ L : List Rep, (∀ r ∈ L, r ∈ repS n (l ++ [e]) b) ∧ accS read (seenR L) = true ∧ ((bestR L).1 = 0 ∨ (bestR L).2 = v) := by
            intro s v h
            obtain ⟨L, h1, h2⟩ := hs.s5 s b v h
            exact ⟨L, fun r hr => by rw [hrepS]; exact h1 r hr, h2⟩
          rcases accE_app.1 h with h | ⟨_, _, rfl, rfl⟩
          · exact hold s v h
          · cases hv : valF l e.ballot with
            | some x =>
              obtain ⟨s', h'⟩ := valF_accE hv
              have := hsame _ _ h'
              subst this
              exact hold s' _ h'
            | none =>
              refine ⟨repS n l e.ballot, fun r hr => by rw [hrepS]; exact hr, ?_⟩
              unfold demS at hd
              rw [hv] at hd
              simp only at hd
              unfold pickS at hd
              rw [if_neg (by omega), hi.seen] at hd
              simp only [Bool.false_eq_true, if_false] at hd
              cases ha : accS read (seenR (repS n l e.ballot))
              · rw [ha] at hd; simp [okD] at hd
              · rw [ha] at hd
                simp only [Bool.true_eq_false, if_false] at hd
                refine ⟨rfl, ?_⟩
                by_cases h0 : (bestR (repS n l e.ballot)).1 = 0
                · exact .inl h0
                · rw [if_neg h0] at hd
                  simp [okD] at hd
                  exact .inr (bs_ext hd)
      · cases hf
theorem good_saf {read : List (BitVec 16)} {n : Nat} (hn : n ≤ 12) {l : List Ev} (h : Good read n l) : Saf read n l := by
  induction h with
  | nil => exact saf_nil read n
  | snoc hg hf ih => exact saf_step hn (good_inv hn hg) ih hf

/-- a value that a write set accepted in a ballot is the value of all acceptances from that ballot on -/
theorem safe_from {read write : List (BitVec 16)} {n : Nat} (hn : n ≤ 12) {l : List Ev} (h : Good read n l) (hc : ∀ r ∈ read, ∀ w ∈ write, (r &&& w == 0#16) = false)
    {b : Int} {v : ByteArray} {W : BitVec 16} (hW : W ∈ write) (hb : 1 ≤ b) (hex : ∃ s, AccE l s b v) (hall : ∀ i, hasB W i = true → AccE l (i : Int) b v) :
    ∀ (d : Nat) (s b' : Int) (v' : ByteArray), b ≤ b' → b' - b ≤ d → AccE l s b' v' → v' = v := by
  have hi := good_inv hn h
  have hs := good_saf hn h
  intro d
  induction d with
  | zero =>
    intro s b' v' h1 h2 ha
    have : b' = b := by omega
    subst this
    obtain ⟨s0, h0⟩ := hex
    exact hs.s4 _ _ _ _ _ ha h0
  | succ d ih =>
    intro s b' v' h1 h2 ha
    by_cases he : b' = b
    · subst he
      obtain ⟨s0, h0⟩ := hex
      exact hs.s4 _ _ _ _ _ ha h0
    · obtain ⟨L, hL, hacc, hbest⟩ := hs.s5 s b' v' ha
      unfold accS at hacc
      obtain ⟨R, hR, hsub⟩ := List.any_eq_true.1 hacc
      obtain ⟨i, hi1⟩ : ∃ i, hasB (R &&& W) i = true := by
        apply Classical.byContradiction
        intro hno
        have : R &&& W = 0#16 := by
          apply BitVec.eq_of_getLsbD_eq
          intro i _
          cases hx : (R &&& W).getLsbD i
          · simp
          · exact absurd ⟨i, hx⟩ hno
        have := hc R hR W hW
        simp_all
      rw [hasB_and, Bool.and_eq_true] at hi1
      have hseen := (subB_iff _ _).1 hsub i hi1.1
      rcases seen_mem L 0#16 i (fun r hr => ⟨(hi.rep b' r (hL r hr)).1, by have := (hi.rep b' r (hL r hr)).2.1; omega⟩) hseen with hz | ⟨r, hr, her⟩
      · rw [hasB_zero] at hz; cases hz
      · have hacc2 := hall i hi1.2
        rw [← her] at hacc2
        have h3 := hs.s2 b' r (hL r hr) b v hacc2 (by omega)
        have h4 := (best_all L).1 r hr
        obtain ⟨r', hr', e1, e2⟩ := (best_all L).2 (by omega)
        have h5 : (bestR L).2 = v' := by
          rcases hbest with h | h
          · omega
          · exact h
        have h6 := (hi.rep b' r' (hL r' hr')).2.2.2.1
        have h7 := hs.s3 b' r' (hL r' hr') (by omega)
        have := ih r'.server r'.ballot r'.value (by omega) (by omega) h7
        rw [← h5, ← e2, this]
end Go.Proofs.YtmjgdnpfgkpaoaaGreatDoor
namespace Go.Proofs.YtmjgdnpfgkpaoaaGreatDoor

def isV (n : Nat) (b : Int) (v : ByteArray) (e : Ev) : Bool := ((decide (e.kind = 2) && decide (e.ballot = b)) && e.value.toList == v.toList) && inB n e.server
def byTo (n : Nat) (l : List Ev) (b : Int) (v : ByteArray) (k : Nat) : BitVec 16 := (l.take k).foldl (fun s e => if isV n b v e then s ||| bitS e.server.toNat else s) 0#16
def byS (n : Nat) (l : List Ev) (b : Int) (v : ByteArray) : BitVec 16 := byTo n l b v l.length
def accI (n : Nat) (e : Ev) : Bool := decide (e.kind = 2) && inB n e.server
/-- a chosen value -/
def ChoI (write : List (BitVec 16)) (n : Nat) (l : List Ev) (v : Str) : Prop := ∃ e ∈ l, accI n e = true ∧ accS write (byS n l e.ballot e.value) = true ∧ e.value.toList = v
def chrStep (write : List (BitVec 16)) (n : Nat) (l : List Ev) (o : List Str) (e : Ev) : List Str := if (accI n e && accS write (byS n l e.ballot e.value)) = true then insS e.value.toList o else o
def chrTo (write : List (BitVec 16)) (n : Nat) (l : List Ev) (k : Nat) : List Str := (l.take k).foldl (chrStep write n l) []
/-- the chosen values, ascending -/
def chrS (write : List (BitVec 16)) (n : Nat) (l : List Ev) : List Str := chrTo write n l l.length
theorem chrTo_succ {write : List (BitVec 16)} {n : Nat} {l : List Ev} {k : Nat} {e : Ev} (h : l[k]? = some e) : chrTo write n l (k + 1) = chrStep write n l (chrTo write n l k) e := by
  unfold chrTo; rw [List.take_add_one, h]; simp
theorem byTo_succ {n : Nat} {l : List Ev} {b : Int} {v : ByteArray} {k : Nat} {e : Ev} (h : l[k]? = some e) : byTo n l b v (k + 1) = if isV n b v e then byTo n l b v k ||| bitS e.server.toNat else byTo n l b v k := by
  unfold byTo; rw [List.take_add_one, h]; simp
theorem chrTo_prop (write : List (BitVec 16)) (n : Nat) (l : List Ev) : ∀ k, k ≤ l.length → (chrTo write n l k).Pairwise (· < ·) ∧ ∀ v, v ∈ chrTo write n l k ↔ ∃ e ∈ l.take k, accI n e = true ∧ accS write (byS n l e.ballot e.value) = true ∧ e.value.toList = v := by
  intro k
  induction k with
  | zero => intro _; exact ⟨by simp [chrTo], by simp [chrTo]⟩
  | succ k ih =>
    intro hk
    obtain ⟨h1, h2⟩ := ih (by omega)
    have he : l[k]? = some (l[k]'(by omega)) := List.getElem?_eq_getElem _
    have ht : l.take (k + 1) = l.take k ++ [l[k]'(by omega)] := by rw [List.take_add_one, he]; rfl
    rw [chrTo_succ he, ht]
    obtain ⟨e, hee⟩ : ∃ e, l[k]'(by omega) = e := ⟨_, rfl⟩
    rw [hee]
    unfold chrStep
    split
    · rename_i hc
      rw [Bool.and_eq_true] at hc
      refine ⟨insS_asc _ _ h1, fun v => ?_⟩
      rw [insS_mem, h2]
      constructor
      · rintro (h | ⟨x, hx, h⟩)
        · exact ⟨e, List.mem_append_right _ (List.mem_singleton_self _), hc.1, hc.2, h.symm⟩
        · exact ⟨x, List.mem_append_left _ hx, h⟩
      · rintro ⟨x, hx, h⟩
        rcases List.mem_append.1 hx with hx | hx
        · exact .inr ⟨x, hx, h⟩
        · rw [List.mem_singleton] at hx; subst hx; exact .inl h.2.2.symm
    · rename_i hc
      refine ⟨h1, fun v => ?_⟩
      rw [h2]
      constructor
      · rintro ⟨x, hx, h⟩; exact ⟨x, List.mem_append_left _ hx, h⟩
      · rintro ⟨x, hx, h⟩
        rcases List.mem_append.1 hx with hx | hx
        · exact ⟨x, hx, h⟩
        · rw [List.mem_singleton] at hx; subst hx
          exact absurd (by rw [h.1, h.2.1]; rfl) hc
theorem chrS_asc (write : List (BitVec 16)) (n : Nat) (l : List Ev) : (chrS write n l).Pairwise (· < ·) := (chrTo_prop write n l _ (Nat.le_refl _)).1
theorem chrS_mem (write : List (BitVec 16)) (n : Nat) (l : List Ev) (v : Str) : v ∈ chrS write n l ↔ ChoI write n l v := by
  have := (chrTo_prop write n l _ (Nat.le_refl _)).2 v
  rw [List.take_length] at this
  exact this
theorem byTo_has {n : Nat} (hn : n ≤ 16) {l : List Ev} {b : Int} {v : ByteArray} {i : Nat} : ∀ k, k ≤ l.length → (hasB (byTo n l b v k) i = true ↔ ∃ e ∈ l.take k, isV n b v e = true ∧ e.server = (i : Int)) := by
  intro k
  induction k with
  | zero => intro _; simp [byTo, hasB]
  | succ k ih =>
    intro hk
    have he : l[k]? = some (l[k]'(by omega)) := List.getElem?_eq_getElem _
    have ht : l.take (k + 1) = l.take k ++ [l[k]'(by omega)] := by rw [List.take_add_one, he]; rfl
    rw [byTo_succ he, ht]
    obtain ⟨e, hee⟩ : ∃ e, l[k]'(by omega) = e := ⟨_, rfl⟩
    rw [hee]
    cases hv : isV n b v e
    · simp only [Bool.false_eq_true, if_false]
      rw [ih (by omega)]
      constructor
      · rintro ⟨x, hx, h⟩; exact ⟨x, List.mem_append_left _ hx, h⟩
      · rintro ⟨x, hx, h⟩
        rcases List.mem_append.1 hx with hx | hx
        · exact ⟨x, hx, h⟩
        · rw [List.mem_singleton] at hx; subst hx; rw [hv] at h; exact absurd h.1 (by decide)
    · simp only [if_true]
      have hs : 0 ≤ e.server ∧ e.server < n := by
        unfold isV inB at hv
        simp only [Bool.and_eq_true, decide_eq_true_eq] at hv
        exact hv.2
      rw [hasB_or, Bool.or_eq_true, ih (by omega), hasB_bit _ _ (by omega), decide_eq_true_eq]
      constructor
      · rintro (⟨x, hx, h⟩ | h)
        · exact ⟨x, List.mem_append_left _ hx, h⟩
        · exact ⟨e, List.mem_append_right _ (List.mem_singleton_self _), hv, by omega⟩
      · rintro ⟨x, hx, h⟩
        rcases List.mem_append.1 hx with hx | hx
        · exact .inl ⟨x, hx, h⟩
        · rw [List.mem_singleton] at hx; subst hx; exact .inr (by omega)
theorem byS_has {n : Nat} (hn : n ≤ 16) {l : List Ev} {b : Int} {v : ByteArray} {i : Nat} : hasB (byS n l b v) i = true ↔ ∃ e ∈ l, isV n b v e = true ∧ e.server = (i : Int) := by
  unfold byS
  rw [byTo_has hn _ (Nat.le_refl _), List.take_length]
/-- P37.2 -/
theorem chosen_one {read write : List (BitVec 16)} {n : Nat} (hn : n ≤ 12) {l : List Ev} (h : Good read n l) (hc : ∀ r ∈ read, ∀ w ∈ write, (r &&& w == 0#16) = false) : (chrS write n l).length ≤ 1 := by
  refine asc_one (chrS_asc write n l) fun x hx y hy => ?_
  have hi := good_inv hn h
  have key : ∀ v, ChoI write n l v → ∃ (b : Int) (s : Int) (W : BitVec 16) (u : ByteArray), u.toList = v ∧ 1 ≤ b ∧ AccE l s b u ∧ W ∈ write ∧ ∀ i, hasB W i = true → AccE l (i : Int) b u := by
    rintro v ⟨e, he, h1, h2, rfl⟩
    unfold accI at h1
    simp only [Bool.and_eq_true, decide_eq_true_eq] at h1
    unfold accS at h2
    obtain ⟨W, hW, hsub⟩ := List.any_eq_true.1 h2
    refine ⟨e.ballot, e.server, W, e.value, rfl, (hi.srv e he).2.2.1, ⟨e, he, h1.1, rfl, rfl, rfl⟩, hW, fun i hi1 => ?_⟩
    have hb := (subB_iff _ _).1 hsub i hi1
    obtain ⟨x, hx, h3, h4⟩ := (byS_has (by omega)).1 hb
    unfold isV at h3
    simp only [Bool.and_eq_true, decide_eq_true_eq] at h3
    exact ⟨x, hx, h3.1.1.1, h4, h3.1.1.2, bs_ext (eq_of_beq h3.1.2)⟩
  obtain ⟨b, s, W, u, rfl, hb, ha, hW, hall⟩ := key x ((chrS_mem write n l x).1 hx)
  obtain ⟨b', s', W', u', rfl, hb', ha', hW', hall'⟩ := key y ((chrS_mem write n l y).1 hy)
  by_cases hle : b ≤ b'
  · rw [safe_from hn h hc hW hb ⟨s, ha⟩ hall (b' - b).toNat s' b' u' hle (by omega) ha']
  · rw [safe_from hn h hc hW' hb' ⟨s', ha'⟩ hall' (b - b').toNat s b u (by omega) (by omega) ha]

/-! runs -/
def possA (read : List (BitVec 16)) (n : Nat) (l : List Ev) (b : Nat) : List Ev :=
  ((List.range n).filter fun s => folS read n l (evP b s)).map (evP b)
def evW (b s : Nat) (v : ByteArray) : Ev := ⟨2, s, b, v⟩
def possB (read : List (BitVec 16)) (n : Nat) (l : List Ev) (b : Nat) (v : ByteArray) : List Ev :=
  ((List.range n).filter fun s => folS read n l (evW b s v)).map fun s => evW b s v
def demV (p : ByteArray × Int) (b : Nat) : Option ByteArray := if p.2 = 4 then some (valB b) else if p.2 ≠ 0 then none else some p.1
def possC (read : List (BitVec 16)) (n : Nat) (l : List Ev) (b : Nat) : List Ev :=
  possA read n l b ++ (match demV (demS read n l b) b with | some v => possB read n l b v | none => [])
def possTo (read : List (BitVec 16)) (n : Nat) (l : List Ev) (k : Nat) : List Ev := (List.range k).flatMap fun b => possC read n l (b + 1)
def possS (read : List (BitVec 16)) (n : Nat) (l : List Ev) : List Ev := possTo read n l 4
theorem poss_fol {read : List (BitVec 16)} {n : Nat} {l : List Ev} {e : Ev} (h : e ∈ possS read n l) : folS read n l e = true := by
  unfold possS possTo at h
  obtain ⟨b, _, h⟩ := List.mem_flatMap.1 h
  unfold possC at h
  rcases List.mem_append.1 h with h | h
  · unfold possA at h
    obtain ⟨s, hs, rfl⟩ := List.mem_map.1 h
    exact (List.mem_filter.1 hs).2
  · split at h
    · unfold possB at h
      obtain ⟨s, hs, rfl⟩ := List.mem_map.1 h
      exact (List.mem_filter.1 hs).2
    · cases h
/-- the events of the program, by its state -/
def posQA (st : St) (n : Nat) (b : Nat) : List Ev := ((List.range n).filter fun (s : Nat) => promB (atS st.acc (s : Int)) b).map (evP b)
def posQB (st : St) (n : Nat) (b : Nat) (v : ByteArray) : List Ev := ((List.range n).filter fun (s : Nat) => accpB (atS st.acc (s : Int)) b).map fun s => evW b s v
def valQ (p : ByteArray × Bool × Bool) (b : Nat) : Option ByteArray := if p.2.2 = false then none else if p.2.1 = true then some (valB b) else some p.1
def posQC (read : List (BitVec 16)) (st : St) (n : Nat) (b : Nat) : List Ev :=
  posQA st n b ++ (match valQ (valP read st b) b with | some v => posQB st n b v | none => [])
def posQTo (read : List (BitVec 16)) (st : St) (n : Nat) (k : Nat) : List Ev := (List.range k).flatMap fun b => posQC read st n (b + 1)
def posQ (read : List (BitVec 16)) (st : St) (n : Nat) : List Ev := posQTo read st n 4
theorem valB_em (b : Nat) : emB (valB b) = false := by
  unfold emB valB
  rw [bs_list]; rfl
theorem dem_val {read : List (BitVec 16)} {n : Nat} {l : List Ev} (hi : Inv n l) {b : Nat} (hb : 1 ≤ b) : demV (demS read n l b) b = valQ (valP read (stOf n l) b) b ∧ ∀ v, demV (demS read n l b) b = some v → okD (demS read n l b) v = true ∧ emB v = false := by
  unfold demS valP
  show demV (match valF l b with | some v => (v, 0) | none => pickS read b (repS n l b)) b = valQ (match valF l b with | some v => (v, false, true) | none => ((bestR (repS n l b)).2, (bestR (repS n l b)).1 == 0, accS read (seenR (repS n l b)))) b ∧ _
  cases hv : valF l b with
  | some x =>
    refine ⟨by simp [demV, valQ], fun v h => ?_⟩
    have : x = v := by simpa [demV] using h
    subst this
    exact ⟨by simp [okD], hi.vals b x hv⟩
  | none =>
    simp only
    unfold pickS
    rw [if_neg (by omega), hi.seen b]
    simp only [Bool.false_eq_true, if_false]
    cases ha : accS read (seenR (repS n l b))
    · exact ⟨by simp [demV, valQ], fun v h => by simp [demV] at h⟩
    · simp only [Bool.true_eq_false, if_false]
      by_cases h0 : (bestR (repS n l b)).1 = 0
      · rw [if_pos h0]
        refine ⟨by simp [demV, valQ, h0], fun v h => ?_⟩
        have : valB b = v := by simpa [demV] using h
        subst this
        exact ⟨by simp [okD], valB_em b⟩
      · rw [if_neg h0]
        have h1 : ((bestR (repS n l b)).1 == 0) = false := by simpa using h0
        refine ⟨by simp [demV, valQ, h1], fun v h => ?_⟩
        have : (bestR (repS n l b)).2 = v := by simpa [demV] using h
        subst this
        refine ⟨by simp [okD], ?_⟩
        obtain ⟨r, hr, e1, e2⟩ := (best_all (repS n l b)).2 (by have := bestR_ge (repS n l b); omega)
        rw [← e2]
        exact (hi.rep b r hr).2.2.2.2.2 (by have := (hi.rep b r hr).2.2.1; omega)
theorem poss_eq {read : List (BitVec 16)} {n : Nat} {l : List Ev} (hi : Inv n l) : posQ read (stOf n l) n = possS read n l := by
  unfold posQ possS posQTo possTo
  congr 1
  funext b
  unfold posQC possC
  obtain ⟨h1, h2⟩ := dem_val (read := read) hi (b := b + 1) (by omega)
  congr 1
  · unfold posQA possA
    congr 1
    apply List.filter_congr
    intro s hs
    have hsn := List.mem_range.1 hs
    unfold folS evP
    simp only
    rw [if_neg (by omega)]
    simp [emB, stOf]
  · rw [← h1]
    cases hd : demV (demS read n l ((b + 1 : Nat) : Int)) (b + 1) with
    | none => rfl
    | some v =>
      simp only
      obtain ⟨h3, h4⟩ := h2 v hd
      unfold posQB possB
      congr 1
      apply List.filter_congr
      intro s hs
      have hsn := List.mem_range.1 hs
      unfold folS evW
      simp only
      rw [if_neg (by omega), if_neg (by decide)]
      simp only [if_true]
      rw [h3, h4]
      simp [stOf]
/-- a run -/
def pickE (l : List Ev) (c : Int) : Option Ev := l[(c % (l.length : Int)).toNat]?
def runStep (read : List (BitVec 16)) (n : Nat) (o : List Ev) (c : Int) : List Ev := match pickE (possS read n o) c with
  | some e => o ++ [e]
  | none => o
def runS (read : List (BitVec 16)) (n : Nat) (ch : List Int) : List Ev := ch.foldl (runStep read n) []
def runTo (read : List (BitVec 16)) (n : Nat) (ch : List Int) (k : Nat) : List Ev := (ch.take k).foldl (runStep read n) []
theorem runTo_succ {read : List (BitVec 16)} {n : Nat} {ch : List Int} {k : Nat} {c : Int} (h : ch[k]? = some c) : runTo read n ch (k + 1) = runStep read n (runTo read n ch k) c := by
  unfold runTo; rw [List.take_add_one, h]; simp
theorem runTo_all (read : List (BitVec 16)) (n : Nat) (ch : List Int) : runTo read n ch ch.length = runS read n ch := by unfold runTo runS; rw [List.take_length]
theorem run_stop {read : List (BitVec 16)} {n : Nat} : ∀ (ch : List Int) (o : List Ev), possS read n o = [] → ch.foldl (runStep read n) o = o := by
  intro ch
  induction ch with
  | nil => intro o _; rfl
  | cons c ch ih =>
    intro o h
    have e : runStep read n o c = o := by unfold runStep pickE; rw [h]; rfl
    rw [List.foldl_cons, e]; exact ih o h
theorem runTo_stop {read : List (BitVec 16)} {n : Nat} {ch : List Int} {k : Nat} (h : possS read n (runTo read n ch k) = []) : runTo read n ch k = runS read n ch := by
  have e : runS read n ch = (ch.drop k).foldl (runStep read n) (runTo read n ch k) := by
    unfold runS runTo; rw [← List.foldl_append, List.take_append_drop]
  rw [e, run_stop _ _ h]
theorem run_good (read : List (BitVec 16)) (n : Nat) : ∀ (ch : List Int) (o : List Ev), Good read n o → Good read n (ch.foldl (runStep read n) o) := by
  intro ch
  induction ch with
  | nil => intro o h; exact h
  | cons c ch ih =>
    intro o h
    rw [List.foldl_cons]
    refine ih _ ?_
    unfold runStep pickE
    split
    · rename_i e he; exact .snoc h (poss_fol (List.mem_of_getElem? he))
    · exact h
theorem runTo_good (read : List (BitVec 16)) (n : Nat) (ch : List Int) (k : Nat) : Good read n (runTo read n ch k) := run_good read n _ _ .nil
theorem runStep_len (read : List (BitVec 16)) (n : Nat) (o : List Ev) (c : Int) : (runStep read n o c).length ≤ o.length + 1 := by
  unfold runStep; split
  · simp
  · omega
theorem runTo_len (read : List (BitVec 16)) (n : Nat) (ch : List Int) (k : Nat) : (runTo read n ch k).length ≤ k := by
  unfold runTo
  have : ∀ (l : List Int) (o : List Ev), (l.foldl (runStep read n) o).length ≤ o.length + l.length := by
    intro l
    induction l with
    | nil => intro o; simp
    | cons c l ih =>
      intro o
      rw [List.foldl_cons, List.length_cons]
      have := ih (runStep read n o c)
      have := runStep_len read n o c
      omega
  have := this (ch.take k) []
  rw [List.length_take] at this
  simp at this
  omega
/-- Check -/
def chkTo (read : List (BitVec 16)) (n : Nat) (l : List Ev) (k : Nat) : Bool := match l[k]? with
  | some e => folS read n (l.take k) e
  | none => false
def GoodTo (read : List (BitVec 16)) (n : Nat) (l : List Ev) (k : Nat) : Prop := ∀ j, j < k → chkTo read n l j = true
theorem goodTo_good {read : List (BitVec 16)} {n : Nat} {l : List Ev} : ∀ k, GoodTo read n l k → Good read n (l.take k) := by
  intro k
  induction k with
  | zero => intro _; rw [List.take_zero]; exact .nil
  | succ k ih =>
    intro h
    have h1 := ih fun j hj => h j (by omega)
    have h2 := h k (by omega)
    unfold chkTo at h2
    split at h2
    · rename_i e he
      rw [List.take_add_one, he]
      exact .snoc h1 h2
    · cases h2
theorem good_app {read : List (BitVec 16)} {n : Nat} : ∀ {l : List Ev}, Good read n l → GoodTo read n l l.length := by
  intro l h
  induction h with
  | nil => intro j hj; exact absurd hj (by simp)
  | snoc hg hf ih =>
    rename_i l e
    intro j hj
    rw [List.length_append, List.length_singleton] at hj
    unfold chkTo
    by_cases h1 : j < l.length
    · rw [List.getElem?_append_left h1, List.take_append_of_le_length (by omega)]
      exact ih j h1
    · obtain rfl : j = l.length := by omega
      rw [List.getElem?_append_right (Nat.le_refl _), Nat.sub_self, List.take_append_of_le_length (Nat.le_refl _), List.take_length]
      exact hf
def badAt (read : List (BitVec 16)) (n : Nat) (l : List Ev) : Option Nat := (List.range l.length).find? fun k => !chkTo read n l k
def chkR (read : List (BitVec 16)) (n : Nat) (l : List Ev) : Int × Int := match badAt read n l with
  | some k => ((k : Int), 0)
  | none => (0, 13)
theorem badAt_hit {read : List (BitVec 16)} {n : Nat} {l : List Ev} {k : Nat} (hk : k < l.length) (h : GoodTo read n l k) (hb : chkTo read n l k = false) : badAt read n l = some k := by
  obtain ⟨d, hd⟩ : ∃ d, l.length = k + (1 + d) := ⟨l.length - k - 1, by omega⟩
  unfold badAt
  rw [hd, List.range_add, List.find?_append, List.range_add, List.map_append]
  rw [List.find?_eq_none.2]
  · have e1 : List.map (fun x => k + x) (List.range 1) = [k] := by simp [List.range_succ]
    rw [e1]
    simp [hb]
  · intro x hx
    rw [h x (List.mem_range.1 hx)]; decide
theorem badAt_none {read : List (BitVec 16)} {n : Nat} {l : List Ev} (h : GoodTo read n l l.length) : badAt read n l = none := by
  unfold badAt
  rw [List.find?_eq_none]
  intro x hx
  rw [h x (List.mem_range.1 hx)]; decide
theorem chkR_safe {read : List (BitVec 16)} {n : Nat} {l : List Ev} (h : (chkR read n l).2 ≠ 0) : Good read n l := by
  unfold chkR at h
  split at h
  · exact absurd rfl h
  · rename_i hb
    unfold badAt at hb
    rw [List.find?_eq_none] at hb
    have : GoodTo read n l l.length := fun j hj => by
      have := hb j (List.mem_range.2 hj)
      simpa using this
    have := goodTo_good _ this
    rwa [List.take_length] at this
end Go.Proofs.YtmjgdnpfgkpaoaaGreatDoor
namespace Go.Proofs.YtmjgdnpfgkpaoaaGreatDoor
open Go.RowKit Go.Shelf

theorem shr_or (a b : BitVec 16) (m : Nat) : shrS (a ||| b) m = shrS a m ||| shrS b m := by
  apply BitVec.eq_of_getLsbD_eq
  intro i _
  simp [shrS]
theorem or_zero (a b : BitVec 16) : (a ||| b != 0#16) = ((a != 0#16) || (b != 0#16)) := by
  rw [Bool.eq_iff_iff, Bool.or_eq_true, bne_iff_ne, bne_iff_ne, bne_iff_ne]
  constructor
  · intro h
    by_cases ha : a = 0#16
    · right; intro hb; apply h; rw [ha, hb]; rfl
    · left; exact ha
  · intro h hc
    have h1 : ∀ i, i < 16 → a.getLsbD i = false ∧ b.getLsbD i = false := by
      intro i hi
      have := congrArg (fun x => x.getLsbD i) hc
      simpa using this
    rcases h with h | h
    · exact h (BitVec.eq_of_getLsbD_eq (fun i hi => by rw [(h1 i hi).1]; simp))
    · exact h (BitVec.eq_of_getLsbD_eq (fun i hi => by rw [(h1 i hi).2]; simp))
theorem shr_big (a : BitVec 16) (m : Nat) : (shrS a m != 0#16) = decide (2 ^ m ≤ a.toNat) := by
  rw [Bool.eq_iff_iff, bne_iff_ne, decide_eq_true_iff]
  have e : (shrS a m).toNat = a.toNat / 2 ^ m := by unfold shrS; rw [BitVec.toNat_ushiftRight, Nat.shiftRight_eq_div_pow]
  have hp : 0 < 2 ^ m := Nat.two_pow_pos m
  constructor
  · intro h
    apply Classical.byContradiction
    intro hc
    apply h
    apply BitVec.eq_of_toNat_eq
    rw [e, Nat.div_eq_of_lt (by omega)]; rfl
  · intro h hc
    rw [hc] at e
    have := Nat.div_pos h hp
    have e0 : (0#16).toNat = 0 := rfl
    omega
theorem off_or (f g : List (BitVec 16)) (m : Nat) : (offB m f || offB m g) = decide (2 ^ m ≤ (supS f ||| supS g).toNat) := by
  unfold offB
  rw [← or_zero, ← shr_or, shr_big]
theorem valS_sorted {f : List (BitVec 16)} (h : valS f = 0) : ∀ j, j < f.length → e1 f j = 0 := by
  unfold valS at h
  split at h
  · cases h
  · split at h
    · rename_i h1 h2; exact absurd h h2
    · rename_i h1 h2
      exact firstE_zero _ _ (by simpa using h2)
theorem hasZ_first {f : List (BitVec 16)} (h : valS f = 0) : hasZ f = (decide (0 < f.length) && (f.getD 0 0#16 == 0#16)) := by
  rw [Bool.eq_iff_iff, Bool.and_eq_true, decide_eq_true_iff, beq_iff_eq]
  constructor
  · intro hz
    unfold hasZ at hz
    obtain ⟨x, hx, hp⟩ := List.any_eq_true.1 hz
    obtain ⟨i, hi, rfl⟩ := List.mem_iff_getElem.1 hx
    have h0 : f[i] = 0#16 := (eq_of_beq hp).symm
    refine ⟨by omega, ?_⟩
    by_cases hi0 : i = 0
    · subst hi0; rw [getD_at hi]; exact h0
    · have := sorted_mono (valS_sorted h) 0 i (by omega) hi
      rw [getD_at hi, h0] at this
      have e : keyS 0#16 = 0 := by decide
      omega
  · rintro ⟨h1, h2⟩
    unfold hasZ
    exact List.any_eq_true.2 ⟨f.getD 0 0#16, by rw [getD_at h1]; exact List.getElem_mem h1, by rw [h2]; rfl⟩

theorem chk2 (m : Nat) (h1 : 1 ≤ m) (h2 : m ≤ 12) (f g : List (BitVec 16)) : chkS m [f, g] = if valS f ≠ 0 then valS f else if valS g ≠ 0 then valS g else if offB m f || offB m g then 7 else if hasZ f || hasZ g then 9 else 0 := by
  unfold chkS
  rw [if_neg (by omega)]
  have e : firstE (fun j => valS ([f, g].getD j [])) [f, g].length = if valS f ≠ 0 then valS f else valS g := by
    by_cases hf : valS f = 0
    · rw [if_neg (by simpa using hf)]
      by_cases hg : valS g = 0
      · rw [hg]; exact firstE_none _ _ (fun j hj => by
          match j, hj with
          | 0, _ => exact hf
          | 1, _ => exact hg)
      · exact firstE_hit (fun j => valS ([f, g].getD j [])) 2 1 (by decide) (fun j hj => by
          match j, hj with
          | 0, _ => exact hf) hg
    · rw [if_pos hf]
      exact firstE_hit (fun j => valS ([f, g].getD j [])) 2 0 (by decide) (fun j hj => by omega) hf
  rw [e]
  have hm : ((m : Nat) : Int).toNat = m := by omega
  by_cases hf : valS f = 0
  · by_cases hg : valS g = 0
    · simp [hf, hg, hm]
    · simp [hf, hg]
  · simp [hf]

end Go.Proofs.YtmjgdnpfgkpaoaaGreatDoor
namespace Go.Proofs.YtmjgdnpfgkpaoaaGreatDoor

theorem supS_has' {l : List (BitVec 16)} {i : Nat} : hasB (supS l) i = true ↔ ∃ x ∈ l, hasB x i = true := by
  have : ∀ (l : List (BitVec 16)) (o : BitVec 16), hasB (l.foldl (· ||| ·) o) i = true ↔ hasB o i = true ∨ ∃ x ∈ l, hasB x i = true := by
    intro l
    induction l with
    | nil => intro o; simp
    | cons y l ih =>
      intro o
      rw [List.foldl_cons, ih, hasB_or, Bool.or_eq_true]
      constructor
      · rintro ((h | h) | ⟨x, hx, h⟩)
        · exact .inl h
        · exact .inr ⟨y, List.mem_cons_self .., h⟩
        · exact .inr ⟨x, List.mem_cons_of_mem _ hx, h⟩
      · rintro (h | ⟨x, hx, h⟩)
        · exact .inl (.inl h)
        · rcases List.mem_cons.1 hx with rfl | hx
          · exact .inl (.inr h)
          · exact .inr ⟨x, hx, h⟩
  unfold supS
  rw [this]
  simp [hasB]
theorem off_lt {m : Nat} {f : List (BitVec 16)} (h : offB m f = false) {x : BitVec 16} (hx : x ∈ f) {i : Nat} (hi : hasB x i = true) : i < m := by
  unfold offB at h
  rw [shr_big, decide_eq_false_iff_not] at h
  apply Classical.byContradiction
  intro hge
  have h1 : hasB (supS f) i = true := supS_has'.2 ⟨x, hx, hi⟩
  rw [hasB_nat] at h1
  have h2 := Nat.ge_two_pow_of_testBit h1
  have h3 : 2 ^ m ≤ 2 ^ i := Nat.pow_le_pow_right (by decide) (by omega)
  omega
theorem chk2_ok {m : Nat} (hm : m ≤ 12) {f g : List (BitVec 16)} (h : chkS m [f, g] = 0) : 1 ≤ m ∧ valS f = 0 ∧ valS g = 0 ∧ (∀ x ∈ f, ∀ i, hasB x i = true → i < m) ∧ (∀ x ∈ g, ∀ i, hasB x i = true → i < m) ∧ hasZ f = false ∧ hasZ g = false := by
  by_cases h1 : 1 ≤ m
  · rw [chk2 m h1 hm] at h
    by_cases hf : valS f = 0
    · rw [if_neg (by rw [hf]; decide)] at h
      by_cases hg : valS g = 0
      · rw [if_neg (by rw [hg]; decide)] at h
        cases ho : (offB m f || offB m g)
        · rw [ho, if_neg (by decide)] at h
          cases hz : (hasZ f || hasZ g)
          · rw [Bool.or_eq_false_iff] at ho hz
            exact ⟨h1, hf, hg, fun x hx i hi => off_lt ho.1 hx hi, fun x hx i hi => off_lt ho.2 hx hi, hz.1, hz.2⟩
          · rw [hz, if_pos rfl] at h; cases h
        · rw [ho, if_pos rfl] at h; cases h
      · rw [if_pos hg] at h; exact absurd h hg
    · rw [if_pos hf] at h; exact absurd h hf
  · exfalso
    unfold chkS at h
    rw [if_pos (by omega)] at h; cases h
theorem zero_not {f : List (BitVec 16)} (h : hasZ f = false) {x : BitVec 16} (hx : x ∈ f) : ∃ i, hasB x i = true := by
  apply Classical.byContradiction
  intro hn
  have h0 : x = 0#16 := hasB_ext fun p _ => by
    rw [hasB_zero]
    cases hq : hasB x p
    · rfl
    · exact absurd ⟨p, hq⟩ hn
  unfold hasZ at h
  rw [List.any_eq_false] at h
  exact h x hx (by rw [h0]; rfl)

/-! promises, one behind another -/
theorem evP_fol {read : List (BitVec 16)} {m : Nat} {l : List Ev} {b s : Nat} (hb : 1 ≤ b) (hs : s < m) (hp : (atS (repA m l) s).prom < b) : folS read m l (evP b s) = true := by
  unfold folS
  rw [if_neg (by show ¬ ((s : Int) < 0 ∨ (m : Int) ≤ (s : Int) ∨ (b : Int) < 1); omega), if_pos (show (evP b s).kind = 1 from rfl), Bool.and_eq_true]
  exact ⟨decide_eq_true hp, by show emB ⟨#[]⟩ = true; decide +kernel⟩
theorem evP_step {read : List (BitVec 16)} {m : Nat} (hm : m ≤ 12) {l : List Ev} {b s : Nat} (hg : Good read m l) (hb : 1 ≤ b) (hs : s < m) (hp : (atS (repA m l) s).prom < b) :
    Good read m (l ++ [evP b s]) ∧ stOf m (l ++ [evP b s]) = addP1 (stOf m l) (evP b s) := by
  have hf := evP_fol (read := read) hb hs hp
  refine ⟨.snoc hg hf, ?_⟩
  have h2 := (fol_step hm (good_inv hm hg) hf).2
  unfold addP at h2
  rw [if_neg (by show ¬ ((s : Int) < 0 ∨ ((repA m l).length : Int) ≤ (s : Int) ∨ (b : Int) < 1); rw [repA_len]; omega), if_pos (show (evP b s).kind = 1 from rfl), if_pos] at h2
  · exact (Option.some.inj h2).symm
  · rw [Bool.and_eq_true]; exact ⟨decide_eq_true hp, by show emB ⟨#[]⟩ = true; decide +kernel⟩
theorem prom_run {read : List (BitVec 16)} {m : Nat} (hm : m ≤ 12) {b : Nat} (hb : 1 ≤ b) : ∀ (P : List Nat) (l : List Ev), Good read m l → P.Nodup → (∀ s ∈ P, s < m ∧ (atS (repA m l) s).prom < b) →
    Good read m (l ++ P.map (evP b)) ∧ (∀ t : Nat, atS (repA m (l ++ P.map (evP b))) t = if t ∈ P then { atS (repA m l) t with prom := b } else atS (repA m l) t) ∧
    repS m (l ++ P.map (evP b)) b = repS m l b ++ P.map (fun (s : Nat) => repOf s (atS (repA m l) s)) ∧ (∀ b', b' ≠ (b : Int) → repS m (l ++ P.map (evP b)) b' = repS m l b') ∧ ∀ b', valF (l ++ P.map (evP b)) b' = valF l b' := by
  intro P
  induction P with
  | nil => intro l hg _ _; simp [hg]
  | cons s P ih =>
    intro l hg hnd hP
    obtain ⟨hs, hp⟩ := hP s (List.mem_cons_self ..)
    obtain ⟨hg1, hst⟩ := evP_step hm hg hb hs hp
    have hnd1 := (List.nodup_cons.1 hnd)
    have hne : ∀ t, t ∈ P → t ≠ s := fun t ht e => hnd1.1 (by rw [← e]; exact ht)
    have hacc : repA m (l ++ [evP b s]) = (repA m l).set s { atS (repA m l) s with prom := b } := by
      have := congrArg St.acc hst; exact this
    have hat : ∀ t : Nat, atS (repA m (l ++ [evP b s])) t = if t = s then { atS (repA m l) s with prom := b } else atS (repA m l) t := by
      intro t
      rw [hacc]
      have := atS_set (l := repA m l) (s := (s : Int)) (t := (t : Int)) (a := { atS (repA m l) s with prom := b }) (by omega) (by rw [repA_len]; omega) (by omega)
      rw [show ((s : Int)).toNat = s by omega] at this
      rw [this]
      by_cases h : t = s
      · rw [if_pos (by omega), if_pos h]
      · rw [if_neg (by omega), if_neg h]
    have hrep : ∀ b', repS m (l ++ [evP b s]) b' = (setF (repS m l) b (repS m l b ++ [repOf s (atS (repA m l) s)])) b' := by
      intro b'; have := congrFun (congrArg St.rep hst) b'; exact this
    have hval : ∀ b', valF (l ++ [evP b s]) b' = valF l b' := by
      intro b'; have := congrFun (congrArg St.vals hst) b'; exact this
    obtain ⟨i1, i2, i3, i4, i5⟩ := ih (l ++ [evP b s]) hg1 hnd1.2 (fun t ht => by
      refine ⟨(hP t (List.mem_cons_of_mem _ ht)).1, ?_⟩
      rw [hat t, if_neg (hne t ht)]
      exact (hP t (List.mem_cons_of_mem _ ht)).2)
    have e : l ++ (s :: P).map (evP b) = l ++ [evP b s] ++ P.map (evP b) := by simp
    rw [e]
    refine ⟨i1, fun t => ?_, ?_, fun b' hb' => ?_, fun b' => ?_⟩
    · rw [i2 t, hat t]
      by_cases h1 : t ∈ P
      · rw [if_pos h1, if_pos (List.mem_cons_of_mem _ h1), if_neg (hne t h1)]
      · rw [if_neg h1]
        by_cases h2 : t = s
        · subst h2; rw [if_pos rfl, if_pos (List.mem_cons_self ..)]
        · rw [if_neg h2, if_neg (by simp [h1, h2])]
    · rw [i3, hrep]
      unfold setF
      rw [if_pos rfl, List.map_cons, List.append_assoc]
      congr 1
      rw [List.singleton_append]
      congr 1
      refine List.map_congr_left fun t ht => ?_
      rw [hat t, if_neg (hne t ht)]
    · rw [i4 b' hb', hrep]; unfold setF; rw [if_neg hb']
    · rw [i5, hval]

/-! acceptances, one behind another -/
theorem evW_step {read : List (BitVec 16)} {m : Nat} (hm : m ≤ 12) {l : List Ev} {b s : Nat} {v : ByteArray} (hg : Good read m l) (hb : 1 ≤ b) (hs : s < m) (hp : (atS (repA m l) s).prom ≤ b) (hv : emB v = false) (hok : okD (demS read m l b) v = true) :
    Good read m (l ++ [evW b s v]) ∧ stOf m (l ++ [evW b s v]) = addP2 (stOf m l) (evW b s v) := by
  have hac : accpB (atS (repA m l) s) b = true := by unfold accpB; rw [Bool.and_eq_true]; exact ⟨decide_eq_true (by omega), decide_eq_true hp⟩
  have hf : folS read m l (evW b s v) = true := by
    unfold folS
    rw [if_neg (by show ¬ ((s : Int) < 0 ∨ (m : Int) ≤ (s : Int) ∨ (b : Int) < 1); omega), if_neg (show ¬ (evW b s v).kind = 1 by show ¬ (2 : Int) = 1; decide), if_pos (show (evW b s v).kind = 2 from rfl)]
    show (accpB (atS (repA m l) s) b && !emB v && okD (demS read m l b) v) = true
    rw [hac, hv, hok]; rfl
  refine ⟨.snoc hg hf, ?_⟩
  have hi := good_inv hm hg
  have h2 := (fol_step hm hi hf).2
  unfold addP at h2
  rw [if_neg (by show ¬ ((s : Int) < 0 ∨ ((repA m l).length : Int) ≤ (s : Int) ∨ (b : Int) < 1); rw [repA_len]; omega), if_neg (show ¬ (evW b s v).kind = 1 by show ¬ (2 : Int) = 1; decide), if_pos (show (evW b s v).kind = 2 from rfl), if_pos] at h2
  · exact (Option.some.inj h2).symm
  · rw [okP_okD hi (by show (1 : Int) ≤ (b : Int); omega)]
    show (accpB (atS (repA m l) s) b && !emB v && okD (demS read m l b) v) = true
    rw [hac, hv, hok]; rfl
theorem okD_same {v u : ByteArray} (h : okD (u, 0) v = true) : u = v := by
  unfold okD at h
  simp only [show decide ((0 : Int) = 4) = false by decide, Bool.false_or, decide_true, Bool.true_and] at h
  exact bs_ext (eq_of_beq h)
theorem acc_run {read : List (BitVec 16)} {m : Nat} (hm : m ≤ 12) {b : Nat} (hb : 1 ≤ b) {v : ByteArray} (hv : emB v = false) : ∀ (P : List Nat) (l : List Ev), Good read m l → P.Nodup → (∀ s ∈ P, s < m ∧ (atS (repA m l) s).prom ≤ b) → okD (demS read m l b) v = true →
    Good read m (l ++ P.map (fun s => evW b s v)) ∧ (∀ t : Nat, atS (repA m (l ++ P.map (fun s => evW b s v))) t = if t ∈ P then ⟨b, b, v⟩ else atS (repA m l) t) ∧
    (∀ b', repS m (l ++ P.map (fun s => evW b s v)) b' = repS m l b') ∧ (∀ b', b' ≠ (b : Int) → valF (l ++ P.map (fun s => evW b s v)) b' = valF l b') := by
  intro P
  induction P with
  | nil => intro l hg _ _ _; simp [hg]
  | cons s P ih =>
    intro l hg hnd hP hok
    obtain ⟨hs, hp⟩ := hP s (List.mem_cons_self ..)
    obtain ⟨hg1, hst⟩ := evW_step hm hg hb hs hp hv hok
    have hnd1 := (List.nodup_cons.1 hnd)
    have hne : ∀ t, t ∈ P → t ≠ s := fun t ht e => hnd1.1 (by rw [← e]; exact ht)
    have hacc : repA m (l ++ [evW b s v]) = (repA m l).set s ⟨b, b, v⟩ := by
      have := congrArg St.acc hst; exact this
    have hat : ∀ t : Nat, atS (repA m (l ++ [evW b s v])) t = if t = s then ⟨b, b, v⟩ else atS (repA m l) t := by
      intro t
      rw [hacc]
      have := atS_set (l := repA m l) (s := (s : Int)) (t := (t : Int)) (a := ⟨b, b, v⟩) (by omega) (by rw [repA_len]; omega) (by omega)
      rw [show ((s : Int)).toNat = s by omega] at this
      rw [this]
      by_cases h : t = s
      · rw [if_pos (by omega), if_pos h]
      · rw [if_neg (by omega), if_neg h]
    have hrep : ∀ b', repS m (l ++ [evW b s v]) b' = repS m l b' := by
      intro b'; have := congrFun (congrArg St.rep hst) b'; exact this
    have hval : ∀ b', valF (l ++ [evW b s v]) b' = (setF (valF l) b (some v)) b' := by
      intro b'; have := congrFun (congrArg St.vals hst) b'; exact this
    have hok1 : okD (demS read m (l ++ [evW b s v]) b) v = true := by
      unfold demS
      rw [hval]
      unfold setF
      rw [if_pos rfl]
      unfold okD; simp
    obtain ⟨i1, i2, i3, i4⟩ := ih (l ++ [evW b s v]) hg1 hnd1.2 (fun t ht => by
      refine ⟨(hP t (List.mem_cons_of_mem _ ht)).1, ?_⟩
      rw [hat t, if_neg (hne t ht)]
      exact (hP t (List.mem_cons_of_mem _ ht)).2) hok1
    have e : l ++ (s :: P).map (fun s => evW b s v) = l ++ [evW b s v] ++ P.map (fun s => evW b s v) := by simp
    rw [e]
    refine ⟨i1, fun t => ?_, fun b' => ?_, fun b' hb' => ?_⟩
    · rw [i2 t, hat t]
      by_cases h1 : t ∈ P
      · rw [if_pos h1, if_pos (List.mem_cons_of_mem _ h1)]
      · rw [if_neg h1]
        by_cases h2 : t = s
        · subst h2; rw [if_pos rfl, if_pos (List.mem_cons_self ..)]
        · rw [if_neg h2, if_neg (by simp [h1, h2])]
    · rw [i3 b', hrep]
    · rw [i4 b' hb', hval]; unfold setF; rw [if_neg hb']

/-- reports without a value leave the choice free -/
theorem best_zero : ∀ (l : List Rep), (∀ r ∈ l, r.ballot = 0) → bestR l = (0, ⟨#[]⟩) := by
  intro l h
  unfold bestR
  have : ∀ l : List Rep, (∀ r ∈ l, r.ballot = 0) → l.foldl stepR (0, ⟨#[]⟩) = (0, ⟨#[]⟩) := by
    intro l
    induction l with
    | nil => intro _; rfl
    | cons r l ih =>
      intro h
      rw [List.foldl_cons]
      have : stepR (0, ⟨#[]⟩) r = (0, ⟨#[]⟩) := by unfold stepR; rw [if_neg (by rw [h r (List.mem_cons_self ..)]; decide)]
      rw [this]; exact ih fun x hx => h x (List.mem_cons_of_mem _ hx)
  exact this l h
theorem dem_free {read : List (BitVec 16)} {m : Nat} (hm : m ≤ 12) {l : List Ev} {b : Nat} (acc1 : List Acc) (hg : Good read m l) (hb : 1 ≤ b) (hv : valF l b = none) {q : BitVec 16} (hq : q ∈ read) (hqm : ∀ i, hasB q i = true → i < m)
    (hr : repS m l b = (memS q).map fun (s : Nat) => repOf s (atS acc1 s)) (hz : ∀ s : Nat, hasB q s = true → (atS acc1 s).bal = 0) (v : ByteArray) : okD (demS read m l b) v = true := by
  have hi := good_inv hm hg
  have hs : ∀ r ∈ repS m l b, 0 ≤ r.server ∧ r.server < 12 := fun r hr => by have := hi.rep b r hr; omega
  have hacc : accS read (seenR (repS m l b)) = true := by
    unfold accS
    rw [List.any_eq_true]
    refine ⟨q, hq, (subB_iff _ _).2 fun i hiq => ?_⟩
    have hmem : repOf (i : Int) (atS acc1 i) ∈ repS m l b := by rw [hr]; exact List.mem_map.2 ⟨i, mem_memS.2 hiq, rfl⟩
    have := seen_has (repS m l b) 0#16 _ hs hmem
    unfold repOf at this
    simpa [seenR] using this
  have hbest : bestR (repS m l b) = (0, ⟨#[]⟩) := best_zero _ fun r hrr => by
    rw [hr] at hrr
    obtain ⟨s, hs1, rfl⟩ := List.mem_map.1 hrr
    exact hz s (mem_memS.1 hs1)
  have hd : demS read m l b = (⟨#[]⟩, 4) := by
    unfold demS
    rw [hv]
    show pickS read b (repS m l b) = _
    unfold pickS
    rw [if_neg (by omega), hi.seen b, if_neg (by decide), hacc, if_neg (by decide), hbest, if_pos rfl]
  rw [hd]; unfold okD; simp

theorem evA_evW (b : Nat) : evA b = fun s => evW b s (valB b) := rfl
theorem memS_nd (x : BitVec 16) : (memS x).Nodup := (memS_sorted x).imp fun h => Nat.ne_of_lt h
theorem att_good {read write : List (BitVec 16)} {m : Nat} (hm : m ≤ 12) (hchk : chkS m [read, write] = 0) {r w : BitVec 16} (hd : disS read write = some (r, w)) : Good read m (atkTo (read.getD 0 0#16) r w 2) := by
  obtain ⟨h1, _, _, hrd, hwr, _, _⟩ := chk2_ok hm hchk
  obtain ⟨hr, hw, hrw⟩ := dis_mem hd
  have hq0 : read.getD 0 0#16 ∈ read := by
    have hp := List.length_pos_of_mem hr
    rw [List.getD_eq_getElem?_getD, List.getElem?_eq_getElem hp]
    exact List.getElem_mem hp
  obtain ⟨q0, hq⟩ : ∃ q, read.getD 0 0#16 = q := ⟨_, rfl⟩
  rw [hq] at hq0 ⊢
  have hrep0 : ∀ t : Nat, atS (repA m []) t = acc0 := by
    intro t
    show (List.replicate m acc0).getD ((t : Int)).toNat acc0 = acc0
    rw [List.getD_eq_getElem?_getD, List.getElem?_replicate]; split <;> rfl
  have hnot : ∀ t, t ∈ memS r → t ∉ memS w := by
    intro t h1 h2
    have h3 := mem_memS.1 h1
    have h4 := mem_memS.1 h2
    have h5 : hasB (r &&& w) t = true := by rw [hasB_and, h3, h4]; rfl
    rw [eq_of_beq hrw, hasB_zero] at h5; cases h5
  obtain ⟨a1, a2, a3, a4, a5⟩ := prom_run (read := read) hm (b := 1) (Nat.le_refl _) (memS q0) [] .nil (memS_nd _) (fun s hs => ⟨hrd q0 hq0 s (mem_memS.1 hs), by rw [hrep0]; decide⟩)
  obtain ⟨l1, hl1⟩ : ∃ l, [] ++ (memS q0).map (evP 1) = l := ⟨_, rfl⟩
  rw [hl1] at a1 a2 a3 a4 a5
  have a2p : ∀ t : Nat, (atS (repA m l1) t).prom ≤ 1 ∧ (atS (repA m l1) t).bal = 0 := by
    intro t; rw [a2 t, hrep0]; split
    · exact ⟨Int.le_refl _, rfl⟩
    · decide
  have d1 := dem_free hm (repA m []) a1 (b := 1) (Nat.le_refl _) (by rw [a5]; rfl) hq0 (hrd q0 hq0) (by rw [a3]; rfl) (fun s _ => by rw [hrep0]; rfl) (valB 1)
  obtain ⟨b1, b2, b3, b4⟩ := acc_run hm (b := 1) (Nat.le_refl _) (valB_em 1) (memS w) l1 a1 (memS_nd _) (fun s hs => ⟨hwr w hw s (mem_memS.1 hs), (a2p s).1⟩) d1
  rw [← evA_evW] at b1 b2 b3 b4
  obtain ⟨l2, hl2⟩ : ∃ l, l1 ++ (memS w).map (evA 1) = l := ⟨_, rfl⟩
  rw [hl2] at b1 b2 b3 b4
  have b2p : ∀ t : Nat, (atS (repA m l2) t).prom ≤ 1 := by
    intro t; rw [b2 t]; split
    · exact Int.le_refl _
    · exact (a2p t).1
  obtain ⟨c1, c2, c3, c4, c5⟩ := prom_run (read := read) hm (b := 2) (by omega) (memS r) l2 b1 (memS_nd _) (fun s hs => ⟨hrd r hr s (mem_memS.1 hs), by have := b2p s; omega⟩)
  obtain ⟨l3, hl3⟩ : ∃ l, l2 ++ (memS r).map (evP 2) = l := ⟨_, rfl⟩
  rw [hl3] at c1 c2 c3 c4 c5
  have e2 : repS m l2 (2 : Nat) = [] := by rw [b3, a4 (2 : Nat) (by omega)]; rfl
  have d2 := dem_free hm (repA m l2) c1 (b := 2) (by omega) (by rw [c5, b4 (2 : Nat) (by omega), a5]; rfl) hr (hrd r hr) (by rw [c3, e2]; rfl) (fun s hs => by
    rw [b2 s, if_neg (hnot s (mem_memS.2 hs))]; exact (a2p s).2) (valB 2)
  obtain ⟨g1, _, _, _⟩ := acc_run hm (b := 2) (by omega) (valB_em 2) (memS w) l3 c1 (memS_nd _) (fun s hs => ⟨hwr w hw s (mem_memS.1 hs), by
    rw [c2 s]; split
    · exact Int.le_refl _
    · have := b2p s; omega⟩) d2
  rw [← evA_evW] at g1
  have e : atkTo q0 r w 2 = l3 ++ (memS w).map (evA 2) := by
    rw [← hl3, ← hl2, ← hl1]
    show blkS q0 w 1 ++ blkS r w 2 = _
    unfold blkS
    simp
  rw [e]; exact g1

theorem att_chosen {read write : List (BitVec 16)} {m : Nat} (hm : m ≤ 12) (hchk : chkS m [read, write] = 0) {r w : BitVec 16} (hd : disS read write = some (r, w)) (q0 : BitVec 16) : chrS write m (atkTo q0 r w 2) = [(valB 1).toList, (valB 2).toList] := by
  obtain ⟨h1, _, _, hrd, hwr, _, hzw⟩ := chk2_ok hm hchk
  obtain ⟨hr, hw, hrw⟩ := dis_mem hd
  have hin : ∀ (b s : Nat) (u : Nat), u = 1 ∨ u = 2 → s ∈ memS w → evA u s ∈ atkTo q0 r w 2 := by
    intro b s u hu hs
    show evA u s ∈ blkS q0 w 1 ++ blkS r w 2
    rcases hu with rfl | rfl
    · exact List.mem_append_left _ (List.mem_append_right _ (List.mem_map.2 ⟨s, hs, rfl⟩))
    · exact List.mem_append_right _ (List.mem_append_right _ (List.mem_map.2 ⟨s, hs, rfl⟩))
  have hv : ∀ e ∈ atkTo q0 r w 2, e.kind = 2 → e.value = valB 1 ∨ e.value = valB 2 := by
    intro e he hk
    have he2 : e ∈ blkS q0 w 1 ++ blkS r w 2 := he
    unfold blkS at he2
    rcases List.mem_append.1 he2 with h | h <;> rcases List.mem_append.1 h with h | h <;> obtain ⟨s, _, rfl⟩ := List.mem_map.1 h
    · exact absurd hk (show ¬ (1 : Int) = 2 by decide)
    · exact .inl rfl
    · exact absurd hk (show ¬ (1 : Int) = 2 by decide)
    · exact .inr rfl
  obtain ⟨i, hi⟩ := zero_not hzw hw
  have hch : ∀ u, u = 1 ∨ u = 2 → (valB u).toList ∈ chrS write m (atkTo q0 r w 2) := by
    intro u hu
    rw [chrS_mem]
    have him := hwr w hw i hi
    have hinB : ∀ s : Nat, s < m → inB m (s : Int) = true := fun s hs => by unfold inB; rw [Bool.and_eq_true]; exact ⟨decide_eq_true (by omega), decide_eq_true (by omega)⟩
    refine ⟨evA u i, hin 0 i u hu (mem_memS.2 hi), ?_, ?_, rfl⟩
    · unfold accI
      rw [show (evA u i).server = (i : Int) from rfl, hinB i him]; rfl
    · unfold accS
      rw [List.any_eq_true]
      refine ⟨w, hw, (subB_iff _ _).2 fun s hs => ?_⟩
      rw [byS_has (by omega)]
      refine ⟨evA u s, hin 0 s u hu (mem_memS.2 hs), ?_, rfl⟩
      unfold isV
      rw [show (evA u s).server = (s : Int) from rfl, hinB s (hwr w hw s hs), Bool.and_true, Bool.and_eq_true, Bool.and_eq_true]
      exact ⟨⟨decide_eq_true rfl, decide_eq_true rfl⟩, by rw [show (evA u s).value = (evA u i).value from rfl]; exact beq_self_eq_true _⟩
  refine asc_ext _ _ (chrS_asc write m _) ?_ fun x => ?_
  · rw [List.pairwise_cons]
    refine ⟨fun y hy => ?_, List.pairwise_singleton _ _⟩
    rw [List.mem_singleton] at hy; subst hy
    have e1 : (valB 1).toList = [118, 49] := by unfold valB; rw [bs_list]; decide +kernel
    have e2 : (valB 2).toList = [118, 50] := by unfold valB; rw [bs_list]; decide +kernel
    rw [e1, e2]; decide
  · constructor
    · intro hx
      rw [chrS_mem] at hx
      obtain ⟨e, he, ha, _, rfl⟩ := hx
      unfold accI at ha
      rw [Bool.and_eq_true, decide_eq_true_iff] at ha
      rcases hv e he ha.1 with h | h <;> rw [h] <;> simp
    · intro hx
      rcases List.mem_cons.1 hx with rfl | hx
      · exact hch 1 (.inl rfl)
      · rw [List.mem_singleton] at hx; subst hx; exact hch 2 (.inr rfl)
end Go.Proofs.YtmjgdnpfgkpaoaaGreatDoor
namespace Go.Proofs.YtmjgdnpfgkpaoaaGreatDoor
open Go.RowKit Go.Shelf

theorem subs_asc (x : BitVec 16) : (subsS x).Pairwise Rk := by
  rw [subsM_dep, List.pairwise_flatMap]
  have hc : ∀ (k : Int) (n : Nat), n ∈ numsTo k (2 ^ cnt x) → n < 2 ^ cnt x ∧ ((cnt (dep (memS x) n) : Nat) : Int) = k := by
    intro k n hn
    have h1 := List.mem_filter.1 hn
    have h2 := List.mem_range.1 h1.1
    refine ⟨h2, ?_⟩
    rw [cnt_dep (memS x) (memS_16 x) (memS_sorted x) n]
    have h3 := eq_of_beq h1.2
    rw [popR_32 x n h2] at h3
    exact h3
  refine ⟨fun k _ => ?_, ?_⟩
  · rw [List.pairwise_map]
    refine List.Pairwise.imp_of_mem (fun {a b} ha hb hab => ?_) (numsTo_sorted (k : Int) (2 ^ cnt x))
    have hA := hc _ _ ha
    have hB := hc _ _ hb
    have := dep_mono (memS x) (memS_16 x) (memS_sorted x) a b hab hB.1
    unfold Rk keyS; omega
  · refine List.Pairwise.imp (fun {a b} hab s hs t ht => ?_) List.pairwise_lt_range
    obtain ⟨n, hn, rfl⟩ := List.mem_map.1 hs
    obtain ⟨m, hm, rfl⟩ := List.mem_map.1 ht
    have hA := hc _ _ hn
    have hB := hc _ _ hm
    unfold Rk keyS
    have := (dep (memS x) n).isLt
    omega
theorem dual_acc (f : List (BitVec 16)) : ∀ (l o : List (BitVec 16)) (s : BitVec 16), (accS o s = true ∨ (s ∈ l ∧ hitU f s = true)) → accS (l.foldl (dualSt f) o) s = true := by
  intro l
  induction l with
  | nil =>
    intro o s h
    rcases h with h | ⟨h, _⟩
    · exact h
    · cases h
  | cons y l ih =>
    intro o s h
    rw [List.foldl_cons]
    refine ih _ s ?_
    have hm : accS o s = true → accS (dualSt f o y) s = true := fun h => by
      unfold dualSt
      split
      · exact h
      · split
        · unfold accS at h ⊢; rw [List.any_append, h]; rfl
        · exact h
    rcases h with h | ⟨h, h2⟩
    · exact .inl (hm h)
    · rcases List.mem_cons.1 h with rfl | h
      · refine .inl ?_
        unfold dualSt
        split
        · assumption
        · unfold accS
          rw [List.any_append, List.any_cons, subB_self]
          simp
      · exact .inr ⟨h, h2⟩
theorem dual_fold (f : List (BitVec 16)) : ∀ (l o : List (BitVec 16)), l.Pairwise Rk → o.Pairwise Rs → (∀ a ∈ o, ∀ b ∈ l, keyS a < keyS b) → (l.foldl (dualSt f) o).Pairwise Rs ∧ (∀ x ∈ l.foldl (dualSt f) o, x ∈ o ∨ (x ∈ l ∧ hitU f x = true)) ∧ (l.foldl (dualSt f) o).length ≤ o.length + l.length := by
  intro l
  induction l with
  | nil => intro o _ h2 _; exact ⟨h2, fun x hx => .inl hx, by simp⟩
  | cons y l ih =>
    intro o h1 h2 h3
    rw [List.pairwise_cons] at h1
    rw [List.foldl_cons]
    have hsame : dualSt f o y = o → ((l.foldl (dualSt f) (dualSt f o y)).Pairwise Rs ∧ (∀ x ∈ l.foldl (dualSt f) (dualSt f o y), x ∈ o ∨ (x ∈ y :: l ∧ hitU f x = true)) ∧ (l.foldl (dualSt f) (dualSt f o y)).length ≤ o.length + (y :: l).length) := fun e => by
      rw [e]
      obtain ⟨g1, g2, g3⟩ := ih o h1.2 h2 fun a ha b hb => h3 a ha b (List.mem_cons_of_mem _ hb)
      refine ⟨g1, fun x hx => ?_, by rw [List.length_cons]; omega⟩
      rcases g2 x hx with h | ⟨h, h'⟩
      · exact .inl h
      · exact .inr ⟨List.mem_cons_of_mem _ h, h'⟩
    cases ha : accS o y
    · cases hh : hitU f y
      · exact hsame (by unfold dualSt; rw [ha, hh]; simp)
      · have e : dualSt f o y = o ++ [y] := by unfold dualSt; rw [ha, hh]; simp
        rw [e]
        obtain ⟨g1, g2, g3⟩ := ih (o ++ [y]) h1.2 (by
          rw [List.pairwise_append]
          refine ⟨h2, List.pairwise_singleton _ _, fun a ham b hb => ?_⟩
          rw [List.mem_singleton] at hb; subst hb
          refine ⟨h3 a ham b (List.mem_cons_self ..), ?_⟩
          cases hs : subB b a
          · rfl
          · have : accS o b = true := List.any_eq_true.2 ⟨a, ham, hs⟩
            rw [ha] at this; cases this) (by
          intro a ham b hb
          rcases List.mem_append.1 ham with h | h
          · exact h3 a h b (List.mem_cons_of_mem _ hb)
          · rw [List.mem_singleton] at h; subst h; exact h1.1 b hb)
        refine ⟨g1, fun x hx => ?_, by rw [List.length_append] at g3; simp at g3 ⊢; omega⟩
        rcases g2 x hx with h | ⟨h, h'⟩
        · rcases List.mem_append.1 h with h | h
          · exact .inl h
          · rw [List.mem_singleton] at h; subst h; exact .inr ⟨List.mem_cons_self .., hh⟩
        · exact .inr ⟨List.mem_cons_of_mem _ h, h'⟩
    · exact hsame (by unfold dualSt; rw [ha]; simp)
theorem dualU_good (f : List (BitVec 16)) : (dualU f).Pairwise Rs ∧ (∀ x ∈ dualU f, x ∈ subsS (supS f) ∧ hitU f x = true) ∧ (dualU f).length ≤ 2 ^ cnt (supS f) := by
  obtain ⟨h1, h2, h3⟩ := dual_fold f (subsS (supS f)) [] (subs_asc _) List.Pairwise.nil (fun a ha => by cases ha)
  refine ⟨h1, fun x hx => ?_, ?_⟩
  · rcases h2 x hx with h | h
    · cases h
    · exact h
  · rw [subsM_len] at h3
    show (List.foldl (dualSt f) [] (subsS (supS f))).length ≤ _
    simpa using h3
theorem hit_iff {f : List (BitVec 16)} {s : BitVec 16} : hitU f s = true ↔ ∀ x ∈ f, (x &&& s == 0#16) = false := by
  unfold hitU
  rw [Bool.not_eq_true', List.any_eq_false]
  exact ⟨fun h x hx => by simpa using h x hx, fun h x hx => by simpa using h x hx⟩
theorem key_sub {a b : BitVec 16} (h : subB a b = true) : keyS b ≤ keyS a := by
  rcases Nat.lt_or_ge (cnt b) (cnt a) with hc | hc
  · unfold keyS; have := b.isLt; omega
  · rw [sub_eq h hc]; exact Nat.le_refl _
theorem good_eq {l : List (BitVec 16)} (hl : l.Pairwise Rs) {a b : BitVec 16} (ha : a ∈ l) (hb : b ∈ l) (h : subB a b = true) : a = b := by
  obtain ⟨i, hi, rfl⟩ := List.mem_iff_getElem.1 ha
  obtain ⟨j, hj, rfl⟩ := List.mem_iff_getElem.1 hb
  rcases Nat.lt_trichotomy i j with hij | rfl | hij
  · have h1 := (List.pairwise_iff_getElem.1 hl i j hi hj hij).1
    have := key_sub h
    omega
  · rfl
  · have h1 := (List.pairwise_iff_getElem.1 hl j i hj hi hij).2
    rw [h] at h1; cases h1
/-- a minimal transversal: no part of it is one -/
theorem dual_min {f : List (BitVec 16)} {d s : BitVec 16} (hd : d ∈ dualU f) (hs : subB d s = true) (hne : s ≠ d) : hitU f s = false := by
  obtain ⟨h1, h2, _⟩ := dualU_good f
  cases hh : hitU f s
  · rfl
  · exfalso
    have hsup : ∀ i, hasB s i = true → hasB (supS f) i = true := fun i hi => subs_mem (h2 d hd).1 i ((subB_iff _ _).1 hs i hi)
    have ha := dual_acc f (subsS (supS f)) [] s (.inr ⟨mem_subs hsup, hh⟩)
    obtain ⟨e, he, hse⟩ := List.any_eq_true.1 ha
    have hde : subB d e = true := subB_trans hs hse
    have : d = e := good_eq h1 hd he hde
    subst this
    exact hne (sub_eq hse (sub_cnt hs))
/-- a family that is readable: its minimal transversals -/
structure DuB (R D : List (BitVec 16)) : Prop where
  eq : dualE R = (D, 0)
  ne : D ≠ []
  len : D.length ≤ 64
  chk : chkS 6 [R, D] = 0
  hit : ∀ r ∈ R, ∀ d ∈ D, (r &&& d == 0#16) = false
  less : ∀ d ∈ D, ∀ s, subB d s = true → s ≠ d → s ≠ 0#16 → chkS 6 [R, [s]] = 0 ∧ ∃ p, disS R [s] = some p
  six : ∀ d ∈ D, ∀ i, hasB d i = true → i < 6
  nz : ∀ d ∈ D, d ≠ 0#16
theorem off_six {l : List (BitVec 16)} (h : ∀ x ∈ l, ∀ i, hasB x i = true → i < 6) : offB 6 l = false := by
  unfold offB
  rw [shr_big, decide_eq_false_iff_not]
  intro hc
  have hs : ∀ i, hasB (supS l) i = true → i < 6 := fun i hi => by
    obtain ⟨x, hx, h1⟩ := supS_has'.1 hi
    exact h x hx i h1
  have : (supS l).toNat < 2 ^ 6 := by
    refine Nat.lt_pow_two_of_testBit _ fun i hi => ?_
    cases hb : (supS l).toNat.testBit i
    · rfl
    · have := hs i (by rw [hasB_nat]; exact hb)
      omega
  omega
theorem hasZ_of {l : List (BitVec 16)} (h : ∀ x ∈ l, x ≠ 0#16) : hasZ l = false := by
  unfold hasZ
  rw [List.any_eq_false]
  intro x hx
  have h1 := h x hx
  simp
  exact fun e => h1 e.symm
theorem du_of {R : List (BitVec 16)} (hv : valS R = 0) (h6 : ∀ x ∈ R, ∀ i, hasB x i = true → i < 6) (hne : R ≠ []) (hz : hasZ R = false) : DuB R (dualU R) := by
  obtain ⟨h1, h2, h3⟩ := dualU_good R
  have hsup : ∀ i, hasB (supS R) i = true → i < 6 := fun i hi => by
    obtain ⟨x, hx, h⟩ := supS_has'.1 hi
    exact h6 x hx i h
  have hlen : (dualU R).length ≤ 64 := by
    have := Nat.pow_le_pow_right (n := 2) (by decide) (cnt_six hsup)
    omega
  have hD6 : ∀ d ∈ dualU R, ∀ i, hasB d i = true → i < 6 := fun d hd i hi => hsup i (subs_mem (h2 d hd).1 i hi)
  have hRne : ∀ x ∈ R, x ≠ 0#16 := fun x hx e => by
    unfold hasZ at hz
    have := List.any_eq_false.1 hz x hx
    rw [e] at this
    exact absurd (by decide) this
  have hfull : hitU R (supS R) = true := hit_iff.2 fun x hx => by
    have e : x &&& supS R = x := by
      apply hasB_ext
      intro i hi
      rw [hasB_and]
      cases hb : hasB x i
      · rfl
      · rw [supS_has'.2 ⟨x, hx, hb⟩]; rfl
    rw [e, beq_eq_false_iff_ne]
    exact hRne x hx
  have hDne : dualU R ≠ [] := fun e => by
    have := dual_acc R (subsS (supS R)) [] (supS R) (.inr ⟨mem_subs (fun _ h => h), hfull⟩)
    have e2 : (subsS (supS R)).foldl (dualSt R) [] = [] := e
    rw [e2] at this; cases this
  have hDz : ∀ d ∈ dualU R, d ≠ 0#16 := fun d hd e => by
    obtain ⟨x, hx⟩ := List.exists_mem_of_ne_nil R hne
    have := hit_iff.1 (h2 d hd).2 x hx
    rw [e] at this
    simp at this
  have hdl : ∀ d ∈ dualU R, d.toNat < 4096 := fun d hd => by
    have : d.toNat < 2 ^ 12 := Nat.lt_pow_two_of_testBit _ fun i hi => by
      cases hb : d.toNat.testBit i
      · rfl
      · have := hD6 d hd i (by rw [hasB_nat]; exact hb)
        omega
    omega
  have hDv : valS (dualU R) = 0 := good_valid h1 hdl (by omega)
  refine ⟨?_, hDne, hlen, ?_, fun r hr d hd => hit_iff.1 (h2 d hd).2 r hr, fun d hd s hs hsd hs0 => ?_, hD6, hDz⟩
  · unfold dualE
    rw [if_neg (by rw [hv]; decide), if_neg (by omega)]
  · have := chk2 6 (by decide) (by decide) R (dualU R)
    rw [hv, hDv, off_six h6, off_six hD6, hz, hasZ_of hDz] at this
    simpa using this
  · have hs6 : ∀ x ∈ [s], ∀ i, hasB x i = true → i < 6 := fun x hx i hi => by
      rw [List.mem_singleton] at hx; subst hx
      exact hD6 d hd i ((subB_iff _ _).1 hs i hi)
    have hsl : ∀ x ∈ [s], x.toNat < 4096 := fun x hx => by
      have : x.toNat < 2 ^ 12 := Nat.lt_pow_two_of_testBit _ fun i hi => by
        cases hb : x.toNat.testBit i
        · rfl
        · have := hs6 x hx i (by rw [hasB_nat]; exact hb)
          omega
      omega
    have hsv : valS [s] = 0 := good_valid (List.pairwise_singleton _ _) hsl (by simp)
    refine ⟨?_, ?_⟩
    · have := chk2 6 (by decide) (by decide) R [s]
      rw [hv, hsv, off_six h6, off_six hs6, hz, hasZ_of (fun x hx => by rw [List.mem_singleton] at hx; rw [hx]; exact hs0)] at this
      simpa using this
    · have hm := dual_min hd hs hsd
      have : ∃ x ∈ R, (x &&& s == 0#16) = true := by
        unfold hitU at hm
        rw [Bool.not_eq_false', List.any_eq_true] at hm
        exact hm
      obtain ⟨x, hx, hxs⟩ := this
      cases hdis : disS R [s] with
      | some p => exact ⟨p, rfl⟩
      | none =>
        exfalso
        unfold disS at hdis
        have := List.find?_eq_none.1 hdis (x, s) (List.mem_flatMap.2 ⟨x, hx, List.mem_map.2 ⟨s, List.mem_singleton_self _, rfl⟩⟩)
        exact this hxs
theorem du_none {R D : List (BitVec 16)} (h : DuB R D) : disS R D = none := by
  unfold disS
  rw [List.find?_eq_none]
  rintro ⟨x, y⟩ hp
  obtain ⟨x', hx, hp⟩ := List.mem_flatMap.1 hp
  obtain ⟨y', hy, hp⟩ := List.mem_map.1 hp
  cases hp
  have := h.hit x hx y hy
  simp [this]
end Go.Proofs.YtmjgdnpfgkpaoaaGreatDoor
namespace Go.Proofs.YtmjgdnpfgkpaoaaGreatDoor
open Go.RowKit Go.Shelf

theorem Tryz.infoRep : (Tryz.prog.info? 158).map (fun i => (i.zero, i.size, i.bytes)) = some (some (.agg #[.int .i64 0, .int .i64 0, .string ⟨#[]⟩]), 3, 32) := by kernel_rfl
theorem rep_one (l : List Rep) : ∀ u ∈ l.flatMap repC, u.oneCell' = true := by
  intro u hu
  obtain ⟨r, _, hu⟩ := List.mem_flatMap.1 hu
  simp only [repC, List.mem_cons, List.not_mem_nil, or_false] at hu
  rcases hu with rfl | rfl | rfl <;> rfl

end Go.Proofs.YtmjgdnpfgkpaoaaGreatDoor
namespace Go.Proofs.YtmjgdnpfgkpaoaaGreatDoor
open Go.RowKit

def accV (a : Acc) : Value := .agg #[.int .i64 a.prom, .int .i64 a.bal, .string a.val]

set_option maxRecDepth 100000 in
set_option maxHeartbeats 1000000 in
theorem promise_c (p q : Int) (v : ByteArray) (b : Int) (w : World) :
    Calls Tryz.prog 92 #[.agg #[.int .i64 p, .int .i64 q, .string v], .int .i64 b] w fun e w' => e = .returned (.tuple #[.agg #[.int .i64 (if p < b then b else p), .int .i64 q, .string v], .bool (decide (p < b))]) ∧ Below w.heap.size w w' := by
  by_cases h : p < b
  · have h1 : ¬ b ≤ p := by omega
    have e1 : (if p < b then b else p) = b := if_pos h
    have e2 : decide (p < b) = true := decide_eq_true h
    rw [e1, e2]
    clear e1 e2
    go_enter Tryz.func92, Tryz.ntmps92
    go_wp2
    refine bodyPost_ret (v := .tuple #[.agg #[.int .i64 b, .int .i64 q, .string v], .bool true]) (by simp [results, Tryz.results92, go_sem]) rfl ⟨rfl, ?_⟩
    exact ((Below.refl _ _).alloc (Nat.le_refl _) _).alloc (by simp) _
  · have h1 : b ≤ p := by omega
    have e1 : (if p < b then b else p) = p := if_neg h
    have e2 : decide (p < b) = false := decide_eq_false h
    rw [e1, e2]
    clear e1 e2
    go_enter Tryz.func92, Tryz.ntmps92
    go_wp2
    refine bodyPost_ret (v := .tuple #[.agg #[.int .i64 p, .int .i64 q, .string v], .bool false]) (by simp [results, Tryz.results92, go_sem]) rfl ⟨rfl, ?_⟩
    exact ((Below.refl _ _).alloc (Nat.le_refl _) _).alloc (by simp) _

set_option maxRecDepth 100000 in
set_option maxHeartbeats 1000000 in
theorem accept_c (p q : Int) (v : ByteArray) (b : Int) (x : ByteArray) (w : World) :
    Calls Tryz.prog 94 #[.agg #[.int .i64 p, .int .i64 q, .string v], .int .i64 b, .string x] w fun e w' => e = .returned (.tuple #[if 1 ≤ b ∧ p ≤ b then .agg #[.int .i64 b, .int .i64 b, .string x] else .agg #[.int .i64 p, .int .i64 q, .string v], .bool (decide (1 ≤ b ∧ p ≤ b))]) ∧ Below w.heap.size w w' := by
  by_cases h : 1 ≤ b ∧ p ≤ b
  · rw [if_pos h, decide_eq_true h]
    obtain ⟨h0, h1⟩ := h
    have k1 : ¬ b < 1 := by omega
    have k2 : ¬ b < p := by omega
    go_enter Tryz.func94, Tryz.ntmps94
    go_wp2
    refine bodyPost_ret (v := .tuple #[.agg #[.int .i64 b, .int .i64 b, .string x], .bool true]) (by simp [results, Tryz.results94, go_sem]) rfl ⟨rfl, ?_⟩
    exact ((Below.refl _ _).alloc (Nat.le_refl _) _).alloc (by simp) _
  · rw [if_neg h, decide_eq_false h]
    by_cases h0 : b < 1
    · clear h
      go_enter Tryz.func94, Tryz.ntmps94
      go_wp2
      refine bodyPost_ret (v := .tuple #[.agg #[.int .i64 p, .int .i64 q, .string v], .bool false]) (by simp [results, Tryz.results94, go_sem]) rfl ⟨rfl, ?_⟩
      exact ((Below.refl _ _).alloc (Nat.le_refl _) _).alloc (by simp) _
    · have h1 : b < p := by omega
      clear h
      go_enter Tryz.func94, Tryz.ntmps94
      go_wp2
      refine bodyPost_ret (v := .tuple #[.agg #[.int .i64 p, .int .i64 q, .string v], .bool false]) (by simp [results, Tryz.results94, go_sem]) rfl ⟨rfl, ?_⟩
      exact ((Below.refl _ _).alloc (Nat.le_refl _) _).alloc (by simp) _

end Go.Proofs.YtmjgdnpfgkpaoaaGreatDoor
namespace Go.Proofs.YtmjgdnpfgkpaoaaGreatDoor
open Go.RowKit Go.Maps

def heldR (v : Value) : Option (DataW Value × List MemPlace) := some (.held v, [])
def optD (o : Option Value) (z : DataW Value) : DataW Value := match o with
  | some v => .held v
  | none => z
def FM (w : World) (P : Program) (k : TypeId) (b n : Nat) (f : Lit → Option Value) : Prop :=
  ∃ D : DataW Value, w.ownsMap P k heldR b n D ∧ ∀ key kl, keyOf P k key = some kl → ∀ z, D.atKey kl z = optD (f kl) z
def updF (f : Lit → Option Value) (kl : Lit) (v : Value) : Lit → Option Value := fun x => if x.sameKey kl = true then some v else f x

theorem FM.made (w : World) (P : Program) (k : TypeId) : FM (w.alloc (.map #[] 0)) P k w.heap.size 0 (fun _ => none) :=
  ⟨.map [], World.ownsMap_made w P k heldR, fun _ _ _ _ => rfl⟩
theorem FM.at {w w' : World} {P : Program} {k : TypeId} {b n : Nat} {f : Lit → Option Value} (h : FM w P k b n f) (hb : w'.heap[b]? = w.heap[b]?) : FM w' P k b n f := by
  obtain ⟨D, ⟨es, clock, h1, h2⟩, h3⟩ := h
  exact ⟨D, ⟨es, clock, hb.trans h1, h2⟩, h3⟩
theorem FM.lt {w : World} {P : Program} {k : TypeId} {b n : Nat} {f : Lit → Option Value} (h : FM w P k b n f) : b < w.heap.size := by
  obtain ⟨D, h1, _⟩ := h; exact h1.lt
theorem FM.below {w w' : World} {P : Program} {k : TypeId} {b n : Nat} {f : Lit → Option Value} (h : FM w P k b n f) (hb : Below w.heap.size w w') : FM w' P k b n f := h.at (hb.block b h.lt)
theorem FM.kept {w w' : World} {P : Program} {k : TypeId} {b n : Nat} {f : Lit → Option Value} {row : Option Nat} (h : FM w P k b n f) (hg : w.grownBy w' row) (hne : some b ≠ row) : FM w' P k b n f := h.at (hg.block b h.lt hne)
theorem FM.mono {w : World} {P : Program} {k : TypeId} {b n n' : Nat} {f : Lit → Option Value} (h : FM w P k b n f) (hn : n ≤ n') : FM w P k b n' f := by
  obtain ⟨D, h1, h2⟩ := h; exact ⟨D, h1.mono hn, h2⟩
theorem FM.look (c : Bool) {w : World} {P : Program} {k e t : TypeId} {b n : Nat} {f : Lit → Option Value} (h : FM w P k b n f) (K : Keyed P k) (ht : P.underlying t = some (.map k e)) {z : Value} (hz : (zeroValue e).run P w = .ok z w) {key : Value} {kl : Lit} (hkey : keyOf P k key = some kl) :
    (Instr.lookup t (.map (some b)) key c).run P w = .ok (if c then .tuple #[(f kl).getD z, .bool (f kl).isSome] else (f kl).getD z) w := by
  obtain ⟨D, ⟨es, clock, hb, F, hs, rfl⟩, h3⟩ := h
  have h4 := h3 key kl hkey
  rcases Maps.fit_look c K ht hz hb F hkey with ⟨hrun, _, hat⟩ | ⟨e0, y, _, _, hrun, hRv, hat, _⟩
  · have h5 := hat .nil
    rw [h4] at h5
    cases hf : f kl with
    | none => rw [hrun]; rfl
    | some v => rw [hf] at h5; cases h5
  · have h5 := hat .nil
    rw [h4] at h5
    have hy : y = (.held e0.val, []) := by unfold heldR at hRv; exact (Option.some.inj hRv).symm
    rw [hy] at h5
    cases hf : f kl with
    | none => rw [hf] at h5; cases h5
    | some v =>
      rw [hf] at h5
      have h6 : DataW.held v = DataW.held e0.val := h5
      injection h6 with h6
      rw [hrun, h6]; rfl
theorem FM.putD {P : Program} {k : TypeId} {w w' : World} {b n n' : Nat} {D : DataW Value} {f : Lit → Option Value} (K : Keyed P k) (ho : w.ownsMap P k heldR b n D) (hf : ∀ key kl, keyOf P k key = some kl → ∀ z, D.atKey kl z = optD (f kl) z) {key val : Value} {kl : Lit} (hkey : keyOf P k key = some kl)
    (ho' : w'.ownsMap P k heldR b n' (D.put kl (.held val))) : FM w' P k b n' (updF f kl val) := by
  obtain ⟨es, rfl, _⟩ := ho.entries K
  refine ⟨_, ho', fun key' kl' hk' z => ?_⟩
  unfold updF
  by_cases h : kl' = kl
  · subst h
    rw [if_pos (WideAt.sameKey_self (K.key hkey)), atKey_put_same ⟨es, rfl⟩ (K.key hkey)]; rfl
  · rw [if_neg (by rw [sameKey_ne h]; decide), atKey_put_other h, hf key' kl' hk']
theorem wpList_put_fm {P : Program} (w : World) {ops : Array Oper} {rest : List Oper} {o : Oper} {a : Act} {Q : Exit → Act → World → Prop}
    (hg : o.guard = none) (m x v : Operand) (t : TypeId) (hop : o.op = Op.mapUpdate t m x v)
    (k e : TypeId) (K : Keyed P k) (ht : P.underlying t = some (.map k e)) (b n : Nat) (f : Lit → Option Value)
    (hm : a.eval m = .map (some b)) (h : FM w P k b n f) (hn : n < maxLen) (key val : Value) (kl : Lit) (hx : a.eval x = key) (hv : a.eval v = val) (hkey : keyOf P k key = some kl)
    (hK : ∀ w', FM w' P k b (n + 1) (updF f kl val) → w.grownBy w' (some b) → wpList P ops Q rest (a.put o.dst undef) w') :
    wpList P ops Q (o :: rest) a w := by
  obtain ⟨D, ho, hf⟩ := h
  exact wpList_mapUpdate_own w hg m x v t hop k e K ht heldR b n D hm ho hn key val kl hx hv hkey (.held val) [] rfl fun w' h1 h2 => hK w' (FM.putD K ho hf hkey h1) h2
end Go.Proofs.YtmjgdnpfgkpaoaaGreatDoor
namespace Go.Proofs.YtmjgdnpfgkpaoaaGreatDoor
open Go.RowKit Go.Shelf

set_option maxRecDepth 100000 in
set_option maxHeartbeats 2000000 in
theorem pick_c (read : List (BitVec 16)) (l : List Rep) (a : Option Addr) (n c : Nat) (a2 : Option Addr) (n2 c2 : Nat) (w : World) (h : Rd w a n c (read.map setV2)) (h2 : RdK 3 w a2 n2 c2 (l.flatMap repC))
    (hok : ∀ r ∈ l, 0 ≤ r.server ∧ r.server < 12) :
    Calls Tryz.prog 117 #[.slice a n c, .slice a2 n2 c2] w fun e w' => ∃ sv : Int, e = .returned (.tuple #[.agg #[.int .i64 sv, .int .i64 (bestR l).1, .string (bestR l).2], .bool (accS read (seenR l))]) ∧ Below w.heap.size w w' := by
  have hnl : l.length = n2 := by have := h2.len; rw [flat_len 3 repC repC_len] at this; omega
  have hm := h2.max
  have hle := h2.le
  unfold maxLen at hm
  have HR := Lib.hid h
  have HR2 := Lib.hid h2
  have HN := Lib.hid hnl
  have HOK := Lib.hid hok
  clear h h2 hnl hok
  go_enter Tryz.func117, Tryz.ntmps117
  go_wp2_with fail
  go_loopw [7, 12] (fun v i wr => ∃ (k : Nat) (s : BitVec 16) (sv : Int), k ≤ n2 ∧ i = .int .i64 k ∧ v = .int .u16 (U s) ∧ Hid (s = seenR (l.take k)) ∧ wr.heap[w.heap.size + 1]? = some (.cells #[.int .i64 sv, .int .i64 (bestR (l.take k)).1, .string (bestR (l.take k)).2] 158 (0, 0)) ∧ wr.heap[w.heap.size]? = some (.cells #[.int .i64 0, .int .i64 0, .string ⟨#[]⟩] 158 (0, 0)) ∧ Below w.heap.size w wr) (fun _ i _ => n2 - (intOf i).toNat)
  case atStart => exact ⟨0, 0#16, 0, Nat.zero_le _, rfl, rfl, rfl, by have := heap_alloc_new (w.alloc (.cells #[.int .i64 0, .int .i64 0, .string ⟨#[]⟩] 158)) (.cells #[.int .i64 0, .int .i64 0, .string ⟨#[]⟩] 158); rw [World.size_alloc] at this; exact this, heap_alloc_at (heap_alloc_new w _) _, ((Below.refl _ w).alloc (Nat.le_refl _) _).alloc (by simp) _⟩
  case round =>
    obtain ⟨k, s, sv, hk, rfl, rfl, hs, hbest, hres, hb⟩ := hrel
    by_cases hlt : k < n2
    · obtain ⟨r, hr⟩ : ∃ r, l[k]? = some r := ⟨l[k]'(by have := HN.out; omega), List.getElem?_eq_getElem _⟩
      obtain ⟨b, o, ha, hcell⟩ := RdK.cells (HR2.out.below hb) repC_len (by omega)
      have hc0 : wr.cell? ⟨b, o + k * 3, none⟩ = some (.int .i64 r.server) := hcell k r hr 0 (by omega)
      have hc1 : wr.cell? ⟨b, o + k * 3 + 1, none⟩ = some (.int .i64 r.ballot) := hcell k r hr 1 (by omega)
      have hc2 : wr.cell? ⟨b, o + k * 3 + 2, none⟩ = some (.string r.value) := hcell k r hr 2 (by omega)
      obtain ⟨hr0, hr12⟩ := HOK.out r (List.mem_of_getElem? hr)
      obtain ⟨m, hsm⟩ := Int.eq_ofNat_of_zero_le hr0
      rw [hsm] at hc0 hr12
      have HS := Lib.hid (seenR_take hr)
      have HB := Lib.hid (bestR_take hr)
      have hsee : Hid (seeR s r = s ||| bitS m) := by show _ = _; unfold seeR; rw [hsm]; rfl
      obtain ⟨⟨bb, bv⟩, hbb⟩ : ∃ p, bestR (l.take k) = p := ⟨_, rfl⟩
      rw [hbb] at hbest HB
      have hf0 : wr.frozen? ⟨w.heap.size + 1, 0, none⟩ = false := by simp [World.frozen?, hbest]
      have hf1 : wr.frozen? ⟨w.heap.size + 1, 1, none⟩ = false := by simp [World.frozen?, hbest]
      have hf2 : wr.frozen? ⟨w.heap.size + 1, 2, none⟩ = false := by simp [World.frozen?, hbest]
      have hx0 : wr.cell? ⟨w.heap.size + 1, 0, none⟩ = some (.int .i64 sv) := cell_of_row _ _ 0 _ _ _ hbest
      have hx1 : wr.cell? ⟨w.heap.size + 1, 1, none⟩ = some (.int .i64 bb) := cell_of_row _ _ 1 _ _ _ hbest
      have hx2 : wr.cell? ⟨w.heap.size + 1, 2, none⟩ = some (.string bv) := cell_of_row _ _ 2 _ _ _ hbest
      have hsz : w.heap.size + 1 < wr.heap.size := cell_lt hx0
      obtain ⟨rb, hrb⟩ : ∃ x, r.ballot = x := ⟨_, rfl⟩
      obtain ⟨rv, hrv⟩ : ∃ x, r.value = x := ⟨_, rfl⟩
      rw [hrb] at hc1
      rw [hrv] at hc2
      have HBE := Lib.hid hbest
      have HRB := Lib.hid hrb
      have HRV := Lib.hid hrv
      subst ha
      clear hcell hsm hr0 hrb hrv hbest hbb hr
      by_cases hgt : bb < rb
      · go_wp2_with fail
        go_roundw
        case rel => exact ⟨k + 1, s ||| bitS m, m, by omega, by go_num, rfl, by show _ = _; rw [HS.out, ← hs.out, hsee.out], by rw [HB.out, stepR, if_pos (by show bb < r.ballot; rw [HRB.out]; exact hgt), HRB.out, HRV.out]; exact heap_alloc_at (heap_set_at (heap_set_at (heap_set_at HBE.out 0 _) 1 _) 2 _) _, heap_alloc_at (heap_set_other (by omega) _ _ (heap_set_other (by omega) _ _ (heap_set_other (by omega) _ _ hres))) _, (((hb.setCell (by show w.heap.size ≤ w.heap.size + 1; omega) _).setCell (by show w.heap.size ≤ w.heap.size + 1; omega) _).setCell (by show w.heap.size ≤ w.heap.size + 1; omega) _).alloc (by simp; omega) _⟩
        case measure => simp [intOf]; omega
      · go_wp2_with fail
        go_roundw
        case rel => exact ⟨k + 1, s ||| bitS m, sv, by omega, by go_num, rfl, by show _ = _; rw [HS.out, ← hs.out, hsee.out], by rw [HB.out, stepR, if_neg (by show ¬ bb < r.ballot; rw [HRB.out]; exact hgt)]; exact heap_alloc_at HBE.out _, heap_alloc_at hres _, hb.alloc (by omega) _⟩
        case measure => simp [intOf]; omega
    · have hE : Hid (l.take k = l) := List.take_of_length_le (by have := HN.out; omega)
      rw [hE.out] at hbest
      have hs2 : Hid (s = seenR l) := by show _ = _; rw [hs.out, hE.out]
      obtain ⟨⟨bb, bv⟩, hbb⟩ : ∃ p, bestR l = p := ⟨_, rfl⟩
      rw [hbb] at hbest
      have HBB := Lib.hid hbb
      have hx := hbest
      obtain ⟨⟨hx0, hx1, hx2⟩, _⟩ := open3 hx
      have HRES := Lib.hid hres
      clear hs hbest hE hbb hres hx
      go_wp2_with fail
      go_region_held3 (fun w' => w'.cell? ⟨w.heap.size + 1, 0, none⟩ = some (.int .i64 sv) ∧ w'.cell? ⟨w.heap.size + 1, 1, none⟩ = some (.int .i64 bb) ∧ w'.cell? ⟨w.heap.size + 1, 2, none⟩ = some (.string bv)) (go_keep)
        ((go_at_call 53; refine (accepts_c read s a n c _ (HR.out.below (below_drew hb))).mono ?_; (rintro e w3 ⟨rfl, hb2⟩; have hb3 := below_undrew hb2; obtain ⟨q0, q1, q2⟩ := keep3 hb3 hx0 hx1 hx2; have hres3 := heap_below hb3 HRES.out; obtain ⟨⟨y0, y1, y2⟩, f0, f1, f2⟩ := open3 hres3; have hb4 := Below.next hb hb3; have HRES3 := Lib.hid hres3; clear hb2 hb3 hres3)))
      go_wp2_with fail
      have hz := heap_set_at (heap_set_at (heap_set_at HRES3.out 0 (.int .i64 sv)) 1 (.int .i64 bb)) 2 (.string bv)
      have hb5 := ((hb4.setCell (p := ⟨w.heap.size, 0, none⟩) (Nat.le_refl _) (.int .i64 sv)).setCell (p := ⟨w.heap.size, 1, none⟩) (Nat.le_refl _) (.int .i64 bb)).setCell (p := ⟨w.heap.size, 2, none⟩) (Nat.le_refl _) (.string bv)
      clear f0 f1 f2 y0 y1 y2 q0 q1 q2
      obtain ⟨w4, hw4⟩ : ∃ w4, (((w3.setCell ⟨w.heap.size, 0, none⟩ (.int .i64 sv)).setCell ⟨w.heap.size, 1, none⟩ (.int .i64 bb)).setCell ⟨w.heap.size, 2, none⟩ (.string bv)) = w4 := ⟨_, rfl⟩
      rw [hw4] at hz hb5 ⊢
      obtain ⟨⟨z0, z1, z2⟩, _⟩ := open3 (x := .int .i64 sv) (y := .int .i64 bb) (z := .string bv) hz
      exact bodyPost_ret (v := .tuple #[.agg #[.int .i64 sv, .int .i64 bb, .string bv], .bool (accS read s)]) (by simp [results, Tryz.results117, go_sem, z0, z1, z2]) rfl ⟨sv, by rw [HBB.out, hs2.out], hb5⟩
end Go.Proofs.YtmjgdnpfgkpaoaaGreatDoor
namespace Go.Proofs.YtmjgdnpfgkpaoaaGreatDoor
open Go.RowKit Go.Maps

def keyI (b : Int) : Lit := .int .i64 b
def valL (st : St) : Lit → Option Value
  | .int _ b => (st.vals b).map Value.string
  | _ => none
/-- a run in memory: the acceptors at block B, the two maps behind it, the run behind these -/
structure StM (w : World) (B m cnt : Nat) (sl : Value) (st : St) (f : Lit → Option Value) : Prop where
  acc : w.heap[B]? = some (.cells (st.acc.flatMap accC).toArray 149 (0, 0))
  len : st.acc.length = m
  run : w.heap[B + 3]? = some (.cells #[sl, .slice (some ⟨B, 0, none⟩) m m, .map (some (B + 1)), .map (some (B + 2))] 147 (0, 0))
  reps : FM w Tryz.prog 3 (B + 1) cnt f
  vals : FM w Tryz.prog 3 (B + 2) cnt (valL st)
  rows : ∀ b, match f (keyI b) with
    | none => st.rep b = []
    | some v => w.ownsRow (B + 4) 158 3 v (st.rep b).length ((st.rep b).flatMap repC)
  apart : ∀ b b' v v', b ≠ b' → f (keyI b) = some v → f (keyI b') = some v' → ∀ g, v.ownBlock = some g → v'.ownBlock ≠ some g
  srv : ∀ b r, r ∈ st.rep b → 0 ≤ r.server ∧ r.server < 12

theorem StM.below {w w' : World} {B m cnt : Nat} {sl : Value} {st : St} {f : Lit → Option Value} (h : StM w B m cnt sl st f) (hb : Below w.heap.size w w') : StM w' B m cnt sl st f := by
  refine ⟨heap_below hb h.acc, h.len, heap_below hb h.run, h.reps.below hb, h.vals.below hb, fun b => ?_, h.apart, h.srv⟩
  have := h.rows b
  split
  · rename_i e; rw [e] at this; exact this
  · rename_i v e; rw [e] at this; exact rowK_below this hb
theorem kI : Keyed Tryz.prog 3 := int_keyed Tryz.underlying3
theorem zStr (w : World) : (zeroValue 9).run Tryz.prog w = .ok (.string ⟨#[]⟩) w := by kernel_rfl
theorem zSl (w : World) : (zeroValue 156).run Tryz.prog w = .ok (.slice none 0 0) w := by kernel_rfl
theorem kOf {b : Int} (hw : (Lit.int .i64 b).wf = true) : keyOf Tryz.prog 3 (.int .i64 b) = some (keyI b) := keyOf_int_mk Tryz.underlying3 hw
theorem StM.valLook {w : World} {B m cnt : Nat} {sl : Value} {st : St} {f : Lit → Option Value} (h : StM w B m cnt sl st f) {b : Int} (hw : (Lit.int .i64 b).wf = true) :
    (Instr.lookup 145 (.map (some (B + 2))) (.int .i64 b) true).run Tryz.prog w = .ok (.tuple #[((st.vals b).map Value.string).getD (.string ⟨#[]⟩), .bool (st.vals b).isSome]) w := by
  have := h.vals.look true kI Tryz.underlying145 (zStr w) (kOf hw)
  rw [this]
  unfold valL keyI
  simp
theorem fm_repLook {w : World} {B cnt : Nat} {f : Lit → Option Value} (h : FM w Tryz.prog 3 (B + 1) cnt f) {b : Int} (hw : (Lit.int .i64 b).wf = true) :
    (Instr.lookup 144 (.map (some (B + 1))) (.int .i64 b) false).run Tryz.prog w = .ok ((f (keyI b)).getD (.slice none 0 0)) w := by
  have := h.look false kI Tryz.underlying144 (zSl w) (kOf hw)
  rw [this]; rfl
/-- the reports of a ballot, read -/
theorem StM.repRd {w : World} {B m cnt : Nat} {sl : Value} {st : St} {f : Lit → Option Value} (h : StM w B m cnt sl st f) (b : Int) : ∃ a c, (f (keyI b)).getD (.slice none 0 0) = .slice a (st.rep b).length c ∧ RdK 3 w a (st.rep b).length c ((st.rep b).flatMap repC) := by
  have := h.rows b
  cases hf : f (keyI b) with
  | none => rw [hf] at this; have e : st.rep b = [] := this; rw [e]; exact ⟨none, 0, rfl, RdK.none_ _ _⟩
  | some v =>
    rw [hf] at this
    obtain ⟨a, c, rfl, hr⟩ := rdK_of_row this
    exact ⟨a, c, rfl, hr⟩
theorem open4 {w : World} {B : Nat} {x y z u : Value} {t : TypeId} (h : w.heap[B]? = some (.cells #[x, y, z, u] t (0, 0))) :
    w.cell? ⟨B, 0, none⟩ = some x ∧ w.cell? ⟨B, 1, none⟩ = some y ∧ w.cell? ⟨B, 2, none⟩ = some z ∧ w.cell? ⟨B, 3, none⟩ = some u :=
  ⟨cell_of_row _ _ 0 _ _ _ h, cell_of_row _ _ 1 _ _ _ h, cell_of_row _ _ 2 _ _ _ h, cell_of_row _ _ 3 _ _ _ h⟩

theorem Rd.drew {w : World} {a : Option Addr} {n c : Nat} {l : List Value} (h : Rd w a n c l) : Rd w.drew a n c l := ⟨h.len, h.le, h.max, h.nil, h.at'⟩
theorem blA (w : World) (o : Obj) : Below w.heap.size w (w.alloc o) := (Below.refl _ w).alloc (Nat.le_refl _) _
theorem fmA {w : World} {P : Program} {k : TypeId} {b n : Nat} {f : Lit → Option Value} {o : Obj} (h : FM w P k b n f) : FM (w.alloc o).drew P k b n f := (h.below (blA w o)).at rfl
theorem fmA1 {w : World} {P : Program} {k : TypeId} {b n : Nat} {f : Lit → Option Value} {o : Obj} (h : FM w P k b n f) : FM (w.alloc o) P k b n f := h.below (blA w o)
theorem fmS3 {w : World} {P : Program} {k : TypeId} {b n B' : Nat} {f : Lit → Option Value} {x y z : Value} (h : FM w P k b n f) (hne : b ≠ B') : FM (((w.setCell ⟨B', 0, none⟩ x).setCell ⟨B', 1, none⟩ y).setCell ⟨B', 2, none⟩ z) P k b n f :=
  h.at (by rw [Below.heap_setCell _ _ _ _ hne, Below.heap_setCell _ _ _ _ hne, Below.heap_setCell _ _ _ _ hne])
theorem RdK.drew {k : Nat} {w : World} {a : Option Addr} {n c : Nat} {l : List Value} (h : RdK k w a n c l) : RdK k w.drew a n c l := ⟨h.len, h.le, h.max, h.nil, h.at'⟩

set_option maxRecDepth 100000 in
set_option maxHeartbeats 2000000 in
theorem value_c (read : List (BitVec 16)) (a : Option Addr) (n c : Nat) (B m cnt : Nat) (st : St) (f : Lit → Option Value) (b : Int) (hw : (Lit.int .i64 b).wf = true) (w : World) (hr : Rd w a n c (read.map setV2)) (h : StM w B m cnt (.slice a n c) st f) :
    Calls Tryz.prog 93 #[.pointer (some ⟨B + 3, 0, none⟩), .int .i64 b] w fun e w' => e = .returned (.tuple #[.string (valP read st b).1, .bool (valP read st b).2.1, .bool (valP read st b).2.2]) ∧ Below w.heap.size w w' := by
  obtain ⟨h0, h1, h2, h3⟩ := open4 h.run
  have hl := h.valLook hw
  cases hv : st.vals b with
  | some v =>
    have hE : valP read st b = (v, false, true) := by unfold valP; rw [hv]
    rw [hE]
    rw [hv] at hl
    simp only [Option.map_some, Option.getD_some, Option.isSome_some] at hl
    clear hE hv h hr hw
    go_enter Tryz.func93, Tryz.ntmps93
    go_wp2_with fail
    go_ret3
    exact ⟨rfl, Below.refl _ _⟩
  | none =>
    have hE : valP read st b = ((bestR (st.rep b)).2, (bestR (st.rep b)).1 == 0, accS read (seenR (st.rep b))) := by unfold valP; rw [hv]
    rw [hE]
    rw [hv] at hl
    simp only [Option.map_none, Option.getD_none, Option.isSome_none] at hl
    obtain ⟨ar, cr, hrv, hrr⟩ := h.repRd b
    have hl2 := fm_repLook h.reps hw
    rw [hrv] at hl2
    have HP := Lib.hid (fun w h1 h2 => pick_c read (st.rep b) a n c ar (st.rep b).length cr w h1 h2 (fun r hr => h.srv b r hr))
    obtain ⟨⟨bb, bv⟩, hbb⟩ : ∃ p, bestR (st.rep b) = p := ⟨_, rfl⟩
    obtain ⟨ac, hac⟩ : ∃ p, accS read (seenR (st.rep b)) = p := ⟨_, rfl⟩
    rw [hbb, hac] at HP ⊢
    obtain ⟨L, hL⟩ : ∃ L, (st.rep b).flatMap repC = L := ⟨_, rfl⟩
    obtain ⟨nl, hnl⟩ : ∃ L, (st.rep b).length = L := ⟨_, rfl⟩
    rw [hL] at HP hrr
    rw [hnl] at HP hrr hl2
    have HP2 : Hid (∀ x : World, Below w.heap.size w x → Calls Tryz.prog 117 #[.slice a n c, .slice ar nl cr] x fun e w3 => ∃ sv : Int, e = .returned (.tuple #[.agg #[.int .i64 sv, .int .i64 bb, .string bv], .bool ac]) ∧ Below w.heap.size w w3 ∧ ∀ ob, x.heap[w.heap.size]? = some ob → w3.heap[w.heap.size]? = some ob) := Lib.hid (fun x hx => (HP.out x (hr.below hx) (hrr.below hx)).mono fun e w3 ⟨sv, h1, h2⟩ => ⟨sv, h1, Below.next hx h2, fun ob ho => heap_below h2 ho⟩)
    have KS : Hid (∀ x : World, Below w.heap.size w x → x.cell? ⟨B + 3, 0, none⟩ = some (.slice a n c) ∧ x.cell? ⟨B + 3, 2, none⟩ = some (.map (some (B + 1))) ∧ (Instr.lookup 144 (.map (some (B + 1))) (.int .i64 b) false).run Tryz.prog x = .ok (.slice ar nl cr) x) := Lib.hid (fun x hx => ⟨(hx.cell (p := ⟨B + 3, 0, none⟩) (cell_lt h0)).trans h0, (hx.cell (p := ⟨B + 3, 2, none⟩) (cell_lt h2)).trans h2, by rw [fm_repLook (h.reps.below hx) hw, hrv, hnl]⟩)
    clear HP hE hv h hr hrr hrv hbb hac hL hnl hw
    go_enter Tryz.func93, Tryz.ntmps93
    go_wp2_with fail
    go_region_held3 (fun w' => w'.cell? ⟨B + 3, 0, none⟩ = some (.slice a n c) ∧ w'.cell? ⟨B + 3, 2, none⟩ = some (.map (some (B + 1))) ∧ (Instr.lookup 144 (.map (some (B + 1))) (.int .i64 b) false).run Tryz.prog w' = .ok (.slice ar nl cr) w')
      (exact KS.out _ (by (repeat (first | with_reducible exact Below.refl _ _ | with_reducible exact hb3 | with_reducible refine below_drew ?_ | with_reducible refine Below.alloc ?_ ?_ _ | with_reducible refine Below.setCell ?_ ?_ _ | exact Nat.le_refl _ | exact hb3.size))))
      ((go_at_call 117; (refine (HP2.out _ (by (first | with_reducible exact below_drew (Below.refl _ _) | with_reducible exact below_drew (blA _ _)))).mono ?_); (rintro e w3 ⟨sv, rfl, hb3, hx⟩; first | (have hx2 := hx _ (heap_alloc_new w _); obtain ⟨⟨x0, x1, x2⟩, g0, g1, g2⟩ := open3 hx2; clear hx) | (clear hx))))
    all_goals
      go_wp2_with fail
      go_quiet (fail)
      go_wp2_with fail
      go_ret3
      exact ⟨rfl, below_drewN (by first | exact hb3.alloc hb3.size _ | exact ((hb3.setCell (Nat.le_refl _) _).setCell (Nat.le_refl _) _).setCell (Nat.le_refl _) _)⟩
end Go.Proofs.YtmjgdnpfgkpaoaaGreatDoor
namespace Go.Proofs.YtmjgdnpfgkpaoaaGreatDoor
open Go.RowKit Go.Maps Go.WideElems Go.ChangeMaps Go.MapKept

theorem step_put_fm {P : Program} {w : World} {ops : Array Oper} {o : Oper} {a : Act} {K' : Act → World → Prop} {Q : Exit → Act → World → Prop} {E : Prop} {dec : Decidable (Region.wanted o (yielded ops a.tmps) = true)} (hg : o.guard = none) (m x v : Operand) (t : TypeId) (hop : o.op = Op.mapUpdate t m x v)
    (k e : TypeId) (K : Keyed P k) (ht : P.underlying t = some (.map k e)) (b n : Nat) (f : Lit → Option Value)
    (hm : a.eval m = .map (some b)) (h : FM w P k b n f) (hn : n < maxLen) (key val : Value) (kl : Lit) (hx : a.eval x = key) (hv : a.eval v = val) (hkey : keyOf P k key = some kl)
    (hK : ∀ w', FM w' P k b (n + 1) (updF f kl val) → w.grownBy w' (some b) → w'.heap.size = w.heap.size → K' (a.put o.dst undef) w') :
    @ite Prop (Region.wanted o (yielded ops a.tmps) = true) dec (Oper.wp P o a w K' Q) E := by
  have hw : Region.wanted o (yielded ops a.tmps) = true := by simp [Region.wanted, hg]
  rw [if_pos hw]
  obtain ⟨D, ⟨es, clock, hb, F, hs, rfl⟩, hf⟩ := h
  obtain ⟨es', clock', hrun, F', hput, _⟩ := Maps.fit_store (R' := heldR) K ht hb F (Nat.lt_of_le_of_lt hs hn) (fun _ _ _ _ hz => hz) hkey (yv := (.held val, [])) rfl
  have ho : w.ownsMap P k heldR b n (.map ((es.toList.map (rg P k heldR)).foldr DataW.insert [])) := ⟨es, clock, hb, F, hs, rfl⟩
  obtain ⟨w', hrun2, r1, r2⟩ := ho.update K ht hn (val := val) hkey (d := .held val) (ps := []) rfl
  have e : w' = setBlock w b (.map es' clock') := by rw [hrun] at hrun2; injection hrun2 with _ h2; exact h2.symm
  unfold Oper.wp
  simp [execOp, hop, hm, hx, hv, hrun2, Result.andThen]
  exact hK w' (FM.putD K ho hf hkey r1) r2 (by rw [e]; simp [setBlock])

theorem FM.put {P : Program} {w : World} {t k e : TypeId} {b n : Nat} {f : Lit → Option Value} (h : FM w P k b n f) (K : Keyed P k) (ht : P.underlying t = some (.map k e)) (hn : n < maxLen) {key : Value} {kl : Lit} (hkey : keyOf P k key = some kl) (val : Value) :
    ∃ w', (Instr.mapUpdate t (.map (some b)) key val).run P w = .ok () w' ∧ FM w' P k b (n + 1) (updF f kl val) ∧ w.grownBy w' (some b) ∧ w'.heap.size = w.heap.size := by
  obtain ⟨D, ⟨es, clock, hb, F, hs, rfl⟩, hf⟩ := h
  obtain ⟨es', clock', hrun, F', hput, _⟩ := Maps.fit_store (R' := heldR) K ht hb F (Nat.lt_of_le_of_lt hs hn) (fun _ _ _ _ hz => hz) hkey (yv := (.held val, [])) rfl
  have ho : w.ownsMap P k heldR b n (.map ((es.toList.map (rg P k heldR)).foldr DataW.insert [])) := ⟨es, clock, hb, F, hs, rfl⟩
  obtain ⟨w', hrun2, r1, r2⟩ := ho.update K ht hn (val := val) hkey (d := .held val) (ps := []) rfl
  have e : w' = setBlock w b (.map es' clock') := by rw [hrun] at hrun2; injection hrun2 with _ h2; exact h2.symm
  exact ⟨w', hrun2, FM.putD K ho hf hkey r1, r2, by rw [e]; simp [setBlock]⟩

theorem entry_store {P : Program} {w : World} {t k e : TypeId} {R : Value → Option (DataW Value × List MemPlace)} {b : Nat} {es : Array MapEntry} {clock : Nat} (K : Keyed P k) (ht : P.underlying t = some (.map k e)) {z : Value} (hz : ∀ u : World, (zeroValue e).run P u = .ok z u) (hb : w.heap[b]? = some (.map es clock)) (F : Fit P k R es clock)
    {key : Value} {kl : Lit} (hkey : keyOf P k key = some kl) :
    ∃ (v0 : Value) (st : Nat) (es1 : Array MapEntry) (clock1 : Nat), (Instr.mapEntry t (.map (some b)) key).run P w = .ok (.tuple #[v0, goInt st]) (setBlock w b (.map es1 clock1)) ∧
      ∀ (w2 : World) (val : Value), w2.heap[b]? = some (.map es1 clock1) → ∃ es' clock', (Instr.entryStore t (.map (some b)) (goInt st) val).run P w2 = .ok () (setBlock w2 b (.map es' clock')) ∧
        (Instr.mapUpdate t (.map (some b)) key val).run P w = .ok () (setBlock w b (.map es' clock')) := by
  obtain ⟨s1, s2, _⟩ := F.stamped
  rcases K.find w hkey es.toList F.keys with ⟨h1, h2⟩ | ⟨j, e0, h1, h2, h3⟩
  · refine ⟨z, clock, es.push ⟨key, z, clock⟩, clock + 1, ?_, fun w2 val hw2 => ⟨es.push ⟨key, val, clock⟩, clock + 1, ?_, ?_⟩⟩
    · simp [Instr.mapEntry, run_underlying ht, MapKept.run_getObj_map hb, K.check w false hkey, h1, hz, MapKept.run_setObj_map _ hb, Result.andThen, setBlock]
    · have hidx : (es.push ⟨key, z, clock⟩).findIdx? (fun e => ((e.born : Nat) : Int) == ((clock : Nat) : Int)) = some es.size := by
        rw [findIdx_arr]
        exact findIdx_born (l := (es.push ⟨key, z, clock⟩).toList) (j := es.size) (e0 := ⟨key, z, clock⟩) (by
          simp only [Array.toList_push, List.map_append, List.map_cons, List.map_nil]
          refine List.nodup_append.2 ⟨s2, by simp, fun a ha c hc e1 => ?_⟩
          simp only [List.mem_singleton] at hc
          obtain ⟨x, hx, rfl⟩ := List.mem_map.1 ha
          have := s1 x hx
          omega) (by simp)
      have hmod : (es.push ⟨key, z, clock⟩).modify es.size (fun e => { e with val := val }) = es.push ⟨key, val, clock⟩ := by
        apply Array.ext'
        rw [Array.toList_modify, Array.toList_push, Array.toList_push, ← Array.length_toList, modify_last]
      simp [Instr.entryStore, MapKept.run_getObj_map hw2, asInt, asIntOf, goInt, hidx, hmod, MapKept.run_setObj_map _ hw2, Result.andThen, setBlock]
    · simp [Instr.mapUpdate, run_underlying ht, MapKept.run_getObj_map hb, K.check w false hkey, h1, MapKept.run_setObj_map _ hb, Result.andThen, setBlock]
  · have hj : es[j]? = some e0 := by simpa using h2
    have hsame : es.modify j (fun e => { e with key := key }) = es := by
      apply Array.ext'
      rw [Array.toList_modify, modify_eq_set _ _ _ _ h2]
      have : ({ e0 with key := key } : MapEntry) = e0 := by rw [← h3]
      rw [this]
      exact set_self _ _ _ h2
    refine ⟨e0.val, e0.born, es, clock, ?_, fun w2 val hw2 => ⟨es.modify j (fun e' => { e' with key := key, val := val }), clock, ?_, ?_⟩⟩
    · simp [Instr.mapEntry, run_underlying ht, MapKept.run_getObj_map hb, K.check w false hkey, h1, hj, h3, K.stays w hkey, hsame, MapKept.run_setObj_map _ hb, Result.andThen, setBlock]
    · have hidx : es.findIdx? (fun e => ((e.born : Nat) : Int) == ((e0.born : Nat) : Int)) = some j := by
        rw [findIdx_arr]
        exact findIdx_born s2 h2
      have hmod : es.modify j (fun e => { e with val := val }) = es.modify j (fun e' => { e' with key := key, val := val }) := by
        apply Array.ext'
        rw [Array.toList_modify, Array.toList_modify, modify_eq_set _ _ _ _ h2, modify_eq_set _ _ _ _ h2, ← h3]
      simp [Instr.entryStore, MapKept.run_getObj_map hw2, asInt, asIntOf, goInt, hidx, hmod, MapKept.run_setObj_map _ hw2, Result.andThen, setBlock]
    · simp [Instr.mapUpdate, run_underlying ht, MapKept.run_getObj_map hb, K.check w false hkey, h1, hj, h3, K.stays w hkey, MapKept.run_setObj_map _ hb, Result.andThen, setBlock]

/-- an entry stands ready to be filled -/
def Ent (w : World) (P : Program) (k t : TypeId) (b n : Nat) (f : Lit → Option Value) (kl : Lit) (st : Nat) : Prop :=
  ∃ es1 clock1, w.heap[b]? = some (.map es1 clock1) ∧ ∀ (w2 : World) (val : Value), w2.heap[b]? = some (.map es1 clock1) → ∃ w3, (Instr.entryStore t (.map (some b)) (goInt st) val).run P w2 = .ok () w3 ∧ FM w3 P k b n (updF f kl val) ∧ w2.grownBy w3 (some b) ∧ w3.heap.size = w2.heap.size
theorem Ent.at {w w' : World} {P : Program} {k t : TypeId} {b n st : Nat} {f : Lit → Option Value} {kl : Lit} (h : Ent w P k t b n f kl st) (hb : w'.heap[b]? = w.heap[b]?) : Ent w' P k t b n f kl st := by
  obtain ⟨es, clock, h1, h2⟩ := h; exact ⟨es, clock, hb.trans h1, h2⟩
theorem setBlock_grown {w : World} {b : Nat} {es : Array MapEntry} {clock : Nat} {o' : Obj} (h : w.heap[b]? = some (.map es clock)) : w.grownBy (setBlock w b o') (some b) :=
  ⟨rfl, rfl, rfl, by simp [setBlock], fun i _ hi => heap_setBlock_other h _ (fun e => hi (by rw [e]))⟩
theorem FM.entry {P : Program} {w : World} {t k e : TypeId} {b n : Nat} {f : Lit → Option Value} (h : FM w P k b n f) (K : Keyed P k) (ht : P.underlying t = some (.map k e)) {z : Value} (hz : ∀ u : World, (zeroValue e).run P u = .ok z u) (hn : n < maxLen) {key : Value} {kl : Lit} (hkey : keyOf P k key = some kl) :
    ∃ (v0 : Value) (st : Nat) (w1 : World), (Instr.mapEntry t (.map (some b)) key).run P w = .ok (.tuple #[v0, goInt st]) w1 ∧ Ent w1 P k t b (n + 1) f kl st ∧ w.grownBy w1 (some b) ∧ w1.heap.size = w.heap.size := by
  obtain ⟨D, ho, hf⟩ := h
  have ho' := ho
  obtain ⟨es, clock, hb, F, hs, rfl⟩ := ho'
  obtain ⟨v0, st, es1, clock1, h1, h2⟩ := entry_store K ht hz hb F hkey
  refine ⟨v0, st, _, h1, ⟨es1, clock1, heap_setBlock_same hb _, fun w2 val hw2 => ?_⟩, setBlock_grown hb, by simp [setBlock]⟩
  obtain ⟨es', clock', h3, h4⟩ := h2 w2 val hw2
  obtain ⟨w', hrun2, r1, r2⟩ := ho.update K ht hn (val := val) hkey (d := .held val) (ps := []) rfl
  have e : w' = setBlock w b (.map es' clock') := by rw [h4] at hrun2; injection hrun2 with _ h2; exact h2.symm
  refine ⟨_, h3, (FM.putD K ho hf hkey r1).at ?_, setBlock_grown hw2, by simp [setBlock]⟩
  rw [e, heap_setBlock_same hb, heap_setBlock_same hw2]
theorem step_entry_fm {P : Program} {w : World} {ops : Array Oper} {o : Oper} {a : Act} {K' : Act → World → Prop} {Q : Exit → Act → World → Prop} {E : Prop} {dec : Decidable (Region.wanted o (yielded ops a.tmps) = true)} (hg : o.guard = none) (m x : Operand) (t : TypeId) (hop : o.op = Op.mapEntry t m x)
    (k e : TypeId) (K : Keyed P k) (ht : P.underlying t = some (.map k e)) (b n : Nat) (f : Lit → Option Value) (z : Value) (hz : ∀ u : World, (zeroValue e).run P u = .ok z u)
    (hm : a.eval m = .map (some b)) (h : FM w P k b n f) (hn : n < maxLen) (key : Value) (kl : Lit) (hx : a.eval x = key) (hkey : keyOf P k key = some kl)
    (hK : ∀ v0 st w', Ent w' P k t b (n + 1) f kl st → w.grownBy w' (some b) → w'.heap.size = w.heap.size → K' (a.put o.dst (.tuple #[v0, .int .i64 (st : Nat)])) w') :
    @ite Prop (Region.wanted o (yielded ops a.tmps) = true) dec (Oper.wp P o a w K' Q) E := by
  have hw : Region.wanted o (yielded ops a.tmps) = true := by simp [Region.wanted, hg]
  rw [if_pos hw]
  obtain ⟨v0, st, w1, h1, h2, h3, h4⟩ := h.entry K ht hz hn hkey
  unfold Oper.wp
  simp [execOp, hop, hm, hx, h1, Result.andThen]
  exact hK v0 st w1 h2 h3 h4
theorem step_estore_fm {P : Program} {w : World} {ops : Array Oper} {o : Oper} {a : Act} {K' : Act → World → Prop} {Q : Exit → Act → World → Prop} {E : Prop} {dec : Decidable (Region.wanted o (yielded ops a.tmps) = true)} (hg : o.guard = none) (m s v : Operand) (t : TypeId) (hop : o.op = Op.entryStore t m s v)
    (k : TypeId) (b n st : Nat) (f : Lit → Option Value) (kl : Lit) (hm : a.eval m = .map (some b)) (h : Ent w P k t b n f kl st) (hs : a.eval s = .int .i64 (st : Nat)) (val : Value) (hv : a.eval v = val)
    (hK : ∀ w', FM w' P k b n (updF f kl val) → w.grownBy w' (some b) → w'.heap.size = w.heap.size → K' (a.put o.dst undef) w') :
    @ite Prop (Region.wanted o (yielded ops a.tmps) = true) dec (Oper.wp P o a w K' Q) E := by
  have hw : Region.wanted o (yielded ops a.tmps) = true := by simp [Region.wanted, hg]
  rw [if_pos hw]
  obtain ⟨es1, clock1, hb, h2⟩ := h
  obtain ⟨w3, h3, h4, h5, h6⟩ := h2 w val hb
  have h3' : (Instr.entryStore t (.map (some b)) (.int .i64 (st : Nat)) val).run P w = .ok () w3 := h3
  unfold Oper.wp
  simp [execOp, hop, hm, hs, hv, h3', Result.andThen]
  exact hK w3 h4 h5 h6
theorem upon_entry_fm {P : Program} {w : World} {o : Oper} {a : Act} {K' : Act → World → Prop} {Q : Exit → Act → World → Prop} (t k e : TypeId) (K : Keyed P k) (ht : P.underlying t = some (.map k e)) (b n : Nat) (f : Lit → Option Value) (z : Value) (hz : ∀ u : World, (zeroValue e).run P u = .ok z u)
    (h : FM w P k b n f) (hn : n < maxLen) (key : Value) (kl : Lit) (hkey : keyOf P k key = some kl)
    (hK : ∀ v0 st w', Ent w' P k t b (n + 1) f kl st → w.grownBy w' (some b) → w'.heap.size = w.heap.size → K' (a.put o.dst (.tuple #[v0, .int .i64 (st : Nat)])) w') :
    Oper.upon P o a K' Q ((Sem.run P (Instr.mapEntry t (.map (some b)) key) w).andThen fun a w' => Result.ok (Next.value a) w') := by
  obtain ⟨v0, st, w1, h1, h2, h3, h4⟩ := h.entry K ht hz hn hkey
  rw [h1]
  exact hK v0 st w1 h2 h3 h4
theorem upon_estore_fm {P : Program} {w : World} {o : Oper} {a : Act} {K' : Act → World → Prop} {Q : Exit → Act → World → Prop} (t k : TypeId) (b n st : Nat) (f : Lit → Option Value) (kl : Lit) (h : Ent w P k t b n f kl st) (val : Value)
    (hK : ∀ w', FM w' P k b n (updF f kl val) → w.grownBy w' (some b) → w'.heap.size = w.heap.size → K' (a.put o.dst undef) w') :
    Oper.upon P o a K' Q ((Sem.run P (Instr.entryStore t (.map (some b)) (.int .i64 (st : Nat)) val) w).andThen fun _ w' => Result.ok Next.skip w') := by
  obtain ⟨es1, clock1, hb, h2⟩ := h
  obtain ⟨w3, h3, h4, h5, h6⟩ := h2 w val hb
  have h3' : (Instr.entryStore t (.map (some b)) (.int .i64 (st : Nat)) val).run P w = .ok () w3 := h3
  rw [h3']
  exact hK w3 h4 h5 h6
end Go.Proofs.YtmjgdnpfgkpaoaaGreatDoor
namespace Go.Proofs.YtmjgdnpfgkpaoaaGreatDoor
open Go.RowKit Go.Maps

/-- what a lookup in the map behind block B gives -/
noncomputable def lkW (B : Nat) (b : Int) (w : World) : Value := match (Instr.lookup 144 (.map (some (B + 1))) (.int .i64 b) false).run Tryz.prog w with
  | .ok v _ => v
  | _ => undef
theorem lkW_eq {w : World} {B n : Nat} {f : Lit → Option Value} (h : FM w Tryz.prog 3 (B + 1) n f) {b : Int} (hw : (Lit.int .i64 b).wf = true) : lkW B b w = (f (keyI b)).getD (.slice none 0 0) := by
  unfold lkW; rw [fm_repLook h hw]
theorem lkW_run {w : World} {B n : Nat} {f : Lit → Option Value} (h : FM w Tryz.prog 3 (B + 1) n f) {b : Int} (hw : (Lit.int .i64 b).wf = true) :
    (Instr.lookup 144 (.map (some (B + 1))) (.int .i64 b) false).run Tryz.prog w = .ok (lkW B b w) w := by
  rw [lkW_eq h hw]; exact fm_repLook h hw
theorem set3 (x0 x1 x2 : Value) (a' : Acc) (ha : accC a' = [x0, x1, x2]) : ∀ (l : List Acc) (s : Nat), s < l.length → ((((l.flatMap accC).set (s * 3) x0).set (s * 3 + 1) x1).set (s * 3 + 2) x2) = (l.set s a').flatMap accC := by
  intro l
  induction l with
  | nil => intro s hs; simp at hs
  | cons y l ih =>
    intro s hs
    cases s with
    | zero =>
      have h := ha
      simp only [accC, List.cons.injEq, and_true] at h
      obtain ⟨rfl, rfl, rfl⟩ := h
      simp [List.flatMap_cons, accC]
    | succ s =>
      have := ih s (by simpa using hs)
      rw [List.flatMap_cons, List.set_cons_succ, List.flatMap_cons, ← this]
      have e : (s + 1) * 3 = (accC y).length + s * 3 := by rw [accC_len]; omega
      rw [e, Nat.add_assoc, Nat.add_assoc, List.set_append_right _ _ (by omega), List.set_append_right _ _ (by omega), List.set_append_right _ _ (by omega)]
      simp [Nat.add_sub_cancel_left]
theorem set3A (x0 x1 x2 : Value) (a' : Acc) (ha : accC a' = [x0, x1, x2]) (l : List Acc) (s : Nat) (hs : s < l.length) : ((((l.flatMap accC).toArray.setIfInBounds (s * 3) x0).setIfInBounds (s * 3 + 1) x1).setIfInBounds (s * 3 + 2) x2) = ((l.set s a').flatMap accC).toArray := by
  rw [← set3 x0 x1 x2 a' ha l s hs]
  simp
theorem rowK_atS {k : Nat} {w w' : World} {B n : Nat} {e : TypeId} {v : Value} {l : List Value} (h : w.ownsRow B e k v n l) (hb : ∀ g, v.ownBlock = some g → w'.heap[g]? = w.heap[g]?) : w'.ownsRow B e k v n l := by
  obtain ⟨h1, h2⟩ := h
  refine ⟨h1, ?_⟩
  rcases h2 with h2 | ⟨g, cap, cur, hv, hb', hg, r⟩
  · exact .inl h2
  · exact .inr ⟨g, cap, cur, hv, hb', by rw [hb g (by rw [hv]; rfl)]; exact hg, r⟩
theorem keyI_ne {b b' : Int} (h : b' ≠ b) : (keyI b').sameKey (keyI b) = false := sameKey_ne (fun e => h (by unfold keyI at e; injection e))
theorem updF_same {f : Lit → Option Value} {b : Int} {v : Value} (hw : (Lit.int .i64 b).wf = true) : updF f (keyI b) v (keyI b) = some v := by
  unfold updF; rw [if_pos (WideAt.sameKey_self (kI.key (kOf hw)))]
theorem updF_other {f : Lit → Option Value} {b b' : Int} {v : Value} (h : b' ≠ b) : updF f (keyI b) v (keyI b') = f (keyI b') := by
  unfold updF; rw [if_neg (by rw [keyI_ne h]; decide)]
/-- the own block of a ballot's reports -/
theorem StM.rowLt {w : World} {B m cnt : Nat} {sl : Value} {st : St} {f : Lit → Option Value} (h : StM w B m cnt sl st f) {b : Int} {v : Value} (hf : f (keyI b) = some v) {g : Nat} (hg : v.ownBlock = some g) : B + 4 ≤ g ∧ g < w.heap.size := by
  have := h.rows b
  rw [hf] at this
  exact World.ownsRow.lt this g hg
theorem StM.rowRd {w : World} {B m cnt : Nat} {sl : Value} {st : St} {f : Lit → Option Value} (h : StM w B m cnt sl st f) (b : Int) : ∃ a c, (f (keyI b)).getD (.slice none 0 0) = .slice a (st.rep b).length c ∧ w.ownsRow (B + 4) 158 3 (.slice a (st.rep b).length c) (st.rep b).length ((st.rep b).flatMap repC) ∧ ∀ g, (Value.slice a (st.rep b).length c).ownBlock = some g → B + 4 ≤ g ∧ g < w.heap.size := by
  have := h.rows b
  cases hf : f (keyI b) with
  | none =>
    rw [hf] at this
    have e : st.rep b = [] := this
    rw [e]
    exact ⟨none, 0, rfl, World.ownsRow_nil _ _ _ _, fun g hg => by simp [Value.ownBlock] at hg⟩
  | some v =>
    rw [hf] at this
    have h2 : w.ownsRow (B + 4) 158 3 v (st.rep b).length ((st.rep b).flatMap repC) := this
    obtain ⟨a, c, rfl, _⟩ := rdK_of_row h2
    exact ⟨a, c, rfl, h2, fun g hg => World.ownsRow.lt h2 g hg⟩
theorem valL_upd {st : St} {b : Int} {x : ByteArray} {acc : List Acc} {rep : Int → List Rep} (hw : (Lit.int .i64 b).wf = true) : ∀ y : Int, valL ⟨acc, rep, setF st.vals b (some x)⟩ (keyI y) = updF (valL st) (keyI b) (.string x) (keyI y) := by
  intro y
  by_cases h : y = b
  · subst h; rw [updF_same hw]; unfold valL keyI setF; simp
  · rw [updF_other h]; unfold valL keyI setF; simp [h]
theorem FM.congr {w : World} {b n : Nat} {f f' : Lit → Option Value} (h : FM w Tryz.prog 3 b n f) (he : ∀ y, f (keyI y) = f' (keyI y)) : FM w Tryz.prog 3 b n f' := by
  obtain ⟨D, h1, h2⟩ := h
  refine ⟨D, h1, fun key kl hk z => ?_⟩
  obtain ⟨x, rfl, rfl, _⟩ := Maps.keyOf_int_inv Tryz.underlying3 hk
  rw [h2 _ _ hk]
  have := he x
  unfold keyI at this
  rw [this]

/-- what an event of a run leaves as it was: blocks that are neither the run's three nor a row's; and whose the rows are behind it -/
structure Frm (B : Nat) (f f' : Lit → Option Value) (w w' : World) : Prop where
  keep : ∀ k, k < w.heap.size → k ≠ B → k ≠ B + 1 → k ≠ B + 2 → (∀ (b : Int) v, f (keyI b) = some v → v.ownBlock ≠ some k) → w'.heap[k]? = w.heap[k]?
  own : ∀ (b : Int) v', f' (keyI b) = some v' → ∀ g, v'.ownBlock = some g → w.heap.size ≤ g ∨ ∃ (b0 : Int) (v : Value), f (keyI b0) = some v ∧ v.ownBlock = some g
theorem Frm.pre {B : Nat} {f f' : Lit → Option Value} {w W1 w2 : World} (hb : Below w.heap.size w W1) (h : Frm B f f' W1 w2) : Frm B f f' w w2 :=
  ⟨fun k h1 h2 h3 h4 h5 => (h.keep k (by have := hb.size; omega) h2 h3 h4 h5).trans (hb.block k h1), fun b v hv g hg => (h.own b v hv g hg).imp (fun h9 => by have := hb.size; omega) id⟩

theorem add1_fin {B m cnt : Nat} {sl : Value} {st : St} {f : Lit → Option Value} {s : Nat} {b p q : Int} {v : ByteArray} (hs : s < m) (hm : m ≤ 12) (hw : (Lit.int .i64 b).wf = true) (hacc : atS st.acc s = ⟨p, q, v⟩)
    {W1 X wA wB : World} (h : StM W1 B m cnt sl st f) (hX : Below W1.heap.size W1 X) {gg cap : Nat} {hlt : gg < wA.heap.size}
    (hown : wA.ownsRow (B + 4) 158 3 (.slice (some ⟨gg, 0, none⟩) ((st.rep b).length + 1) cap) ((st.rep b).length + 1) ((st.rep b).flatMap repC ++ [.int .i64 s, .int .i64 q, .string v]))
    (hgA : X.grownBy wA ((f (keyI b)).getD (.slice none 0 0)).ownBlock) (hat : ((f (keyI b)).getD (.slice none 0 0)).ownBlock = some gg ∨ W1.heap.size ≤ gg)
    (hfm : FM wB Tryz.prog 3 (B + 1) (cnt + 1) (updF f (keyI b) (.slice (some ⟨gg, 0, none⟩) ((st.rep b).length + 1) cap))) (hgB : wA.grownBy wB (some (B + 1))) :
    StM (((wB.setCell ⟨B, s * 3, none⟩ (.int .i64 b)).setCell ⟨B, s * 3 + 1, none⟩ (.int .i64 q)).setCell ⟨B, s * 3 + 2, none⟩ (.string v)) B m (cnt + 1) sl (addP1 st ⟨1, s, b, ⟨#[]⟩⟩) (updF f (keyI b) (.slice (some ⟨gg, 0, none⟩) ((st.rep b).length + 1) cap)) ∧ Below B W1 (((wB.setCell ⟨B, s * 3, none⟩ (.int .i64 b)).setCell ⟨B, s * 3 + 1, none⟩ (.int .i64 q)).setCell ⟨B, s * 3 + 2, none⟩ (.string v))  ∧ Frm B f (updF f (keyI b) (.slice (some ⟨gg, 0, none⟩) ((st.rep b).length + 1) cap)) W1 (((wB.setCell ⟨B, s * 3, none⟩ (.int .i64 b)).setCell ⟨B, s * 3 + 1, none⟩ (.int .i64 q)).setCell ⟨B, s * 3 + 2, none⟩ (.string v)) := by
  have hB : B < W1.heap.size := (Array.getElem?_eq_some_iff.1 h.acc).1
  have hB3 : B + 3 < W1.heap.size := (Array.getElem?_eq_some_iff.1 h.run).1
  have hB1 := h.reps.lt
  have hB2 := h.vals.lt
  have hov : ∀ g, ((f (keyI b)).getD (.slice none 0 0)).ownBlock = some g → B + 4 ≤ g ∧ g < W1.heap.size := by
    intro g hg
    cases hf : f (keyI b) with
    | none => rw [hf] at hg; simp [Value.ownBlock] at hg
    | some u => rw [hf] at hg; exact h.rowLt hf hg
  have hgg : B + 4 ≤ gg := by
    rcases hat with h1 | h1
    · exact (hov gg h1).1
    · omega
  have hXs := hX.size
  -- a block below W1's size that is neither the row nor one of the maps is as it was
  have key : ∀ k, k < W1.heap.size → ((f (keyI b)).getD (.slice none 0 0)).ownBlock ≠ some k → k ≠ B + 1 → wB.heap[k]? = W1.heap[k]? := by
    intro k hk h1 h2
    rw [hgB.block k (by have := hgA.size; omega) (by simpa using h2), hgA.block k (by omega) (fun e => h1 e.symm), hX.block k hk]
  have kA : wB.heap[B]? = W1.heap[B]? := key B hB (fun e => by have := (hov B e).1; omega) (by omega)
  have kR : wB.heap[B + 3]? = W1.heap[B + 3]? := key (B + 3) hB3 (fun e => by have := (hov _ e).1; omega) (by omega)
  have kV : wB.heap[B + 2]? = W1.heap[B + 2]? := key (B + 2) hB2 (fun e => by have := (hov _ e).1; omega) (by omega)
  have hset : ∀ k, k ≠ B → (((wB.setCell ⟨B, s * 3, none⟩ (.int .i64 b)).setCell ⟨B, s * 3 + 1, none⟩ (.int .i64 q)).setCell ⟨B, s * 3 + 2, none⟩ (.string v)).heap[k]? = wB.heap[k]? := by
    intro k hk
    rw [Below.heap_setCell _ _ _ _ hk, Below.heap_setCell _ _ _ _ hk, Below.heap_setCell _ _ _ _ hk]
  constructor
  · refine ⟨?_, ?_, ?_, ?_, ?_, ?_, ?_, ?_⟩
    · have := heap_set_at (heap_set_at (heap_set_at (kA.trans h.acc) (s * 3) (.int .i64 b)) (s * 3 + 1) (.int .i64 q)) (s * 3 + 2) (.string v)
      rw [this]
      congr 2
      rw [set3A _ _ _ ⟨b, q, v⟩ rfl st.acc s (by rw [h.len]; exact hs)]
      unfold addP1
      simp only [Int.toNat_natCast, hacc]
    · show (st.acc.set _ _).length = m
      rw [List.length_set]; exact h.len
    · rw [hset _ (by omega), kR]; exact h.run
    · exact hfm.at (hset _ (by omega))
    · have e : valL (addP1 st ⟨1, s, b, ⟨#[]⟩⟩) = valL st := by funext y; cases y <;> rfl
      rw [e]
      exact (h.vals.at (by rw [hset _ (by omega), kV])).mono (by omega)
    · intro b'
      by_cases hbb : b' = b
      · subst hbb
        rw [updF_same hw]
        simp only
        have er : (addP1 st ⟨1, s, b', ⟨#[]⟩⟩).rep b' = st.rep b' ++ [⟨s, q, v⟩] := by
          unfold addP1 setF repOf; simp only [if_true, hacc]
        rw [er]
        have hown' : wA.ownsRow (B + 4) 158 3 (.slice (some ⟨gg, 0, none⟩) ((st.rep b').length + 1) cap) ((st.rep b' ++ [(⟨s, q, v⟩ : Rep)]).length) ((st.rep b' ++ [(⟨s, q, v⟩ : Rep)]).flatMap repC) := by
          have e1 : (st.rep b' ++ [(⟨s, q, v⟩ : Rep)]).length = (st.rep b').length + 1 := by simp
          have e2 : (st.rep b' ++ [(⟨s, q, v⟩ : Rep)]).flatMap repC = (st.rep b').flatMap repC ++ [.int .i64 s, .int .i64 q, .string v] := by simp [repC]
          rw [e1, e2]; exact hown
        refine rowK_atS hown' fun g hg => ?_
        have : g = gg := by simp [Value.ownBlock] at hg; exact hg.symm
        subst this
        rw [hset _ (by omega), hgB.block _ hlt (by simp; omega)]
      · rw [updF_other hbb]
        have er : (addP1 st ⟨1, s, b, ⟨#[]⟩⟩).rep b' = st.rep b' := by
          unfold addP1 setF; simp only [if_neg hbb]
        rw [er]
        have h1 := h.rows b'
        cases hf : f (keyI b') with
        | none => rw [hf] at h1; exact h1
        | some u =>
          rw [hf] at h1
          refine rowK_atS h1 fun g hg => ?_
          have h2 := h.rowLt hf hg
          rw [hset _ (by omega)]
          refine key g h2.2 (fun e => ?_) (by omega)
          cases hf2 : f (keyI b) with
          | none => rw [hf2] at e; simp [Value.ownBlock] at e
          | some u2 =>
            rw [hf2] at e
            exact h.apart b' b u u2 hbb hf hf2 g hg e
    · intro b1 b2 v1 v2 hne h1 h2 g hg1 hg2
      have fresh : ∀ b' u, b' ≠ b → f (keyI b') = some u → u.ownBlock ≠ some gg := by
        intro b' u hb' hu e
        have h3 := h.rowLt hu e
        rcases hat with h4 | h4
        · cases hf2 : f (keyI b) with
          | none => rw [hf2] at h4; simp [Value.ownBlock] at h4
          | some u2 => rw [hf2] at h4; exact h.apart b' b u u2 hb' hu hf2 gg e h4
        · omega
      by_cases e1 : b1 = b
      · subst e1
        rw [updF_same hw] at h1
        rw [updF_other (fun e => hne e.symm)] at h2
        cases h1
        have : g = gg := by simp [Value.ownBlock] at hg1; exact hg1.symm
        subst this
        exact fresh b2 v2 (fun e => hne e.symm) h2 hg2
      · rw [updF_other e1] at h1
        by_cases e2 : b2 = b
        · subst e2
          rw [updF_same hw] at h2
          cases h2
          have : g = gg := by simp [Value.ownBlock] at hg2; exact hg2.symm
          subst this
          exact fresh b1 v1 e1 h1 hg1
        · rw [updF_other e2] at h2
          exact h.apart b1 b2 v1 v2 hne h1 h2 g hg1 hg2
    · intro b' r hr
      unfold addP1 setF at hr
      simp only at hr
      split at hr
      · rename_i hbb
        rcases List.mem_append.1 hr with hr | hr
        · exact h.srv b r hr
        · rw [List.mem_singleton] at hr; subst hr; unfold repOf; simp only; omega
      · exact h.srv b' r hr
  · refine ⟨⟨?_, ?_, ?_, ?_, ?_⟩, ⟨fun k h1 h2 h3 h4 h5 => ?_, fun b' v' hv g hg => ?_⟩⟩
    · show wB.os = _; rw [hgB.os, hgA.os, hX.os]
    · show wB.tape = _; rw [hgB.tape, hgA.tape, hX.tape]
    · show wB.output = _; rw [hgB.output, hgA.output, hX.output]
    · have := hgA.size; have := hgB.size; simp [World.setCell]; omega
    · intro k hk
      rw [hset k (by omega)]
      exact key k (by omega) (fun e => by have := (hov k e).1; omega) (by omega)
    · rw [hset k h2]
      refine key k h1 (fun e => ?_) h3
      cases hf2 : f (keyI b) with
      | none => rw [hf2] at e; simp [Value.ownBlock] at e
      | some u2 => rw [hf2] at e; exact h5 b u2 hf2 e
    · by_cases hbb : b' = b
      · subst hbb
        rw [updF_same hw] at hv
        cases hv
        have : g = gg := by simp [Value.ownBlock] at hg; exact hg.symm
        subst this
        rcases hat with h1 | h1
        · cases hf2 : f (keyI b') with
          | none => rw [hf2] at h1; simp [Value.ownBlock] at h1
          | some u2 => rw [hf2] at h1; exact .inr ⟨b', u2, hf2, h1⟩
        · exact .inl h1
      · rw [updF_other hbb] at hv
        exact .inr ⟨b', v', hv, hg⟩

theorem add2_fin {B m cnt : Nat} {sl : Value} {st : St} {f : Lit → Option Value} {s : Nat} {b k : Int} {x : ByteArray} (hs : s < m) (hw : (Lit.int .i64 b).wf = true)
    {W1 wF : World} (h : StM W1 B m cnt sl st f)
    (hA : wF.heap[B]? = some (.cells ((((st.acc.flatMap accC).toArray.setIfInBounds (s * 3) (.int .i64 b)).setIfInBounds (s * 3 + 1) (.int .i64 b)).setIfInBounds (s * 3 + 2) (.string x)) 149 (0, 0)))
    (hV : FM wF Tryz.prog 3 (B + 2) (cnt + 1) (updF (valL st) (keyI b) (.string x)))
    (hk : ∀ j, j < W1.heap.size → j ≠ B → j ≠ B + 2 → wF.heap[j]? = W1.heap[j]?) (hsz : W1.heap.size ≤ wF.heap.size) (h1 : wF.os = W1.os) (h2 : wF.tape = W1.tape) (h3 : wF.output = W1.output) :
    StM wF B m (cnt + 1) sl (addP2 st ⟨k, s, b, x⟩) f ∧ Below B W1 wF ∧ Frm B f f W1 wF := by
  have hB : B < W1.heap.size := (Array.getElem?_eq_some_iff.1 h.acc).1
  have hB3 : B + 3 < W1.heap.size := (Array.getElem?_eq_some_iff.1 h.run).1
  have hB1 := h.reps.lt
  refine ⟨⟨?_, ?_, ?_, ?_, ?_, ?_, h.apart, h.srv⟩, ⟨h1, h2, h3, hsz, fun j hj => hk j (by omega) (by omega) (by omega)⟩, ⟨fun k h1 h2 _ h4 _ => hk k h1 h2 h4, fun b v hv g hg => .inr ⟨b, v, hv, hg⟩⟩⟩
  · rw [hA]
    congr 2
    rw [set3A _ _ _ ⟨b, b, x⟩ rfl st.acc s (by rw [h.len]; exact hs)]
    unfold addP2
    simp only [Int.toNat_natCast]
  · show (st.acc.set _ _).length = m
    rw [List.length_set]; exact h.len
  · rw [hk _ hB3 (by omega) (by omega)]; exact h.run
  · exact (h.reps.at (hk _ hB1 (by omega) (by omega))).mono (by omega)
  · exact hV.congr fun y => (valL_upd hw y).symm
  · intro b'
    have h4 := h.rows b'
    show match f (keyI b') with
      | none => st.rep b' = []
      | some v => wF.ownsRow (B + 4) 158 3 v (st.rep b').length ((st.rep b').flatMap repC)
    cases hf : f (keyI b') with
    | none => rw [hf] at h4; exact h4
    | some u =>
      rw [hf] at h4
      exact rowK_atS h4 fun g hg => by
        have h5 := h.rowLt hf hg
        exact hk g h5.2 (by omega) (by omega)
/-- the cells of an acceptor -/
theorem acc_cells {w : World} {B : Nat} {l : List Acc} {s : Nat} (h : w.heap[B]? = some (.cells (l.flatMap accC).toArray 149 (0, 0))) (hs : s < l.length) :
    (w.cell? ⟨B, s * 3, none⟩ = some (.int .i64 (atS l s).prom) ∧ w.cell? ⟨B, s * 3 + 1, none⟩ = some (.int .i64 (atS l s).bal) ∧ w.cell? ⟨B, s * 3 + 2, none⟩ = some (.string (atS l s).val)) ∧ ∀ i, w.frozen? ⟨B, i, none⟩ = false := by
  have hx : l[s]? = some (atS l s) := by unfold atS; rw [Int.toNat_natCast, List.getD, List.getElem?_eq_getElem hs]; rfl
  have key : ∀ j, j < 3 → w.cell? ⟨B, s * 3 + j, none⟩ = (accC (atS l s))[j]? := by
    intro j hj
    rw [cell_of_row _ _ _ _ _ _ h]
    have := flat_at 3 accC accC_len l s j _ hx hj
    simpa using this
  refine ⟨⟨key 0 (by decide), key 1 (by decide), key 2 (by decide)⟩, fun i => by simp [World.frozen?, h]⟩

end Go.Proofs.YtmjgdnpfgkpaoaaGreatDoor
namespace Go.Proofs.YtmjgdnpfgkpaoaaGreatDoor
open Go.RowKit Go.Maps

set_option maxRecDepth 100000 in
set_option maxHeartbeats 4000000 in
theorem add1_c (B m cnt : Nat) (sl : Value) (st : St) (f : Lit → Option Value) (s : Nat) (b : Int) (hs : s < m) (hb : 1 ≤ b) (hw : (Lit.int .i64 b).wf = true) (hm : m ≤ 12) (hcnt : cnt ≤ 1000) (hrn : (st.rep b).length ≤ 1000) (hp : (atS st.acc s).prom < b) (w : World) (h : StM w B m cnt sl st f) :
    Calls Tryz.prog 61 #[.pointer (some ⟨B + 3, 0, none⟩), .agg #[.int .i64 1, .int .i64 s, .int .i64 b, .string ⟨#[]⟩]] w fun e w' => e = .returned (.bool true) ∧ Below B w w' ∧ ∃ f', StM w' B m (cnt + 1) sl (addP1 st ⟨1, s, b, ⟨#[]⟩⟩) f' ∧ Frm B f f' w w' := by
  obtain ⟨r0, r1, r2, r3⟩ := open4 h.run
  obtain ⟨⟨a0, a1, a2⟩, hfr⟩ := acc_cells h.acc (s := s) (by rw [h.len]; exact hs)
  obtain ⟨⟨p, q, v⟩, hacc⟩ : ∃ a, atS st.acc s = a := ⟨_, rfl⟩
  rw [hacc] at a0 a1 a2 hp
  obtain ⟨ar, cr, hrv, hrow, hblk⟩ := h.rowRd b
  have H := Lib.hid h
  have hB0 := blA w (.cells #[.int .i64 1, .int .i64 s, .int .i64 b, .string ⟨#[]⟩] 68)
  have r0' := (hB0.cell (p := ⟨B + 3, 0, none⟩) (cell_lt r0)).trans r0
  have r1' := (hB0.cell (p := ⟨B + 3, 1, none⟩) (cell_lt r1)).trans r1
  have r2' := (hB0.cell (p := ⟨B + 3, 2, none⟩) (cell_lt r2)).trans r2
  have a0' := (hB0.cell (p := ⟨B, s * 3, none⟩) (cell_lt a0)).trans a0
  have a1' := (hB0.cell (p := ⟨B, s * 3 + 1, none⟩) (cell_lt a1)).trans a1
  have a2' := (hB0.cell (p := ⟨B, s * 3 + 2, none⟩) (cell_lt a2)).trans a2
  have g1 : decide ((s : Int) < 0) = false := by simp
  have g2 : decide ((m : Int) ≤ (s : Int)) = false := by simp; omega
  have g3 : decide (b < 1) = false := by simp; omega
  have i0 : (0 : Int) ≤ (s : Int) := by omega
  have i1 : (s : Int) < (m : Int) := by omega
  have HACC := Lib.hid hacc
  have HFR := Lib.hid hfr
  have HW := Lib.hid hw
  obtain ⟨nl, hnl⟩ : ∃ L, (st.rep b).length = L := ⟨_, rfl⟩
  rw [hnl] at hrv hrow hblk hrn
  have HRV := Lib.hid hrv
  have HROW := Lib.hid hrow
  have HBLK := Lib.hid hblk
  have HNL := Lib.hid hnl
  clear h hacc hfr hw hrv hrow hblk hnl
  go_enter Tryz.func61, Tryz.ntmps61
  go_wp2_with fail
  go_quiet (fail)
  go_wp2_with fail
  go_quiet (fail)
  go_wp2_with fail
  generalize hW : World.drewN (w.alloc (.cells #[.int .i64 1, .int .i64 s, .int .i64 b, .string ⟨#[]⟩] 68)) _ = W0
  have hW1 : Below w.heap.size w W0 := by rw [← hW]; exact below_drewN hB0
  have hW2 : W0.heap.size = w.heap.size + 1 := by rw [← hW]; simp
  have hW3 : W0.heap[w.heap.size]? = some (.cells #[.int .i64 1, .int .i64 s, .int .i64 b, .string ⟨#[]⟩] 68 (0, 0)) := by rw [← hW]; exact heap_alloc_new w _
  obtain ⟨e0, e1, e2, e3⟩ := open4 hW3
  have A0 := (hW1.cell (p := ⟨B, s * 3, none⟩) (cell_lt a0)).trans a0
  have A1 := (hW1.cell (p := ⟨B, s * 3 + 1, none⟩) (cell_lt a1)).trans a1
  have A2 := (hW1.cell (p := ⟨B, s * 3 + 2, none⟩) (cell_lt a2)).trans a2
  have KS : Hid (∀ x : World, Below W0.heap.size W0 x → x.cell? ⟨B, s * 3, none⟩ = some (.int .i64 p) ∧ x.cell? ⟨B, s * 3 + 1, none⟩ = some (.int .i64 q) ∧ x.cell? ⟨B, s * 3 + 2, none⟩ = some (.string v) ∧ x.cell? ⟨w.heap.size, 2, none⟩ = some (.int .i64 b)) := Lib.hid (fun x hx => ⟨(hx.cell (p := ⟨B, s * 3, none⟩) (cell_lt A0)).trans A0, (hx.cell (p := ⟨B, s * 3 + 1, none⟩) (cell_lt A1)).trans A1, (hx.cell (p := ⟨B, s * 3 + 2, none⟩) (cell_lt A2)).trans A2, (hx.cell (p := ⟨w.heap.size, 2, none⟩) (cell_lt e2)).trans e2⟩)
  have HP2 : Hid (∀ x : World, Below W0.heap.size W0 x → Calls Tryz.prog 92 #[.agg #[.int .i64 p, .int .i64 q, .string v], .int .i64 b] x fun e w3 => e = .returned (.tuple #[.agg #[.int .i64 b, .int .i64 q, .string v], .bool true]) ∧ Below W0.heap.size W0 w3 ∧ ∀ ob, x.heap[W0.heap.size]? = some ob → w3.heap[W0.heap.size]? = some ob) := Lib.hid (fun x hx => (promise_c p q v b x).mono fun e w3 ⟨h1, h2⟩ => ⟨by rw [h1, if_pos hp, decide_eq_true hp], Below.next hx h2, fun ob ho => heap_below h2 ho⟩)
  have HW1 := Lib.hid hW1
  have HW2 := Lib.hid hW2
  have HE := Lib.hid hW3
  clear hW hW1 hW2 hW3 hB0 r0' r1' r2' a0' a1' a2' r0 r1 r2 r3 a0 a1 a2 g1 g2 g3 i0 i1 e0 e1 e3
  go_region_held3 (fun w' => w'.cell? ⟨B, s * 3, none⟩ = some (.int .i64 p) ∧ w'.cell? ⟨B, s * 3 + 1, none⟩ = some (.int .i64 q) ∧ w'.cell? ⟨B, s * 3 + 2, none⟩ = some (.string v) ∧ w'.cell? ⟨w.heap.size, 2, none⟩ = some (.int .i64 b))
    (exact KS.out _ (by (repeat (first | with_reducible exact Below.refl _ _ | with_reducible exact hb3 | with_reducible refine below_drew ?_ | with_reducible refine Below.alloc ?_ ?_ _ | with_reducible refine Below.setCell ?_ ?_ _ | exact Nat.le_refl _ | exact hb3.size))))
    ((go_at_call 92; (refine (HP2.out _ (by (first | with_reducible exact below_drew (Below.refl _ _) | with_reducible exact below_drew (blA _ _)))).mono ?_); (rintro e w3 ⟨rfl, hb3, hx⟩; first | (have hx2 := hx _ (heap_alloc_new W0 _); obtain ⟨⟨x0, x1, x2⟩, y0, y1, y2⟩ := open3 hx2; clear hx) | (clear hx))))
  all_goals
    have hN : ∃ (W1 : World) (Bx : Nat), True := ⟨w3, 0, trivial⟩
    first
    | (have hWb := ((hb3.setCell (p := ⟨W0.heap.size, 0, none⟩) (Nat.le_refl _) (.int .i64 b)).setCell (p := ⟨W0.heap.size, 1, none⟩) (Nat.le_refl _) (.int .i64 q)).setCell (p := ⟨W0.heap.size, 2, none⟩) (Nat.le_refl _) (.string v)
       have hWn : ((((w3.setCell ⟨W0.heap.size, 0, none⟩ (.int .i64 b)).setCell ⟨W0.heap.size, 1, none⟩ (.int .i64 q)).setCell ⟨W0.heap.size, 2, none⟩ (.string v)).heap[W0.heap.size]? = some (.cells #[.int .i64 b, .int .i64 q, .string v] 149 (0, 0))) := heap_set_at (heap_set_at (heap_set_at hx2 0 (.int .i64 b)) 1 (.int .i64 q)) 2 (.string v)
       have hBx : W0.heap.size ≤ W0.heap.size := Nat.le_refl _
       generalize World.setCell (World.setCell (World.setCell w3 ⟨W0.heap.size, 0, none⟩ (.int .i64 b)) ⟨W0.heap.size, 1, none⟩ (.int .i64 q)) ⟨W0.heap.size, 2, none⟩ (.string v) = W1 at hWb hWn ⊢
       generalize hBe : W0.heap.size = Bx at hWn ⊢
       have hBx : W0.heap.size ≤ Bx := Nat.le_of_eq hBe
       clear hBe)
    | (have hWb := hb3.alloc hb3.size (.cells #[.int .i64 b, .int .i64 q, .string v] 149)
       have hWn := heap_alloc_new w3 (.cells #[.int .i64 b, .int .i64 q, .string v] 149)
       have hBx : W0.heap.size ≤ w3.heap.size := hb3.size
       generalize World.alloc w3 (.cells #[.int .i64 b, .int .i64 q, .string v] 149) = W1 at hWb hWn ⊢
       generalize w3.heap.size = Bx at hWn hBx ⊢)
    have hSt := (H.out.below HW1.out).below hWb
    have hbox := heap_below hWb HE.out
    obtain ⟨E0, E1, E2, E3⟩ := open4 hbox
    obtain ⟨R0, R1, R2, R3⟩ := open4 hSt.run
    obtain ⟨⟨C0, C1, C2⟩, hfr2⟩ := acc_cells hSt.acc (s := s) (by rw [hSt.len]; exact hs)
    rw [HACC.out] at C0 C1 C2
    have HSt := Lib.hid hSt
    have HWb := Lib.hid hWb
    have HWn := Lib.hid hWn
    clear hSt hWb hWn hbox
    go_wp2_with fail
    have HF1 := Lib.hid HSt.out.reps
    have k1 : lkW B b W1 = .slice ar nl cr := by rw [lkW_eq HF1.out HW.out, HRV.out]
    have k2 : lkW B b W1.drew = .slice ar nl cr := by rw [lkW_eq (w := W1.drew) (HF1.out.at rfl) HW.out, HRV.out]
    have k3 : lkW B b (W1.alloc (.cells #[.int .i64 s, .int .i64 q, .string v] 158)) = .slice ar nl cr := by rw [lkW_eq (fmA1 HF1.out) HW.out, HRV.out]
    have k4 : lkW B b (W1.alloc (.cells #[.int .i64 s, .int .i64 q, .string v] 158)).drew = .slice ar nl cr := by rw [lkW_eq (fmA HF1.out) HW.out, HRV.out]
    have hsz0 : w.heap.size < W1.heap.size := by have := HWb.out.size; have := HW2.out; omega
    have hBH : B + 3 < w.heap.size := (Array.getElem?_eq_some_iff.1 H.out.run).1
    have hrow1 := rowK_below (rowK_below HROW.out HW1.out) HWb.out
    have KS2 : Hid (∀ x : World, Below W1.heap.size W1 x → x.cell? ⟨w.heap.size, 1, none⟩ = some (.int .i64 s) ∧ x.cell? ⟨w.heap.size, 2, none⟩ = some (.int .i64 b) ∧ x.cell? ⟨B + 3, 2, none⟩ = some (.map (some (B + 1))) ∧ x.cell? ⟨B, s * 3 + 1, none⟩ = some (.int .i64 q) ∧ x.cell? ⟨B, s * 3 + 2, none⟩ = some (.string v) ∧ (Instr.lookup 144 (.map (some (B + 1))) (.int .i64 b) false).run Tryz.prog x = .ok (lkW B b x) x) := Lib.hid (fun x hx => ⟨(hx.cell (p := ⟨w.heap.size, 1, none⟩) (cell_lt E1)).trans E1, (hx.cell (p := ⟨w.heap.size, 2, none⟩) (cell_lt E2)).trans E2, (hx.cell (p := ⟨B + 3, 2, none⟩) (cell_lt R2)).trans R2, (hx.cell (p := ⟨B, s * 3 + 1, none⟩) (cell_lt C1)).trans C1, (hx.cell (p := ⟨B, s * 3 + 2, none⟩) (cell_lt C2)).trans C2, lkW_run (HF1.out.below hx) HW.out⟩)
    have KS3 : Hid (∀ x y : World, Below W1.heap.size W1 x → x.grownBy y (Value.slice ar nl cr).ownBlock → (y.cell? ⟨w.heap.size, 1, none⟩ = some (.int .i64 s) ∧ y.cell? ⟨w.heap.size, 2, none⟩ = some (.int .i64 b) ∧ y.cell? ⟨B + 3, 2, none⟩ = some (.map (some (B + 1))) ∧ y.cell? ⟨B, s * 3 + 1, none⟩ = some (.int .i64 q) ∧ y.cell? ⟨B, s * 3 + 2, none⟩ = some (.string v) ∧ (Instr.lookup 144 (.map (some (B + 1))) (.int .i64 b) false).run Tryz.prog y = .ok (lkW B b y) y) ∧ FM y Tryz.prog 3 (B + 1) cnt f) := Lib.hid (fun x y hx hg => by
      have kb : ∀ k, k < W1.heap.size → (k < B + 4 ∨ w.heap.size ≤ k) → y.heap[k]? = W1.heap[k]? := by
        intro k h1 h2
        rw [hg.block k (by have := hx.size; omega) (fun e => by have := HBLK.out k e.symm; omega), hx.block k h1]
      have kc : ∀ k i, k < W1.heap.size → (k < B + 4 ∨ w.heap.size ≤ k) → y.cell? ⟨k, i, none⟩ = W1.cell? ⟨k, i, none⟩ := fun k i h1 h2 => World.cell?_of_block (kb k h1 h2)
      have hfm : FM y Tryz.prog 3 (B + 1) cnt f := HF1.out.at (kb (B + 1) HF1.out.lt (by omega))
      refine ⟨⟨(kc _ 1 hsz0 (by omega)).trans E1, (kc _ 2 hsz0 (by omega)).trans E2, (kc _ 2 (by omega) (by omega)).trans R2, (kc _ _ (by omega) (by omega)).trans C1, (kc _ _ (by omega) (by omega)).trans C2, lkW_run hfm HW.out⟩, hfm⟩)
    have KS4 : Hid (∀ x y : World, x.grownBy y (some (B + 1)) → y.heap.size = x.heap.size → w.heap.size < x.heap.size → (x.cell? ⟨w.heap.size, 1, none⟩ = some (.int .i64 s) ∧ x.cell? ⟨w.heap.size, 2, none⟩ = some (.int .i64 b) ∧ x.cell? ⟨B + 3, 2, none⟩ = some (.map (some (B + 1))) ∧ x.cell? ⟨B, s * 3 + 1, none⟩ = some (.int .i64 q) ∧ x.cell? ⟨B, s * 3 + 2, none⟩ = some (.string v) ∧ (Instr.lookup 144 (.map (some (B + 1))) (.int .i64 b) false).run Tryz.prog x = .ok (lkW B b x) x) → (∃ n f, FM y Tryz.prog 3 (B + 1) n f) → (y.cell? ⟨w.heap.size, 1, none⟩ = some (.int .i64 s) ∧ y.cell? ⟨w.heap.size, 2, none⟩ = some (.int .i64 b) ∧ y.cell? ⟨B + 3, 2, none⟩ = some (.map (some (B + 1))) ∧ y.cell? ⟨B, s * 3 + 1, none⟩ = some (.int .i64 q) ∧ y.cell? ⟨B, s * 3 + 2, none⟩ = some (.string v) ∧ (Instr.lookup 144 (.map (some (B + 1))) (.int .i64 b) false).run Tryz.prog y = .ok (lkW B b y) y)) := Lib.hid (fun x y hg hs2 hlt ⟨p1, p2, p3, p4, p5, _⟩ ⟨n', f', hfm⟩ => by
      have kc : ∀ k i, k < x.heap.size → k ≠ B + 1 → y.cell? ⟨k, i, none⟩ = x.cell? ⟨k, i, none⟩ := fun k i h1 h2 => World.cell?_of_block (hg.block k h1 (by simpa using h2))
      exact ⟨(kc _ 1 hlt (by omega)).trans p1, (kc _ 2 hlt (by omega)).trans p2, (kc _ 2 (by omega) (by omega)).trans p3, (kc _ _ (by omega) (by omega)).trans p4, (kc _ _ (by omega) (by omega)).trans p5, lkW_run hfm HW.out⟩)
    obtain ⟨i0, hi0, hz0, hz1, hz2⟩ := info_parts Tryz.infoRep
    have HROW1 := Lib.hid hrow1
    have HSZ0 := Lib.hid hsz0
    clear hrow1 E0 E3 R0 R1 R3 C0
    go_region_held3 (fun w' => w'.cell? ⟨w.heap.size, 1, none⟩ = some (.int .i64 s) ∧ w'.cell? ⟨w.heap.size, 2, none⟩ = some (.int .i64 b) ∧ w'.cell? ⟨B + 3, 2, none⟩ = some (.map (some (B + 1))) ∧ w'.cell? ⟨B, s * 3 + 1, none⟩ = some (.int .i64 q) ∧ w'.cell? ⟨B, s * 3 + 2, none⟩ = some (.string v) ∧ (Instr.lookup 144 (.map (some (B + 1))) (.int .i64 b) false).run Tryz.prog w' = .ok (lkW B b w') w')
      (first | exact hSB | exact hSA | (refine KS2.out _ ?_; first | with_reducible exact Below.refl _ _ | with_reducible exact below_drew (Below.refl _ _) | with_reducible exact blA _ _ | with_reducible exact below_drew (blA _ _)))
      (first
        | (refine step_append_lies _ (by rfl) _ _ _ (by rfl) (B + 4) 158 i0 _ 3 32 Tryz.underlying156 hi0 hz0 hz1 hz2 rfl (by omega) (.slice ar nl cr) nl _ (by rfl) ((HROW1.out.alloc _).drew) ⟨W1.heap.size, 0, none⟩ 1 1 [.int .i64 s, .int .i64 q, .string v] (by rfl) (by rfl) (World.news_of_block (cs := #[.int .i64 s, .int .i64 q, .string v]) (t := 158) (fr := (0, 0)) (heap_alloc_new W1 _)) (by simp [Value.oneCell']) (by omega) (by unfold maxLen; omega) (by omega) (by simp; omega) (W1.heap.size + 1) (by simp) ?_; intro gg cap wA hownA hgrow hat hlt; have hSA := (KS3.out _ _ (below_drew (blA _ _)) hgrow).1; have hFA := Lib.hid (KS3.out _ _ (below_drew (blA _ _)) hgrow).2; obtain ⟨wB, hrunB, hfmB, hgB, hsB⟩ := hFA.out.put kI Tryz.underlying144 (by unfold maxLen; omega) (kOf HW.out) (.slice (some ⟨gg, 0, none⟩) (nl + 1) cap); have HFMB := Lib.hid hfmB; have hSB := KS4.out wA wB hgB hsB (by have := HSZ0.out; have := hgrow.size; simp at this; omega) hSA ⟨_, _, hfmB⟩; clear hfmB))
    all_goals
      have hgA2 := hgrow
      rw [← HRV.out] at hgA2 hat
      have hhB : wB.heap[B]? = W1.heap[B]? := by
        rw [hgB.block B (by have := hgrow.size; simp at this; omega) (by simp), hgrow.block B (by simp; omega) (fun e => by have := HBLK.out B e.symm; omega)]
        exact Below.heap_alloc W1 _ B (by omega)
      obtain ⟨⟨D0, D1, D2⟩, hfrB⟩ := acc_cells (hhB.trans HSt.out.acc) (s := s) (by rw [HSt.out.len]; exact hs)
      rw [HACC.out] at D0 D1 D2
      have F0 := hfrB (s * 3)
      have F1 := hfrB (s * 3 + 1)
      have F2 := hfrB (s * 3 + 2)
      have hBx2 : Bx < W1.heap.size := (Array.getElem?_eq_some_iff.1 HWn.out).1
      have hhX : wB.heap[Bx]? = some (.cells #[.int .i64 b, .int .i64 q, .string v] 149 (0, 0)) := by
        rw [hgB.block Bx (by have := hgrow.size; simp at this; omega) (by have := HW2.out; simp; omega), hgrow.block Bx (by simp; omega) (fun e => by have := HBLK.out Bx e.symm; have := HW2.out; omega)]
        exact (Below.heap_alloc W1 _ Bx (by omega)).trans HWn.out
      obtain ⟨⟨X0, X1, X2⟩, _⟩ := open3 hhX
      have HG1 := Lib.hid hgA2
      have HG2 := Lib.hid hgB
      have HAT := Lib.hid hat
      have HOWN := Lib.hid hownA
      clear hgA2 hgB hat hownA hgrow hhX hhB hSA hSB k1 k2 k3 k4 hsB hrunB hfrB hFA
      go_wp2_with fail
      go_ret
      have hfin := add1_fin hs hm HW.out HACC.out HSt.out (below_drew (blA _ _)) (hlt := hlt) (by rw [HNL.out]; exact HOWN.out) HG1.out (HAT.out.imp id (fun h => by omega)) (by rw [HNL.out]; exact HFMB.out) HG2.out
      exact ⟨rfl, ((Below.next HW1.out HWb.out).mono (by omega)).trans hfin.2.1, _, hfin.1, hfin.2.2.pre (Below.next HW1.out HWb.out)⟩
end Go.Proofs.YtmjgdnpfgkpaoaaGreatDoor
