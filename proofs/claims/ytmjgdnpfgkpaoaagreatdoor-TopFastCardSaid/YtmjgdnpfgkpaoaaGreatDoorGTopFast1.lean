/- Texts laid together. The reference of layer 9. The reference of layer 9: Minimal, Made. The reference of layer 9: Made. readable: a family of the top statements. Layer 38: the values of votes, ascending, each once. Plain Lean, no program. Lists of texts: Equal, Same, the voters of a value; the arguments of layer 38. Layer 38: fast.count. Layer 38: the reference's values. Layer 38: the chosen value. Layer 38: the possible values. Layer 38: the reference's Possible. Layer 38: Recover. Layer 38: fast.Recover. -/
import Derived.Test.YtmjgdnpfgkpaoaaGreatDoorGC1
import Derived.Test.YtmjgdnpfgkpaoaaGreatDoorGC2
import Derived.Test.YtmjgdnpfgkpaoaaGreatDoorGC3
import Derived.Lib.SlicesCompact
import Derived.Laws.Strings
import Derived.Sort.OwnSorted
import Derived.Deep.RegionHeld3
import Derived.Sort.Walk0
import Derived.Laws.Cover1
namespace Go.Proofs.YtmjgdnpfgkpaoaaGreatDoor
open Go.RowKit Go.Shelf

set_option maxRecDepth 100000 in
set_option maxHeartbeats 1000000 in
theorem count9_c (x : BitVec 16) (w : World) :
    Calls Tryz.prog 137 #[.int .u16 (U x)] w fun e w' => e = .returned (.int .i64 (cnt x)) ∧ w' = w := by
  go_enter Tryz.func137, Tryz.ntmps137
  go_wp2_with fail
  go_loop [3, 4] (fun v i => ∃ (k : Nat) (m : Nat), k ≤ 16 ∧ m ≤ k ∧ i = .int .i64 k ∧ v = .int .i64 m ∧ Hid (m = (memTo x k).length)) (fun _ i => 16 - (intOf i).toNat)
  case atStart => exact ⟨0, 0, Nat.zero_le _, Nat.zero_le _, rfl, rfl, rfl⟩
  case round =>
    obtain ⟨k, m, hk, hmk, rfl, rfl, hm⟩ := hrel
    by_cases hlt : k < 16
    · have HS := Lib.hid (cntTo_succ x k)
      cases hb : hasB x k
      · have HB := Lib.hid hb
        have hb0 : b01 (hasB x k) = 0 := by rw [hb]; rfl
        clear hb
        go_wp2_with fail
        go_round
        case rel => exact ⟨k + 1, m, by omega, by omega, by go_num, by (try go_num), by show _ = _; rw [HS.out, HB.out, hm.out]; rfl⟩
        case measure => simp [intOf]; omega
      · have HB := Lib.hid hb
        have hb0 : b01 (hasB x k) = 1 := by rw [hb]; rfl
        clear hb
        go_wp2_with fail
        go_round
        case rel => exact ⟨k + 1, m + 1, by omega, by omega, by go_num, by go_num, by show _ = _; rw [HS.out, HB.out, hm.out]; rfl⟩
        case measure => simp [intOf]; omega
    · have hE : Hid (m = cnt x) := by
        obtain rfl : k = 16 := by omega
        exact hm.out
      go_wp2_with fail
      go_ret
      exact ⟨ret_int (by rw [hE.out]), rfl⟩

set_option maxRecDepth 100000 in
set_option maxHeartbeats 1000000 in
theorem support9_c (l : List (BitVec 16)) (a : Option Addr) (n c : Nat) (w : World) (h : Rd w a n c (l.map setV2)) :
    Calls Tryz.prog 111 #[.slice a n c] w fun e w' => e = .returned (.int .u16 (U (supS l))) ∧ w' = w := by
  have hn : n ≤ l.length ∧ l.length ≤ n := by have := h.len; simp at this; omega
  obtain ⟨hn1, hn2⟩ := hn
  have hm := h.max
  have hle := h.le
  unfold maxLen at hm
  go_enter Tryz.func111, Tryz.ntmps111
  go_wp2_with fail
  go_loop [3, 4] (fun v i => ∃ (k : Nat) (s : BitVec 16), k ≤ n ∧ i = .int .i64 k ∧ v = .int .u16 (U s) ∧ Hid (s = supS (l.take k))) (fun _ i => n - (intOf i).toNat)
  case atStart => exact ⟨0, 0#16, Nat.zero_le _, rfl, rfl, rfl⟩
  case round =>
    obtain ⟨k, s, hk, rfl, rfl, hs⟩ := hrel
    by_cases hlt : k < n
    · obtain ⟨b, o, ha, hcell⟩ := h.at' (by omega)
      have hc := hcell k _ (at_cell (by omega))
      have HS := Lib.hid (supS_take (l := l) (k := k) (by omega))
      obtain ⟨x, hx⟩ : ∃ x, l.getD k 0#16 = x := ⟨_, rfl⟩
      rw [hx] at hc HS
      subst ha
      clear hcell h hx
      go_wp2_with fail
      go_round
      case rel => exact ⟨k + 1, s ||| x, by omega, by go_num, rfl, by show _ = _; rw [HS.out, hs.out]⟩
      case measure => simp [intOf]; omega
    · have hE : Hid (l.take k = l) := List.take_of_length_le (by omega)
      clear h
      go_wp2_with fail
      go_ret
      exact ⟨by rw [hs.out, hE.out]; rfl, rfl⟩
set_option maxRecDepth 100000 in
set_option maxHeartbeats 1000000 in
theorem accepts9_c (l : List (BitVec 16)) (s : BitVec 16) (a : Option Addr) (n c : Nat) (w : World) (h : Rd w a n c (l.map setV2)) :
    Calls Tryz.prog 112 #[.slice a n c, .int .u16 (U s)] w fun e w' => e = .returned (.bool (accS l s)) ∧ w' = w := by
  have hnl : l.length = n := by have := h.len; simp at this; omega
  have hm := h.max
  have hle := h.le
  unfold maxLen at hm
  have HR := Lib.hid h
  have HN := Lib.hid hnl
  clear h hnl
  go_enter Tryz.func112, Tryz.ntmps112
  go_wp2_with fail
  go_loop [5] (fun i => ∃ k : Nat, k ≤ n ∧ i = .int .i64 k ∧ Hid (∀ j, j < k → subB s (l.getD j 0#16) = false)) (fun i => n - (intOf i).toNat)
  case atStart => exact ⟨0, Nat.zero_le _, rfl, Lib.hid (fun j hj => by omega)⟩
  case round =>
    obtain ⟨k, hk, rfl, hno⟩ := hrel
    by_cases hlt : k < n
    · obtain ⟨b, o, ha, hcell⟩ := HR.out.at' (by omega)
      have hkl : k < l.length := by have := HN.out; omega
      have hc := hcell k _ (at_cell hkl)
      obtain ⟨x, hx⟩ : ∃ x, l.getD k 0#16 = x := ⟨_, rfl⟩
      rw [hx] at hc
      subst ha
      cases hq : (x &&& ~~~s == 0#16)
      · have hno' : Hid (∀ j, j < k + 1 → subB s (l.getD j 0#16) = false) := Lib.hid (fun j hj => by
          by_cases h1 : j < k
          · exact hno.out j h1
          · obtain rfl : j = k := by omega
            rw [hx]; exact hq)
        clear hcell hno hx hkl
        go_wp2_with fail
        go_round
        case rel => exact ⟨k + 1, by omega, by go_num, hno'⟩
        case measure => simp [intOf]; omega
      · have hA : Hid (accS l s = true) := any_hit (p := fun x => subB s x) hkl (by rw [hx]; exact hq)
        clear hcell hno hx hkl
        go_wp2_with fail
        go_ret
        exact ⟨ret_bool hA.out.symm, rfl⟩
    · have hA : Hid (accS l s = false) := any_none (p := fun x => subB s x) (fun j hj => hno.out j (by have := HN.out; omega))
      clear hno
      go_wp2_with fail
      go_ret
      exact ⟨ret_bool hA.out.symm, rfl⟩

/-- all subsets, in order -/
def subsT9 (s : BitVec 16) (k : Nat) : List (BitVec 16) := (List.range k).flatMap fun (j : Nat) => pickTo s (j : Int) (s.toNat + 1)
def subsS9 (s : BitVec 16) : List (BitVec 16) := subsT9 s (cnt s + 1)
theorem subsT9_succ (s : BitVec 16) (k : Nat) : subsT9 s (k + 1) = subsT9 s k ++ pickTo s k (s.toNat + 1) := by
  unfold subsT9; rw [List.range_succ, List.flatMap_append]; simp
theorem subsTo_len (s : BitVec 16) : ∀ k, (subsT9 s k).length ≤ k * 65536 := by
  intro k
  induction k with
  | zero => simp [subsT9]
  | succ k ih =>
    rw [subsT9_succ, List.length_append]
    have := pickTo_le s k (s.toNat + 1)
    have := s.isLt
    omega

set_option maxRecDepth 100000 in
set_option maxHeartbeats 2000000 in
theorem subsets9_c (x : BitVec 16) (w : World) :
    Calls Tryz.prog 110 #[.int .u16 (U x)] w fun e w' => ∃ v, e = .returned v ∧ Own w w' 27 v ((subsS9 x).map setV2) ∧ Below w.heap.size w w' := by
  have hc16 := cnt_le x
  have hub := U_bd x
  have HCX := Lib.hid (fun w => count9_c x w)
  obtain ⟨C, hC⟩ : ∃ C, cnt x = C := ⟨_, rfl⟩
  rw [hC] at HCX hc16
  have HC := Lib.hid hC
  clear hC
  go_enter Tryz.func110, Tryz.ntmps110
  go_wp2_with fail
  go_loopw [3, 4] (fun v i wr => ∃ k : Nat, k ≤ C + 1 ∧ i = .int .i64 k ∧ wr.ownsRow w.heap.size 27 1 v (subsT9 x k).length ((subsT9 x k).map setV2) ∧ Below w.heap.size w wr) (fun _ i _ => C + 1 - (intOf i).toNat)
  case atStart => exact ⟨0, Nat.zero_le _, rfl, World.ownsRow_nil _ _ _ _, Below.refl _ _⟩
  case round =>
    obtain ⟨k, hk, rfl, hown, hb⟩ := hrel
    have hsl := subsTo_len x k
    by_cases hlt : k ≤ C
    · have hs := subsT9_succ x k
      have HS := Lib.hid hs
      clear hs
      go_wp2_with fail
      refine (HCX.out _).mono ?_
      rintro e w2 ⟨rfl, rfl⟩
      go_wp2_with fail
      obtain ⟨D, hD⟩ : ∃ D, (subsT9 x k).length = D := ⟨_, rfl⟩
      have HD := Lib.hid hD
      rw [hD] at hsl
      have HO := Lib.hid hown
      have HB := Lib.hid hb
      clear hown hb hD
      go_loopw [3, 5] (fun v i wr => ∃ n : Nat, (n : Int) ≤ U x + 1 ∧ i = .int .i64 n ∧ wr.ownsRow w.heap.size 27 1 v (subsT9 x k ++ pickTo x k n).length ((subsT9 x k ++ pickTo x k n).map setV2) ∧ Below w.heap.size w wr) (fun _ i _ => 65537 - (intOf i).toNat)
      case atStart => exact ⟨0, by have := hub.1; omega, rfl, by simpa [pickTo] using HO.out, HB.out⟩
      case round =>
        obtain ⟨n, hn, rfl, hown, hb⟩ := hrel
        have hpl := pickTo_le x k n
        by_cases hle : (n : Int) ≤ U x
        · have hps := pickTo_succ x k n
          obtain ⟨y, hy⟩ : ∃ y, BitVec.ofNat 16 n = y := ⟨_, rfl⟩
          have hny : (n : Int) = U y := by rw [← hy]; exact U_ofNat n (by omega)
          have hyw := U_wrap y
          obtain ⟨hy0, hy1⟩ := U_bd y
          have hcy := cnt_le y
          unfold pickB at hps
          rw [hy] at hps
          rw [hny]
          rw [hny] at hle
          have HNY := Lib.hid hny
          have HLN : Hid ((subsT9 x k ++ pickTo x k n).length ≤ 2000000) := by show _ ≤ _; rw [List.length_append, HD.out]; omega
          clear hny hy hpl
          cases hw : (y &&& ~~~x == 0#16)
          · rw [hw] at hps
            have HS : Hid (pickTo x k (n + 1) = pickTo x k n) := by show _ = _; rw [hps]; simp
            clear hps
            go_wp2_with fail
            go_roundw
            case rel => exact ⟨n + 1, by have := HNY.out; omega, by rw [← HNY.out]; go_num, by rw [HS.out]; exact hown, hb⟩
            case measure => simp only [intOf]; omega
          · have HCY := Lib.hid (fun w => count9_c y w)
            obtain ⟨t, ht⟩ : ∃ t, cnt y = t := ⟨_, rfl⟩
            rw [ht] at HCY hcy hps
            rw [hw, Bool.true_and] at hps
            clear ht
            cases hq : ((t : Int) == (k : Int))
            · rw [hq] at hps
              have HS : Hid (pickTo x k (n + 1) = pickTo x k n) := by show _ = _; rw [hps]; simp
              clear hps
              go_wp2_with fail
              refine (HCY.out _).mono ?_
              rintro e w4 ⟨rfl, rfl⟩
              go_wp2_with fail
              go_roundw
              case rel => exact ⟨n + 1, by have := HNY.out; omega, by rw [← HNY.out]; go_num, by rw [HS.out]; exact hown, hb⟩
              case measure => simp only [intOf]; omega
            · rw [hq, if_pos rfl] at hps
              have HS : Hid ((subsT9 x k ++ pickTo x k (n + 1)).map setV2 = (subsT9 x k ++ pickTo x k n).map setV2 ++ [.int .u16 (U y)]) := by
                show _ = _
                rw [hps, ← List.append_assoc, List.map_append]; rfl
              have HSL : Hid ((subsT9 x k ++ pickTo x k (n + 1)).length = (subsT9 x k ++ pickTo x k n).length + 1) := by
                show _ = _
                rw [hps, ← List.append_assoc, List.length_append]; rfl
              obtain ⟨G, hG⟩ : ∃ G, (subsT9 x k ++ pickTo x k n).length = G := ⟨_, rfl⟩
              obtain ⟨GL, hGL⟩ : ∃ G, (subsT9 x k ++ pickTo x k n).map setV2 = G := ⟨_, rfl⟩
              rw [hG, hGL] at hown
              have hg2 : G ≤ 2000000 := by rw [← hG]; exact HLN.out
              have HG := Lib.hid hG
              have HGL := Lib.hid hGL
              clear hps hG hGL
              go_wp2_with fail
              refine (HCY.out _).mono ?_
              rintro e w4 ⟨rfl, rfl⟩
              go_wp2_with (at_builtin; go_must (refine wpList_app _ _ 25 2 (.int .u16 0) (.int .u16 (U y)) _ Tryz.underlying25 Tryz.infoSet rfl hown hb (Nat.le_refl _) rfl rfl rfl rfl rfl (by unfold maxLen; omega) (by omega) ?_))
              intro v' w1 hown1 hb1 _ _
              clear hown hb
              go_wp2_with fail
              go_roundw
              case rel => exact ⟨n + 1, by have := HNY.out; omega, by rw [← HNY.out]; go_num, by rw [HS.out, HSL.out, HG.out, HGL.out]; exact hown1, hb1⟩
              case measure => simp only [intOf]; omega
        · have hnx : n = x.toNat + 1 := by unfold U at hle hn; omega
          subst hnx
          have hown2 := hown
          rw [← HS.out] at hown2
          have HO2 := Lib.hid hown2
          clear hown hown2
          go_wp2_with fail
          go_roundw
          case rel => exact ⟨k + 1, by omega, by go_num, HO2.out, hb⟩
          case measure => simp [intOf]; omega
    · obtain rfl : k = C + 1 := by omega
      have hE : subsT9 x (C + 1) = subsS9 x := by unfold subsS9; rw [HC.out]
      rw [hE] at hown
      have HO : Hid (Own w wr 27 u3 ((subsS9 x).map setV2)) := by show Own _ _ _ _ _; unfold Own; rw [List.length_map]; exact hown
      clear hown hE hsl
      go_wp2_with fail
      refine (HCX.out _).mono ?_
      rintro e w2 ⟨rfl, rfl⟩
      go_wp2_with fail
      go_ret
      exact ⟨_, rfl, HO.out, hb⟩
end Go.Proofs.YtmjgdnpfgkpaoaaGreatDoor
namespace Go.Proofs.YtmjgdnpfgkpaoaaGreatDoor
open Go.RowKit Go.Shelf

/-- the minimal sets of a list, in order -/
def minSt (f : List (BitVec 16)) (o : List (BitVec 16)) (x : BitVec 16) : List (BitVec 16) := if ((f.any fun y => y == x) && !accS o x) = true then o ++ [x] else o
def minTo (f : List (BitVec 16)) (m : Nat) : List (BitVec 16) := ((subsS9 (supS f)).take m).foldl (minSt f) []
def minS (f : List (BitVec 16)) : List (BitVec 16) := (subsS9 (supS f)).foldl (minSt f) []
theorem minTo_succ {f : List (BitVec 16)} {m : Nat} {x : BitVec 16} (hx : (subsS9 (supS f))[m]? = some x) : minTo f (m + 1) = minSt f (minTo f m) x := by
  unfold minTo; rw [List.take_add_one, hx, Option.toList_some, List.foldl_append]; rfl
theorem minTo_all {f : List (BitVec 16)} {m : Nat} (h : (subsS9 (supS f)).length = m) : minTo f m = minS f := by
  unfold minTo minS; rw [List.take_of_length_le (by omega)]
theorem minSt_le (f o : List (BitVec 16)) (x : BitVec 16) : (minSt f o x).length ≤ o.length + 1 := by
  unfold minSt; split
  · simp
  · omega
theorem fold_le (f : List (BitVec 16)) : ∀ (l o : List (BitVec 16)), (l.foldl (minSt f) o).length ≤ o.length + l.length := by
  intro l
  induction l with
  | nil => intro o; simp
  | cons x l ih =>
    intro o
    rw [List.foldl_cons, List.length_cons]
    have := ih (minSt f o x)
    have := minSt_le f o x
    omega
theorem minTo_le (f : List (BitVec 16)) (m : Nat) : (minTo f m).length ≤ m := by
  unfold minTo
  have := fold_le f ((subsS9 (supS f)).take m) []
  rw [List.length_take] at this
  simp at this
  omega
/-- within the inner loop -/
def inK (f o : List (BitVec 16)) (x : BitVec 16) (k : Nat) : List (BitVec 16) := minSt (f.take k) o x
theorem acc_self (o : List (BitVec 16)) (x : BitVec 16) : accS (o ++ [x]) x = true := by
  unfold accS subB
  rw [List.any_append, Bool.or_eq_true]
  right
  have : x &&& ~~~x = 0#16 := by
    apply BitVec.eq_of_getLsbD_eq
    intro i hi
    simp
  simp [this]
theorem any_take {f : List (BitVec 16)} {k : Nat} (hk : k < f.length) (x : BitVec 16) : ((f.take (k + 1)).any fun y => y == x) = (((f.take k).any fun y => y == x) || (f.getD k 0#16 == x)) := by
  rw [List.take_add_one, at_some hk, Option.toList_some, List.any_append]; simp
theorem inK_ne {f o : List (BitVec 16)} {x : BitVec 16} {k : Nat} (hk : k < f.length) (h : (f.getD k 0#16 == x) = false) : inK f o x (k + 1) = inK f o x k := by
  unfold inK minSt
  rw [any_take hk, h, Bool.or_false]
theorem inK_acc {f o : List (BitVec 16)} {x : BitVec 16} {k : Nat} (hk : k < f.length) (h : (f.getD k 0#16 == x) = true) (ha : accS (inK f o x k) x = true) : inK f o x (k + 1) = inK f o x k := by
  unfold inK minSt at ha ⊢
  rw [any_take hk, h, Bool.or_true, Bool.true_and]
  cases h1 : (f.take k).any fun y => y == x
  · rw [h1] at ha
    simp only [Bool.false_and, Bool.false_eq_true, if_false] at ha ⊢
    rw [ha]; simp
  · simp
theorem inK_new {f o : List (BitVec 16)} {x : BitVec 16} {k : Nat} (hk : k < f.length) (h : (f.getD k 0#16 == x) = true) (ha : accS (inK f o x k) x = false) : inK f o x (k + 1) = inK f o x k ++ [x] := by
  unfold inK minSt at ha ⊢
  rw [any_take hk, h, Bool.or_true, Bool.true_and]
  cases h1 : (f.take k).any fun y => y == x
  · rw [h1] at ha
    simp only [Bool.false_and, Bool.false_eq_true, if_false] at ha ⊢
    rw [ha]; simp
  · rw [h1] at ha
    simp only [Bool.true_and] at ha
    cases h2 : accS o x
    · rw [h2] at ha
      simp only [Bool.not_false, if_true] at ha
      rw [acc_self] at ha; cases ha
    · rw [h2] at ha
      simp only [Bool.not_true, Bool.false_eq_true, if_false] at ha
      rw [h2] at ha; cases ha
theorem inK_len (f o : List (BitVec 16)) (x : BitVec 16) (k : Nat) : (inK f o x k).length ≤ o.length + 1 := minSt_le _ _ _
theorem rd_drewN {w : World} {a : Option Addr} {n c : Nat} {l : List Value} (h : Rd w a n c l) (q : Nat) : Rd (w.drewN q) a n c l := ⟨h.len, h.le, h.max, h.nil, h.at'⟩
theorem row_drewN {w : World} {B k n : Nat} {e : TypeId} {v : Value} {xs : List Value} (h : w.ownsRow B e k v n xs) (q : Nat) : (w.drewN q).ownsRow B e k v n xs := h

set_option maxRecDepth 100000 in
set_option maxHeartbeats 4000000 in
theorem minimal9_c (f : List (BitVec 16)) (a : Option Addr) (n c : Nat) (w : World) (h : Rd w a n c (f.map setV2)) :
    Calls Tryz.prog 80 #[.slice a n c] w fun e w' => ∃ v, e = .returned v ∧ Own w w' 27 v ((minS f).map setV2) ∧ Below w.heap.size w w' := by
  have hnl : f.length = n := by have := h.len; simp at this; omega
  have hm := h.max
  have hle := h.le
  unfold maxLen at hm
  have HR := Lib.hid h
  have HN := Lib.hid hnl
  have HSU := Lib.hid (support9_c f a n c w h)
  have HSB := Lib.hid (fun w => subsets9_c (supS f) w)
  clear h hnl
  obtain ⟨L, hL⟩ : ∃ L, subsS9 (supS f) = L := ⟨_, rfl⟩
  have hL17 : L.length ≤ 1200000 := by
    rw [← hL]; unfold subsS9
    have := subsTo_len (supS f) (cnt (supS f) + 1)
    have := cnt_le (supS f)
    omega
  have HL := Lib.hid hL
  rw [hL] at HSB
  obtain ⟨S, hS⟩ : ∃ S, supS f = S := ⟨_, rfl⟩
  rw [hS] at HSU HSB
  obtain ⟨p, hp⟩ : ∃ p, L.length = p := ⟨_, rfl⟩
  rw [hp] at hL17
  have HP := Lib.hid hp
  clear hL hS hp
  go_enter Tryz.func80, Tryz.ntmps80
  go_wp2_with fail
  refine HSU.out.mono ?_
  rintro e w1 ⟨rfl, rfl⟩
  go_wp2_with fail
  refine (HSB.out _).mono ?_
  rintro e w2 ⟨v2, rfl, o2, b2⟩
  obtain ⟨al, cl, rfl, hrl⟩ := o2.rdn p (by rw [List.length_map, HP.out])
  have hlc := hrl.le
  have hlm := hrl.max
  unfold maxLen at hlm
  have HRL := Lib.hid hrl
  have HB2 := Lib.hid b2
  clear o2 hrl b2 HSU HSB
  go_wp2_with fail
  go_loopw [3, 5] (fun v i wr => ∃ m : Nat, m ≤ p ∧ i = .int .i64 m ∧ wr.ownsRow w2.heap.size 27 1 v (minTo f m).length ((minTo f m).map setV2) ∧ Below w2.heap.size w2 wr) (fun _ i _ => p - (intOf i).toNat)
  case atStart => exact ⟨0, Nat.zero_le _, rfl, World.ownsRow_nil _ _ _ _, Below.refl _ _⟩
  case round =>
    obtain ⟨m, hm2, rfl, hown, hb⟩ := hrel
    by_cases hlt : m < p
    · have hml : m < L.length := by have := HP.out; omega
      have hcx := at_cell hml
      have hxs := at_some hml
      obtain ⟨x, hx⟩ : ∃ x, L.getD m 0#16 = x := ⟨_, rfl⟩
      rw [hx] at hcx hxs
      have HST := Lib.hid (minTo_succ (f := f) (m := m) (by rw [HL.out]; exact hxs))
      have hol := minTo_le f m
      obtain ⟨o, ho⟩ : ∃ o, minTo f m = o := ⟨_, rfl⟩
      rw [ho] at HST hown hol
      have HCX := Lib.hid hcx
      have HO := Lib.hid hown
      have HB := Lib.hid hb
      clear hml hcx hxs hx ho hown hb
      go_wp2_with fail
      go_loopw [3, 6] (fun v i wr => ∃ k : Nat, k ≤ n ∧ i = .int .i64 k ∧ wr.ownsRow w2.heap.size 27 1 v (inK f o x k).length ((inK f o x k).map setV2) ∧ Below w2.heap.size w2 wr) (fun _ i _ => n - (intOf i).toNat)
      case atStart => exact ⟨0, Nat.zero_le _, rfl, by simpa [inK, minSt] using HO.out, HB.out⟩
      case round =>
        obtain ⟨k, hk, rfl, hown, hb⟩ := hrel
        have hil := inK_len f o x k
        by_cases hlt2 : k < n
        · have hkl : k < f.length := by have := HN.out; omega
          obtain ⟨b1, o1, ha1, hcell1⟩ := (HR.out.below (Below.next HB2.out hb)).at' (by omega)
          obtain ⟨b3, o3, ha3, hcell3⟩ := (HRL.out.below hb).at' (by omega)
          have hc1 := hcell1 k _ (at_cell hkl)
          have hc3 := hcell3 m _ HCX.out
          obtain ⟨g, hg⟩ : ∃ g, inK f o x k = g := ⟨_, rfl⟩
          have hne := inK_ne (o := o) (x := x) hkl
          have hac := inK_acc (o := o) (x := x) hkl
          have hnw := inK_new (o := o) (x := x) hkl
          rw [hg] at hown hil hne hac hnw
          obtain ⟨y, hy⟩ : ∃ y, f.getD k 0#16 = y := ⟨_, rfl⟩
          rw [hy] at hc1 hne hac hnw
          obtain ⟨ag, cg, rfl, hrg⟩ := rd_of_row hown
          have HAC := Lib.hid (fun q => accepts9_c g x ag g.length cg (wr.drewN q) (rd_drewN hrg q))
          cases ha1
          cases ha3
          clear hcell1 hcell3 hg hy hkl hrg
          cases hq : (y == x)
          · have HS := Lib.hid (hne hq)
            clear hne hac hnw
            go_wp2_with fail
            go_quiet (fail)
            go_wp2_with fail
            go_roundw
            case rel => exact ⟨k + 1, by omega, by go_num, by rw [HS.out]; exact row_drewN hown _, below_drewN hb⟩
            case measure => simp [intOf]; omega
          · cases ha : accS g x
            · have HS := Lib.hid (hnw hq ha)
              rw [ha] at HAC
              obtain ⟨G, hG⟩ : ∃ G, g.length = G := ⟨_, rfl⟩
              rw [hG] at hown hil HAC ⊢
              have HL2 : Hid ((inK f o x (k + 1)).length = G + 1) := by show _ = _; rw [HS.out, List.length_append, hG]; rfl
              have HM2 : Hid ((inK f o x (k + 1)).map setV2 = g.map setV2 ++ [.int .u16 (U x)]) := by show _ = _; rw [HS.out, List.map_append]; rfl
              clear hne hac hnw hG HS
              go_wp2_with fail
              go_quiet ((go_at_call 112; exact Calls.quiet_of_same (HAC.out _)))
              have hown2 := row_drewN hown nq
              have hb2 := below_drewN (q := nq) hb
              have hc3' : (wr.drewN nq).cell? ⟨b3, o3 + m, none⟩ = some (.int .u16 (U x)) := hc3
              generalize wr.drewN nq = wn at hown2 hb2 hc3' ⊢
              clear hown hb hc3 hc1 HAC
              go_wp2_with (at_builtin; go_must (refine wpList_app _ _ 25 2 (.int .u16 0) (.int .u16 (U x)) _ Tryz.underlying25 Tryz.infoSet rfl hown2 hb2 (Nat.le_refl _) rfl rfl rfl rfl rfl (by unfold maxLen; omega) (by omega) ?_))
              intro v' w4 hown4 hb4 _ _
              clear hown2 hb2
              go_wp2_with fail
              go_roundw
              case rel => exact ⟨k + 1, by omega, by go_num, by rw [HM2.out, HL2.out]; exact hown4, hb4⟩
              case measure => simp [intOf]; omega
            · have HS := Lib.hid (hac hq ha)
              rw [ha] at HAC
              clear hne hac hnw
              go_wp2_with fail
              go_quiet ((go_at_call 112; exact Calls.quiet_of_same (HAC.out _)))
              go_wp2_with fail
              go_roundw
              case rel => exact ⟨k + 1, by omega, by go_num, by rw [HS.out]; exact row_drewN hown _, below_drewN hb⟩
              case measure => simp [intOf]; omega
        · obtain rfl : k = n := by omega
          have hE : inK f o x k = minTo f (m + 1) := by
            unfold inK
            rw [HST.out, List.take_of_length_le (by have := HN.out; omega)]
          rw [hE] at hown
          have HO2 := Lib.hid hown
          clear hE hown
          go_wp2_with fail
          go_roundw
          case rel => exact ⟨m + 1, by omega, by go_num, HO2.out, hb⟩
          case measure => simp [intOf]; omega
    · obtain rfl : m = p := by omega
      rw [minTo_all (by rw [HL.out, HP.out])] at hown
      have HO : Hid (Own w2 wr 27 u3 ((minS f).map setV2)) := by show Own _ _ _ _ _; unfold Own; rw [List.length_map]; exact hown
      clear hown
      go_wp2_with fail
      go_ret
      exact ⟨_, rfl, HO.out.mono HB2.out.size, Below.next HB2.out hb⟩
end Go.Proofs.YtmjgdnpfgkpaoaaGreatDoor
namespace Go.Proofs.YtmjgdnpfgkpaoaaGreatDoor
open Go.RowKit Go.Shelf

def mad (z : Int) : BitVec 16 := BitVec.ofInt 16 (z % 64)
theorem and63 (z : Int) (h0 : 0 ≤ z) (h1 : z < 256) : bits .and .u8 z 63 = U (mad z) := by
  obtain ⟨k, rfl⟩ := Int.eq_ofNat_of_zero_le h0
  have : ∀ k : Fin 256, bits .and .u8 (k.val : Int) 63 = U (mad (k.val : Int)) := by decide +kernel
  exact this ⟨k, by omega⟩
def madL (l : List Int) (k : Nat) : List (BitVec 16) := (l.take k).map mad
theorem madL_succ {l : List Int} {k : Nat} {z : Int} (h : l[k]? = some z) : madL l (k + 1) = madL l k ++ [mad z] := by
  unfold madL; rw [List.take_add_one, h, List.map_append]; rfl
theorem madL_len {l : List Int} {k : Nat} (h : k ≤ l.length) : (madL l k).length = k := by unfold madL; rw [List.length_map, List.length_take]; omega
def madS (l : List Int) : List (BitVec 16) := minS (madL l (min 20 l.length))

set_option maxRecDepth 100000 in
set_option maxHeartbeats 4000000 in
theorem made9_c (l : List Int) (hw : ∀ z ∈ l, 0 ≤ z ∧ z < 256) (a : Option Addr) (n c : Nat) (w : World) (h : Rd w a n c (l.map (Value.int .u8))) :
    Calls Tryz.prog 44 #[.slice a n c] w fun e w' => ∃ v, e = .returned v ∧ Own w w' 27 v ((madS l).map setV2) ∧ Below w.heap.size w w' := by
  have hnl : l.length = n := by have := h.len; simp at this; omega
  have hm := h.max
  have hle := h.le
  unfold maxLen at hm
  have HR := Lib.hid h
  have HN := Lib.hid hnl
  have HW := Lib.hid hw
  clear h hnl hw
  go_enter Tryz.func44, Tryz.ntmps44
  go_wp2_with fail
  go_loopw [3, 4] (fun v i wr => ∃ k : Nat, k ≤ n ∧ k ≤ 20 ∧ i = .int .i64 k ∧ wr.ownsRow w.heap.size 27 1 v k ((madL l k).map setV2) ∧ Below w.heap.size w wr) (fun _ i _ => n - (intOf i).toNat)
  case atStart => exact ⟨0, Nat.zero_le _, Nat.zero_le _, rfl, World.ownsRow_nil _ _ _ _, Below.refl _ _⟩
  case round =>
    obtain ⟨k, hk, hk20, rfl, hown, hb⟩ := hrel
    by_cases hlt : k < n
    · by_cases hlt2 : k < 20
      · obtain ⟨z, hz⟩ : ∃ z, l[k]? = some z := ⟨_, List.getElem?_eq_getElem (by have := HN.out; omega)⟩
        obtain ⟨hz0, hz1⟩ := HW.out z (List.mem_of_getElem? hz)
        obtain ⟨b, o, ha, hcell⟩ := (HR.out.below hb).at' (by omega)
        have hc := hcell k (.int .u8 z) (by rw [List.getElem?_map, hz]; rfl)
        have h63 := and63 z hz0 hz1
        obtain ⟨y, hy⟩ : ∃ y, mad z = y := ⟨_, rfl⟩
        have hs := madL_succ hz
        rw [hy] at h63 hs
        have hyb : 0 ≤ U y ∧ U y < 65536 := U_bd y
        have HS : Hid ((madL l (k + 1)).map setV2 = (madL l k).map setV2 ++ [.int .u16 (U y)]) := by show _ = _; rw [hs, List.map_append]; rfl
        have hyw := U_wrap y
        subst ha
        clear hcell hz hs hy
        go_wp2_with (at_builtin; go_must (refine wpList_app _ _ 25 2 (.int .u16 0) (.int .u16 (U y)) _ Tryz.underlying25 Tryz.infoSet rfl hown hb (Nat.le_refl _) rfl rfl rfl rfl rfl (by unfold maxLen; omega) (by omega) ?_))
        intro v' w4 hown4 hb4 _ _
        clear hown hb hc
        go_wp2_with fail
        go_roundw
        case rel => exact ⟨k + 1, by omega, by omega, by go_num, by rw [HS.out]; exact hown4, hb4⟩
        case measure => simp [intOf]; omega
      · obtain rfl : k = 20 := by omega
        have hE : minS (madL l 20) = madS l := by unfold madS; rw [Nat.min_eq_left (by have := HN.out; omega)]
        obtain ⟨ao, co, rfl, hro⟩ := rd_of_row hown
        have HMI := Lib.hid (minimal9_c (madL l 20) ao 20 co wr hro)
        rw [hE] at HMI
        have HB := Lib.hid hb
        clear hown hro hb hE
        go_wp2_with fail
        refine HMI.out.mono ?_
        rintro e w2 ⟨v, rfl, o2, b2⟩
        have HO2 := Lib.hid o2
        clear HMI o2
        go_wp2_with fail
        go_ret
        exact ⟨v, rfl, HO2.out.mono HB.out.size, Below.next HB.out b2⟩
    · obtain rfl : k = n := by omega
      have hE : minS (madL l k) = madS l := by unfold madS; rw [Nat.min_eq_right (by have := HN.out; omega), HN.out]
      obtain ⟨ao, co, rfl, hro⟩ := rd_of_row hown
      have HMI := Lib.hid (minimal9_c (madL l k) ao k co wr hro)
      rw [hE] at HMI
      have HB := Lib.hid hb
      clear hown hro hb hE
      go_wp2_with fail
      refine HMI.out.mono ?_
      rintro e w2 ⟨v, rfl, o2, b2⟩
      have HO2 := Lib.hid o2
      clear HMI o2
      go_wp2_with fail
      go_ret
      exact ⟨v, rfl, HO2.out.mono HB.out.size, Below.next HB.out b2⟩
end Go.Proofs.YtmjgdnpfgkpaoaaGreatDoor
namespace Go.Proofs.YtmjgdnpfgkpaoaaGreatDoor
open Go.RowKit Go.Shelf

/-- a family without the empty set, not empty -/
def okR (l : List (BitVec 16)) : Bool := match l with
  | [] => false
  | x :: _ => x != 0#16
set_option maxRecDepth 100000 in
set_option maxHeartbeats 2000000 in
theorem readable_c (l : List Int) (hw : ∀ z ∈ l, 0 ≤ z ∧ z < 256) (h6 : l.length ≤ 6) (a : Option Addr) (n c : Nat) (w : World) (h : Rd w a n c (l.map (Value.int .u8))) :
    Calls Tryz.prog 13 #[.slice a n c] w fun e w' => ∃ a' n' c', e = .returned (.tuple #[.slice a' n' c', .bool (okR (madS l))]) ∧ Rd w' a' n' c' ((madS l).map setV2) ∧ Below w.heap.size w w' := by
  have hnl : l.length = n := by have := h.len; simp at this; omega
  have HM := Lib.hid (made9_c l hw a n c w h)
  have hn : ¬ (6 : Int) < n := by omega
  obtain ⟨L, hL⟩ : ∃ L, madS l = L := ⟨_, rfl⟩
  rw [hL] at HM ⊢
  clear h hw hL
  go_enter Tryz.func13, Tryz.ntmps13
  go_wp2_with fail
  refine HM.out.mono ?_
  rintro e w1 ⟨v, rfl, hown, hb⟩
  obtain ⟨nl, hnl2⟩ : ∃ nl, L.length = nl := ⟨_, rfl⟩
  obtain ⟨a', c', rfl, hr⟩ := hown.rdn nl (by rw [List.length_map]; exact hnl2)
  have HR := Lib.hid hr
  have HB := Lib.hid hb
  clear hown hb HM
  cases L with
  | nil =>
    have h0 : nl = 0 := by rw [← hnl2]; rfl
    subst h0
    clear hr hnl2
    go_wp2_with fail
    go_region
    all_goals
      go_wp2_with fail
      go_ret2
      exact ⟨a', 0, c', rfl, HR.out.below (below_drew (Below.refl _ _)), below_drew HB.out⟩
  | cons x L =>
    have h0 : 0 < nl := by rw [← hnl2]; simp
    obtain ⟨b, o, ha, hc⟩ := hr.at' h0
    subst ha
    have c0 : w1.cell? ⟨b, o, none⟩ = some (.int .u16 (U x)) := hc 0 _ rfl
    have h1 : (0 : Int) < (nl : Int) := by omega
    have hm := hr.max
    have hle := hr.le
    unfold maxLen at hm
    clear hr hc hnl2
    go_wp2_with fail
    go_region
    all_goals
      go_wp2_with fail
      go_ret2
      exact ⟨_, nl, c', rfl, HR.out.below (below_drew (Below.refl _ _)), below_drew HB.out⟩
end Go.Proofs.YtmjgdnpfgkpaoaaGreatDoor
namespace Go.Proofs.YtmjgdnpfgkpaoaaGreatDoor
open Go.RowKit

theorem bs_ext {a b : ByteArray} (h : a.toList = b.toList) : a = b := by
  rw [ByteArray.toList_eq, ByteArray.toList_eq] at h
  exact ByteArray.ext (Array.toList_inj.1 h)
theorem bs_beq (a b : ByteArray) : (a.toList == b.toList) = decide (a = b) := by
  rw [Bool.eq_iff_iff, beq_iff_eq, decide_eq_true_eq]
  exact ⟨bs_ext, fun h => by rw [h]⟩
theorem bs_list (s : List UInt8) : (ByteArray.mk s.toArray).toList = s := by rw [ByteArray.toList_eq]
theorem bs_mk (b : ByteArray) : ByteArray.mk b.toList.toArray = b := bs_ext (bs_list _)

abbrev Str := List UInt8
theorem pw_at {l : List Str} (h : l.Pairwise (· < ·)) {i j : Nat} {x y : Str} (hx : l[i]? = some x) (hy : l[j]? = some y) (hij : i < j) : x < y := by
  obtain ⟨hi, rfl⟩ := List.getElem?_eq_some_iff.1 hx
  obtain ⟨hj, rfl⟩ := List.getElem?_eq_some_iff.1 hy
  exact List.pairwise_iff_getElem.1 h i j hi hj hij

theorem compact_to {l : List Str} (hs : l.Pairwise (· ≤ ·)) : ∀ m, m ≤ l.length → (Lib.compactUpTo l.toArray m).Pairwise (· < ·) ∧ ∀ x, x ∈ Lib.compactUpTo l.toArray m ↔ x ∈ l.take m := by
  intro m
  induction m with
  | zero => intro _; exact ⟨by simp [Lib.compactUpTo], by simp [Lib.compactUpTo]⟩
  | succ m ih =>
    intro hm
    obtain ⟨h1, h2⟩ := ih (by omega)
    have hd : l.toArray[m]! = l[m]'(by omega) := by simp [getElem!_pos, show m < l.length by omega]
    have ht : l.take (m + 1) = l.take m ++ [l[m]'(by omega)] := by
      rw [List.take_add_one, List.getElem?_eq_getElem (by omega)]; rfl
    have hle : ∀ x ∈ l.take m, x ≤ l[m]'(by omega) ∧ (∀ (h0 : 0 < m), x ≤ l[m - 1]'(by omega)) := by
      intro x hx
      obtain ⟨j, hj, rfl⟩ := List.mem_iff_getElem.1 hx
      rw [List.length_take] at hj
      rw [List.getElem_take]
      refine ⟨List.pairwise_iff_getElem.1 hs j m (by omega) (by omega) (by omega), fun h0 => ?_⟩
      by_cases hjm : j = m - 1
      · subst hjm; exact List.le_refl _
      · exact List.pairwise_iff_getElem.1 hs j (m - 1) (by omega) (by omega) (by omega)
    rw [Lib.compactUpTo_succ, ht]
    by_cases hk : Lib.keeps l.toArray m = true
    · rw [if_pos hk, hd]
      refine ⟨?_, fun x => by rw [List.mem_append, List.mem_append, h2]⟩
      rw [List.pairwise_append]
      refine ⟨h1, List.pairwise_singleton _ _, fun x hx y hy => ?_⟩
      rw [List.mem_singleton] at hy
      subst hy
      have hx' := (h2 x).1 hx
      have hm0 : 0 < m := by
        apply Nat.pos_of_ne_zero; intro h0; subst h0; simp at hx'
      obtain ⟨a1, a2⟩ := hle x hx'
      unfold Lib.keeps at hk
      rw [decide_eq_true_eq] at hk
      have hd1 : l.toArray[m - 1]! = l[m - 1]'(by omega) := by simp [getElem!_pos, show m - 1 < l.length by omega]
      rw [hd, hd1] at hk
      have hne : l[m]'(by omega) ≠ l[m - 1]'(by omega) := by
        rcases hk with hk | hk
        · omega
        · exact hk
      have b1 := a2 hm0
      have b2 : l[m - 1]'(by omega) ≤ l[m]'(by omega) := List.pairwise_iff_getElem.1 hs (m - 1) m (by omega) (by omega) (by omega)
      have b3 : l[m - 1]'(by omega) < l[m]'(by omega) := by
        apply List.not_le.1
        intro h
        exact hne (List.le_antisymm h b2)
      exact List.lt_of_le_of_lt b1 b3
    · rw [if_neg hk, List.append_nil]
      refine ⟨h1, fun x => ?_⟩
      rw [h2, List.mem_append, List.mem_singleton]
      refine ⟨.inl, fun h => ?_⟩
      rcases h with h | h
      · exact h
      · subst h
        unfold Lib.keeps at hk
        rw [decide_eq_true_eq] at hk
        have hm0 : 0 < m := by
          apply Nat.pos_of_ne_zero; intro h0; exact hk (.inl h0)
        have hd1 : l.toArray[m - 1]! = l[m - 1]'(by omega) := by simp [getElem!_pos, show m - 1 < l.length by omega]
        rw [hd, hd1] at hk
        have he : l[m]'(by omega) = l[m - 1]'(by omega) := by
          apply Classical.byContradiction; intro h; exact hk (.inr h)
        rw [he]
        exact List.mem_iff_getElem.2 ⟨m - 1, by rw [List.length_take]; omega, by rw [List.getElem_take]⟩

def leS (x y : Str) : Bool := decide (x ≤ y)
theorem sort_pw (l : List Str) : (l.mergeSort fun x y => decide (x ≤ y)).Pairwise (· ≤ ·) := by
  have := List.pairwise_mergeSort (le := fun x y : Str => decide (x ≤ y)) (fun a b c h1 h2 => by simp only [decide_eq_true_eq] at *; exact List.le_trans h1 h2) (fun a b => by simp only [Bool.or_eq_true, decide_eq_true_eq]; exact List.le_total a b) l
  simpa using this

def heaTo (V : List ByteArray) (h : BitVec 16) (k : Nat) : List ByteArray := ((List.range k).filter fun i => !((V.getD i ⟨#[]⟩).toList == []) && hasB h i).map fun i => V.getD i ⟨#[]⟩
theorem heaTo_succ (V : List ByteArray) (h : BitVec 16) (k : Nat) : heaTo V h (k + 1) = heaTo V h k ++ (if !((V.getD k ⟨#[]⟩).toList == []) && hasB h k then [V.getD k ⟨#[]⟩] else []) := by
  unfold heaTo
  rw [List.range_succ, List.filter_append, List.map_append]
  congr 1
  by_cases h : (!((V.getD k ⟨#[]⟩).toList == []) && hasB h k) = true
  · rw [if_pos h, List.filter_cons, if_pos h]; rfl
  · rw [if_neg h, List.filter_cons, if_neg h]; rfl
theorem heaTo_le (V : List ByteArray) (h : BitVec 16) (k : Nat) : (heaTo V h k).length ≤ k := by
  unfold heaTo; rw [List.length_map]; exact Nat.le_trans (List.length_filter_le _ _) (by simp)
def valV (V : List ByteArray) (h : BitVec 16) : List Str := Lib.compact (((heaTo V h V.length).map ByteArray.toList).mergeSort fun x y => decide (x ≤ y))
theorem valV_asc (V : List ByteArray) (h : BitVec 16) : (valV V h).Pairwise (· < ·) := (compact_to (sort_pw _) _ (Nat.le_refl _)).1
theorem valV_mem (V : List ByteArray) (h : BitVec 16) (s : Str) : s ∈ valV V h ↔ ∃ j, j < V.length ∧ (V.getD j ⟨#[]⟩).toList = s ∧ ((V.getD j ⟨#[]⟩).toList == []) = false ∧ hasB h j = true := by
  unfold valV Lib.compact
  rw [(compact_to (sort_pw _) _ (Nat.le_refl _)).2, List.take_length, List.mem_mergeSort]
  unfold heaTo
  simp only [List.mem_map, List.mem_filter, List.mem_range, Bool.and_eq_true, Bool.not_eq_true']
  constructor
  · rintro ⟨_, ⟨j, ⟨hj, h1, h2⟩, rfl⟩, rfl⟩; exact ⟨j, hj, rfl, h1, h2⟩
  · rintro ⟨j, hj, rfl, h1, h2⟩; exact ⟨_, ⟨j, ⟨hj, h1, h2⟩, rfl⟩, rfl⟩
theorem valV_le (V : List ByteArray) (h : BitVec 16) : (valV V h).length ≤ V.length := by
  unfold valV Lib.compact Lib.compactUpTo
  rw [List.length_map]
  refine Nat.le_trans (List.length_filter_le _ _) ?_
  rw [List.length_range, List.length_mergeSort, List.length_map]
  exact heaTo_le _ _ _

/-- the vote at j counts where k values have been taken -/
def okB (V : List ByteArray) (h : BitVec 16) (k j : Nat) : Bool :=
  !((V.getD j ⟨#[]⟩).toList == []) && hasB h j && !(decide (0 < k) && decide ((V.getD j ⟨#[]⟩).toList ≤ (valV V h).getD (k - 1) []))
theorem val_end {V : List ByteArray} {h : BitVec 16} {k : Nat} (hk : k ≤ (valV V h).length) (hno : ∀ j, j < V.length → okB V h k j = false) : k = (valV V h).length := by
  apply Classical.byContradiction
  intro hne
  have hlt : k < (valV V h).length := by omega
  obtain ⟨s, hs⟩ : ∃ s, (valV V h)[k]? = some s := ⟨_, List.getElem?_eq_getElem hlt⟩
  obtain ⟨j, hj, he, h1, h2⟩ := (valV_mem V h s).1 (List.mem_of_getElem? hs)
  have := hno j hj
  unfold okB at this
  rw [h1, h2, he] at this
  simp only [Bool.not_false, Bool.true_and, Bool.not_eq_false', Bool.and_eq_true, decide_eq_true_eq] at this
  obtain ⟨h0, h3⟩ := this
  have hp : (valV V h)[k - 1]? = some ((valV V h).getD (k - 1) []) := by rw [List.getD_eq_getElem?_getD, List.getElem?_eq_getElem (by omega)]; rfl
  have := pw_at (valV_asc V h) hp hs (by omega)
  exact List.not_le.2 this h3
theorem val_next {V : List ByteArray} {h : BitVec 16} {k : Nat} (hk : k ≤ (valV V h).length) {b : ByteArray} (hb : ∃ j, j < V.length ∧ V.getD j ⟨#[]⟩ = b ∧ okB V h k j = true)
    (hmin : ∀ j, j < V.length → okB V h k j = true → b.toList ≤ (V.getD j ⟨#[]⟩).toList) : k < (valV V h).length ∧ (valV V h)[k]? = some b.toList := by
  obtain ⟨j, hj, rfl, hok⟩ := hb
  unfold okB at hok
  simp only [Bool.and_eq_true, Bool.not_eq_true', Bool.and_eq_false_iff, decide_eq_false_iff_not] at hok
  obtain ⟨⟨h1, h2⟩, h3⟩ := hok
  have hm := (valV_mem V h (V.getD j ⟨#[]⟩).toList).2 ⟨j, hj, rfl, h1, h2⟩
  obtain ⟨m, hm⟩ := List.mem_iff_getElem?.1 hm
  have hml := (List.getElem?_eq_some_iff.1 hm).1
  have hkm : k ≤ m := by
    apply Classical.byContradiction
    intro hlt
    have hp : (valV V h)[k - 1]? = some ((valV V h).getD (k - 1) []) := by rw [List.getD_eq_getElem?_getD, List.getElem?_eq_getElem (by omega)]; rfl
    rcases h3 with h3 | h3
    · omega
    · by_cases he : m = k - 1
      · subst he
        rw [hm] at hp
        injection hp with hp
        rw [← hp] at h3
        exact h3 (List.le_refl _)
      · have := pw_at (valV_asc V h) hm hp (by omega)
        exact h3 (List.not_lt.1 (fun h => List.lt_irrefl _ (List.lt_trans this h)))
  refine ⟨by omega, ?_⟩
  obtain ⟨s, hs⟩ : ∃ s, (valV V h)[k]? = some s := ⟨_, List.getElem?_eq_getElem (by omega)⟩
  obtain ⟨i, hi, he, g1, g2⟩ := (valV_mem V h s).1 (List.mem_of_getElem? hs)
  have hoi : okB V h k i = true := by
    unfold okB
    rw [g1, g2, he]
    simp only [Bool.not_false, Bool.true_and, Bool.not_eq_true', Bool.and_eq_false_iff, decide_eq_false_iff_not]
    by_cases h0 : 0 < k
    · right
      have hp : (valV V h)[k - 1]? = some ((valV V h).getD (k - 1) []) := by rw [List.getD_eq_getElem?_getD, List.getElem?_eq_getElem (by omega)]; rfl
      exact List.not_le.2 (pw_at (valV_asc V h) hp hs (by omega))
    · exact .inl h0
  have hle := hmin i hi hoi
  rw [he] at hle
  by_cases hkm' : k = m
  · subst hkm'; exact hm
  · have := pw_at (valV_asc V h) hs hm (by omega)
    exact absurd hle (List.not_le.2 this)

/-- the servers that voted for a value -/
def votTo (V : List ByteArray) (x : ByteArray) (k : Nat) : BitVec 16 := (List.range k).foldl (fun s i => if (V.getD i ⟨#[]⟩).toList == x.toList then s ||| bitS i else s) 0#16
def votS (V : List ByteArray) (x : ByteArray) : BitVec 16 := votTo V x V.length
theorem votTo_succ (V : List ByteArray) (x : ByteArray) (k : Nat) : votTo V x (k + 1) = if (V.getD k ⟨#[]⟩).toList == x.toList then votTo V x k ||| bitS k else votTo V x k := by
  unfold votTo; rw [List.range_succ, List.foldl_append]; rfl
def vaB38 (V : List ByteArray) (h : BitVec 16) : List ByteArray := (valV V h).map fun s => ⟨s.toArray⟩
theorem vaB38_at {V : List ByteArray} {h : BitVec 16} {k : Nat} {b : ByteArray} (hk : (valV V h)[k]? = some b.toList) : (vaB38 V h)[k]? = some b := by
  unfold vaB38; rw [List.getElem?_map, hk, Option.map_some, bs_mk]
theorem valB_len (V : List ByteArray) (h : BitVec 16) : (vaB38 V h).length = (valV V h).length := by unfold vaB38; rw [List.length_map]
/-- a value with its voters -/
def cntS (V : List ByteArray) (h : BitVec 16) : List (ByteArray × BitVec 16) := (vaB38 V h).map fun v => (v, votS V v)
end Go.Proofs.YtmjgdnpfgkpaoaaGreatDoor
namespace Go.Proofs.YtmjgdnpfgkpaoaaGreatDoor
open Go.RowKit Go.Shelf

theorem st_some {V : List ByteArray} {k : Nat} (h : k < V.length) : V[k]? = some (V.getD k ⟨#[]⟩) := by rw [List.getElem?_eq_getElem h]; simp [List.getD, h]
theorem st_cell {V : List ByteArray} {k : Nat} (h : k < V.length) : (V.map Value.string)[k]? = some (.string (V.getD k ⟨#[]⟩)) := by rw [List.getElem?_map, st_some h]; rfl
theorem st_same {l m : List ByteArray} {k : Nat} (hl : l.length = m.length) (hk : k < l.length) (h : l.take k = m.take k) :
    (((l.getD k ⟨#[]⟩).toList == (m.getD k ⟨#[]⟩).toList) = true → l.take (k + 1) = m.take (k + 1)) ∧ (((l.getD k ⟨#[]⟩).toList == (m.getD k ⟨#[]⟩).toList) = false → l ≠ m) := by
  constructor
  · intro he
    rw [List.take_add_one, List.take_add_one, st_some hk, st_some (by omega), h, bs_ext (eq_of_beq he)]
  · rintro he rfl
    rw [beq_self_eq_true] at he; cases he

def argS (f : List (BitVec 16)) (n : Nat) : Int := if quoS f ≠ 0 then quoS f else if n = 0 then 9 else if 12 < n then 3 else 0
set_option maxRecDepth 100000 in
set_option maxHeartbeats 2000000 in
theorem args_c (f : List (BitVec 16)) (a : Option Addr) (n c : Nat) (a2 : Option Addr) (n2 c2 : Nat) (w : World) (h : Rd w a n c (f.map setV2)) (hn2 : n2 ≤ 100) :
    Calls Tryz.prog 51 #[.slice a n c, .slice a2 n2 c2] w fun e w' => e = .returned (.int .i64 (argS f n2)) ∧ Below w.heap.size w w' := by
  have HV := Lib.hid (quorums_c f a n c w h)
  clear h
  by_cases hv : quoS f = 0
  · have hC : Hid (argS f n2 = if n2 = 0 then 9 else if 12 < n2 then 3 else 0) := by show _ = _; unfold argS; rw [hv]; rfl
    rw [hv] at HV
    clear hv
    by_cases h0 : n2 = 0
    · have hE : Hid (argS f n2 = 9) := by show _ = _; rw [hC.out, if_pos h0]
      subst h0
      go_enter Tryz.func51, Tryz.ntmps51
      go_wp2_with fail
      refine HV.out.mono ?_
      rintro e w1 ⟨rfl, b1⟩
      go_wp2_with fail
      go_ret
      exact ⟨by rw [hE.out]; rfl, b1⟩
    · by_cases h1 : 12 < n2
      · have hE : Hid (argS f n2 = 3) := by show _ = _; rw [hC.out, if_neg h0, if_pos h1]
        go_enter Tryz.func51, Tryz.ntmps51
        go_wp2_with fail
        refine HV.out.mono ?_
        rintro e w1 ⟨rfl, b1⟩
        go_wp2_with fail
        go_ret
        exact ⟨by rw [hE.out]; rfl, b1⟩
      · have hE : Hid (argS f n2 = 0) := by show _ = _; rw [hC.out, if_neg h0, if_neg h1]
        go_enter Tryz.func51, Tryz.ntmps51
        go_wp2_with fail
        refine HV.out.mono ?_
        rintro e w1 ⟨rfl, b1⟩
        go_wp2_with fail
        go_ret
        exact ⟨by rw [hE.out]; rfl, b1⟩
  · have hE : Hid (argS f n2 = quoS f) := by show _ = _; unfold argS; rw [if_pos hv]
    obtain ⟨v, hvv⟩ : ∃ v, quoS f = v := ⟨_, rfl⟩
    rw [hvv] at HV hE hv
    have hv1 : (v != 0) = true := by simpa using hv
    clear hv hvv
    go_enter Tryz.func51, Tryz.ntmps51
    go_wp2_with fail
    refine HV.out.mono ?_
    rintro e w1 ⟨rfl, b1⟩
    go_wp2_with fail
    go_ret
    exact ⟨by rw [hE.out]; rfl, b1⟩
end Go.Proofs.YtmjgdnpfgkpaoaaGreatDoor
namespace Go.Proofs.YtmjgdnpfgkpaoaaGreatDoor
open Go.RowKit Go.Shelf Go.Sort

theorem Tryz.infoStr : (Tryz.prog.info? 9).map (fun i => (i.zero, i.size, i.bytes)) = some (some (.string ⟨#[]⟩), 1, 16) := by kernel_rfl
theorem Tryz.infoBal : (Tryz.prog.info? 108).map (fun i => (i.zero, i.size, i.bytes)) = some (some (.agg #[.string ⟨#[]⟩, .int .u16 0]), 2, 24) := by kernel_rfl

theorem sortT_c (B : Nat) (v : Value) (zs : List Str) (w : World) (h : w.ownsRow B 9 1 v zs.length (zs.map encStr)) (hsz : zs.length ≤ 1000) :
    Calls Tryz.prog 62 #[v] w fun e w' => e = .returned (.tuple #[]) ∧ w'.ownsRow B 9 1 v zs.length ((zs.mergeSort fun x y => decide (x ≤ y)).map encStr) ∧ w.grownBy w' v.ownBlock := by
  have hl : (zs.mergeSort fun x y => decide (x ≤ y)).length = zs.length := List.length_mergeSort _
  rcases h.2 with ⟨rfl, h0⟩ | ⟨g, cap, cur, rfl, hbase, hb, h1, h2, h3, h4⟩
  · have hz : zs = [] := List.eq_nil_of_length_eq_zero h0
    subst hz
    refine (Tryz.slices_Sort_string_none none 0 w).mono ?_
    rintro e w' ⟨rfl, rfl⟩
    exact ⟨rfl, by simpa using World.ownsRow_nil _ _ _ _, World.grownBy.refl _ _⟩
  · refine (Tryz.slices_Sort_string g 0 cap zs w (holds_of_block hb (by simpa using h4)) (Array.getElem?_eq_some_iff.1 hb).1 (by omega)).mono ?_
    rintro e w' ⟨rfl, n, os, rfl⟩
    exact ⟨rfl, ownsRow_sorted hl hbase hb h1 h2 h3, grownBy_sorted _⟩

theorem compact_len (zs : List Str) : (Lib.compact zs).length ≤ zs.length := by
  unfold Lib.compact Lib.compactUpTo
  rw [List.length_map]
  exact Nat.le_trans (List.length_filter_le _ _) (by simp)
theorem compactT_c (B : Nat) (v : Value) (zs : List Str) (w : World) (h : w.ownsRow B 9 1 v zs.length (zs.map encStr)) (hsz : zs.length ≤ 1000) :
    Calls Tryz.prog 63 #[v] w fun e w' => ∃ a c, e = .returned (.slice a (Lib.compact zs).length c) ∧ Rd w' a (Lib.compact zs).length c ((Lib.compact zs).map encStr) ∧ w.grownBy w' v.ownBlock := by
  rcases h.2 with ⟨rfl, h0⟩ | ⟨g, cap, cur, rfl, hbase, hb, h1, h2, h3, h4⟩
  · have hz : zs = [] := List.eq_nil_of_length_eq_zero h0
    subst hz
    refine (Tryz.slices_Compact_string_empty none 0 w).mono ?_
    rintro e w' ⟨rfl, rfl⟩
    exact ⟨none, 0, rfl, Rd.none_ _, World.grownBy.refl _ _⟩
  · refine (Tryz.slices_Compact_string g 0 cap zs w (holds_of_block hb (by simpa using h4)) (by omega) h1).mono ?_
    rintro e w' ⟨rfl, q, rfl⟩
    have hcl := compact_len zs
    have hl : (Lib.compact zs ++ List.replicate (zs.length - (Lib.compact zs).length) []).length = zs.length := by rw [List.length_append, List.length_replicate]; omega
    have ho := ownsRow_sorted (n := q) (os := #[]) hl hbase hb h1 h2 h3
    have hg := grownBy_sorted (w := w) (g := g) (n := q) (os := #[]) (Lib.compact zs ++ List.replicate (zs.length - (Lib.compact zs).length) []).toArray
    rw [grow_empty] at ho hg
    obtain ⟨a, c, hv, hr⟩ := rd_of_row ho
    injection hv with hv1 hv2 hv3
    subst hv1 hv3
    have hr2 := hr.take (Lib.compact zs).length hcl
    rw [List.map_append, List.take_append_of_le_length (by simp), List.take_of_length_le (by simp)] at hr2
    exact ⟨_, _, rfl, hr2, hg⟩

def balC (b : ByteArray × BitVec 16) : List Value := [.string b.1, .int .u16 (U b.2)]
theorem balC_len (b : ByteArray × BitVec 16) : (balC b).length = 2 := rfl
theorem bal_one (l : List (ByteArray × BitVec 16)) : ∀ u ∈ l.flatMap balC, u.oneCell' = true := by
  intro u hu
  obtain ⟨p, _, hp⟩ := List.mem_flatMap.1 hu
  simp only [balC, List.mem_cons, List.not_mem_nil, or_false] at hp
  rcases hp with rfl | rfl <;> rfl
theorem cnt_take {V : List ByteArray} {h : BitVec 16} {k : Nat} {x : ByteArray} (hx : (vaB38 V h)[k]? = some x) : (cntS V h).take (k + 1) = (cntS V h).take k ++ [(x, votS V x)] := by
  unfold cntS
  rw [List.take_add_one, List.getElem?_map, hx]; rfl
theorem votTo_c {V : List ByteArray} {n : Nat} (h : V.length = n) (x : ByteArray) : votTo V x n = votS V x := by unfold votS; rw [h]
theorem heaV_map (V : List ByteArray) (h : BitVec 16) (k : Nat) : (heaTo V h k).map Value.string = ((heaTo V h k).map ByteArray.toList).map encStr := by
  rw [List.map_map]
  refine List.map_congr_left fun b _ => ?_
  simp only [Function.comp_apply, encStr, bs_mk]
theorem valB_map (V : List ByteArray) (h : BitVec 16) : (valV V h).map encStr = (vaB38 V h).map Value.string := by
  unfold vaB38; rw [List.map_map]; rfl

set_option maxRecDepth 100000 in
set_option maxHeartbeats 4000000 in
theorem count_f (V : List ByteArray) (h : BitVec 16) (a : Option Addr) (n c : Nat) (w : World) (hn : n ≤ 16) (hr : Rd w a n c (V.map Value.string)) :
    Calls Tryz.prog 52 #[.slice a n c, .int .u16 (U h)] w fun e w' => ∃ v, e = .returned v ∧ w'.ownsRow w.heap.size 108 2 v (cntS V h).length ((cntS V h).flatMap balC) ∧ Below w.heap.size w w' := by
  have hnl : V.length = n := by have := hr.len; simp at this; omega
  have hm := hr.max
  have hle := hr.le
  unfold maxLen at hm
  have HR := Lib.hid hr
  have HN := Lib.hid hnl
  clear hr hnl
  go_enter Tryz.func52, Tryz.ntmps52
  go_wp2_with fail
  go_loopw [5, 16] (fun v i wr => ∃ k : Nat, k ≤ n ∧ i = .int .i64 k ∧ wr.ownsRow w.heap.size 9 1 v (heaTo V h k).length ((heaTo V h k).map Value.string) ∧ Below w.heap.size w wr) (fun _ i _ => n - (intOf i).toNat)
  case atStart => exact ⟨0, Nat.zero_le _, rfl, World.ownsRow_nil _ _ _ _, Below.refl _ _⟩
  case round =>
    obtain ⟨k, hk, rfl, hown, hb⟩ := hrel
    by_cases hlt : k < n
    · obtain ⟨b, o, ha, hcell⟩ := (HR.out.below hb).at' (by omega)
      have hc := hcell k _ (st_cell (by have := HN.out; omega))
      have hst := heaTo_succ V h k
      have hml := heaTo_le V h k
      obtain ⟨y, hy⟩ : ∃ y, V.getD k ⟨#[]⟩ = y := ⟨_, rfl⟩
      rw [hy] at hc hst
      subst ha
      cases hq : (y.toList == [])
      · cases hh : hasB h k
        · rw [hq, hh] at hst
          have HS : Hid (heaTo V h (k + 1) = heaTo V h k) := by show _ = _; rw [hst]; simp
          clear hcell hy hst
          go_wp2_with fail
          go_roundw
          case rel => exact ⟨k + 1, by omega, by go_num, by rw [HS.out]; exact hown, hb⟩
          case measure => simp [intOf]; omega
        · rw [hq, hh] at hst
          have HS : Hid ((heaTo V h (k + 1)).map Value.string = (heaTo V h k).map Value.string ++ [.string y]) := by show _ = _; rw [hst]; simp
          have HL : Hid ((heaTo V h (k + 1)).length = (heaTo V h k).length + 1) := by show _ = _; rw [hst]; simp
          clear hcell hy hst
          go_wp2_with (at_builtin; go_must (refine wpList_app _ _ 41 16 (.string ⟨#[]⟩) (.string y) _ Tryz.underlying41 Tryz.infoStr rfl hown hb (Nat.le_refl _) rfl rfl rfl rfl rfl (by unfold maxLen; omega) (by omega) ?_))
          intro v' w1 hown1 hb1 _ _
          clear hown hb hc
          go_wp2_with fail
          go_roundw
          case rel => exact ⟨k + 1, by omega, by go_num, by rw [HS.out, HL.out]; exact hown1, hb1⟩
          case measure => simp [intOf]; omega
      · rw [hq] at hst
        have HS : Hid (heaTo V h (k + 1) = heaTo V h k) := by show _ = _; rw [hst]; simp
        clear hcell hy hst
        go_wp2_with fail
        go_roundw
        case rel => exact ⟨k + 1, by omega, by go_num, by rw [HS.out]; exact hown, hb⟩
        case measure => simp [intOf]; omega
    · obtain rfl : k = n := by omega
      rw [heaV_map] at hown
      have hsz : ((heaTo V h k).map ByteArray.toList).length ≤ k := by rw [List.length_map]; exact heaTo_le _ _ _
      have hown' : wr.ownsRow w.heap.size 9 1 u5 ((heaTo V h k).map ByteArray.toList).length (((heaTo V h k).map ByteArray.toList).map encStr) := by rw [List.length_map]; exact hown
      have HSO := Lib.hid (sortT_c _ _ _ wr hown' (by omega))
      have HOL := Lib.hid hown'.lt
      have hVV : Lib.compact (((heaTo V h k).map ByteArray.toList).mergeSort fun x y => decide (x ≤ y)) = valV V h := by unfold valV; rw [HN.out]
      have HVV := Lib.hid hVV
      have hsl : (((heaTo V h k).map ByteArray.toList).mergeSort fun x y => decide (x ≤ y)).length = ((heaTo V h k).map ByteArray.toList).length := List.length_mergeSort _
      have HSL := Lib.hid hsl
      have HSZ := Lib.hid hsz
      clear hown hown' hVV hsl hsz hlt
      go_wp2_with fail
      refine HSO.out.mono ?_
      rintro e w1 ⟨rfl, hown1, hg1⟩
      have hb1 := hb.grown hg1 hb.size (fun k hk => (HOL.out k hk).1)
      rw [← HSL.out] at hown1
      have HCO := Lib.hid (compactT_c _ _ _ w1 hown1 (by rw [HSL.out]; exact Nat.le_trans HSZ.out (by omega)))
      have HOL1 := Lib.hid hown1.lt
      rw [HVV.out] at HCO
      clear hb hown1 hg1 HSO HOL HVV HSL HSZ
      go_wp2_with fail
      refine HCO.out.mono ?_
      rintro e w2 ⟨a2, c2, rfl, hr2, hg2⟩
      have hb2 := hb1.grown hg2 hb1.size (fun k hk => (HOL1.out k hk).1)
      have hvl := valV_le V h
      rw [HN.out] at hvl
      obtain ⟨m, hm2⟩ : ∃ m, (valV V h).length = m := ⟨_, rfl⟩
      rw [valB_map] at hr2
      rw [hm2] at hr2 hvl
      have HM := Lib.hid hm2
      have HR2 := Lib.hid hr2
      have hle2 := hr2.le
      have hmx2 := hr2.max
      unfold maxLen at hmx2
      rw [hm2]
      have HB2 := Lib.hid hb2
      clear hb1 hg2 hr2 hm2 HCO HOL1 hb2
      go_wp2_with fail
      go_loopw [8, 40] (fun v i wr => ∃ j : Nat, j ≤ m ∧ i = .int .i64 j ∧ wr.ownsRow w2.heap.size 108 2 v j (((cntS V h).take j).flatMap balC) ∧ Below w2.heap.size w2 wr) (fun _ i _ => m - (intOf i).toNat)
      case atStart => exact ⟨0, Nat.zero_le _, rfl, by simpa using World.ownsRow_nil _ _ _ _, Below.refl _ _⟩
      case round =>
        obtain ⟨j, hj, rfl, hown, hb⟩ := hrel
        have hbw := Below.next HB2.out hb
        by_cases hlt : j < m
        · obtain ⟨x, hx⟩ : ∃ x, (vaB38 V h)[j]? = some x := ⟨_, List.getElem?_eq_getElem (by rw [valB_len, HM.out]; exact hlt)⟩
          obtain ⟨b, o, ha, hcell⟩ := (HR2.out.below hb).at' (by omega)
          have hc := hcell j (.string x) (by rw [List.getElem?_map, hx]; rfl)
          have HST := Lib.hid (cnt_take hx)
          subst ha
          clear hcell hx
          go_wp2_with fail
          obtain ⟨wo, rfl⟩ : ∃ wo, wo = wr := ⟨_, rfl⟩
          obtain ⟨B, hB⟩ : ∃ B, wo.heap.size = B := ⟨_, rfl⟩
          have g0 : (wo.alloc (.cells #[.string x, .int .u16 (U 0#16)] 108)).heap[B]? = some (.cells #[.string x, .int .u16 (U 0#16)] 108 (0, 0)) := by rw [← hB]; exact heap_alloc_new wo _
          obtain ⟨W, hW⟩ : ∃ W, wo.alloc (.cells #[.string x, .int .u16 (U 0#16)] 108) = W := ⟨_, rfl⟩
          have hbW : Below wo.heap.size wo W := by rw [← hW]; exact (Below.refl _ wo).alloc (Nat.le_refl _) _
          rw [hW] at g0
          have hW' : wo.alloc (.cells #[.string x, .int .u16 0] 108) = W := hW
          rw [hB, hW']
          have hBW : B < W.heap.size := (Array.getElem?_eq_some_iff.1 g0).1
          have HBW := Lib.hid hbW
          have HO := Lib.hid hown
          have HBB := Lib.hid hb
          have HBw := Lib.hid hbw
          have HG0 := Lib.hid g0
          have HBE := Lib.hid hB
          clear hW hW' hbW hc g0 hown hb hbw hB
          go_loopw [48] (fun i wr => ∃ q : Nat, q ≤ k ∧ i = .int .i64 q ∧ wr.heap[B]? = some (.cells #[.string x, .int .u16 (U (votTo V x q))] 108 (0, 0)) ∧ Below wo.heap.size wo wr) (fun i _ => k - (intOf i).toNat)
          case atStart => exact ⟨0, Nat.zero_le _, rfl, HG0.out, HBW.out⟩
          case round =>
            obtain ⟨q, hq, rfl, hg, hb3⟩ := hrel
            by_cases hlt2 : q < k
            · obtain ⟨b2, o2, ha2, hcell⟩ := (HR.out.below (Below.next HBw.out hb3)).at' (by omega)
              have hc := hcell q _ (st_cell (by have := HN.out; omega))
              have hst := votTo_succ V x q
              obtain ⟨y, hy⟩ : ∃ y, V.getD q ⟨#[]⟩ = y := ⟨_, rfl⟩
              rw [hy] at hc hst
              subst ha2
              cases hq2 : (y.toList == x.toList)
              · rw [hq2] at hst
                have HS : Hid (votTo V x (q + 1) = votTo V x q) := hst
                clear hcell hy hst
                go_wp2_with fail
                go_roundw
                case rel => exact ⟨q + 1, by omega, by go_num, by rw [HS.out]; exact hg, hb3⟩
                case measure => simp [intOf]; omega
              · rw [hq2] at hst
                obtain ⟨s, hs⟩ : ∃ s, votTo V x q = s := ⟨_, rfl⟩
                rw [hs] at hst hg
                have HS : Hid (votTo V x (q + 1) = s ||| bitS q) := hst
                have z0 : wr.cell? ⟨B, 0, none⟩ = some (.string x) := cell_of_row _ _ 0 _ _ _ hg
                have z1 : wr.cell? ⟨B, 1, none⟩ = some (.int .u16 (U s)) := cell_of_row _ _ 1 _ _ _ hg
                have z2 : wr.frozen? ⟨B, 1, none⟩ = false := by simp [World.frozen?, hg]
                have hg2 := heap_set_at hg 1 (.int .u16 (U (s ||| bitS q)))
                have hb4 := hb3.setCell (p := ⟨B, 1, none⟩) (by rw [HBE.out]; exact Nat.le_refl _) (.int .u16 (U (s ||| bitS q)))
                have HG2 := Lib.hid hg2
                have HB4 := Lib.hid hb4
                clear hcell hy hst hs hg hg2 hb4
                go_wp2_with fail
                go_region
                go_wp2_with fail
                go_roundw
                case rel => exact ⟨q + 1, by omega, by go_num, by rw [HS.out]; exact HG2.out, below_drew HB4.out⟩
                case measure => simp [intOf]; omega
            · obtain rfl : q = k := by omega
              rw [votTo_c HN.out] at hg
              obtain ⟨s, hs⟩ : ∃ s, votS V x = s := ⟨_, rfl⟩
              rw [hs] at hg
              have HST2 := HST.out
              rw [hs] at HST2
              have HST3 := Lib.hid HST2
              have z0 : wr.cell? ⟨B, 0, none⟩ = some (.string x) := cell_of_row _ _ 0 _ _ _ hg
              have z1 : wr.cell? ⟨B, 1, none⟩ = some (.int .u16 (U s)) := cell_of_row _ _ 1 _ _ _ hg
              have hown := rowK_below HO.out hb3
              have hb5 := Below.next HBB.out hb3
              clear hs hg HST HST2 hb3
              go_wp2_with (at_builtin; go_must (refine wpList_appK 2 _ _ 105 24 (.agg #[.string ⟨#[]⟩, .int .u16 0]) (balC (x, s)) _ Tryz.underlying105 Tryz.infoBal rfl (by decide) hown hb5 (Nat.le_refl _) rfl rfl rfl rfl rfl (by intro u hu; exact bal_one [(x, s)] u (by simpa using hu)) (by unfold maxLen; omega) (by omega) ?_))
              intro v' w4 hown4 hb4 hg4 hs4
              clear hown hb5 z0 z1
              go_wp2_with fail
              go_roundw
              case rel => exact ⟨j + 1, by omega, by go_num, by rw [HST3.out, List.flatMap_append]; simpa using hown4, hb4⟩
              case measure => simp [intOf]; omega
        · obtain rfl : j = m := by omega
          have hcl : (cntS V h).length = j := by unfold cntS; rw [List.length_map, valB_len, HM.out]
          rw [List.take_of_length_le (by omega)] at hown
          have HCL := Lib.hid hcl
          have HO := Lib.hid (rowK_mono hown HB2.out.size)
          have HBW := Lib.hid hbw
          clear hown hb hbw hcl
          go_wp2_with fail
          go_ret
          exact ⟨_, rfl, by rw [HCL.out]; exact HO.out, HBW.out⟩
end Go.Proofs.YtmjgdnpfgkpaoaaGreatDoor
namespace Go.Proofs.YtmjgdnpfgkpaoaaGreatDoor
open Go.RowKit Go.Shelf Go.Sort

theorem less_le (x y : Str) : (Op.bytesLess x y || x == y) = decide (x ≤ y) := by
  rw [bytesLess_eq, Bool.eq_iff_iff, Bool.or_eq_true, decide_eq_true_eq, decide_eq_true_eq, beq_iff_eq]
  constructor
  · rintro (h | rfl)
    · exact List.not_lt.1 (fun h2 => List.lt_irrefl _ (List.lt_trans h h2))
    · exact List.le_refl _
  · intro h
    by_cases he : x = y
    · exact .inr he
    · exact .inl (List.not_le.1 (fun h2 => he (List.le_antisymm h h2)))

def BI (V : List ByteArray) (h : BitVec 16) (k j : Nat) (found : Bool) (best : ByteArray) : Prop :=
  if found = true then (∃ i, i < j ∧ V.getD i ⟨#[]⟩ = best ∧ okB V h k i = true) ∧ (∀ i, i < j → okB V h k i = true → best.toList ≤ (V.getD i ⟨#[]⟩).toList) else ∀ i, i < j → okB V h k i = false
theorem BI_skip {V : List ByteArray} {h : BitVec 16} {k j : Nat} {f : Bool} {b : ByteArray} (hi : BI V h k j f b) (hok : okB V h k j = false) : BI V h k (j + 1) f b := by
  unfold BI at hi ⊢
  by_cases hf : f = true
  · rw [if_pos hf] at hi ⊢
    obtain ⟨⟨i, h1, h2, h3⟩, h4⟩ := hi
    refine ⟨⟨i, by omega, h2, h3⟩, fun i hi ho => ?_⟩
    by_cases hij : i = j
    · subst hij; rw [hok] at ho; cases ho
    · exact h4 i (by omega) ho
  · rw [if_neg hf] at hi ⊢
    intro i h1
    by_cases hij : i = j
    · subst hij; exact hok
    · exact hi i (by omega)
theorem BI_set {V : List ByteArray} {h : BitVec 16} {k j : Nat} {f : Bool} {b : ByteArray} (hi : BI V h k j f b) (hok : okB V h k j = true) (hlt : f = true → (V.getD j ⟨#[]⟩).toList < b.toList) : BI V h k (j + 1) true (V.getD j ⟨#[]⟩) := by
  unfold BI at hi ⊢
  rw [if_pos rfl]
  refine ⟨⟨j, by omega, rfl, hok⟩, fun i h1 ho => ?_⟩
  by_cases hij : i = j
  · subst hij; exact List.le_refl _
  · by_cases hf : f = true
    · rw [if_pos hf] at hi
      have h2 := hi.2 i (by omega) ho
      exact List.le_trans (List.not_lt.1 (fun h3 => List.lt_irrefl _ (List.lt_trans (hlt hf) h3))) h2
    · rw [if_neg hf] at hi
      rw [hi i (by omega)] at ho; cases ho
theorem BI_keep {V : List ByteArray} {h : BitVec 16} {k j : Nat} {b : ByteArray} (hi : BI V h k j true b) (hge : ¬ (V.getD j ⟨#[]⟩).toList < b.toList) : BI V h k (j + 1) true b := by
  unfold BI at hi ⊢
  rw [if_pos rfl] at hi ⊢
  obtain ⟨⟨i, h1, h2, h3⟩, h4⟩ := hi
  refine ⟨⟨i, by omega, h2, h3⟩, fun i hi ho => ?_⟩
  by_cases hij : i = j
  · subst hij; exact List.not_lt.1 hge
  · exact h4 i (by omega) ho
theorem BI_end0 {V : List ByteArray} {h : BitVec 16} {k n : Nat} {b : ByteArray} (hn : V.length = n) (hk : k ≤ (valV V h).length) (hi : BI V h k n false b) : k = (valV V h).length := by
  unfold BI at hi
  rw [if_neg (by decide)] at hi
  exact val_end hk (fun j hj => hi j (by omega))
theorem BI_end1 {V : List ByteArray} {h : BitVec 16} {k n : Nat} {b : ByteArray} (hn : V.length = n) (hk : k ≤ (valV V h).length) (hi : BI V h k n true b) : k < (valV V h).length ∧ (vaB38 V h)[k]? = some b := by
  unfold BI at hi
  rw [if_pos rfl] at hi
  obtain ⟨⟨i, h1, h2, h3⟩, h4⟩ := hi
  obtain ⟨a1, a2⟩ := val_next hk ⟨i, by omega, h2, h3⟩ (fun j hj ho => h4 j (by omega) ho)
  exact ⟨a1, vaB38_at a2⟩
theorem okB_empty {V : List ByteArray} {h : BitVec 16} {k j : Nat} (he : ((V.getD j ⟨#[]⟩).toList == []) = true) : okB V h k j = false := by unfold okB; rw [he]; rfl
theorem okB_off {V : List ByteArray} {h : BitVec 16} {k j : Nat} (he : hasB h j = false) : okB V h k j = false := by unfold okB; rw [he]; simp
theorem okB_zero {V : List ByteArray} {h : BitVec 16} {j : Nat} (he : ((V.getD j ⟨#[]⟩).toList == []) = false) (hh : hasB h j = true) : okB V h 0 j = true := by unfold okB; rw [he, hh]; simp
theorem okB_pos {V : List ByteArray} {h : BitVec 16} {k j : Nat} (he : ((V.getD j ⟨#[]⟩).toList == []) = false) (hh : hasB h j = true) (hk : 0 < k) {l : ByteArray} (hl : (vaB38 V h)[k - 1]? = some l) :
    okB V h k j = !(Op.bytesLess (V.getD j ⟨#[]⟩).toList l.toList || (V.getD j ⟨#[]⟩).toList == l.toList) := by
  have hlv : (valV V h).getD (k - 1) [] = l.toList := by
    unfold vaB38 at hl
    rw [List.getElem?_map] at hl
    rw [List.getD_eq_getElem?_getD]
    cases hg : (valV V h)[k - 1]? with
    | none => rw [hg] at hl; cases hl
    | some s => rw [hg] at hl; injection hl with hl; rw [← hl, bs_list]; rfl
  unfold okB; rw [he, hh, hlv, less_le, decide_eq_true hk]; simp
theorem hasI_at (h : BitVec 16) (j : Nat) (hj : j < 16) : hasI h (j : Int) = hasB h j := by unfold hasI; simp; omega

end Go.Proofs.YtmjgdnpfgkpaoaaGreatDoor
namespace Go.Proofs.YtmjgdnpfgkpaoaaGreatDoor
open Go.RowKit Go.Shelf Go.Sort

theorem cnt_at {V : List ByteArray} {h : BitVec 16} {k : Nat} {x : ByteArray} (hx : (vaB38 V h)[k]? = some x) : (cntS V h)[k]? = some (x, votS V x) := by unfold cntS; rw [List.getElem?_map, hx]; rfl
theorem cntS_len (V : List ByteArray) (h : BitVec 16) : (cntS V h).length = (vaB38 V h).length := by unfold cntS; rw [List.length_map]

def allS : BitVec 16 := 4095#16
def choP (q : List (BitVec 16)) (V : List ByteArray) (v : ByteArray) : Option ByteArray := if accS q (votS V v) = true then some v else none
def choF (q : List (BitVec 16)) (V : List ByteArray) : Option ByteArray := (vaB38 V allS).findSome? (choP q V)
def choM : Option ByteArray → ByteArray × Int
  | some v => (v, 0)
  | none => (⟨#[]⟩, 4)
def choS (q : List (BitVec 16)) (V : List ByteArray) : ByteArray × Int := if argS q V.length ≠ 0 then (⟨#[]⟩, argS q V.length) else choM (choF q V)
theorem cho_step {q : List (BitVec 16)} {V : List ByteArray} {k : Nat} {x : ByteArray} (hx : (vaB38 V allS)[k]? = some x) (hno : ∀ (j : Nat) (z : ByteArray), j < k → (vaB38 V allS)[j]? = some z → choP q V z = none) (h : accS q (votS V x) = false) :
    ∀ (j : Nat) (z : ByteArray), j < k + 1 → (vaB38 V allS)[j]? = some z → choP q V z = none := by
  intro j z hj hz
  by_cases h1 : j < k
  · exact hno j z h1 hz
  · obtain rfl : j = k := by omega
    rw [hx] at hz; cases hz
    unfold choP; rw [h]; rfl

def V2 (p : ByteArray × Int) : Value := .tuple #[.string p.1, .int .i64 p.2]

set_option maxRecDepth 100000 in
set_option maxHeartbeats 4000000 in
theorem chosen_c (q : List (BitVec 16)) (V : List ByteArray) (a : Option Addr) (n c : Nat) (a2 : Option Addr) (n2 c2 : Nat) (w : World) (h : Rd w a n c (q.map setV2)) (h2 : Rd w a2 n2 c2 (V.map Value.string)) (hn : n2 ≤ 100) :
    Calls Tryz.prog 17 #[.slice a n c, .slice a2 n2 c2] w fun e w' => e = .returned (V2 (choS q V)) ∧ Below w.heap.size w w' := by
  have hnl : V.length = n2 := by have := h2.len; simp at this; omega
  have HR := Lib.hid h
  have HR2 := Lib.hid h2
  have HN := Lib.hid hnl
  have HA := Lib.hid (args_c q a n c a2 n2 c2 w h hn)
  clear h h2
  by_cases he : argS q n2 = 0
  · have hC : Hid (choS q V = choM (choF q V)) := by show _ = _; unfold choS; rw [hnl, he]; rfl
    have hn12 : n2 ≤ 12 := by
      unfold argS at he
      split at he
      · rename_i h1; exact absurd he h1
      · split at he
        · cases he
        · split at he
          · cases he
          · omega
    rw [he] at HA
    clear he hnl
    have HC := Lib.hid (fun w h => count_f V allS a2 n2 c2 w (by omega) h)
    have hU : U allS = 4095 := rfl
    rw [hU] at HC
    clear hU
    go_enter Tryz.func17, Tryz.ntmps17
    go_wp2_with fail
    refine HA.out.mono ?_
    rintro e w1 ⟨rfl, b1⟩
    clear HA
    go_wp2_with fail
    refine (HC.out w1 (HR2.out.below b1)).mono ?_
    rintro e w2 ⟨v, rfl, hown, b2⟩
    obtain ⟨al, cl, rfl, hrl⟩ := rdK_of_row hown
    have hb2 := Below.next b1 b2
    obtain ⟨m, hm⟩ : ∃ m, (cntS V allS).length = m := ⟨_, rfl⟩
    have hml : (vaB38 V allS).length = m := by rw [← hm, cntS_len]
    have hmn : m ≤ n2 := by rw [← hml, valB_len, ← HN.out]; exact valV_le _ _
    rw [hm] at hrl ⊢
    have hlc := hrl.le
    have hlm := hrl.max
    unfold maxLen at hlm
    have HRL := Lib.hid hrl
    have HM := Lib.hid hml
    have HB2 := Lib.hid hb2
    clear HC b1 b2 hown hm hml hrl hb2
    go_wp2_with fail
    go_loopw [18] (fun i wr => ∃ k : Nat, k ≤ m ∧ i = .int .i64 k ∧ Hid (∀ (j : Nat) (z : ByteArray), j < k → (vaB38 V allS)[j]? = some z → choP q V z = none) ∧ Below w2.heap.size w2 wr) (fun i _ => m - (intOf i).toNat)
    case atStart => exact ⟨0, Nat.zero_le _, rfl, Lib.hid (fun j z hj => by omega), Below.refl _ _⟩
    case round =>
      obtain ⟨k, hk, rfl, hno, hb⟩ := hrel
      by_cases hlt : k < m
      · obtain ⟨x, hx⟩ : ∃ x, (vaB38 V allS)[k]? = some x := ⟨_, List.getElem?_eq_getElem (by rw [HM.out]; exact hlt)⟩
        obtain ⟨b, o, ha, hcell⟩ := RdK.cells (HRL.out.below hb) balC_len (by omega)
        have c0 : wr.cell? ⟨b, o + k * 2, none⟩ = some (.string x) := hcell k _ (cnt_at hx) 0 (by omega)
        have c1 : wr.cell? ⟨b, o + k * 2 + 1, none⟩ = some (.int .u16 (U (votS V x))) := hcell k _ (cnt_at hx) 1 (by omega)
        obtain ⟨s, hs⟩ : ∃ s, votS V x = s := ⟨_, rfl⟩
        rw [hs] at c1
        have HX := Lib.hid hx
        have hbA : Below wr.heap.size wr (wr.alloc (.cells #[.string x, .int .u16 (U s)] 108)) := (Below.refl _ wr).alloc (Nat.le_refl _) _
        have e0 : (wr.alloc (.cells #[.string x, .int .u16 (U s)] 108)).cell? ⟨wr.heap.size, 0, none⟩ = some (.string x) := cell_new _ _ _ 0 _ rfl
        have e1 : (wr.alloc (.cells #[.string x, .int .u16 (U s)] 108)).cell? ⟨wr.heap.size, 1, none⟩ = some (.int .u16 (U s)) := cell_new _ _ _ 1 _ rfl
        have hb3 := Below.next hb hbA
        have HAC := Lib.hid (accepts_c q s a n c _ (HR.out.below (Below.next HB2.out hb3)))
        have HB3 := Lib.hid hb3
        have HE0 := Lib.hid e0
        subst ha
        cases hq : accS q s
        · have hno2 := Lib.hid (cho_step HX.out hno.out (by rw [hs]; exact hq))
          rw [hq] at HAC
          clear hcell hx hs hno hb hbA hb3 e0
          go_wp2_with fail
          refine HAC.out.mono ?_
          rintro e w3 ⟨rfl, b3⟩
          have b4 := Below.next HB3.out b3
          clear HAC b3
          go_wp2_with fail
          go_roundw
          case rel => exact ⟨k + 1, by omega, by go_num, hno2, b4⟩
          case measure => simp [intOf]; omega
        · have hF : choF q V = some x := fs_hit (f := choP q V) hx hno.out (by unfold choP; rw [hs, hq]; rfl)
          have hE : Hid (choS q V = (x, 0)) := by show _ = _; rw [hC.out, hF]; rfl
          rw [hq] at HAC
          clear hcell hx hs hno hb hbA hb3 e0 hF
          go_wp2_with fail
          refine HAC.out.mono ?_
          rintro e w3 ⟨rfl, b3⟩
          have b4 := Below.next HB3.out b3
          have f0 : w3.cell? ⟨wr.heap.size, 0, none⟩ = some (.string x) := (b3.cell (p := ⟨wr.heap.size, 0, none⟩) (cell_lt HE0.out)).trans HE0.out
          clear HAC b3
          go_wp2_with fail
          exact bodyPost_ret (v := V2 (x, 0)) (by simp [results, Tryz.results17, go_sem, V2]) rfl ⟨by rw [hE.out], Below.next HB2.out b4⟩
      · have hF : choF q V = none := fs_none (f := choP q V) (fun j z hz => hno.out j z (by have := (List.getElem?_eq_some_iff.1 hz).1; have := HM.out; omega) hz)
        have hE : Hid (choS q V = (⟨#[]⟩, 4)) := by show _ = _; rw [hC.out, hF]; rfl
        clear hno hF
        go_wp2_with fail
        exact bodyPost_ret (v := V2 (⟨#[]⟩, 4)) (by simp [results, Tryz.results17, go_sem, V2]) rfl ⟨by rw [hE.out], Below.next HB2.out hb⟩
  · have hE : Hid (choS q V = (⟨#[]⟩, argS q n2)) := by show _ = _; unfold choS; rw [hnl, if_pos he]
    obtain ⟨v, hv⟩ : ∃ v, argS q n2 = v := ⟨_, rfl⟩
    rw [hv] at HA hE he
    have hv1 : (v != 0) = true := by simpa using he
    clear hv he
    go_enter Tryz.func17, Tryz.ntmps17
    go_wp2_with fail
    refine HA.out.mono ?_
    rintro e w1 ⟨rfl, b1⟩
    go_wp2_with fail
    exact bodyPost_ret (v := V2 (⟨#[]⟩, v)) (by simp [results, Tryz.results17, go_sem, V2]) rfl ⟨by rw [hE.out], b1⟩

end Go.Proofs.YtmjgdnpfgkpaoaaGreatDoor
namespace Go.Proofs.YtmjgdnpfgkpaoaaGreatDoor
open Go.RowKit Go.Shelf Go.Sort

def posP (h s x : BitVec 16) : Bool := (x &&& h != 0#16) && (x &&& h &&& ~~~s == 0#16)
def posB (q : List (BitVec 16)) (h s : BitVec 16) : Bool := q.any (posP h s)
def posT (q : List (BitVec 16)) (V : List ByteArray) (h : BitVec 16) (k : Nat) : List ByteArray := ((vaB38 V h).take k).filter fun v => posB q h (votS V v)
def posS (q : List (BitVec 16)) (V : List ByteArray) (h : BitVec 16) : List ByteArray := (vaB38 V h).filter fun v => posB q h (votS V v)
theorem posT_succ {q : List (BitVec 16)} {V : List ByteArray} {h : BitVec 16} {k : Nat} {x : ByteArray} (hx : (vaB38 V h)[k]? = some x) : posT q V h (k + 1) = if posB q h (votS V x) = true then posT q V h k ++ [x] else posT q V h k := by
  unfold posT
  rw [List.take_add_one, hx, Option.toList_some, List.filter_append]
  by_cases hp : posB q h (votS V x) = true
  · rw [if_pos hp, List.filter_cons, if_pos hp]; rfl
  · rw [if_neg hp, List.filter_cons, if_neg hp]; simp
theorem posT_all {q : List (BitVec 16)} {V : List ByteArray} {h : BitVec 16} {k : Nat} (hk : (vaB38 V h).length = k) : posT q V h k = posS q V h := by
  unfold posT posS; rw [List.take_of_length_le (by omega)]
theorem posT_le (q : List (BitVec 16)) (V : List ByteArray) (h : BitVec 16) (k : Nat) : (posT q V h k).length ≤ k := by
  unfold posT; exact Nat.le_trans (List.length_filter_le _ _) (List.length_take_le _ _)

theorem poss1_at (w : World) (B1 B2 : Nat) (h s : BitVec 16) (h1 : w.cell? ⟨B1, 0, none⟩ = some (.int .u16 (U h))) (h2 : w.cell? ⟨B2, 1, none⟩ = some (.int .u16 (U s))) :
    PredAt Tryz.prog 87 #[.pointer (some ⟨B1, 0, none⟩), .pointer (some ⟨B2, 0, none⟩)] setV2 (posP h s) w := fun W x hb => by
  have c1 : W.cell? ⟨B1, 0, none⟩ = some (.int .u16 (U h)) := (hb.cell (p := ⟨B1, 0, none⟩) (cell_lt h1)).trans h1
  have c2 : W.cell? ⟨B2, 1, none⟩ = some (.int .u16 (U s)) := (hb.cell (p := ⟨B2, 1, none⟩) (cell_lt h2)).trans h2
  unfold FnGives setV2
  clear hb h1 h2
  cases hq : (x &&& h != 0#16)
  · have hP : Hid (posP h s x = false) := by show _ = _; unfold posP; rw [hq]; rfl
    go_enter Tryz.func87, Tryz.ntmps87
    go_wp2
    go_ret
    exact ⟨by rw [hP.out]; rfl, 0, rfl⟩
  · have hP : Hid (posP h s x = (x &&& h &&& ~~~s == 0#16)) := by show _ = _; unfold posP; rw [hq]; rfl
    go_enter Tryz.func87, Tryz.ntmps87
    go_wp2
    go_ret
    exact ⟨by rw [hP.out]; rfl, 0, rfl⟩

set_option maxRecDepth 100000 in
set_option maxHeartbeats 4000000 in
theorem possible_f (q : List (BitVec 16)) (V : List ByteArray) (h : BitVec 16) (a : Option Addr) (n c : Nat) (a2 : Option Addr) (m c2 : Nat) (w : World) (hr : Rd w a n c (q.map setV2)) (hr2 : RdK 2 w a2 m c2 ((cntS V h).flatMap balC)) (hml : (vaB38 V h).length = m) (hm : m ≤ 100) :
    Calls Tryz.prog 54 #[.slice a n c, .int .u16 (U h), .slice a2 m c2] w fun e w' => ∃ v, e = .returned v ∧ w'.ownsRow w.heap.size 9 1 v (posS q V h).length ((posS q V h).map Value.string) ∧ Below w.heap.size w w' := by
  have HR := Lib.hid hr
  have HRL := Lib.hid hr2
  have HM := Lib.hid hml
  have hle := hr2.le
  have hmx := hr2.max
  unfold maxLen at hmx
  clear hr hr2 hml
  go_enter Tryz.func54, Tryz.ntmps54
  go_wp2_with fail
  obtain ⟨wo, hwo⟩ : ∃ wo, w.alloc (.cells #[.int .u16 (U h)] 27) = wo := ⟨_, rfl⟩
  obtain ⟨B, hB⟩ : ∃ B, w.heap.size = B := ⟨_, rfl⟩
  have hbo : Below w.heap.size w wo := by rw [← hwo]; exact (Below.refl _ w).alloc (Nat.le_refl _) _
  have hg : wo.cell? ⟨B, 0, none⟩ = some (.int .u16 (U h)) := by rw [← hwo, ← hB]; exact cell_new _ _ _ 0 _ rfl
  rw [hwo, hB]
  have HBO := Lib.hid hbo
  have HG := Lib.hid hg
  have HB := Lib.hid hB
  clear hwo hbo hg hB
  go_loopw [7, 12] (fun v i wr => ∃ k : Nat, k ≤ m ∧ i = .int .i64 k ∧ wr.ownsRow wo.heap.size 9 1 v (posT q V h k).length ((posT q V h k).map Value.string) ∧ Below wo.heap.size wo wr) (fun _ i _ => m - (intOf i).toNat)
  case atStart => exact ⟨0, Nat.zero_le _, rfl, World.ownsRow_nil _ _ _ _, Below.refl _ _⟩
  case round =>
    obtain ⟨k, hk, rfl, hown, hb⟩ := hrel
    by_cases hlt : k < m
    · obtain ⟨x, hx⟩ : ∃ x, (vaB38 V h)[k]? = some x := ⟨_, List.getElem?_eq_getElem (by rw [HM.out]; exact hlt)⟩
      obtain ⟨b, o, ha, hcell⟩ := RdK.cells (HRL.out.below (Below.next HBO.out hb)) balC_len (by omega)
      have c0 : wr.cell? ⟨b, o + k * 2, none⟩ = some (.string x) := hcell k _ (cnt_at hx) 0 (by omega)
      have c1 : wr.cell? ⟨b, o + k * 2 + 1, none⟩ = some (.int .u16 (U (votS V x))) := hcell k _ (cnt_at hx) 1 (by omega)
      have hst := posT_succ (q := q) hx
      have hpl := posT_le q V h k
      obtain ⟨s, hs⟩ : ∃ s, votS V x = s := ⟨_, rfl⟩
      rw [hs] at c1 hst
      have hbA : Below wr.heap.size wr (wr.alloc (.cells #[.string x, .int .u16 (U s)] 108)) := (Below.refl _ wr).alloc (Nat.le_refl _) _
      have e0 : (wr.alloc (.cells #[.string x, .int .u16 (U s)] 108)).cell? ⟨wr.heap.size, 0, none⟩ = some (.string x) := cell_new _ _ _ 0 _ rfl
      have e1 : (wr.alloc (.cells #[.string x, .int .u16 (U s)] 108)).cell? ⟨wr.heap.size, 1, none⟩ = some (.int .u16 (U s)) := cell_new _ _ _ 1 _ rfl
      have hb3 := Below.next hb hbA
      have eh : (wr.alloc (.cells #[.string x, .int .u16 (U s)] 108)).cell? ⟨B, 0, none⟩ = some (.int .u16 (U h)) := (hb3.cell (p := ⟨B, 0, none⟩) (cell_lt HG.out)).trans HG.out
      have HCF := Lib.hid (containsF_c 87 #[.pointer (some ⟨B, 0, none⟩), .pointer (some ⟨wr.heap.size, 0, none⟩)] (enters_of Tryz.func87 (by kernel_rfl) rfl) (posP h s) q a n c _ (HR.out.below (Below.next HBO.out hb3)) (poss1_at _ B wr.heap.size h s eh e1))
      have HB3 := Lib.hid hb3
      have HE0 := Lib.hid e0
      have HO := Lib.hid (rowK_below hown hbA)
      subst ha
      cases hq : q.any (posP h s)
      · have hp0 : posB q h s = false := hq
        rw [hp0] at hst
        have HS : Hid (posT q V h (k + 1) = posT q V h k) := by show _ = _; rw [hst]; simp
        rw [hq] at HCF
        clear hcell hx hs hst hb hbA hb3 e0 e1 eh hown hp0
        go_wp2_with fail
        refine HCF.out.mono ?_
        rintro e w3 ⟨rfl, b3⟩
        have b4 := Below.next HB3.out b3
        have ho4 := rowK_below HO.out b3
        clear HCF b3 HO
        go_wp2_with fail
        go_roundw
        case rel => exact ⟨k + 1, by omega, by go_num, by rw [HS.out]; exact ho4, b4⟩
        case measure => simp [intOf]; omega
      · have hp0 : posB q h s = true := hq
        rw [hp0] at hst
        have HS : Hid ((posT q V h (k + 1)).map Value.string = (posT q V h k).map Value.string ++ [.string x]) := by show _ = _; rw [hst]; simp
        have HL : Hid ((posT q V h (k + 1)).length = (posT q V h k).length + 1) := by show _ = _; rw [hst]; simp
        rw [hq] at HCF
        clear hcell hx hs hst hb hbA hb3 e0 e1 eh hown hp0
        go_wp2_with fail
        refine HCF.out.mono ?_
        rintro e w3 ⟨rfl, b3⟩
        have b4 := Below.next HB3.out b3
        have ho4 := rowK_below HO.out b3
        have f0 : w3.cell? ⟨wr.heap.size, 0, none⟩ = some (.string x) := (b3.cell (p := ⟨wr.heap.size, 0, none⟩) (cell_lt HE0.out)).trans HE0.out
        clear HCF b3 HO
        go_wp2_with (at_builtin; go_must (refine wpList_app _ _ 41 16 (.string ⟨#[]⟩) (.string x) _ Tryz.underlying41 Tryz.infoStr rfl ho4 b4 (Nat.le_refl _) rfl rfl rfl rfl rfl (by unfold maxLen; omega) (by omega) ?_))
        intro v' w4 hown4 hb4 _ _
        clear ho4 b4 f0 c0 c1
        go_wp2_with fail
        go_roundw
        case rel => exact ⟨k + 1, by omega, by go_num, by rw [HS.out, HL.out]; exact hown4, hb4⟩
        case measure => simp [intOf]; omega
    · obtain rfl : k = m := by omega
      rw [posT_all HM.out] at hown
      have HO := Lib.hid (rowK_mono hown HBO.out.size)
      have HBW := Lib.hid (Below.next HBO.out hb)
      clear hown hb
      go_wp2_with fail
      go_ret
      exact ⟨_, rfl, HO.out, HBW.out⟩

def pssS (q : List (BitVec 16)) (V : List ByteArray) (h : BitVec 16) : List ByteArray × Int := if argS q V.length ≠ 0 then ([], argS q V.length) else (posS q V h, 0)
theorem args_zero {q : List (BitVec 16)} {n : Nat} (he : argS q n = 0) : n ≤ 12 := by
  unfold argS at he
  split at he
  · rename_i h1; exact absurd he h1
  · split at he
    · cases he
    · split at he
      · cases he
      · omega

end Go.Proofs.YtmjgdnpfgkpaoaaGreatDoor
namespace Go.Proofs.YtmjgdnpfgkpaoaaGreatDoor
open Go.RowKit Go.Shelf Go.Sort

end Go.Proofs.YtmjgdnpfgkpaoaaGreatDoor
namespace Go.Proofs.YtmjgdnpfgkpaoaaGreatDoor
open Go.RowKit Go.Shelf Go.Sort

/-- the value with most heard voters, the first of those -/
def bsF (V : List ByteArray) (h : BitVec 16) (p : ByteArray × Nat) (v : ByteArray) : ByteArray × Nat := if p.2 < cnt (votS V v &&& h) then (v, cnt (votS V v &&& h)) else p
def bsT (V : List ByteArray) (h : BitVec 16) (k : Nat) : ByteArray × Nat := ((vaB38 V h).take k).foldl (bsF V h) (⟨#[]⟩, 0)
theorem bsT_succ {V : List ByteArray} {h : BitVec 16} {k : Nat} {x : ByteArray} (hx : (vaB38 V h)[k]? = some x) : bsT V h (k + 1) = bsF V h (bsT V h k) x := by
  unfold bsT; rw [List.take_add_one, hx, Option.toList_some, List.foldl_append]; rfl
def recN (V : List ByteArray) (h : BitVec 16) : ByteArray × Int := if (vaB38 V h).length = 0 then (⟨#[]⟩, 4) else ((bsT V h (vaB38 V h).length).1, 0)
def recM (V : List ByteArray) (h : BitVec 16) : List ByteArray → ByteArray × Int
  | [x] => (x, 0)
  | _ :: _ :: _ => (⟨#[]⟩, 12)
  | [] => recN V h
def recS (q : List (BitVec 16)) (V : List ByteArray) (h : BitVec 16) : ByteArray × Int := if argS q V.length ≠ 0 then (⟨#[]⟩, argS q V.length) else recM V h (posS q V h)

theorem bit_at (i : Nat) (h : i < 16) : hasB (bitS i) i = true := by
  have : ∀ i : Fin 16, hasB (bitS i.val) i.val = true := by decide
  exact this ⟨i, h⟩
theorem votTo_has {V : List ByteArray} {x : ByteArray} {j : Nat} (hj : j < 16) (hv : (V.getD j ⟨#[]⟩).toList = x.toList) : ∀ k, j < k → hasB (votTo V x k) j = true := by
  intro k
  induction k with
  | zero => intro h; omega
  | succ k ih =>
    intro hk
    rw [votTo_succ]
    by_cases hjk : j = k
    · subst hjk
      rw [hv, beq_self_eq_true, if_pos rfl, hasB_or, bit_at j hj, Bool.or_true]
    · split
      · rw [hasB_or, ih (by omega), Bool.true_or]
      · exact ih (by omega)
theorem cnt_pos {x : BitVec 16} {j : Nat} (hj : j < 16) (h : hasB x j = true) : 0 < cnt x := by
  unfold cnt
  exact List.length_pos_of_mem (a := j) (List.mem_filter.2 ⟨List.mem_range.2 hj, h⟩)
theorem vot_pos {V : List ByteArray} {h : BitVec 16} {k : Nat} {x : ByteArray} (hn : V.length ≤ 16) (hx : (vaB38 V h)[k]? = some x) : 0 < cnt (votS V x &&& h) := by
  unfold vaB38 at hx
  rw [List.getElem?_map] at hx
  obtain ⟨s, hs⟩ : ∃ s, (valV V h)[k]? = some s := by
    cases hg : (valV V h)[k]? with
    | none => rw [hg] at hx; cases hx
    | some s => exact ⟨s, rfl⟩
  rw [hs] at hx
  injection hx with hx
  obtain ⟨j, hj, he, _, hh⟩ := (valV_mem V h s).1 (List.mem_of_getElem? hs)
  refine cnt_pos (j := j) (by omega) ?_
  rw [hasB_and, hh, Bool.and_true]
  exact votTo_has (by omega) (by rw [he, ← hx, bs_list]) _ hj
theorem bsT_one {V : List ByteArray} {h : BitVec 16} {x : ByteArray} (hn : V.length ≤ 16) (hx : (vaB38 V h)[0]? = some x) : bsT V h 1 = (x, cnt (votS V x &&& h)) := by
  rw [bsT_succ hx]
  show bsF V h (⟨#[]⟩, 0) x = _
  unfold bsF
  rw [if_pos (vot_pos hn hx)]
theorem bsT_pos {V : List ByteArray} {h : BitVec 16} (hn : V.length ≤ 16) : ∀ k, 0 < k → k ≤ (vaB38 V h).length → 0 < (bsT V h k).2 := by
  intro k
  induction k with
  | zero => intro h; omega
  | succ k ih =>
    intro _ hk
    obtain ⟨x, hx⟩ : ∃ x, (vaB38 V h)[k]? = some x := ⟨_, List.getElem?_eq_getElem (by omega)⟩
    rw [bsT_succ hx]
    unfold bsF
    split
    · exact vot_pos hn hx
    · by_cases h0 : k = 0
      · subst h0
        rename_i h2
        exact absurd (vot_pos hn hx) h2
      · exact ih (by omega) (by omega)
theorem pos_cases {α : Type} (l : List α) : (∃ x, l = [x]) ∨ (2 ≤ l.length ∧ ∃ x y r, l = x :: y :: r) ∨ l = [] := by
  match l with
  | [] => exact .inr (.inr rfl)
  | [x] => exact .inl ⟨x, rfl⟩
  | x :: y :: r => exact .inr (.inl ⟨by simp, x, y, r, rfl⟩)

end Go.Proofs.YtmjgdnpfgkpaoaaGreatDoor
namespace Go.Proofs.YtmjgdnpfgkpaoaaGreatDoor
open Go.RowKit Go.Shelf Go.Sort

set_option maxRecDepth 100000 in
set_option maxHeartbeats 4000000 in
theorem recover_c (q : List (BitVec 16)) (V : List ByteArray) (h : BitVec 16) (a : Option Addr) (n c : Nat) (a2 : Option Addr) (n2 c2 : Nat) (w : World) (hr : Rd w a n c (q.map setV2)) (hr2 : Rd w a2 n2 c2 (V.map Value.string)) (hn : n2 ≤ 100) :
    Calls Tryz.prog 19 #[.slice a n c, .int .u16 (U h), .slice a2 n2 c2] w fun e w' => e = .returned (V2 (recS q V h)) ∧ Below w.heap.size w w' := by
  have hnl : V.length = n2 := by have := hr2.len; simp at this; omega
  have HR := Lib.hid hr
  have HR2 := Lib.hid hr2
  have HA := Lib.hid (args_c q a n c a2 n2 c2 w hr hn)
  clear hr hr2
  by_cases he : argS q n2 = 0
  · have hC : Hid (recS q V h = recM V h (posS q V h)) := by show _ = _; unfold recS; rw [hnl, he]; rfl
    rw [he] at HA
    have hn12 := args_zero he
    have HN := Lib.hid hnl
    have HC := Lib.hid (fun w hh => count_f V h a2 n2 c2 w (by omega) hh)
    clear he hnl
    go_enter Tryz.func19, Tryz.ntmps19
    go_wp2_with fail
    refine HA.out.mono ?_
    rintro e w1 ⟨rfl, b1⟩
    clear HA
    go_wp2_with fail
    refine (HC.out w1 (HR2.out.below b1)).mono ?_
    rintro e w2 ⟨v, rfl, hown, b2⟩
    obtain ⟨al, cl, rfl, hrl⟩ := rdK_of_row hown
    have hb2 := Below.next b1 b2
    obtain ⟨m, hm⟩ : ∃ m, (cntS V h).length = m := ⟨_, rfl⟩
    have hml : (vaB38 V h).length = m := by rw [← hm, cntS_len]
    have hmn : m ≤ n2 := by rw [← hml, valB_len, ← HN.out]; exact valV_le _ _
    rw [hm] at hrl ⊢
    have hlc := hrl.le
    have hlm := hrl.max
    unfold maxLen at hlm
    have HPO := Lib.hid (possible_f q V h a n c al m cl w2 (HR.out.below hb2) hrl hml (by omega))
    have HRL := Lib.hid hrl
    have HM := Lib.hid hml
    have HB2 := Lib.hid hb2
    clear HC b1 b2 hown hm hml hrl hb2
    go_wp2_with fail
    refine HPO.out.mono ?_
    rintro e w3 ⟨v, rfl, hown, b3⟩
    obtain ⟨a3, c3, rfl, hr3⟩ := rd_of_row hown
    have HB3 := Lib.hid (Below.next HB2.out b3)
    have HRL3 := Lib.hid (HRL.out.below b3)
    clear HPO hown b3
    rcases pos_cases (posS q V h) with ⟨x, hx⟩ | ⟨hx2, x, y, r, hx⟩ | hx
    · have hE : Hid (recS q V h = (x, 0)) := by show _ = _; rw [hC.out, hx]; rfl
      rw [hx] at hr3 ⊢
      simp only [List.length_singleton, List.map_cons, List.map_nil] at hr3 ⊢
      obtain ⟨b, o, ha, hcell⟩ := hr3.at' (by decide)
      have hc : w3.cell? ⟨b, o, none⟩ = some (.string x) := hcell 0 _ rfl
      have hl3 := hr3.le
      have hm3 := hr3.max
      unfold maxLen at hm3
      subst ha
      clear hcell hr3 hx hC
      go_wp2_with fail
      exact bodyPost_ret (v := V2 (x, 0)) (by simp [results, Tryz.results19, go_sem, V2]) rfl ⟨by rw [hE.out], HB3.out⟩
    · have hE : Hid (recS q V h = (⟨#[]⟩, 12)) := by show _ = _; rw [hC.out, hx]; rfl
      obtain ⟨t, ht⟩ : ∃ t, (posS q V h).length = t := ⟨_, rfl⟩
      rw [ht] at hx2 hr3 ⊢
      have hl3 := hr3.le
      have hm3 := hr3.max
      unfold maxLen at hm3
      have hm1 : ((t : Int) == 1) = false := by simp; omega
      clear hr3 hx ht hC
      go_wp2_with fail
      exact bodyPost_ret (v := V2 (⟨#[]⟩, 12)) (by simp [results, Tryz.results19, go_sem, V2]) rfl ⟨by rw [hE.out], HB3.out⟩
    · have hC2 : Hid (recS q V h = recN V h) := by show _ = _; rw [hC.out, hx]; rfl
      rw [hx]
      simp only [List.length_nil]
      clear hx hC hr3
      by_cases h0 : m = 0
      · have hE : Hid (recS q V h = (⟨#[]⟩, 4)) := by show _ = _; rw [hC2.out]; unfold recN; rw [if_pos (by rw [HM.out]; exact h0)]
        subst h0
        go_wp2_with fail
        exact bodyPost_ret (v := V2 (⟨#[]⟩, 4)) (by simp [results, Tryz.results19, go_sem, V2]) rfl ⟨by rw [hE.out], HB3.out⟩
      · have hm0 : 1 ≤ m := by omega
        have hmb : ((m : Int) == 0) = false := by simp; omega
        obtain ⟨x, hx⟩ : ∃ x, (vaB38 V h)[0]? = some x := ⟨_, List.getElem?_eq_getElem (by rw [HM.out]; omega)⟩
        obtain ⟨b, o, ha, hcell⟩ := RdK.cells HRL3.out balC_len (by omega)
        have c0 : w3.cell? ⟨b, o, none⟩ = some (.string x) := by have := hcell 0 _ (cnt_at hx) 0 (by omega); rw [Nat.zero_mul] at this; exact this
        have c1 : w3.cell? ⟨b, o + 1, none⟩ = some (.int .u16 (U (votS V x))) := by have := hcell 0 _ (cnt_at hx) 1 (by omega); rw [Nat.zero_mul] at this; exact this
        have HB1 := Lib.hid (bsT_one (by rw [HN.out]; omega) hx)
        obtain ⟨s, hs⟩ : ∃ s, votS V x = s := ⟨_, rfl⟩
        rw [hs] at c1
        have HVX : Hid (votS V x = s) := hs
        subst ha
        clear hcell hx hs
        by_cases hm1 : m = 1
        · subst hm1
          have hE : Hid (recS q V h = (x, 0)) := by show _ = _; rw [hC2.out]; unfold recN; rw [if_neg (by rw [HM.out]; decide), HM.out, HB1.out]
          by_cases hcl1 : cl = 1
          · subst hcl1
            go_wp2_with fail
            obtain ⟨B, hB⟩ : ∃ B, w3.heap.size = B := ⟨_, rfl⟩
            obtain ⟨W, hW⟩ : ∃ W, w3.alloc (.cells #[.string x, .int .u16 (U s)] 108) = W := ⟨_, rfl⟩
            have hbW : Below w.heap.size w W := by rw [← hW]; exact HB3.out.alloc HB3.out.size _
            have g0 : W.cell? ⟨B, 0, none⟩ = some (.string x) := by rw [← hW, ← hB]; exact cell_new _ _ _ 0 _ rfl
            rw [hB, hW]
            clear hW hB
            go_loopw [48] (fun i wr => i = .int .i64 0 ∧ wr = W) (fun i _ => 1)
            case atStart => exact ⟨rfl, rfl⟩
            case round =>
              obtain ⟨rfl, rfl⟩ := hrel
              go_wp2_with fail
              exact bodyPost_ret (v := V2 (x, 0)) (by simp [results, Tryz.results19, go_sem, V2]) rfl ⟨by rw [hE.out], hbW⟩
          · go_wp2_with fail
            obtain ⟨B, hB⟩ : ∃ B, w3.heap.size = B := ⟨_, rfl⟩
            obtain ⟨W, hW⟩ : ∃ W, w3.alloc (.cells #[.string x, .int .u16 (U s)] 108) = W := ⟨_, rfl⟩
            have hbW : Below w.heap.size w W := by rw [← hW]; exact HB3.out.alloc HB3.out.size _
            have g0 : W.cell? ⟨B, 0, none⟩ = some (.string x) := by rw [← hW, ← hB]; exact cell_new _ _ _ 0 _ rfl
            rw [hB, hW]
            clear hW hB
            go_loopw [48] (fun i wr => i = .int .i64 0 ∧ wr = W) (fun i _ => 1)
            case atStart => exact ⟨rfl, rfl⟩
            case round =>
              obtain ⟨rfl, rfl⟩ := hrel
              go_wp2_with fail
              exact bodyPost_ret (v := V2 (x, 0)) (by simp [results, Tryz.results19, go_sem, V2]) rfl ⟨by rw [hE.out], hbW⟩
        · have hm2 : 2 ≤ m := by omega
          have hcl1 : ¬ cl = 1 := by omega
          have HHB := Lib.hid (HB1.out)
          rw [HVX.out] at HHB
          clear HB1 HVX
          go_wp2_with fail
          obtain ⟨wo, rfl⟩ : ∃ wo, wo = w3 := ⟨_, rfl⟩
          obtain ⟨B, hB⟩ : ∃ B, wo.heap.size = B := ⟨_, rfl⟩
          obtain ⟨W, hW⟩ : ∃ W, wo.alloc (.cells #[.string x, .int .u16 (U s)] 108) = W := ⟨_, rfl⟩
          have hbW : Below wo.heap.size wo W := by rw [← hW]; exact (Below.refl _ wo).alloc (Nat.le_refl _) _
          have g0 : W.heap[B]? = some (.cells #[.string x, .int .u16 (U s)] 108 (0, 0)) := by rw [← hW, ← hB]; exact heap_alloc_new wo _
          rw [hB, hW]
          have HBE := Lib.hid hB
          have HG0 := Lib.hid g0
          have HBW := Lib.hid hbW
          clear hW hB g0 hbW c0 c1
          go_loopw [48] (fun i wr => ∃ k : Nat, k + 1 ≤ m ∧ i = .int .i64 k ∧ (∃ y t, wr.heap[B]? = some (.cells #[.string y, .int .u16 (U t)] 108 (0, 0)) ∧ Hid (bsT V h (k + 1) = (y, cnt (t &&& h)))) ∧ Below wo.heap.size wo wr) (fun i _ => m - (intOf i).toNat)
          case atStart => exact ⟨0, by omega, rfl, ⟨x, s, HG0.out, HHB⟩, HBW.out⟩
          case round =>
            obtain ⟨k, hk, rfl, ⟨y, t, hg, hbt⟩, hb⟩ := hrel
            by_cases hlt : k < m - 1
            · obtain ⟨x2, hx2⟩ : ∃ x2, (vaB38 V h)[k + 1]? = some x2 := ⟨_, List.getElem?_eq_getElem (by rw [HM.out]; omega)⟩
              obtain ⟨b', o', ha', hcell⟩ := RdK.cells (HRL3.out.below hb) balC_len (by omega)
              have eo : o' + (k + 1) * 2 = o' + 2 + k * 2 := by omega
              have c0 : wr.cell? ⟨b', o' + 2 + k * 2, none⟩ = some (.string x2) := by have := hcell (k + 1) _ (cnt_at hx2) 0 (by omega); rw [eo] at this; exact this
              have c1 : wr.cell? ⟨b', o' + 2 + k * 2 + 1, none⟩ = some (.int .u16 (U (votS V x2))) := by have := hcell (k + 1) _ (cnt_at hx2) 1 (by omega); rw [eo] at this; exact this
              have hst := bsT_succ hx2
              rw [hbt.out] at hst
              unfold bsF at hst
              obtain ⟨s2, hs2⟩ : ∃ s2, votS V x2 = s2 := ⟨_, rfl⟩
              rw [hs2] at c1 hst
              cases ha'
              have hbA : Below wr.heap.size wr (wr.alloc (.cells #[.string x2, .int .u16 (U s2)] 108)) := (Below.refl _ wr).alloc (Nat.le_refl _) _
              have gA := heap_alloc_at hg (.cells #[.string x2, .int .u16 (U s2)] 108)
              have gN : (wr.alloc (.cells #[.string x2, .int .u16 (U s2)] 108)).heap[wr.heap.size]? = some (.cells #[.string x2, .int .u16 (U s2)] 108 (0, 0)) := heap_alloc_new wr _
              have hb3 := Below.next hb hbA
              have HHG := Lib.hid hg
              have hne : B ≠ wr.heap.size := by have := (Array.getElem?_eq_some_iff.1 hg).1; omega
              have hst2 := hst
              clear hcell hx2 hs2 hg hbA eo
              go_wp2_with fail
              obtain ⟨wa, hwa⟩ : ∃ wa, wr.alloc (.cells #[.string x2, .int .u16 (U s2)] 108) = wa := ⟨_, rfl⟩
              obtain ⟨B2, hB2⟩ : ∃ B2, wr.heap.size = B2 := ⟨_, rfl⟩
              rw [hwa, hB2] at gN
              rw [hwa] at gA hb3 ⊢
              rw [hB2] at hne ⊢
              have d0 : wa.cell? ⟨B2, 0, none⟩ = some (.string x2) := cell_of_row _ _ 0 _ _ _ gN
              have d1 : wa.cell? ⟨B2, 1, none⟩ = some (.int .u16 (U s2)) := cell_of_row _ _ 1 _ _ _ gN
              have f0 : wa.cell? ⟨B, 0, none⟩ = some (.string y) := cell_of_row _ _ 0 _ _ _ gA
              have f1 : wa.cell? ⟨B, 1, none⟩ = some (.int .u16 (U t)) := cell_of_row _ _ 1 _ _ _ gA
              have z0 : wa.frozen? ⟨B, 0, none⟩ = false := by simp [World.frozen?, gA]
              have z1 : wa.frozen? ⟨B, 1, none⟩ = false := by simp [World.frozen?, gA]
              have G1 := Lib.hid (fun W => count_c (s2 &&& h) _ W rfl)
              have G2 := Lib.hid (fun W => count_c (t &&& h) _ W rfl)
              obtain ⟨u1, hu1⟩ : ∃ u, cnt (s2 &&& h) = u := ⟨_, rfl⟩
              obtain ⟨u2, hu2⟩ : ∃ u, cnt (t &&& h) = u := ⟨_, rfl⟩
              have hu16 : u1 ≤ 16 := by rw [← hu1]; exact cnt_le _
              have hu16b : u2 ≤ 16 := by rw [← hu2]; exact cnt_le _
              rw [hu1] at G1
              rw [hu2] at G2
              rw [hu1, hu2] at hst
              have HU1 := Lib.hid hu1
              have HU2 := Lib.hid hu2
              have HGA := Lib.hid gA
              have HBA := Lib.hid hb3
              clear hwa gN gA hb3 hu1 hu2 hst2 c0 c1
              by_cases hq : u2 < u1
              · rw [if_pos hq] at hst
                have HST := Lib.hid hst
                clear hst
                go_quiet ((go_at_call 55; first | (with_reducible exact Calls.quiet_of (G1.out _)) | (with_reducible exact Calls.quiet_of (G2.out _))))
                go_wp2_with fail
                go_roundw
                case rel =>
                  have hz := heap_set_at (heap_set_at (w := wa.drewN nq) HGA.out 0 (.string x2)) 1 (.int .u16 (U s2))
                  have hy := ((below_drewN (q := nq) HBA.out).setCell (p := ⟨B, 0, none⟩) (by rw [HBE.out]; exact Nat.le_refl _) (.string x2)).setCell (p := ⟨B, 1, none⟩) (by rw [HBE.out]; exact Nat.le_refl _) (.int .u16 (U s2))
                  exact ⟨k + 1, by omega, by go_num, ⟨x2, s2, hz, by show _ = _; rw [HST.out, HU1.out]⟩, hy⟩
                case measure => simp [intOf]; omega
              · rw [if_neg hq] at hst
                have HST := Lib.hid hst
                clear hst
                go_quiet ((go_at_call 55; first | (with_reducible exact Calls.quiet_of (G1.out _)) | (with_reducible exact Calls.quiet_of (G2.out _))))
                go_wp2_with fail
                go_roundw
                case rel => exact ⟨k + 1, by omega, by go_num, ⟨y, t, HGA.out, by show _ = _; rw [HST.out, HU2.out]⟩, below_drewN HBA.out⟩
                case measure => simp [intOf]; omega
            · have hkm : k + 1 = m := by omega
              have hE : Hid (recS q V h = (y, 0)) := by
                show _ = _
                rw [hC2.out]; unfold recN; rw [if_neg (by rw [HM.out]; exact h0), HM.out, ← hkm, hbt.out]
              have z0 : wr.cell? ⟨B, 0, none⟩ = some (.string y) := cell_of_row _ _ 0 _ _ _ hg
              have hbF := Below.next HB3.out hb
              clear hg hbt
              go_wp2_with fail
              exact bodyPost_ret (v := V2 (y, 0)) (by simp [results, Tryz.results19, go_sem, V2]) rfl ⟨by rw [hE.out], hbF⟩
  · have hE : Hid (recS q V h = (⟨#[]⟩, argS q n2)) := by show _ = _; unfold recS; rw [hnl, if_pos he]
    obtain ⟨v, hv⟩ : ∃ v, argS q n2 = v := ⟨_, rfl⟩
    rw [hv] at HA hE he
    have hv1 : (v != 0) = true := by simpa using he
    clear hv he
    go_enter Tryz.func19, Tryz.ntmps19
    go_wp2_with fail
    refine HA.out.mono ?_
    rintro e w1 ⟨rfl, b1⟩
    go_wp2_with fail
    exact bodyPost_ret (v := V2 (⟨#[]⟩, v)) (by simp [results, Tryz.results19, go_sem, V2]) rfl ⟨by rw [hE.out], b1⟩
end Go.Proofs.YtmjgdnpfgkpaoaaGreatDoor
