/- The reference of layer 9. -/
import Derived.Test.YtopcejcfghdeeaaR8
import Derived.Test.YtopcejcfghdeeaaSet5
namespace Go.Proofs.Ytopcejcfghdeeaa
open Go.RowKit Go.Shelf

set_option maxRecDepth 100000 in
set_option maxHeartbeats 1000000 in
theorem count9_c (x : BitVec 16) (w : World) :
    Calls Try.prog 70 #[.int .u16 (U x)] w fun e w' => e = .returned (.int .i64 (cnt x)) ∧ w' = w := by
  go_enter Try.func70, Try.ntmps70
  go_wp2_with fail
  go_loop [3, 4] (fun v i => ∃ (k : Nat) (m : Nat), k ≤ 16 ∧ m ≤ k ∧ i = .int .i64 k ∧ v = .int .i64 m ∧ Hid (m = (memTo x k).length)) (fun _ i => 16 - (intOf i).toNat)
  case atStart => exact ⟨0, 0, Nat.zero_le _, Nat.zero_le _, rfl, rfl, rfl⟩
  case round =>
    obtain ⟨k, m, hk, hmk, rfl, rfl, hm⟩ := hrel
    by_cases hlt : k < 16
    · have HS := Lib.hid (cntTo_succ x k)
      cases hb : hasB x k
      · have HB := Lib.hid hb
        have hb0 : b01 (hasB x k) = 0 := by rw [hb]; rfl
        clear hb
        go_wp2_with fail
        go_round
        case rel => exact ⟨k + 1, m, by omega, by omega, by go_num, by (try go_num), by show _ = _; rw [HS.out, HB.out, hm.out]; rfl⟩
        case measure => simp [intOf]; omega
      · have HB := Lib.hid hb
        have hb0 : b01 (hasB x k) = 1 := by rw [hb]; rfl
        clear hb
        go_wp2_with fail
        go_round
        case rel => exact ⟨k + 1, m + 1, by omega, by omega, by go_num, by go_num, by show _ = _; rw [HS.out, HB.out, hm.out]; rfl⟩
        case measure => simp [intOf]; omega
    · have hE : Hid (m = cnt x) := by
        obtain rfl : k = 16 := by omega
        exact hm.out
      go_wp2_with fail
      go_ret
      exact ⟨ret_int (by rw [hE.out]), rfl⟩

set_option maxRecDepth 100000 in
set_option maxHeartbeats 1000000 in
theorem support9_c (l : List (BitVec 16)) (a : Option Addr) (n c : Nat) (w : World) (h : Rd w a n c (l.map setV2)) :
    Calls Try.prog 50 #[.slice a n c] w fun e w' => e = .returned (.int .u16 (U (supS l))) ∧ w' = w := by
  have hn : n ≤ l.length ∧ l.length ≤ n := by have := h.len; simp at this; omega
  obtain ⟨hn1, hn2⟩ := hn
  have hm := h.max
  have hle := h.le
  unfold maxLen at hm
  go_enter Try.func50, Try.ntmps50
  go_wp2_with fail
  go_loop [3, 4] (fun v i => ∃ (k : Nat) (s : BitVec 16), k ≤ n ∧ i = .int .i64 k ∧ v = .int .u16 (U s) ∧ Hid (s = supS (l.take k))) (fun _ i => n - (intOf i).toNat)
  case atStart => exact ⟨0, 0#16, Nat.zero_le _, rfl, rfl, rfl⟩
  case round =>
    obtain ⟨k, s, hk, rfl, rfl, hs⟩ := hrel
    by_cases hlt : k < n
    · obtain ⟨b, o, ha, hcell⟩ := h.at' (by omega)
      have hc := hcell k _ (at_cell (by omega))
      have HS := Lib.hid (supS_take (l := l) (k := k) (by omega))
      obtain ⟨x, hx⟩ : ∃ x, l.getD k 0#16 = x := ⟨_, rfl⟩
      rw [hx] at hc HS
      subst ha
      clear hcell h hx
      go_wp2_with fail
      go_round
      case rel => exact ⟨k + 1, s ||| x, by omega, by go_num, rfl, by show _ = _; rw [HS.out, hs.out]⟩
      case measure => simp [intOf]; omega
    · have hE : Hid (l.take k = l) := List.take_of_length_le (by omega)
      clear h
      go_wp2_with fail
      go_ret
      exact ⟨by rw [hs.out, hE.out]; rfl, rfl⟩
set_option maxRecDepth 100000 in
set_option maxHeartbeats 1000000 in
theorem accepts9_c (l : List (BitVec 16)) (s : BitVec 16) (a : Option Addr) (n c : Nat) (w : World) (h : Rd w a n c (l.map setV2)) :
    Calls Try.prog 51 #[.slice a n c, .int .u16 (U s)] w fun e w' => e = .returned (.bool (accS l s)) ∧ w' = w := by
  have hnl : l.length = n := by have := h.len; simp at this; omega
  have hm := h.max
  have hle := h.le
  unfold maxLen at hm
  have HR := Lib.hid h
  have HN := Lib.hid hnl
  clear h hnl
  go_enter Try.func51, Try.ntmps51
  go_wp2_with fail
  go_loop [5] (fun i => ∃ k : Nat, k ≤ n ∧ i = .int .i64 k ∧ Hid (∀ j, j < k → subB s (l.getD j 0#16) = false)) (fun i => n - (intOf i).toNat)
  case atStart => exact ⟨0, Nat.zero_le _, rfl, Lib.hid (fun j hj => by omega)⟩
  case round =>
    obtain ⟨k, hk, rfl, hno⟩ := hrel
    by_cases hlt : k < n
    · obtain ⟨b, o, ha, hcell⟩ := HR.out.at' (by omega)
      have hkl : k < l.length := by have := HN.out; omega
      have hc := hcell k _ (at_cell hkl)
      obtain ⟨x, hx⟩ : ∃ x, l.getD k 0#16 = x := ⟨_, rfl⟩
      rw [hx] at hc
      subst ha
      cases hq : (x &&& ~~~s == 0#16)
      · have hno' : Hid (∀ j, j < k + 1 → subB s (l.getD j 0#16) = false) := Lib.hid (fun j hj => by
          by_cases h1 : j < k
          · exact hno.out j h1
          · obtain rfl : j = k := by omega
            rw [hx]; exact hq)
        clear hcell hno hx hkl
        go_wp2_with fail
        go_round
        case rel => exact ⟨k + 1, by omega, by go_num, hno'⟩
        case measure => simp [intOf]; omega
      · have hA : Hid (accS l s = true) := any_hit (p := fun x => subB s x) hkl (by rw [hx]; exact hq)
        clear hcell hno hx hkl
        go_wp2_with fail
        go_ret
        exact ⟨ret_bool hA.out.symm, rfl⟩
    · have hA : Hid (accS l s = false) := any_none (p := fun x => subB s x) (fun j hj => hno.out j (by have := HN.out; omega))
      clear hno
      go_wp2_with fail
      go_ret
      exact ⟨ret_bool hA.out.symm, rfl⟩

/-- all subsets, in order -/
def subsTo (s : BitVec 16) (k : Nat) : List (BitVec 16) := (List.range k).flatMap fun (j : Nat) => pickTo s (j : Int) (s.toNat + 1)
def subsS9 (s : BitVec 16) : List (BitVec 16) := subsTo s (cnt s + 1)
theorem subsTo_succ (s : BitVec 16) (k : Nat) : subsTo s (k + 1) = subsTo s k ++ pickTo s k (s.toNat + 1) := by
  unfold subsTo; rw [List.range_succ, List.flatMap_append]; simp
theorem subsTo_len (s : BitVec 16) : ∀ k, (subsTo s k).length ≤ k * 65536 := by
  intro k
  induction k with
  | zero => simp [subsTo]
  | succ k ih =>
    rw [subsTo_succ, List.length_append]
    have := pickTo_le s k (s.toNat + 1)
    have := s.isLt
    omega

set_option maxRecDepth 100000 in
set_option maxHeartbeats 2000000 in
theorem subsets9_c (x : BitVec 16) (w : World) :
    Calls Try.prog 49 #[.int .u16 (U x)] w fun e w' => ∃ v, e = .returned v ∧ Own w w' 26 v ((subsS9 x).map setV2) ∧ Below w.heap.size w w' := by
  have hc16 := cnt_le x
  have hub := U_bd x
  have HCX := Lib.hid (fun w => count9_c x w)
  obtain ⟨C, hC⟩ : ∃ C, cnt x = C := ⟨_, rfl⟩
  rw [hC] at HCX hc16
  have HC := Lib.hid hC
  clear hC
  go_enter Try.func49, Try.ntmps49
  go_wp2_with fail
  go_loopw [3, 4] (fun v i wr => ∃ k : Nat, k ≤ C + 1 ∧ i = .int .i64 k ∧ wr.ownsRow w.heap.size 26 1 v (subsTo x k).length ((subsTo x k).map setV2) ∧ Below w.heap.size w wr) (fun _ i _ => C + 1 - (intOf i).toNat)
  case atStart => exact ⟨0, Nat.zero_le _, rfl, World.ownsRow_nil _ _ _ _, Below.refl _ _⟩
  case round =>
    obtain ⟨k, hk, rfl, hown, hb⟩ := hrel
    have hsl := subsTo_len x k
    by_cases hlt : k ≤ C
    · have hs := subsTo_succ x k
      have HS := Lib.hid hs
      clear hs
      go_wp2_with fail
      refine (HCX.out _).mono ?_
      rintro e w2 ⟨rfl, rfl⟩
      go_wp2_with fail
      obtain ⟨D, hD⟩ : ∃ D, (subsTo x k).length = D := ⟨_, rfl⟩
      have HD := Lib.hid hD
      rw [hD] at hsl
      have HO := Lib.hid hown
      have HB := Lib.hid hb
      clear hown hb hD
      go_loopw [3, 5] (fun v i wr => ∃ n : Nat, (n : Int) ≤ U x + 1 ∧ i = .int .i64 n ∧ wr.ownsRow w.heap.size 26 1 v (subsTo x k ++ pickTo x k n).length ((subsTo x k ++ pickTo x k n).map setV2) ∧ Below w.heap.size w wr) (fun _ i _ => 65537 - (intOf i).toNat)
      case atStart => exact ⟨0, by have := hub.1; omega, rfl, by simpa [pickTo] using HO.out, HB.out⟩
      case round =>
        obtain ⟨n, hn, rfl, hown, hb⟩ := hrel
        have hpl := pickTo_le x k n
        by_cases hle : (n : Int) ≤ U x
        · have hps := pickTo_succ x k n
          obtain ⟨y, hy⟩ : ∃ y, BitVec.ofNat 16 n = y := ⟨_, rfl⟩
          have hny : (n : Int) = U y := by rw [← hy]; exact U_ofNat n (by omega)
          have hyw := U_wrap y
          obtain ⟨hy0, hy1⟩ := U_bd y
          have hcy := cnt_le y
          unfold pickB at hps
          rw [hy] at hps
          rw [hny]
          rw [hny] at hle
          have HNY := Lib.hid hny
          have HLN : Hid ((subsTo x k ++ pickTo x k n).length ≤ 2000000) := by show _ ≤ _; rw [List.length_append, HD.out]; omega
          clear hny hy hpl
          cases hw : (y &&& ~~~x == 0#16)
          · rw [hw] at hps
            have HS : Hid (pickTo x k (n + 1) = pickTo x k n) := by show _ = _; rw [hps]; simp
            clear hps
            go_wp2_with fail
            go_roundw
            case rel => exact ⟨n + 1, by have := HNY.out; omega, by rw [← HNY.out]; go_num, by rw [HS.out]; exact hown, hb⟩
            case measure => simp only [intOf]; omega
          · have HCY := Lib.hid (fun w => count9_c y w)
            obtain ⟨t, ht⟩ : ∃ t, cnt y = t := ⟨_, rfl⟩
            rw [ht] at HCY hcy hps
            rw [hw, Bool.true_and] at hps
            clear ht
            cases hq : ((t : Int) == (k : Int))
            · rw [hq] at hps
              have HS : Hid (pickTo x k (n + 1) = pickTo x k n) := by show _ = _; rw [hps]; simp
              clear hps
              go_wp2_with fail
              refine (HCY.out _).mono ?_
              rintro e w4 ⟨rfl, rfl⟩
              go_wp2_with fail
              go_roundw
              case rel => exact ⟨n + 1, by have := HNY.out; omega, by rw [← HNY.out]; go_num, by rw [HS.out]; exact hown, hb⟩
              case measure => simp only [intOf]; omega
            · rw [hq, if_pos rfl] at hps
              have HS : Hid ((subsTo x k ++ pickTo x k (n + 1)).map setV2 = (subsTo x k ++ pickTo x k n).map setV2 ++ [.int .u16 (U y)]) := by
                show _ = _
                rw [hps, ← List.append_assoc, List.map_append]; rfl
              have HSL : Hid ((subsTo x k ++ pickTo x k (n + 1)).length = (subsTo x k ++ pickTo x k n).length + 1) := by
                show _ = _
                rw [hps, ← List.append_assoc, List.length_append]; rfl
              obtain ⟨G, hG⟩ : ∃ G, (subsTo x k ++ pickTo x k n).length = G := ⟨_, rfl⟩
              obtain ⟨GL, hGL⟩ : ∃ G, (subsTo x k ++ pickTo x k n).map setV2 = G := ⟨_, rfl⟩
              rw [hG, hGL] at hown
              have hg2 : G ≤ 2000000 := by rw [← hG]; exact HLN.out
              have HG := Lib.hid hG
              have HGL := Lib.hid hGL
              clear hps hG hGL
              go_wp2_with fail
              refine (HCY.out _).mono ?_
              rintro e w4 ⟨rfl, rfl⟩
              go_wp2_with (at_builtin; go_must (refine wpList_app _ _ 22 2 (.int .u16 0) (.int .u16 (U y)) _ Try.underlying22 Try.infoSet rfl hown hb (Nat.le_refl _) rfl rfl rfl rfl rfl (by unfold maxLen; omega) (by omega) ?_))
              intro v' w1 hown1 hb1 _ _
              clear hown hb
              go_wp2_with fail
              go_roundw
              case rel => exact ⟨n + 1, by have := HNY.out; omega, by rw [← HNY.out]; go_num, by rw [HS.out, HSL.out, HG.out, HGL.out]; exact hown1, hb1⟩
              case measure => simp only [intOf]; omega
        · have hnx : n = x.toNat + 1 := by unfold U at hle hn; omega
          subst hnx
          have hown2 := hown
          rw [← HS.out] at hown2
          have HO2 := Lib.hid hown2
          clear hown hown2
          go_wp2_with fail
          go_roundw
          case rel => exact ⟨k + 1, by omega, by go_num, HO2.out, hb⟩
          case measure => simp [intOf]; omega
    · obtain rfl : k = C + 1 := by omega
      have hE : subsTo x (C + 1) = subsS9 x := by unfold subsS9; rw [HC.out]
      rw [hE] at hown
      have HO : Hid (Own w wr 26 u3 ((subsS9 x).map setV2)) := by show Own _ _ _ _ _; unfold Own; rw [List.length_map]; exact hown
      clear hown hE hsl
      go_wp2_with fail
      refine (HCX.out _).mono ?_
      rintro e w2 ⟨rfl, rfl⟩
      go_wp2_with fail
      go_ret
      exact ⟨_, rfl, HO.out, hb⟩
end Go.Proofs.Ytopcejcfghdeeaa
