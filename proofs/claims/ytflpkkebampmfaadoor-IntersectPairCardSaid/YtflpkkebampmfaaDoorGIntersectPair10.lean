/- Texts laid together. intersect.search, Pair, Least. Layer 20: the examples' expression; what the examples answer. Layer 20: awake (printed by aw20.py). The reference of layer 8: Size, Before, Contains, Range, Accepts, Support, Valid. The reference's Valid of layer 8. The reference's Pair. The reference's Least. slices.Clone of sets. A handed slice of integers, as a law's frame opens it. Layer 20: the laws Families and Pair, walked. -/
import Derived.Test.YtflpkkebampmfaaDoorGIntersectPair1
import Derived.Test.YtflpkkebampmfaaDoorGIntersectPair3
import Derived.Test.YtflpkkebampmfaaDoorGIntersectPair6
import Derived.Test.YtflpkkebampmfaaDoorGIntersectPair8
import Derived.Test.YtflpkkebampmfaaDoorGIntersectPair9
import Derived.Deep.RegionHeld3
import Derived.IntWalk
import Derived.Lib.SliceRun
import Derived.Deep.OwnRows
namespace Go.Proofs.YtflpkkebampmfaaDoor
open Go.RowKit Go.Shelf

def oA : Option (BitVec 16 × BitVec 16) → BitVec 16
  | none => 0#16
  | some p => p.1
def oB : Option (BitVec 16 × BitVec 16) → BitVec 16
  | none => 0#16
  | some p => p.2
/-- a function value that answers a size -/
def SzAt (g : Nat) (lb : Array Value) (sz : BitVec 16 → Nat) : Prop := ∀ (z : BitVec 16) (W : World), Calls Tryd.prog g (#[.int .u16 (U z)] ++ lb) W fun e w' => e = .returned (.int .i64 (sz z)) ∧ ∃ q, w' = W.drewN q

set_option maxRecDepth 100000 in
set_option maxHeartbeats 4000000 in
theorem search_c (G : Nat) (lb : Array Value) (eg : ∀ args w, (callFunc G args).run Tryd.prog w = .ok (.enter G args) w) (sz : BitVec 16 → Nat) (hsz : SzAt G lb sz)
    (f g : List (BitVec 16)) (b : BitVec 16) (a : Option Addr) (n c : Nat) (a2 : Option Addr) (n2 c2 : Nat) (w : World) (h : Rd w a n c (f.map setV2)) (h2 : Rd w a2 n2 c2 (g.map setV2)) :
    Calls Tryd.prog 47 #[.slice a n c, .slice a2 n2 c2, .int .u16 (U b), .func (.func G) #[] lb] w fun e w' => e = .returned (.tuple #[.int .u16 (U (pairS b sz f g).1), .int .u16 (U (pairS b sz f g).2.1), .int .i64 (pairS b sz f g).2.2]) ∧ Below w.heap.size w w' := by
  have hnl : f.length = n := by have := h.len; simp at this; omega
  have hnl2 : g.length = n2 := by have := h2.len; simp at this; omega
  have hm := h.max
  have hle := h.le
  have hm2 := h2.max
  have hle2 := h2.le
  unfold maxLen at hm hm2
  have HR := Lib.hid h
  have HR2 := Lib.hid h2
  have HN := Lib.hid hnl
  have HN2 := Lib.hid hnl2
  have HSZ := Lib.hid hsz
  have HV1 := Lib.hid (valid_c f a n c w h)
  obtain ⟨R, hR⟩ : ∃ R, pairS b sz f g = R := ⟨_, rfl⟩
  rw [hR]
  have HPR := Lib.hid hR
  clear h h2 hnl hnl2 hsz hR
  obtain ⟨E1, hE1⟩ : ∃ E, valS f = E := ⟨_, rfl⟩
  obtain ⟨E2, hE2⟩ : ∃ E, valS g = E := ⟨_, rfl⟩
  rw [hE1] at HV1
  by_cases h1 : E1 = 0
  · subst h1
    by_cases h2 : E2 = 0
    · subst h2
      have HPS : Hid (R = match srcS b sz f g with | none => (0#16, 0#16, 13) | some p => (p.1, p.2, 0)) := by
        show R = _
        rw [← HPR.out]; unfold pairS; rw [if_neg (by rw [hE1]; simp), if_neg (by rw [hE2]; simp)]; rfl
      have HG0 := Lib.hid hE2
      clear hE1 hE2
      go_enter Tryd.func47, Tryd.ntmps47
      go_wp2_with fail
      with_reducible refine HV1.out.mono ?_
      rintro e w1 ⟨rfl, hb1⟩
      have HV2 := Lib.hid (valid_c g a2 n2 c2 w1 (HR2.out.below hb1))
      rw [HG0.out] at HV2
      have HB1 := Lib.hid hb1
      clear hb1
      go_wp2_with fail
      with_reducible refine HV2.out.mono ?_
      rintro e w2 ⟨rfl, hb2⟩
      have HB2 := Lib.hid (Below.next HB1.out hb2)
      clear hb2
      go_wp2_with fail
      go_loopw [13, 14, 15, 32] (fun u v z i wr => ∃ k : Nat, k ≤ n ∧ i = .int .i64 k ∧ (∃ o, u = .int .u16 (U (oA o)) ∧ v = .int .u16 (U (oB o)) ∧ z = .bool o.isSome ∧ Hid (srcFrom b sz (f.take k) g none = o)) ∧ Below w.heap.size w wr) (fun _ _ _ i _ => n - (intOf i).toNat)
      case atStart => exact ⟨0, Nat.zero_le _, rfl, ⟨none, rfl, rfl, rfl, rfl⟩, HB2.out⟩
      case round =>
        obtain ⟨k, hk, rfl, ⟨o, rfl, rfl, rfl, ho⟩, hb⟩ := hrel
        by_cases hlt : k < n
        · obtain ⟨x, hx⟩ : ∃ x, f[k]? = some x := ⟨_, List.getElem?_eq_getElem (by have := HN.out; omega)⟩
          obtain ⟨bb, oo, ha, hcell⟩ := (HR.out.below hb).at' (by omega)
          have hc := hcell k (.int .u16 (U x)) (by rw [List.getElem?_map, hx]; rfl)
          have HST := Lib.hid (srcFrom_succ (b := b) (sz := sz) (g := g) (o := none) hx)
          subst ha
          clear hcell hx
          go_wp2_with fail
          have HB := Lib.hid hb
          clear hb hc
          obtain ⟨W0, hW0⟩ : ∃ W0, W0 = wr := ⟨_, rfl⟩
          subst hW0
          go_loopw [13, 14, 15, 38] (fun u v z i wq => ∃ j : Nat, j ≤ n2 ∧ i = .int .i64 j ∧ (∃ o2, u = .int .u16 (U (oA o2)) ∧ v = .int .u16 (U (oB o2)) ∧ z = .bool o2.isSome ∧ Hid (srcRow b sz x (g.take j) o = o2)) ∧ Below W0.heap.size W0 wq) (fun _ _ _ i _ => n2 - (intOf i).toNat)
          case atStart => exact ⟨0, Nat.zero_le _, rfl, ⟨o, rfl, rfl, rfl, rfl⟩, Below.refl _ _⟩
          case round =>
            obtain ⟨j, hj, rfl, ⟨o2, rfl, rfl, rfl, ho2⟩, hbq⟩ := hrel
            by_cases hlt2 : j < n2
            · obtain ⟨y, hy⟩ : ∃ y, g[j]? = some y := ⟨_, List.getElem?_eq_getElem (by have := HN2.out; omega)⟩
              obtain ⟨b2, o3, ha2, hcell2⟩ := (HR2.out.below (Below.next HB.out hbq)).at' (by omega)
              have hc2 := hcell2 j (.int .u16 (U y)) (by rw [List.getElem?_map, hy]; rfl)
              have hstep : srcRow b sz x (g.take (j + 1)) o = srcStep b sz o2 x y := by rw [srcRow_succ hy, ho2.out]
              subst ha2
              have HV := Lib.hid (violated_c x y b wr)
              have HBQ := Lib.hid hbq
              clear hcell2 hy hbq
              cases hv : viol x y b
              · rw [hv] at HV
                rw [srcStep_miss hv] at hstep
                have HS := Lib.hid hstep
                clear hv hstep
                go_wp2_with fail
                with_reducible refine HV.out.mono ?_
                rintro e w5 ⟨rfl, rfl⟩
                go_wp2_with fail
                go_roundw
                case rel => exact ⟨j + 1, by omega, by go_num, ⟨o2, rfl, rfl, rfl, HS⟩, HBQ.out⟩
                case measure => simp [intOf]; omega
              · rw [hv] at HV
                cases o2 with
                | none =>
                  have hstep2 : srcRow b sz x (g.take (j + 1)) o = some (x, y) := by rw [hstep]; unfold srcStep; rw [if_pos hv]
                  have HS := Lib.hid hstep2
                  have hsome : (none : Option (BitVec 16 × BitVec 16)).isSome = false := rfl
                  rw [hsome]
                  clear hv hstep hstep2
                  go_wp2_with fail
                  with_reducible refine HV.out.mono ?_
                  rintro e w5 ⟨rfl, rfl⟩
                  go_wp2_with fail
                  go_roundw
                  case rel => exact ⟨j + 1, by omega, by go_num, ⟨some (x, y), rfl, rfl, rfl, HS⟩, HBQ.out⟩
                  case measure => simp [intOf]; omega
                | some p =>
                  obtain ⟨p1, p2⟩ := p
                  have hsome : (some (p1, p2) : Option (BitVec 16 × BitVec 16)).isSome = true := rfl
                  have hoA : oA (some (p1, p2)) = p1 := rfl
                  have hoB : oB (some (p1, p2)) = p2 := rfl
                  rw [hsome, hoA, hoB]
                  have HZ1 := Lib.hid (HSZ.out (x ||| y))
                  have HZ2 := Lib.hid (HSZ.out (p1 ||| p2))
                  by_cases hs : sz (x ||| y) < sz (p1 ||| p2)
                  · have hstep2 : srcRow b sz x (g.take (j + 1)) o = some (x, y) := by rw [hstep]; unfold srcStep; rw [if_pos hv]; show (if _ then _ else _) = _; rw [if_pos hs]
                    have HS := Lib.hid hstep2
                    obtain ⟨s1, hs1⟩ : ∃ s, sz (x ||| y) = s := ⟨_, rfl⟩
                    obtain ⟨s2, hs2⟩ : ∃ s, sz (p1 ||| p2) = s := ⟨_, rfl⟩
                    rw [hs1] at HZ1 hs
                    rw [hs2] at HZ2 hs
                    have hd : decide (s1 < s2) = true := decide_eq_true hs
                    clear hv hstep hstep2 hs1 hs2 hs
                    go_wp2_with fail
                    with_reducible refine HV.out.mono ?_
                    rintro e w5 ⟨rfl, rfl⟩
                    go_wp2_with fail
                    with_reducible refine (HZ1.out _).mono ?_
                    rintro e w6 ⟨rfl, q6, rfl⟩
                    go_wp2_with fail
                    with_reducible refine (HZ2.out _).mono ?_
                    rintro e w7 ⟨rfl, q7, rfl⟩
                    go_wp2_with fail
                    go_roundw
                    case rel => exact ⟨j + 1, by omega, by go_num, ⟨some (x, y), rfl, rfl, rfl, HS⟩, below_drewN HBQ.out⟩
                    case measure => simp [intOf]; omega
                  · have hstep2 : srcRow b sz x (g.take (j + 1)) o = some (p1, p2) := by rw [hstep]; unfold srcStep; rw [if_pos hv]; show (if _ then _ else _) = _; rw [if_neg hs]
                    have HS := Lib.hid hstep2
                    obtain ⟨s1, hs1⟩ : ∃ s, sz (x ||| y) = s := ⟨_, rfl⟩
                    obtain ⟨s2, hs2⟩ : ∃ s, sz (p1 ||| p2) = s := ⟨_, rfl⟩
                    rw [hs1] at HZ1 hs
                    rw [hs2] at HZ2 hs
                    have hd : decide (s1 < s2) = false := decide_eq_false hs
                    clear hv hstep hstep2 hs1 hs2 hs
                    go_wp2_with fail
                    with_reducible refine HV.out.mono ?_
                    rintro e w5 ⟨rfl, rfl⟩
                    go_wp2_with fail
                    with_reducible refine (HZ1.out _).mono ?_
                    rintro e w6 ⟨rfl, q6, rfl⟩
                    go_wp2_with fail
                    with_reducible refine (HZ2.out _).mono ?_
                    rintro e w7 ⟨rfl, q7, rfl⟩
                    go_wp2_with fail
                    go_roundw
                    case rel => exact ⟨j + 1, by omega, by go_num, ⟨some (p1, p2), rfl, rfl, rfl, HS⟩, below_drewN HBQ.out⟩
                    case measure => simp [intOf]; omega
            · obtain rfl : j = n2 := by omega
              have hall : srcFrom b sz (f.take (k + 1)) g none = o2 := by
                have h1 := ho2.out
                rw [List.take_of_length_le (by have := HN2.out; omega)] at h1
                rw [HST.out, ho.out]; exact h1
              have HALL := Lib.hid hall
              have HBQ := Lib.hid hbq
              clear hall hbq ho ho2
              go_wp2_with fail
              go_roundw
              case rel => exact ⟨k + 1, by omega, by go_num, ⟨o2, rfl, rfl, rfl, HALL⟩, Below.next HB.out HBQ.out⟩
              case measure => simp [intOf]; omega
        · obtain rfl : k = n := by omega
          have hall : srcS b sz f g = o := by
            have h1 := ho.out
            rw [List.take_of_length_le (by have := HN.out; omega)] at h1
            exact h1
          have hRR := HPS.out
          rw [hall] at hRR
          have HBQ := Lib.hid hb
          clear hall hb ho
          cases o with
          | none =>
            have hsome : (none : Option (BitVec 16 × BitVec 16)).isSome = false := rfl
            rw [hsome]
            have HRR : Hid (R = (0#16, 0#16, 13)) := hRR
            clear hRR
            go_wp2_with fail
            go_ret3
            rw [HRR.out]
            exact ⟨rfl, HBQ.out⟩
          | some p =>
            obtain ⟨p1, p2⟩ := p
            have hsome : (some (p1, p2) : Option (BitVec 16 × BitVec 16)).isSome = true := rfl
            have hoA : oA (some (p1, p2)) = p1 := rfl
            have hoB : oB (some (p1, p2)) = p2 := rfl
            rw [hsome, hoA, hoB]
            have HRR : Hid (R = (p1, p2, 0)) := hRR
            clear hRR
            go_wp2_with fail
            go_ret3
            rw [HRR.out]
            exact ⟨rfl, HBQ.out⟩
    · have HRR : Hid (R = (0#16, 0#16, E2)) := by
        show R = _
        rw [← HPR.out]; unfold pairS; rw [if_neg (by rw [hE1]; simp), if_pos (by rw [hE2]; exact h2), hE2]
      have HG0 := Lib.hid hE2
      have hne : (E2 != 0) = true := by simpa using h2
      clear hE1 hE2 h2
      go_enter Tryd.func47, Tryd.ntmps47
      go_wp2_with fail
      with_reducible refine HV1.out.mono ?_
      rintro e w1 ⟨rfl, hb1⟩
      have HV2 := Lib.hid (valid_c g a2 n2 c2 w1 (HR2.out.below hb1))
      rw [HG0.out] at HV2
      have HB1 := Lib.hid hb1
      clear hb1
      go_wp2_with fail
      with_reducible refine HV2.out.mono ?_
      rintro e w2 ⟨rfl, hb2⟩
      have HB2 := Lib.hid (Below.next HB1.out hb2)
      clear hb2
      go_wp2_with fail
      go_ret3
      rw [HRR.out]
      exact ⟨rfl, HB2.out⟩
  · have HRR : Hid (R = (0#16, 0#16, E1)) := by
      show R = _
      rw [← HPR.out]; unfold pairS; rw [if_pos (by rw [hE1]; exact h1), hE1]
    have hne : (E1 != 0) = true := by simpa using h1
    clear hE1 hE2 h1
    go_enter Tryd.func47, Tryd.ntmps47
    go_wp2_with fail
    with_reducible refine HV1.out.mono ?_
    rintro e w1 ⟨rfl, hb1⟩
    have HB1 := Lib.hid hb1
    clear hb1
    go_wp2_with fail
    go_ret3
    rw [HRR.out]
    exact ⟨rfl, HB1.out⟩

theorem pair1_at : SzAt 48 #[] (fun _ => 0) := fun z W => by
  show Calls Tryd.prog 48 #[.int .u16 (U z)] W _
  go_enter Tryd.func48, Tryd.ntmps48
  go_wp2_with fail
  go_ret
  exact ⟨rfl, 0, rfl⟩
theorem least1_at : SzAt 50 #[] cnt := fun z W => by
  show Calls Tryd.prog 50 #[.int .u16 (U z)] W _
  have HO := Lib.hid (ones_c z (U z) W rfl)
  go_enter Tryd.func50, Tryd.ntmps50
  go_wp2_with fail
  with_reducible refine HO.out.mono ?_
  rintro e w1 ⟨rfl, q, rfl⟩
  go_wp2_with fail
  go_ret
  exact ⟨rfl, q, rfl⟩

set_option maxHeartbeats 1000000 in
theorem pair_c (f g : List (BitVec 16)) (b : BitVec 16) (a : Option Addr) (n c : Nat) (a2 : Option Addr) (n2 c2 : Nat) (w : World) (h : Rd w a n c (f.map setV2)) (h2 : Rd w a2 n2 c2 (g.map setV2)) :
    Calls Tryd.prog 24 #[.slice a n c, .slice a2 n2 c2, .int .u16 (U b)] w fun e w' => e = .returned (.tuple #[.int .u16 (U (pairS b (fun _ => 0) f g).1), .int .u16 (U (pairS b (fun _ => 0) f g).2.1), .int .i64 (pairS b (fun _ => 0) f g).2.2]) ∧ Below w.heap.size w w' := by
  have HS := Lib.hid (search_c 48 #[] (enters_of Tryd.func48 (by kernel_rfl) rfl) _ pair1_at f g b a n c a2 n2 c2 w h h2)
  obtain ⟨R, hR⟩ : ∃ R, pairS b (fun _ => 0) f g = R := ⟨_, rfl⟩
  rw [hR] at HS ⊢
  clear h h2 hR
  go_enter Tryd.func24, Tryd.ntmps24
  go_wp2_with fail
  with_reducible refine HS.out.mono ?_
  rintro e w1 ⟨rfl, hb⟩
  go_wp2_with fail
  go_ret3
  exact ⟨rfl, hb⟩
set_option maxHeartbeats 1000000 in
theorem least_c (f g : List (BitVec 16)) (b : BitVec 16) (a : Option Addr) (n c : Nat) (a2 : Option Addr) (n2 c2 : Nat) (w : World) (h : Rd w a n c (f.map setV2)) (h2 : Rd w a2 n2 c2 (g.map setV2)) :
    Calls Tryd.prog 27 #[.slice a n c, .slice a2 n2 c2, .int .u16 (U b)] w fun e w' => e = .returned (.tuple #[.int .u16 (U (pairS b cnt f g).1), .int .u16 (U (pairS b cnt f g).2.1), .int .i64 (pairS b cnt f g).2.2]) ∧ Below w.heap.size w w' := by
  have HS := Lib.hid (search_c 50 #[] (enters_of Tryd.func50 (by kernel_rfl) rfl) _ least1_at f g b a n c a2 n2 c2 w h h2)
  obtain ⟨R, hR⟩ : ∃ R, pairS b cnt f g = R := ⟨_, rfl⟩
  rw [hR] at HS ⊢
  clear h h2 hR
  go_enter Tryd.func27, Tryd.ntmps27
  go_wp2_with fail
  with_reducible refine HS.out.mono ?_
  rintro e w1 ⟨rfl, hb⟩
  go_wp2_with fail
  go_ret3
  exact ⟨rfl, hb⟩
end Go.Proofs.YtflpkkebampmfaaDoor
namespace Go.Proofs.YtflpkkebampmfaaDoor
open Go.RowKit Go.Shelf

def twoX : Xpr := ⟨[⟨1, 0, 0, [], []⟩, ⟨1, 1, 0, [], []⟩, ⟨1, 2, 0, [], []⟩, ⟨2, 0, 2, [], [0, 1, 2]⟩], 3⟩
theorem twoX_ok : xprE twoX = 0 := by decide +kernel
theorem twoX_few : XprFew twoX := fun k nd h => by
  match k, h with
  | 0, h => cases h; decide
  | 1, h => cases h; decide
  | 2, h => cases h; decide
  | 3, h => cases h; decide
def awT : Byts := [48, 40, 49, 40, 121, 44, 32, 50, 40, 121, 44, 32, 120, 41, 41, 44, 32, 49, 40, 50, 40, 121, 44, 32, 120, 41, 44, 32, 120, 41, 41]
theorem aw_par : (parC awT).2 = 0 ∧ (parC awT).1.nodes.length = 11 ∧ certC twoX twoX 0#16 (parC awT).1 = true ∧ certC twoX twoX 1#16 (parC awT).1 = false := by decide +kernel
theorem aw_prv : (prvS twoX twoX (leftS twoX twoX 0#16)).2 = 0 ∧ certC twoX twoX 0#16 (prvS twoX twoX (leftS twoX twoX 0#16)).1 = true ∧ (prvS twoX twoX (leftS twoX twoX 1#16)).2 = 12 := by decide +kernel
theorem aw_pair : pairS 1#16 (fun _ => 0) [3#16, 5#16, 6#16] [3#16, 5#16, 6#16] = (3#16, 5#16, 0) ∧ (pairS 0#16 (fun _ => 0) [3#16, 5#16, 6#16] [3#16, 5#16, 6#16]).2.2 = 13 := by decide +kernel

def twoV (b : Nat) : List NodV := [⟨1, 0, 0, .slice none 0 0, .slice none 0 0⟩, ⟨1, 1, 0, .slice none 0 0, .slice none 0 0⟩, ⟨1, 2, 0, .slice none 0 0, .slice none 0 0⟩, ⟨2, 0, 2, .slice none 0 0, .slice (some ⟨b, 0, none⟩) 3 3⟩]

set_option maxRecDepth 100000 in
set_option maxHeartbeats 1000000 in
theorem two20_c (w : World) :
    Calls Tryd.prog 31 #[] w fun e w' => ∃ a c, e = .returned (.agg #[.slice a 4 c, .int .i64 3]) ∧ XM w' a 4 c twoX.nodes ∧ Below w.heap.size w w' := by
  go_enter Tryd.func31, Tryd.ntmps31
  go_wp2_with fail
  obtain ⟨B, hB⟩ : ∃ B, B = w.heap.size + 1 := ⟨_, rfl⟩
  rw [← hB]
  obtain ⟨W1, hW1⟩ : ∃ W1, W1 = w.alloc (.cells #[.slice (some ⟨B + 1, 0, none⟩) 4 4, .int .i64 3] 24) := ⟨_, rfl⟩
  obtain ⟨W2, hW2⟩ : ∃ W2, W2 = W1.alloc (.cells #[.int .i64 0, .int .i64 1, .int .i64 2] 3) := ⟨_, rfl⟩
  obtain ⟨W3, hW3⟩ : ∃ W3, W3 = W2.alloc (.cells ((twoV B).flatMap nodVC).toArray 64) := ⟨_, rfl⟩
  have e3 : ((twoV B).flatMap nodVC).toArray = #[.int .i64 1, .int .i64 0, .int .i64 0, .slice none 0 0, .slice none 0 0, .int .i64 1, .int .i64 1, .int .i64 0, .slice none 0 0, .slice none 0 0, .int .i64 1, .int .i64 2, .int .i64 0, .slice none 0 0, .slice none 0 0, .int .i64 2, .int .i64 0, .int .i64 2, .slice none 0 0, .slice (some ⟨B, 0, none⟩) 3 3] := rfl
  rw [← e3, ← hW1, ← hW2, ← hW3]
  have s1 : W1.heap.size = w.heap.size + 1 := by rw [hW1]; simp
  have s2 : W2.heap.size = w.heap.size + 1 + 1 := by rw [hW2]; simp [s1]
  have b1 : Below w.heap.size w W1 := by rw [hW1]; exact (Below.refl _ w).alloc (Nat.le_refl _) _
  have b2 : Below W1.heap.size W1 W2 := by rw [hW2]; exact (Below.refl _ _).alloc (Nat.le_refl _) _
  have b3 : Below W2.heap.size W2 W3 := by rw [hW3]; exact (Below.refl _ _).alloc (Nat.le_refl _) _
  have rI : Rd W3 (some ⟨B, 0, none⟩) 3 3 ([0, 1, 2].map (Value.int .i64)) := by
    refine Rd.below ?_ b3
    rw [hW2]; exact Rd.lit' W1 _ _ 3 _ rfl rfl (by decide) (by rw [hB, s1])
  have rX : XM W3 (some ⟨B + 1, 0, none⟩) 4 4 twoX.nodes := by
    refine XM.of_rdK (V := twoV B) (by rw [hW3]; exact RdK.lit' 5 W2 _ _ 4 _ (by simp) rfl (by decide) (by rw [hB, s2])) rfl ?_
    intro i p nd hp hn
    have nl : ∃ a n c, Value.slice none 0 0 = .slice a n c ∧ Rd W3 a n c (([] : List Int).map (Value.int .i64)) := ⟨none, 0, 0, rfl, Rd.none_ _⟩
    match i, hp, hn with
    | 0, hp, hn => cases hp; cases hn; exact ⟨rfl, rfl, rfl, nl, nl⟩
    | 1, hp, hn => cases hp; cases hn; exact ⟨rfl, rfl, rfl, nl, nl⟩
    | 2, hp, hn => cases hp; cases hn; exact ⟨rfl, rfl, rfl, nl, nl⟩
    | 3, hp, hn => cases hp; cases hn; exact ⟨rfl, rfl, rfl, nl, ⟨_, _, _, rfl, rI⟩⟩
  have e1 : W3.heap[w.heap.size]? = some (.cells #[.slice (some ⟨B + 1, 0, none⟩) 4 4, .int .i64 3] 24 (0, 0)) := by
    refine heap_below b3 (heap_below b2 ?_)
    rw [hW1]; exact heap_alloc_new _ _
  have hbw := Below.next b1 (Below.next b2 b3)
  refine bodyPost_ret (v := .agg #[.slice (some ⟨B + 1, 0, none⟩) 4 4, .int .i64 3]) ?_ rfl ⟨_, _, rfl, rX, hbw⟩
  exact results_cell_row rfl _ _ _ _ _ _ _ rfl e1 Tryd.underlying24 rfl (by kernel_rfl)
end Go.Proofs.YtflpkkebampmfaaDoor
namespace Go.Proofs.YtflpkkebampmfaaDoor
open Go.RowKit Go.Shelf

theorem awL : ([3#16, 5#16, 6#16] : List (BitVec 16)).map setV2 = [.int .u16 3, .int .u16 5, .int .u16 6] := rfl
theorem aw_p1 (u : World) (a : Option Addr) (h : Rd u a 3 3 [.int .u16 3, .int .u16 5, .int .u16 6]) : Calls Tryd.prog 24 #[.slice a 3 3, .slice a 3 3, .int .u16 1] u fun e w' => e = .returned (.tuple #[.int .u16 3, .int .u16 5, .int .i64 0]) ∧ Below u.heap.size u w' := by
  rw [← awL] at h
  have := pair_c [3#16, 5#16, 6#16] [3#16, 5#16, 6#16] 1#16 a 3 3 a 3 3 u h h
  rw [aw_pair.1] at this
  exact this
theorem aw_p0 (u : World) (a : Option Addr) (h : Rd u a 3 3 [.int .u16 3, .int .u16 5, .int .u16 6]) : Calls Tryd.prog 24 #[.slice a 3 3, .slice a 3 3, .int .u16 0] u fun e w' => ∃ x y, e = .returned (.tuple #[.int .u16 x, .int .u16 y, .int .i64 13]) ∧ Below u.heap.size u w' := by
  rw [← awL] at h
  have := pair_c [3#16, 5#16, 6#16] [3#16, 5#16, 6#16] 0#16 a 3 3 a 3 3 u h h
  rw [aw_pair.2] at this
  exact this.mono fun e w' hh => ⟨_, _, hh⟩
theorem aw_pa (u : World) (hr : HasRng u) (hy : HasSyn u) : Calls Tryd.prog 16 #[.string ⟨#[48, 40, 49, 40, 121, 44, 32, 50, 40, 121, 44, 32, 120, 41, 41, 44, 32, 49, 40, 50, 40, 121, 44, 32, 120, 41, 44, 32, 120, 41, 41]⟩] u fun e w' => ∃ a c, e = .returned (.tuple #[.agg #[.slice a 11 c, .int .i64 (parC awT).1.root], .int .i64 0]) ∧ TM w' a 11 c (parC awT).1.nodes ∧ Below u.heap.size u w' := by
  have := parse_c awT (by decide) u hr hy
  rw [aw_par.1, aw_par.2.1] at this
  exact this
theorem aw_v0 (u : World) (a1 : Option Addr) (c1 : Nat) (a2 : Option Addr) (c2 : Nat) (h1 : XM u a1 4 c1 twoX.nodes) (h2 : XM u a2 4 c2 twoX.nodes) (ht : HasTab u) :
    Calls Tryd.prog 13 #[.agg #[.slice a1 4 c1, .int .i64 3], .agg #[.slice a2 4 c2, .int .i64 3], .int .u16 0] u fun e w' => ∃ a n c r, e = .returned (.tuple #[.agg #[.slice a n c, .int .i64 r], .int .i64 0]) ∧ (TM w' a n c (prvS twoX twoX (leftS twoX twoX 0#16)).1.nodes ∧ r = (prvS twoX twoX (leftS twoX twoX 0#16)).1.root) ∧ Below u.heap.size u w' := by
  have := prove_ok twoX twoX 0#16 twoX_ok twoX_ok twoX_few twoX_few a1 4 c1 a2 4 c2 u h1 h2 ht
  rw [aw_prv.1] at this
  exact this.mono fun e w' ⟨a, c, h1, h2, h3⟩ => ⟨a, _, c, _, h1, ⟨h2, rfl⟩, h3⟩
theorem aw_v1 (u : World) (a1 : Option Addr) (c1 : Nat) (a2 : Option Addr) (c2 : Nat) (h1 : XM u a1 4 c1 twoX.nodes) (h2 : XM u a2 4 c2 twoX.nodes) (ht : HasTab u) :
    Calls Tryd.prog 13 #[.agg #[.slice a1 4 c1, .int .i64 3], .agg #[.slice a2 4 c2, .int .i64 3], .int .u16 1] u fun e w' => ∃ a n c r, e = .returned (.tuple #[.agg #[.slice a n c, .int .i64 r], .int .i64 12]) ∧ Below u.heap.size u w' := by
  have := prove_ok twoX twoX 1#16 twoX_ok twoX_ok twoX_few twoX_few a1 4 c1 a2 4 c2 u h1 h2 ht
  rw [aw_prv.2.2] at this
  exact this.mono fun e w' ⟨a, c, h1, h2, h3⟩ => ⟨a, _, c, _, h1, h3⟩
theorem aw_c (b : BitVec 16) (bi : Int) (hbi : U b = bi) (t : Tre) (V : Bool) (hV : certC twoX twoX b t = V) (u : World) (a1 : Option Addr) (c1 : Nat) (a2 : Option Addr) (c2 : Nat) (a : Option Addr) (n c : Nat) (h1 : XM u a1 4 c1 twoX.nodes) (h2 : XM u a2 4 c2 twoX.nodes) (h : TM u a n c t.nodes) :
    Calls Tryd.prog 15 #[.agg #[.slice a1 4 c1, .int .i64 3], .agg #[.slice a2 4 c2, .int .i64 3], .int .u16 bi, .agg #[.slice a n c, .int .i64 t.root]] u fun e w' => e = .returned (.bool V) ∧ Below u.heap.size u w' := by
  have := check_c twoX twoX b twoX_ok twoX_ok twoX_few twoX_few t a1 4 c1 a2 4 c2 a n c u h1 h2 h
  rw [hV, hbi] at this
  exact this

set_option maxRecDepth 100000 in
set_option maxHeartbeats 4000000 in
theorem awake20_c (w : World) (ht : HasTab w) (hr : HasRng w) (hy : HasSyn w) :
    Calls Tryd.prog 10 #[] w fun e w' => e = .returned (.bool true) ∧ Below w.heap.size w w' := by
  obtain ⟨W1, hW1⟩ : ∃ W1, W1 = w.alloc (.cells #[.int .u16 3, .int .u16 5, .int .u16 6] 26) := ⟨_, rfl⟩
  have hb1 : Below w.heap.size w W1 := by rw [hW1]; exact (Below.refl _ w).alloc (Nat.le_refl _) _
  have hf : Rd W1 (some ⟨w.heap.size, 0, none⟩) 3 3 [.int .u16 3, .int .u16 5, .int .u16 6] := by rw [hW1]; exact Rd.lit' w _ _ 3 _ rfl rfl (by decide) rfl
  have HF := Lib.hid hf
  have HB1 := Lib.hid hb1
  have HT := Lib.hid (fun u (hb : Below w.heap.size w u) => ht.below hb)
  have HE := Lib.hid (fun u (hb : Below w.heap.size w u) => aw_pa u (hr.below hb) (hy.below hb))
  obtain ⟨T, hT⟩ : ∃ T, (parC awT).1 = T := ⟨_, rfl⟩
  obtain ⟨Q, hQ⟩ : ∃ Q, (prvS twoX twoX (leftS twoX twoX 0#16)).1 = Q := ⟨_, rfl⟩
  have HV0 := Lib.hid aw_v0
  rw [hQ] at HV0
  rw [hT] at HE
  have HC0 : Hid (certC twoX twoX 0#16 T = true) := Lib.hid (by rw [← hT]; exact aw_par.2.2.1)
  have HC1 : Hid (certC twoX twoX 1#16 T = false) := Lib.hid (by rw [← hT]; exact aw_par.2.2.2)
  have HCQ : Hid (certC twoX twoX 0#16 Q = true) := Lib.hid (by rw [← hQ]; exact aw_prv.2.1)
  obtain ⟨rT, hrT⟩ : ∃ r, T.root = r := ⟨_, rfl⟩
  rw [hrT] at HE
  have HRT := Lib.hid hrT
  clear hT hQ ht hr hy hb1 hf hrT
  go_enter Tryd.func10, Tryd.ntmps10
  go_wp2_with fail
  rw [← hW1]
  clear hW1
  with_reducible refine (aw_p1 W1 _ HF.out).mono ?_
  rintro e w2 ⟨rfl, hb2⟩
  have HF2 := Lib.hid (HF.out.below hb2)
  have HB2 := Lib.hid (Below.next HB1.out hb2)
  clear hb2
  go_wp2_with fail
  with_reducible refine (aw_p0 w2 _ HF2.out).mono ?_
  rintro e w3 ⟨x3, y3, rfl, hb3⟩
  have HB3 := Lib.hid (Below.next HB2.out hb3)
  clear hb3
  go_wp2_with fail
  with_reducible refine (HE.out w3 HB3.out).mono ?_
  rintro e w4 ⟨aT, cT, rfl, htm, hb4⟩
  have HM4 := Lib.hid htm
  have HB4 := Lib.hid (Below.next HB3.out hb4)
  clear htm hb4
  go_wp2_with fail
  obtain ⟨W5, hW5⟩ : ∃ W5, W5 = w4.alloc (.cells #[.slice aT 11 cT, .int .i64 rT] 33) := ⟨_, rfl⟩
  rw [← hW5]
  have hb5 : Below w4.heap.size w4 W5 := by rw [hW5]; exact (Below.refl _ _).alloc (Nat.le_refl _) _
  have g5 : W5.heap[w4.heap.size]? = some (.cells #[.slice aT 11 cT, .int .i64 rT] 33 (0, 0)) := by rw [hW5]; exact heap_alloc_new _ _
  have HG5 := Lib.hid g5
  have HM5 := Lib.hid (RdK.below HM4.out hb5)
  have HB5 := Lib.hid (Below.next HB4.out hb5)
  clear hb5 g5 hW5
  with_reducible refine (two20_c W5).mono ?_
  rintro e w6 ⟨a6, c6, rfl, hx6, hb6⟩
  have HX6 := Lib.hid hx6
  have HS6 := Lib.hid hb6
  clear hx6 hb6
  go_wp2_with fail
  with_reducible refine (two20_c w6).mono ?_
  rintro e w7 ⟨a7, c7, rfl, hx7, hb7⟩
  have HX7 := Lib.hid hx7
  have HX67 := Lib.hid (HX6.out.below hb7)
  have HS7 := Lib.hid (Below.next HS6.out hb7)
  have HB7 := Lib.hid (Below.next HB5.out (Below.next HS6.out hb7))
  clear hx7 hb7
  go_wp2_with fail
  with_reducible refine (HV0.out w7 a6 c6 a7 c7 HX67.out HX7.out (HT.out w7 HB7.out)).mono ?_
  rintro e w8 ⟨aQ, nQ, cQ, rQ, rfl, ⟨htm, hrQ⟩, hb8⟩
  have HM8 := Lib.hid htm
  have HRQ := Lib.hid hrQ
  have HS8 := Lib.hid (Below.next HS7.out hb8)
  have HB8 := Lib.hid (Below.next HB7.out hb8)
  clear htm hrQ hb8
  go_wp2_with fail
  obtain ⟨W9, hW9⟩ : ∃ W9, W9 = w8.alloc (.cells #[.slice aQ nQ cQ, .int .i64 rQ] 33) := ⟨_, rfl⟩
  rw [← hW9]
  have hb9 : Below w8.heap.size w8 W9 := by rw [hW9]; exact (Below.refl _ _).alloc (Nat.le_refl _) _
  have g9 : W9.heap[w8.heap.size]? = some (.cells #[.slice aQ nQ cQ, .int .i64 rQ] 33 (0, 0)) := by rw [hW9]; exact heap_alloc_new _ _
  have HG9 := Lib.hid g9
  have HM9 := Lib.hid (RdK.below HM8.out hb9)
  have HS9 := Lib.hid (Below.next HS8.out hb9)
  have HB9 := Lib.hid (Below.next HB8.out hb9)
  clear hb9 g9 hW9
  with_reducible refine (two20_c W9).mono ?_
  rintro e w10 ⟨a10, c10, rfl, hx10, hb10⟩
  have HX10 := Lib.hid hx10
  have HZ10 := Lib.hid hb10
  clear hx10 hb10
  go_wp2_with fail
  with_reducible refine (two20_c w10).mono ?_
  rintro e w11 ⟨a11, c11, rfl, hx11, hb11⟩
  have HX11 := Lib.hid hx11
  have HX1011 := Lib.hid (HX10.out.below hb11)
  have HZ11 := Lib.hid (Below.next HZ10.out hb11)
  clear hx11 hb11
  go_wp2_with fail
  with_reducible refine (aw_v1 w11 a10 c10 a11 c11 HX1011.out HX11.out (HT.out w11 (Below.next HB9.out HZ11.out))).mono ?_
  rintro e w12 ⟨aR, nR, cR, rR, rfl, hb12⟩
  have HZ12 := Lib.hid (Below.next HZ11.out hb12)
  clear hb12
  go_wp2_with fail
  generalize hWA : w12.alloc _ = WA
  have hbA : Below w12.heap.size w12 WA := by rw [← hWA]; exact (Below.refl _ _).alloc (Nat.le_refl _) _
  have hz := Below.next HZ12.out hbA
  have hzw := Below.next HB9.out hz
  have hz5 := Below.next HS9.out hz
  have HZW := Lib.hid hzw
  have HMT := Lib.hid (RdK.below HM5.out hz5)
  have HMQ := Lib.hid (RdK.below HM9.out hz)
  have gT := heap_below hz5 HG5.out
  have gQ := heap_below hz HG9.out
  have KS : Hid (∀ u : World, Below WA.heap.size WA u → (u.cell? ⟨w4.heap.size, 0, none⟩ = some (.slice aT 11 cT) ∧ u.cell? ⟨w4.heap.size, 1, none⟩ = some (.int .i64 rT)) ∧ u.cell? ⟨w8.heap.size, 0, none⟩ = some (.slice aQ nQ cQ) ∧ u.cell? ⟨w8.heap.size, 1, none⟩ = some (.int .i64 rQ)) :=
    Lib.hid (fun u hu => ⟨⟨cell_of_row _ _ 0 _ _ _ (heap_below hu gT), cell_of_row _ _ 1 _ _ _ (heap_below hu gT)⟩, cell_of_row _ _ 0 _ _ _ (heap_below hu gQ), cell_of_row _ _ 1 _ _ _ (heap_below hu gQ)⟩)
  have HCT0 := Lib.hid (fun u a1 c1 a2 c2 h1 h2 h => aw_c 0#16 0 rfl T true HC0.out u a1 c1 a2 c2 aT 11 cT h1 h2 h)
  have HCQ0 := Lib.hid (fun u a1 c1 a2 c2 h1 h2 h => aw_c 0#16 0 rfl Q true HCQ.out u a1 c1 a2 c2 aQ nQ cQ h1 h2 h)
  have HCT1 := Lib.hid (fun u a1 c1 a2 c2 h1 h2 h => aw_c 1#16 1 rfl T false HC1.out u a1 c1 a2 c2 aT 11 cT h1 h2 h)
  rw [HRT.out] at HCT0 HCT1
  rw [← HRQ.out] at HCQ0
  have HY := Lib.hid (below_drew (Below.refl WA.heap.size WA))
  clear hWA hbA hz hzw hz5 gT gQ
  refine wp_region_noPanic ?_
  refine wp_region_takes (fun u => Below WA.heap.size WA u) [0, 1, 2, 3, 4, 5, 6, 7, 8, 9, 12] 23 (by kernel_rfl) (by kernel_rfl) (by kernel_rfl) (fun _ _ _ _ _ h => h) HY.out ?_
  repeat (refine wpTk_cons rfl (fun K hK => ?_); go_simp; apply Exists.intro; refine ⟨fun u hu => ?_, hK _ ?_⟩; (first | exact rfl | (obtain ⟨⟨q1, q2⟩, q3, q4⟩ := KS.out u hu; go_simp; done) | (obtain ⟨⟨q1, q2⟩, q3, q4⟩ := KS.out u hu; go_simp; exact rfl)); clear hK K)
  refine wpTk_nil ?_
  refine held_ready (rs := [10]) (by kernel_rfl) (by simp) ?_
  refine AllReadyH.cons rfl (fun K hK => ?_) AllReadyH.nil
  go_simp
  with_reducible refine (two20_c _).mono ?_
  rintro e v10 ⟨x10, d10, rfl, hx, hv⟩
  have HY2 := Lib.hid (below_at rfl HY.out hv)
  have HXA := Lib.hid hx
  have HVA := Lib.hid hv
  clear hx
  clear hv HY
  have HY := Lib.hid HY2.out
  clear HY2
  go_simp
  refine hK.out _ _ HY.out (fun hh => ?_)
  clear hh hK K; try simp only [Act.put, List.setIfInBounds_toArray, List.set_cons_zero, List.set_cons_succ]
  refine held_ready (rs := [11]) (by kernel_rfl) (by simp) ?_
  refine AllReadyH.cons rfl (fun K hK => ?_) AllReadyH.nil
  go_simp
  with_reducible refine (two20_c _).mono ?_
  rintro e v11 ⟨x11, d11, rfl, hx, hv⟩
  have HY2 := Lib.hid (below_at rfl HY.out hv)
  have HXB := Lib.hid hx
  have HXC := Lib.hid (HXA.out.below hv)
  clear hx HXA HVA
  clear hv HY
  have HY := Lib.hid HY2.out
  clear HY2
  go_simp
  refine hK.out _ _ HY.out (fun hh => ?_)
  clear hh hK K; try simp only [Act.put, List.setIfInBounds_toArray, List.set_cons_zero, List.set_cons_succ]
  refine held_ready (rs := [13]) (by kernel_rfl) (by simp) ?_
  refine AllReadyH.cons rfl (fun K hK => ?_) AllReadyH.nil
  go_simp
  with_reducible refine (HCT0.out _ x10 d10 x11 d11 HXC.out HXB.out (RdK.below HMT.out HY.out)).mono ?_
  rintro e v13 ⟨rfl, hv⟩
  have HY2 := Lib.hid (below_at rfl HY.out hv)
  clear HXB HXC
  clear hv HY
  have HY := Lib.hid HY2.out
  clear HY2
  go_simp
  refine hK.out _ _ HY.out (fun hh => ?_)
  clear hh hK K; try simp only [Act.put, List.setIfInBounds_toArray, List.set_cons_zero, List.set_cons_succ]
  refine held_takes (f := 17) (by kernel_rfl) (fun _ _ _ _ _ h => h) HY.out [14, 15, 18] _ _ (by kernel_rfl) ?_
  repeat (refine wpTk_cons rfl (fun K hK => ?_); go_simp; apply Exists.intro; refine ⟨fun u hu => ?_, hK _ ?_⟩; (first | exact rfl | (obtain ⟨⟨q1, q2⟩, q3, q4⟩ := KS.out u hu; go_simp; done) | (obtain ⟨⟨q1, q2⟩, q3, q4⟩ := KS.out u hu; go_simp; exact rfl)); clear hK K)
  refine wpTk_nil ?_
  refine held_ready (rs := [16]) (by kernel_rfl) (by simp) ?_
  refine AllReadyH.cons rfl (fun K hK => ?_) AllReadyH.nil
  go_simp
  with_reducible refine (two20_c _).mono ?_
  rintro e v16 ⟨x16, d16, rfl, hx, hv⟩
  have HY2 := Lib.hid (below_at rfl HY.out hv)
  have HXA := Lib.hid hx
  have HVA := Lib.hid hv
  clear hx
  clear hv HY
  have HY := Lib.hid HY2.out
  clear HY2
  go_simp
  refine hK.out _ _ HY.out (fun hh => ?_)
  clear hh hK K; try simp only [Act.put, List.setIfInBounds_toArray, List.set_cons_zero, List.set_cons_succ]
  refine held_ready (rs := [17]) (by kernel_rfl) (by simp) ?_
  refine AllReadyH.cons rfl (fun K hK => ?_) AllReadyH.nil
  go_simp
  with_reducible refine (two20_c _).mono ?_
  rintro e v17 ⟨x17, d17, rfl, hx, hv⟩
  have HY2 := Lib.hid (below_at rfl HY.out hv)
  have HXB := Lib.hid hx
  have HXC := Lib.hid (HXA.out.below hv)
  clear hx HXA HVA
  clear hv HY
  have HY := Lib.hid HY2.out
  clear HY2
  go_simp
  refine hK.out _ _ HY.out (fun hh => ?_)
  clear hh hK K; try simp only [Act.put, List.setIfInBounds_toArray, List.set_cons_zero, List.set_cons_succ]
  refine held_ready (rs := [19]) (by kernel_rfl) (by simp) ?_
  refine AllReadyH.cons rfl (fun K hK => ?_) AllReadyH.nil
  go_simp
  with_reducible refine (HCQ0.out _ x16 d16 x17 d17 HXC.out HXB.out (RdK.below HMQ.out HY.out)).mono ?_
  rintro e v19 ⟨rfl, hv⟩
  have HY2 := Lib.hid (below_at rfl HY.out hv)
  clear HXB HXC
  clear hv HY
  have HY := Lib.hid HY2.out
  clear HY2
  go_simp
  refine hK.out _ _ HY.out (fun hh => ?_)
  clear hh hK K; try simp only [Act.put, List.setIfInBounds_toArray, List.set_cons_zero, List.set_cons_succ]
  refine held_takes (f := 11) (by kernel_rfl) (fun _ _ _ _ _ h => h) HY.out [20, 21, 24] _ _ (by kernel_rfl) ?_
  repeat (refine wpTk_cons rfl (fun K hK => ?_); go_simp; apply Exists.intro; refine ⟨fun u hu => ?_, hK _ ?_⟩; (first | exact rfl | (obtain ⟨⟨q1, q2⟩, q3, q4⟩ := KS.out u hu; go_simp; done) | (obtain ⟨⟨q1, q2⟩, q3, q4⟩ := KS.out u hu; go_simp; exact rfl)); clear hK K)
  refine wpTk_nil ?_
  refine held_ready (rs := [22]) (by kernel_rfl) (by simp) ?_
  refine AllReadyH.cons rfl (fun K hK => ?_) AllReadyH.nil
  go_simp
  with_reducible refine (two20_c _).mono ?_
  rintro e v22 ⟨x22, d22, rfl, hx, hv⟩
  have HY2 := Lib.hid (below_at rfl HY.out hv)
  have HXA := Lib.hid hx
  have HVA := Lib.hid hv
  clear hx
  clear hv HY
  have HY := Lib.hid HY2.out
  clear HY2
  go_simp
  refine hK.out _ _ HY.out (fun hh => ?_)
  clear hh hK K; try simp only [Act.put, List.setIfInBounds_toArray, List.set_cons_zero, List.set_cons_succ]
  refine held_ready (rs := [23]) (by kernel_rfl) (by simp) ?_
  refine AllReadyH.cons rfl (fun K hK => ?_) AllReadyH.nil
  go_simp
  with_reducible refine (two20_c _).mono ?_
  rintro e v23 ⟨x23, d23, rfl, hx, hv⟩
  have HY2 := Lib.hid (below_at rfl HY.out hv)
  have HXB := Lib.hid hx
  have HXC := Lib.hid (HXA.out.below hv)
  clear hx HXA HVA
  clear hv HY
  have HY := Lib.hid HY2.out
  clear HY2
  go_simp
  refine hK.out _ _ HY.out (fun hh => ?_)
  clear hh hK K; try simp only [Act.put, List.setIfInBounds_toArray, List.set_cons_zero, List.set_cons_succ]
  refine held_ready (rs := [25]) (by kernel_rfl) (by simp) ?_
  refine AllReadyH.cons rfl (fun K hK => ?_) AllReadyH.nil
  go_simp
  with_reducible refine (HCT1.out _ x22 d22 x23 d23 HXC.out HXB.out (RdK.below HMT.out HY.out)).mono ?_
  rintro e v25 ⟨rfl, hv⟩
  have HY2 := Lib.hid (below_at rfl HY.out hv)
  clear HXB HXC
  clear hv HY
  have HY := Lib.hid HY2.out
  clear HY2
  go_simp
  refine hK.out _ _ HY.out (fun hh => ?_)
  clear hh hK K; try simp only [Act.put, List.setIfInBounds_toArray, List.set_cons_zero, List.set_cons_succ]
  refine held_takes (f := 4) (by kernel_rfl) (fun _ _ _ _ _ h => h) HY.out [26, 27, 28, 29] _ _ (by kernel_rfl) ?_
  repeat (refine wpTk_cons rfl (fun K hK => ?_); go_simp; apply Exists.intro; refine ⟨fun u hu => ?_, hK _ ?_⟩; (first | exact rfl | (obtain ⟨⟨q1, q2⟩, q3, q4⟩ := KS.out u hu; go_simp; done) | (obtain ⟨⟨q1, q2⟩, q3, q4⟩ := KS.out u hu; go_simp; exact rfl)); clear hK K)
  refine wpTk_nil ?_
  refine held_ready (rs := [30]) (by kernel_rfl) (by simp) ?_
  refine AllReadyH.cons rfl (fun K hK => ?_) AllReadyH.nil
  go_simp
  with_reducible refine (size_c _ _ _ _ _).mono ?_
  rintro e v30 ⟨rfl, hv⟩
  have HY2 := Lib.hid (below_at rfl HY.out hv)
  clear hv HY
  have HY := Lib.hid HY2.out
  clear HY2
  go_simp
  refine hK.out _ _ HY.out (fun hh => ?_)
  clear hh hK K; try simp only [Act.put, List.setIfInBounds_toArray, List.set_cons_zero, List.set_cons_succ]
  refine held_takes (f := 0) (by kernel_rfl) (fun _ _ _ _ _ h => h) HY.out [31, 32, 33] _ _ (by kernel_rfl) ?_
  repeat (refine wpTk_cons rfl (fun K hK => ?_); go_simp; apply Exists.intro; refine ⟨fun u hu => ?_, hK _ ?_⟩; (first | exact rfl | (obtain ⟨⟨q1, q2⟩, q3, q4⟩ := KS.out u hu; go_simp; done) | (obtain ⟨⟨q1, q2⟩, q3, q4⟩ := KS.out u hu; go_simp; exact rfl)); clear hK K)
  refine wpTk_nil ?_
  refine wpAnyH_done (by kernel_rfl) (NoPanic.normal ?_) _
  go_wp2_with fail
  go_ret
  exact ⟨rfl, Below.next HZW.out HY.out⟩
end Go.Proofs.YtflpkkebampmfaaDoor
namespace Go.Proofs.YtflpkkebampmfaaDoor
open Go.RowKit Go.Shelf

theorem cntTo_succ (x : BitVec 16) (k : Nat) : (memTo x (k + 1)).length = (memTo x k).length + (if hasB x k then 1 else 0) := by
  rw [memTo_succ]; cases hasB x k <;> simp
@[go_sem] theorem b01_conv (b : Bool) : IntKind.i64.wrap (b01 b) = b01 b := by cases b <;> decide

set_option maxRecDepth 100000 in
set_option maxHeartbeats 1000000 in
theorem size8_c (x : BitVec 16) (w : World) :
    Calls Tryd.prog 52 #[.int .u16 (U x)] w fun e w' => e = .returned (.int .i64 (cnt x)) ∧ w' = w := by
  go_enter Tryd.func52, Tryd.ntmps52
  go_wp2_with fail
  go_loop [3, 4] (fun v i => ∃ (k : Nat) (m : Nat), k ≤ 16 ∧ m ≤ k ∧ i = .int .i64 k ∧ v = .int .i64 m ∧ Hid (m = (memTo x k).length)) (fun _ i => 16 - (intOf i).toNat)
  case atStart => exact ⟨0, 0, Nat.zero_le _, Nat.zero_le _, rfl, rfl, rfl⟩
  case round =>
    obtain ⟨k, m, hk, hmk, rfl, rfl, hm⟩ := hrel
    by_cases hlt : k < 16
    · have HS := Lib.hid (cntTo_succ x k)
      cases hb : hasB x k
      · have HB := Lib.hid hb
        have hb0 : b01 (hasB x k) = 0 := by rw [hb]; rfl
        clear hb
        go_wp2_with fail
        go_round
        case rel => exact ⟨k + 1, m, by omega, by omega, by go_num, by (try go_num), by show _ = _; rw [HS.out, HB.out, hm.out]; rfl⟩
        case measure => simp [intOf]; omega
      · have HB := Lib.hid hb
        have hb0 : b01 (hasB x k) = 1 := by rw [hb]; rfl
        clear hb
        go_wp2_with fail
        go_round
        case rel => exact ⟨k + 1, m + 1, by omega, by omega, by go_num, by go_num, by show _ = _; rw [HS.out, HB.out, hm.out]; rfl⟩
        case measure => simp [intOf]; omega
    · have hE : Hid (m = cnt x) := by
        obtain rfl : k = 16 := by omega
        exact hm.out
      go_wp2_with fail
      go_ret
      exact ⟨ret_int (by rw [hE.out]), rfl⟩

/-- x comes before y -/
def befB (x y : BitVec 16) : Bool := decide (keyS x < keyS y)
theorem bef_ne {x y : BitVec 16} (h : cnt x ≠ cnt y) : befB x y = decide (cnt x < cnt y) := by
  unfold befB keyS; have := x.isLt; have := y.isLt
  rw [Bool.eq_iff_iff, decide_eq_true_iff, decide_eq_true_iff]; omega
theorem bef_eq {x y : BitVec 16} (h : cnt x = cnt y) : befB x y = decide (U x < U y) := by
  unfold befB keyS U
  rw [Bool.eq_iff_iff, decide_eq_true_iff, decide_eq_true_iff]; omega

set_option maxRecDepth 100000 in
set_option maxHeartbeats 1000000 in
theorem before8_c (x y : BitVec 16) (w : World) :
    Calls Tryd.prog 82 #[.int .u16 (U x), .int .u16 (U y)] w fun e w' => e = .returned (.bool (befB x y)) ∧ w' = w := by
  by_cases hc : cnt x = cnt y
  · have HE := Lib.hid (bef_eq hc)
    obtain ⟨m, hm⟩ : ∃ m, cnt x = m := ⟨_, rfl⟩
    have H1 := Lib.hid (fun w => size8_c x w)
    have H2 := Lib.hid (fun w => size8_c y w)
    rw [← hc, hm] at H2
    rw [hm] at H1
    clear hc hm
    go_enter Tryd.func82, Tryd.ntmps82
    go_wp2_with fail
    refine (H1.out _).mono ?_
    rintro e w1 ⟨rfl, rfl⟩
    go_wp2_with fail
    refine (H2.out _).mono ?_
    rintro e w1 ⟨rfl, rfl⟩
    go_wp2_with fail
    go_ret
    exact ⟨ret_bool HE.out.symm, rfl⟩
  · have HE := Lib.hid (bef_ne hc)
    obtain ⟨m, hm⟩ : ∃ m, cnt x = m := ⟨_, rfl⟩
    obtain ⟨m2, hm2⟩ : ∃ m, cnt y = m := ⟨_, rfl⟩
    have H1 := Lib.hid (fun w => size8_c x w)
    have H2 := Lib.hid (fun w => size8_c y w)
    rw [hm2] at H2 HE hc
    rw [hm] at H1 HE hc
    have hne : ((m : Int) != (m2 : Int)) = true := by rw [bne_iff_ne]; omega
    have hcm : decide ((m : Int) < m2) = decide (m < m2) := by rw [Bool.eq_iff_iff, decide_eq_true_iff, decide_eq_true_iff]; omega
    have HCM := Lib.hid hcm
    clear hc hm hm2 hcm
    go_enter Tryd.func82, Tryd.ntmps82
    go_wp2_with fail
    refine (H1.out _).mono ?_
    rintro e w1 ⟨rfl, rfl⟩
    go_wp2_with fail
    refine (H2.out _).mono ?_
    rintro e w1 ⟨rfl, rfl⟩
    go_wp2_with fail
    refine (H1.out _).mono ?_
    rintro e w1 ⟨rfl, rfl⟩
    go_wp2_with fail
    refine (H2.out _).mono ?_
    rintro e w1 ⟨rfl, rfl⟩
    go_wp2_with fail
    go_ret
    exact ⟨ret_bool (by rw [HE.out]; (try first | rfl | exact HCM.out | simp)), rfl⟩

set_option maxHeartbeats 400000 in
theorem contains8_c (x y : BitVec 16) (w : World) :
    Calls Tryd.prog 83 #[.int .u16 (U x), .int .u16 (U y)] w fun e w' => e = .returned (.bool (subB x y)) ∧ w' = w := by
  go_enter Tryd.func83, Tryd.ntmps83
  go_wp2
  go_ret
  exact ⟨rfl, rfl⟩
set_option maxHeartbeats 400000 in
theorem range8_c (x : BitVec 16) (w : World) :
    Calls Tryd.prog 81 #[.int .u16 (U x)] w fun e w' => e = .returned (.bool (decide (U x < 4096))) ∧ w' = w := by
  go_enter Tryd.func81, Tryd.ntmps81
  go_wp2
  go_ret
  exact ⟨rfl, rfl⟩

end Go.Proofs.YtflpkkebampmfaaDoor
namespace Go.Proofs.YtflpkkebampmfaaDoor
open Go.RowKit Go.Shelf

theorem bef_cmp (x y : BitVec 16) : befB x y = decide (cmpS x y < 0) := by
  unfold befB
  rw [Bool.eq_iff_iff, decide_eq_true_iff, decide_eq_true_iff]
  exact (cmpS_key x y).2.symm

set_option maxRecDepth 100000 in
set_option maxHeartbeats 2000000 in
theorem valid8_c (l : List (BitVec 16)) (a : Option Addr) (n c : Nat) (w : World) (h : Rd w a n c (l.map setV2)) :
    Calls Tryd.prog 69 #[.slice a n c] w fun e w' => e = .returned (.int .i64 (valS l)) ∧ Below w.heap.size w w' := by
  have hnl : l.length = n := by have := h.len; simp at this; omega
  have hm := h.max
  have hle := h.le
  unfold maxLen at hm
  have HR := Lib.hid h
  have HN := Lib.hid hnl
  clear h hnl
  by_cases h400 : (400 : Int) < (n : Int)
  · have hV : Hid (valS l = 3) := by show _ = _; unfold valS; rw [if_pos (by have := HN.out; omega)]
    go_enter Tryd.func69, Tryd.ntmps69
    go_wp2_with fail
    go_ret
    exact ⟨by rw [hV.out]; rfl, Below.refl _ _⟩
  · have hd4 : decide ((400 : Int) < (n : Int)) = false := by simpa using h400
    have h400' : Hid (¬ 400 < l.length) := by show ¬ _; have := HN.out; omega
    clear h400
    go_enter Tryd.func69, Tryd.ntmps69
    go_wp2_with fail
    go_loopw [3] (fun i wr => ∃ k : Nat, k ≤ n ∧ i = .int .i64 k ∧ Hid (∀ j, j < k → e1 l j = 0) ∧ Below w.heap.size w wr) (fun i _ => n - (intOf i).toNat)
    case atStart => exact ⟨0, Nat.zero_le _, rfl, Lib.hid (fun j hj => by omega), Below.refl _ _⟩
    case round =>
      obtain ⟨k, hk, rfl, hno, hb⟩ := hrel
      by_cases hlt : k < n
      · obtain ⟨b, o, ha, hcell⟩ := (HR.out.below hb).at' (by omega)
        have hc := hcell k _ (at_cell (by have := HN.out; omega))
        have hlen : Hid (k < l.length) := by show k < _; have := HN.out; omega
        subst ha
        have HG := Lib.hid (range8_c (l.getD k 0#16) wr)
        by_cases ho : 4096 ≤ U (l.getD k 0#16)
        · have hV : Hid (valS l = 7) := by show _ = _; rw [valS_first h400'.out hlen.out hno.out (by rw [e1_out ho]; decide), e1_out ho]
          have ho1 : decide (U (l.getD k 0#16) < 4096) = false := decide_eq_false (by omega)
          obtain ⟨x, hx⟩ : ∃ x, l.getD k 0#16 = x := ⟨_, rfl⟩
          rw [hx] at ho ho1 hc HG
          rw [ho1] at HG
          clear hcell hx ho hno ho1
          go_wp2_with fail
          refine HG.out.mono ?_
          rintro e w1 ⟨rfl, rfl⟩
          go_wp2_with fail
          go_ret
          exact ⟨by rw [hV.out]; rfl, hb⟩
        · have ho1 : decide (U (l.getD k 0#16) < 4096) = true := decide_eq_true (by omega)
          rw [ho1] at HG
          clear ho1
          cases k with
          | zero =>
            have hno' : Hid (∀ j, j < 0 + 1 → e1 l j = 0) := Lib.hid (fun j hj => by obtain rfl : j = 0 := (by omega); exact e1_zero0 ho)
            obtain ⟨x, hx⟩ : ∃ x, l.getD 0 0#16 = x := ⟨_, rfl⟩
            rw [hx] at hc HG
            rw [Nat.add_zero] at hc
            clear hcell hx ho hno
            go_wp2_with fail
            refine HG.out.mono ?_
            rintro e w1 ⟨rfl, rfl⟩
            go_wp2_with fail
            go_quiet (fail)
            go_wp2_with fail
            go_roundw
            case rel => exact ⟨0 + 1, by omega, rfl, hno', below_drewN hb⟩
            case measure => simp [intOf]; omega
          | succ k =>
            have hc0 := hcell k _ (at_cell (by have := hlen.out; omega))
            have he := e1_next ho
            have hbc := bef_cmp (l.getD k 0#16) (l.getD (k + 1) 0#16)
            have q1 : IntKind.i64.wrap (((k + 1 : Nat) : Int) - 1) = (k : Int) := by rw [IntWalk.i64_in _ (by omega)]; omega
            by_cases hcmp : 0 ≤ cmpS (l.getD k 0#16) (l.getD (k + 1) 0#16)
            · rw [if_pos hcmp] at he
              have hV : Hid (valS l = 1) := by show _ = _; rw [valS_first h400'.out hlen.out hno.out (by rw [he]; decide), he]
              rw [decide_eq_false (by omega)] at hbc
              obtain ⟨x, hx⟩ : ∃ x, l.getD k 0#16 = x := ⟨_, rfl⟩
              obtain ⟨y, hy⟩ : ∃ y, l.getD (k + 1) 0#16 = y := ⟨_, rfl⟩
              have HC := Lib.hid (fun w => before8_c x y w)
              rw [hx, hy] at hbc
              rw [hbc] at HC
              rw [hx] at hc0
              rw [hy] at hc HG
              clear hcell hx hy ho hno he hcmp hbc
              go_wp2_with fail
              refine HG.out.mono ?_
              rintro e w1 ⟨rfl, rfl⟩
              go_wp2_with fail
              go_quiet ((go_at_call 82; exact Calls.quiet_of_same (HC.out _)))
              go_wp2_with fail
              go_ret
              exact ⟨by rw [hV.out]; rfl, below_drewN hb⟩
            · rw [if_neg hcmp] at he
              rw [decide_eq_true (by omega)] at hbc
              have hno' : Hid (∀ j, j < k + 1 + 1 → e1 l j = 0) := Lib.hid (fun j hj => by
                by_cases h1 : j < k + 1
                · exact hno.out j h1
                · obtain rfl : j = k + 1 := by omega
                  exact he)
              obtain ⟨x, hx⟩ : ∃ x, l.getD k 0#16 = x := ⟨_, rfl⟩
              obtain ⟨y, hy⟩ : ∃ y, l.getD (k + 1) 0#16 = y := ⟨_, rfl⟩
              have HC := Lib.hid (fun w => before8_c x y w)
              rw [hx, hy] at hbc
              rw [hbc] at HC
              rw [hx] at hc0
              rw [hy] at hc HG
              clear hcell hx hy ho hno he hcmp hbc
              go_wp2_with fail
              refine HG.out.mono ?_
              rintro e w1 ⟨rfl, rfl⟩
              go_wp2_with fail
              go_quiet ((go_at_call 82; exact Calls.quiet_of_same (HC.out _)))
              go_wp2_with fail
              go_roundw
              case rel => exact ⟨k + 1 + 1, by omega, by go_num, hno', below_drewN hb⟩
              case measure => simp [intOf]; omega
      · have hall : Hid (∀ j, j < l.length → e1 l j = 0) := Lib.hid (fun j hj => hno.out j (by have := HN.out; omega))
        clear hno
        go_wp2_with fail
        go_loopw [4] (fun i wr => ∃ k : Nat, k ≤ n ∧ i = .int .i64 k ∧ Hid (∀ i, i < k → ∀ j, j < l.length → i ≠ j → subB (l.getD i 0#16) (l.getD j 0#16) = false) ∧ Below w.heap.size w wr) (fun i _ => n - (intOf i).toNat)
        case atStart => exact ⟨0, Nat.zero_le _, rfl, Lib.hid (fun j hj => by omega), hb⟩
        case round =>
          clear hb
          obtain ⟨i, hi, rfl, hno, hb⟩ := hrel
          by_cases hlt2 : i < n
          · go_wp2_with fail
            go_loopw [5] (fun v wr => ∃ k : Nat, k ≤ n ∧ v = .int .i64 k ∧ Hid (∀ j, j < k → i ≠ j → subB (l.getD i 0#16) (l.getD j 0#16) = false) ∧ Below w.heap.size w wr) (fun v _ => n - (intOf v).toNat)
            case atStart => exact ⟨0, Nat.zero_le _, rfl, Lib.hid (fun j hj => by omega), hb⟩
            case round =>
              clear hb
              obtain ⟨j, hj, rfl, hno2, hb⟩ := hrel
              by_cases hlt3 : j < n
              · by_cases hij : i = j
                · subst hij
                  have hno3 : Hid (∀ j, j < i + 1 → i ≠ j → subB (l.getD i 0#16) (l.getD j 0#16) = false) := Lib.hid (fun j hj hne => hno2.out j (by omega) hne)
                  clear hno2
                  go_wp2_with fail
                  go_quiet (fail)
                  go_wp2_with fail
                  go_roundw
                  case rel => exact ⟨i + 1, by omega, by go_num, hno3, below_drewN hb⟩
                  case measure => simp [intOf]; omega
                · obtain ⟨b, o, ha, hcell⟩ := (HR.out.below hb).at' (by omega)
                  have hc := hcell i _ (at_cell (by have := HN.out; omega))
                  have hc2 := hcell j _ (at_cell (by have := HN.out; omega))
                  subst ha
                  have hne : ((i : Int) != (j : Int)) = true := by rw [bne_iff_ne]; omega
                  have HC := Lib.hid (fun w => contains8_c (l.getD i 0#16) (l.getD j 0#16) w)
                  cases hq : subB (l.getD i 0#16) (l.getD j 0#16)
                  · have hno3 : Hid (∀ j', j' < j + 1 → i ≠ j' → subB (l.getD i 0#16) (l.getD j' 0#16) = false) := Lib.hid (fun j' hj hne => by
                      by_cases h1 : j' < j
                      · exact hno2.out j' h1 hne
                      · obtain rfl : j' = j := by omega
                        exact hq)
                    rw [hq] at HC
                    obtain ⟨x, hx⟩ : ∃ x, l.getD i 0#16 = x := ⟨_, rfl⟩
                    obtain ⟨y, hy⟩ : ∃ y, l.getD j 0#16 = y := ⟨_, rfl⟩
                    rw [hx, hy] at HC
                    rw [hx] at hc
                    rw [hy] at hc2
                    clear hno2 hcell hq hx hy hij
                    go_wp2_with fail
                    go_quiet ((go_at_call 83; exact Calls.quiet_of_same (HC.out _)))
                    go_wp2_with fail
                    go_roundw
                    case rel => exact ⟨j + 1, by omega, by go_num, hno3, below_drewN hb⟩
                    case measure => simp [intOf]; omega
                  · have hV : Hid (valS l = 1) := by
                      show _ = _
                      rw [valS_over h400'.out hall.out, if_pos]
                      exact (overB_any hall.out).2 ⟨i, j, by have := HN.out; omega, by have := HN.out; omega, hij, hq⟩
                    rw [hq] at HC
                    obtain ⟨x, hx⟩ : ∃ x, l.getD i 0#16 = x := ⟨_, rfl⟩
                    obtain ⟨y, hy⟩ : ∃ y, l.getD j 0#16 = y := ⟨_, rfl⟩
                    rw [hx, hy] at HC
                    rw [hx] at hc
                    rw [hy] at hc2
                    clear hno2 hcell hq hx hy hij
                    go_wp2_with fail
                    go_quiet ((go_at_call 83; exact Calls.quiet_of_same (HC.out _)))
                    go_wp2_with fail
                    go_ret
                    exact ⟨by rw [hV.out]; rfl, below_drewN hb⟩
              · have hno3 : Hid (∀ i', i' < i + 1 → ∀ j, j < l.length → i' ≠ j → subB (l.getD i' 0#16) (l.getD j 0#16) = false) := Lib.hid (fun i' hi' j' hj' hne => by
                  by_cases h1 : i' < i
                  · exact hno.out i' h1 j' hj' hne
                  · obtain rfl : i' = i := by omega
                    exact hno2.out j' (by have := HN.out; omega) hne)
                clear hno hno2
                go_wp2_with fail
                go_roundw
                case rel => exact ⟨i + 1, by omega, by go_num, hno3, hb⟩
                case measure => simp [intOf]; omega
          · have hV : Hid (valS l = 0) := by
              show _ = _
              rw [valS_over h400'.out hall.out, if_neg]
              intro hc
              obtain ⟨i', j', h1, h2, h3, h4⟩ := (overB_any hall.out).1 hc
              rw [hno.out i' (by have := HN.out; omega) j' h2 h3] at h4; cases h4
            clear hno
            go_wp2_with fail
            go_ret
            exact ⟨by rw [hV.out]; rfl, hb⟩
end Go.Proofs.YtflpkkebampmfaaDoor
namespace Go.Proofs.YtflpkkebampmfaaDoor
open Go.RowKit Go.Shelf

set_option maxRecDepth 100000 in
set_option maxHeartbeats 1000000 in
theorem rval2_c (f g : List (BitVec 16)) (a : Option Addr) (n c : Nat) (a2 : Option Addr) (n2 c2 : Nat) (w : World) (h : Rd w a n c (f.map setV2)) (h2 : Rd w a2 n2 c2 (g.map setV2)) :
    Calls Tryd.prog 49 #[.slice a n c, .slice a2 n2 c2] w fun e w' => e = .returned (.int .i64 (if valS f ≠ 0 then valS f else valS g)) ∧ Below w.heap.size w w' := by
  have H1 := Lib.hid (valid8_c f a n c w h)
  have H2 := Lib.hid (fun (v : World) (hb : Below w.heap.size w v) => valid8_c g a2 n2 c2 v (h2.below hb))
  clear h h2
  obtain ⟨E1, hE1⟩ : ∃ E, valS f = E := ⟨_, rfl⟩
  obtain ⟨E2, hE2⟩ : ∃ E, valS g = E := ⟨_, rfl⟩
  rw [hE1] at H1 ⊢
  rw [hE2] at H2 ⊢
  clear hE1 hE2
  obtain ⟨V, hV⟩ : ∃ V, (if E1 ≠ 0 then E1 else E2) = V := ⟨_, rfl⟩
  rw [hV]
  have HV := Lib.hid hV
  clear hV
  go_enter Tryd.func49, Tryd.ntmps49
  go_wp2_with fail
  with_reducible refine H1.out.mono ?_
  rintro e w1 ⟨rfl, hb1⟩
  by_cases he : E1 = 0
  · subst he
    go_wp2_with fail
    with_reducible refine (H2.out w1 hb1).mono ?_
    rintro e w5 ⟨rfl, hb5⟩
    go_wp2_with fail
    go_ret
    exact ⟨ret_int (by have := HV.out; rwa [if_neg (by simp)] at this), Below.next hb1 hb5⟩
  · have hE : (E1 != 0) = true := by simpa using he
    have hV2 : Hid (E1 = V) := by have := HV.out; rw [if_pos (by simpa using he)] at this; exact this
    clear he HV
    go_wp2_with fail
    go_ret
    exact ⟨ret_int hV2.out, hb1⟩

set_option maxRecDepth 100000 in
set_option maxHeartbeats 4000000 in
theorem rpair_c (f g : List (BitVec 16)) (b : BitVec 16) (a : Option Addr) (n c : Nat) (a2 : Option Addr) (n2 c2 : Nat) (w : World) (h : Rd w a n c (f.map setV2)) (h2 : Rd w a2 n2 c2 (g.map setV2)) :
    Calls Tryd.prog 26 #[.slice a n c, .slice a2 n2 c2, .int .u16 (U b)] w fun e w' => e = .returned (.tuple #[.int .u16 (U (pairS b (fun _ => 0) f g).1), .int .u16 (U (pairS b (fun _ => 0) f g).2.1), .int .i64 (pairS b (fun _ => 0) f g).2.2]) ∧ Below w.heap.size w w' := by
  have hnl : f.length = n := by have := h.len; simp at this; omega
  have hnl2 : g.length = n2 := by have := h2.len; simp at this; omega
  have hm := h.max
  have hle := h.le
  have hm2 := h2.max
  have hle2 := h2.le
  unfold maxLen at hm hm2
  have HR := Lib.hid h
  have HR2 := Lib.hid h2
  have HN := Lib.hid hnl
  have HN2 := Lib.hid hnl2
  have HV := Lib.hid (rval2_c f g a n c a2 n2 c2 w h h2)
  obtain ⟨R, hR⟩ : ∃ R, pairS b (fun _ => 0) f g = R := ⟨_, rfl⟩
  rw [hR]
  obtain ⟨E, hE⟩ : ∃ E, (if valS f ≠ 0 then valS f else valS g) = E := ⟨_, rfl⟩
  rw [hE] at HV
  by_cases hE0 : E = 0
  · subst hE0
    have HP : Hid (∀ o, srcS b (fun _ => 0) f g = o → R = match o with | none => (0#16, 0#16, 13) | some p => (p.1, p.2, 0)) := Lib.hid (fun o ho => by
      have h1 : valS f = 0 := by
        apply Classical.byContradiction; intro hc
        rw [if_pos hc] at hE; exact hc hE
      rw [if_neg (by rw [h1]; simp)] at hE
      rw [← hR]; unfold pairS; rw [if_neg (by rw [h1]; simp), if_neg (by rw [hE]; simp), ho]; cases o <;> rfl)
    clear h h2 hnl hnl2 hR hE
    go_enter Tryd.func26, Tryd.ntmps26
    go_wp2_with fail
    with_reducible refine HV.out.mono ?_
    rintro e w1 ⟨rfl, hb1⟩
    have HB1 := Lib.hid hb1
    clear hb1
    go_wp2_with fail
    go_loopw [10] (fun i wr => ∃ k : Nat, k ≤ n ∧ i = .int .i64 k ∧ Hid (srcFrom b (fun _ => 0) (f.take k) g none = none) ∧ Below w.heap.size w wr) (fun i _ => n - (intOf i).toNat)
    case atStart => exact ⟨0, Nat.zero_le _, rfl, rfl, HB1.out⟩
    case round =>
      obtain ⟨k, hk, rfl, hno, hb⟩ := hrel
      by_cases hlt : k < n
      · obtain ⟨x, hx⟩ : ∃ x, f[k]? = some x := ⟨_, List.getElem?_eq_getElem (by have := HN.out; omega)⟩
        obtain ⟨bb, oo, ha, hcell⟩ := (HR.out.below hb).at' (by omega)
        have hc := hcell k (.int .u16 (U x)) (by rw [List.getElem?_map, hx]; rfl)
        have HX := Lib.hid hx
        have HST := Lib.hid (srcFrom_succ (b := b) (sz := fun _ => 0) (g := g) (o := none) hx)
        subst ha
        clear hcell hx
        go_wp2_with fail
        have HB := Lib.hid hb
        have HCX := Lib.hid hc
        clear hb hc
        obtain ⟨W0, hW0⟩ : ∃ W0, W0 = wr := ⟨_, rfl⟩
        subst hW0
        go_loopw [11] (fun i wq => ∃ j : Nat, j ≤ n2 ∧ i = .int .i64 j ∧ Hid (srcRow b (fun _ => 0) x (g.take j) none = none) ∧ Below W0.heap.size W0 wq) (fun i _ => n2 - (intOf i).toNat)
        case atStart => exact ⟨0, Nat.zero_le _, rfl, rfl, Below.refl _ _⟩
        case round =>
          obtain ⟨j, hj, rfl, hnj, hbq⟩ := hrel
          by_cases hlt2 : j < n2
          · obtain ⟨y, hy⟩ : ∃ y, g[j]? = some y := ⟨_, List.getElem?_eq_getElem (by have := HN2.out; omega)⟩
            obtain ⟨b2, o2, ha2, hcell2⟩ := (HR2.out.below (Below.next HB.out hbq)).at' (by omega)
            have hc2 := hcell2 j (.int .u16 (U y)) (by rw [List.getElem?_map, hy]; rfl)
            subst ha2
            clear hcell2
            have hc1 := ((hbq.cell (p := ⟨bb, oo + k, none⟩) (cell_lt HCX.out)).trans HCX.out)
            cases hv : viol x y b
            · have hv2 : (x &&& y &&& ~~~b == 0#16) = false := hv
              have hnj' : Hid (srcRow b (fun _ => 0) x (g.take (j + 1)) none = none) := Lib.hid (by rw [srcRow_succ hy, hnj.out, srcStep_miss hv])
              clear hv hy hnj
              go_wp2_with fail
              go_quiet (fail)
              go_wp2_with fail
              go_roundw
              case rel => exact ⟨j + 1, by omega, by go_num, hnj', below_drewN hbq⟩
              case measure => simp [intOf]; omega
            · have hv2 : (x &&& y &&& ~~~b == 0#16) = true := hv
              have hF := src_hit HX.out hy hno.out hnj.out hv
              have HRR : Hid (R = (x, y, 0)) := Lib.hid (HP.out _ hF)
              clear hv hy hnj hF
              go_wp2_with fail
              go_quiet (fail)
              go_wp2_with fail
              go_quiet (fail)
              go_wp2_with fail
              go_ret3
              rw [HRR.out]
              exact ⟨rfl, below_drewN (below_drewN (Below.next HB.out hbq))⟩
          · obtain rfl : j = n2 := by omega
            have hno' : Hid (srcFrom b (fun _ => 0) (f.take (k + 1)) g none = none) := Lib.hid (by
              have h1 := hnj.out
              rw [List.take_of_length_le (by have := HN2.out; omega)] at h1
              rw [HST.out, hno.out]; exact h1)
            clear hno hnj
            go_wp2_with fail
            go_roundw
            case rel => exact ⟨k + 1, by omega, by go_num, hno', Below.next HB.out hbq⟩
            case measure => simp [intOf]; omega
      · obtain rfl : k = n := by omega
        have HRR : Hid (R = (0#16, 0#16, 13)) := Lib.hid (HP.out none (by
          have h1 := hno.out
          rw [List.take_of_length_le (by have := HN.out; omega)] at h1
          exact h1))
        clear hno
        go_wp2_with fail
        go_ret3
        rw [HRR.out]
        exact ⟨rfl, hb⟩
  · have hne : (E != 0) = true := by simpa using hE0
    have HRR : Hid (R = (0#16, 0#16, E)) := Lib.hid (by
      rw [← hR]; unfold pairS
      by_cases h1 : valS f = 0
      · rw [if_neg (by rw [h1]; simp)] at hE
        rw [if_neg (by rw [h1]; simp), if_pos (by rw [hE]; exact hE0), hE]
      · rw [if_pos h1] at hE
        rw [if_pos h1, hE])
    clear h h2 hR hE hE0
    go_enter Tryd.func26, Tryd.ntmps26
    go_wp2_with fail
    with_reducible refine HV.out.mono ?_
    rintro e w1 ⟨rfl, hb1⟩
    have HB1 := Lib.hid hb1
    clear hb1
    go_wp2_with fail
    go_ret3
    rw [HRR.out]
    exact ⟨rfl, HB1.out⟩
end Go.Proofs.YtflpkkebampmfaaDoor
namespace Go.Proofs.YtflpkkebampmfaaDoor
open Go.RowKit Go.Shelf

theorem pairS_err {b : BitVec 16} {sz sz' : BitVec 16 → Nat} {f g : List (BitVec 16)} {p : BitVec 16 × BitVec 16 × Int} (h : pairS b sz f g = p) (he : p.2.2 ≠ 0) : pairS b sz' f g = (0#16, 0#16, p.2.2) := by
  unfold pairS at h ⊢
  by_cases h1 : valS f ≠ 0
  · rw [if_pos h1] at h ⊢; rw [← h]
  · rw [if_neg h1] at h ⊢
    by_cases h2 : valS g ≠ 0
    · rw [if_pos h2] at h ⊢; rw [← h]
    · rw [if_neg h2] at h ⊢
      cases hs : srcS b sz f g with
      | none => rw [hs] at h; rw [srcFrom_none hs none sz' |> fun e => (show srcS b sz' f g = none from e)]; rw [← h]
      | some q => rw [hs] at h; rw [← h] at he; exact absurd rfl he
theorem pairS_ok {b : BitVec 16} {f g : List (BitVec 16)} {p : BitVec 16 × BitVec 16 × Int} (h : pairS b (fun _ => 0) f g = p) (he : p.2.2 = 0) : ∀ o, srcFrom b cnt f g (some (p.1, p.2.1)) = o → pairS b cnt f g = match o with | none => (0#16, 0#16, 13) | some q => (q.1, q.2, 0) := by
  intro o ho
  unfold pairS at h ⊢
  by_cases h1 : valS f ≠ 0
  · rw [if_pos h1] at h; rw [← h] at he; exact absurd he h1
  · rw [if_neg h1] at h ⊢
    by_cases h2 : valS g ≠ 0
    · rw [if_pos h2] at h; rw [← h] at he; exact absurd he h2
    · rw [if_neg h2] at h ⊢
      cases hs : srcS b (fun _ => 0) f g with
      | none => rw [hs] at h; rw [← h] at he; exact absurd he (by decide)
      | some q =>
        rw [hs] at h
        have hq : (p.1, p.2.1) = q := by rw [← h]
        rw [hq] at ho
        have := src_from (sz := cnt) hs
        unfold srcS
        rw [← this, ho]
        cases o <;> rfl

set_option maxRecDepth 100000 in
set_option maxHeartbeats 4000000 in
theorem rleast_c (f g : List (BitVec 16)) (b : BitVec 16) (a : Option Addr) (n c : Nat) (a2 : Option Addr) (n2 c2 : Nat) (w : World) (h : Rd w a n c (f.map setV2)) (h2 : Rd w a2 n2 c2 (g.map setV2)) :
    Calls Tryd.prog 28 #[.slice a n c, .slice a2 n2 c2, .int .u16 (U b)] w fun e w' => e = .returned (.tuple #[.int .u16 (U (pairS b cnt f g).1), .int .u16 (U (pairS b cnt f g).2.1), .int .i64 (pairS b cnt f g).2.2]) ∧ Below w.heap.size w w' := by
  have hnl : f.length = n := by have := h.len; simp at this; omega
  have hnl2 : g.length = n2 := by have := h2.len; simp at this; omega
  have hm := h.max
  have hle := h.le
  have hm2 := h2.max
  have hle2 := h2.le
  unfold maxLen at hm hm2
  have HR := Lib.hid h
  have HR2 := Lib.hid h2
  have HN := Lib.hid hnl
  have HN2 := Lib.hid hnl2
  have HV := Lib.hid (rpair_c f g b a n c a2 n2 c2 w h h2)
  obtain ⟨R, hR⟩ : ∃ R, pairS b cnt f g = R := ⟨_, rfl⟩
  rw [hR]
  obtain ⟨P, hP⟩ : ∃ P, pairS b (fun _ => 0) f g = P := ⟨_, rfl⟩
  rw [hP] at HV
  obtain ⟨s0, t0, E⟩ := P
  simp only at HV
  by_cases hE0 : E = 0
  · subst hE0
    have HPX : Hid (∀ o, srcFrom b cnt f g (some (s0, t0)) = o → R = match o with | none => (0#16, 0#16, 13) | some q => (q.1, q.2, 0)) := Lib.hid (fun o ho => by rw [← hR]; exact pairS_ok hP rfl o ho)
    have HSZ := Lib.hid (fun x w => size8_c x w)
    clear h h2 hnl hnl2 hR hP
    go_enter Tryd.func28, Tryd.ntmps28
    go_wp2_with fail
    with_reducible refine HV.out.mono ?_
    rintro e w1 ⟨rfl, hb1⟩
    have HB1 := Lib.hid hb1
    clear hb1
    go_wp2_with fail
    go_loopw [9, 10, 12] (fun u v i wr => ∃ k : Nat, k ≤ n ∧ i = .int .i64 k ∧ (∃ s t, u = .int .u16 (U s) ∧ v = .int .u16 (U t) ∧ Hid (srcFrom b cnt (f.take k) g (some (s0, t0)) = some (s, t))) ∧ Below w.heap.size w wr) (fun _ _ i _ => n - (intOf i).toNat)
    case atStart => exact ⟨0, Nat.zero_le _, rfl, ⟨s0, t0, rfl, rfl, rfl⟩, HB1.out⟩
    case round =>
      obtain ⟨k, hk, rfl, ⟨s, t, rfl, rfl, ho⟩, hb⟩ := hrel
      by_cases hlt : k < n
      · obtain ⟨x, hx⟩ : ∃ x, f[k]? = some x := ⟨_, List.getElem?_eq_getElem (by have := HN.out; omega)⟩
        obtain ⟨bb, oo, ha, hcell⟩ := (HR.out.below hb).at' (by omega)
        have hc := hcell k (.int .u16 (U x)) (by rw [List.getElem?_map, hx]; rfl)
        have HST := Lib.hid (srcFrom_succ (b := b) (sz := cnt) (g := g) (o := some (s0, t0)) hx)
        subst ha
        clear hcell hx
        go_wp2_with fail
        have HB := Lib.hid hb
        have HCX := Lib.hid hc
        clear hb hc
        obtain ⟨W0, hW0⟩ : ∃ W0, W0 = wr := ⟨_, rfl⟩
        subst hW0
        go_loopw [9, 10, 13] (fun u v i wq => ∃ j : Nat, j ≤ n2 ∧ i = .int .i64 j ∧ (∃ s2 t2, u = .int .u16 (U s2) ∧ v = .int .u16 (U t2) ∧ Hid (srcRow b cnt x (g.take j) (some (s, t)) = some (s2, t2))) ∧ Below W0.heap.size W0 wq) (fun _ _ i _ => n2 - (intOf i).toNat)
        case atStart => exact ⟨0, Nat.zero_le _, rfl, ⟨s, t, rfl, rfl, rfl⟩, Below.refl _ _⟩
        case round =>
          obtain ⟨j, hj, rfl, ⟨s2, t2, rfl, rfl, ho2⟩, hbq⟩ := hrel
          by_cases hlt2 : j < n2
          · obtain ⟨y, hy⟩ : ∃ y, g[j]? = some y := ⟨_, List.getElem?_eq_getElem (by have := HN2.out; omega)⟩
            obtain ⟨b2, o2, ha2, hcell2⟩ := (HR2.out.below (Below.next HB.out hbq)).at' (by omega)
            have hc2 := hcell2 j (.int .u16 (U y)) (by rw [List.getElem?_map, hy]; rfl)
            have hstep : srcRow b cnt x (g.take (j + 1)) (some (s, t)) = srcStep b cnt (some (s2, t2)) x y := by rw [srcRow_succ hy, ho2.out]
            subst ha2
            clear hcell2 hy
            have hc1 := ((hbq.cell (p := ⟨bb, oo + k, none⟩) (cell_lt HCX.out)).trans HCX.out)
            have HBQ := Lib.hid hbq
            clear hbq
            cases hv : viol x y b
            · have hv2 : (x &&& y &&& ~~~b == 0#16) = false := hv
              rw [srcStep_miss hv] at hstep
              have HS := Lib.hid hstep
              clear hv hstep
              go_wp2_with fail
              go_quiet (fail)
              go_wp2_with fail
              go_roundw
              case rel => exact ⟨j + 1, by omega, by go_num, ⟨s2, t2, rfl, rfl, HS⟩, below_drewN HBQ.out⟩
              case measure => simp [intOf]; omega
            · have hv2 : (x &&& y &&& ~~~b == 0#16) = true := hv
              have HZ1 := Lib.hid (HSZ.out (x ||| y))
              have HZ2 := Lib.hid (HSZ.out (s2 ||| t2))
              by_cases hs : cnt (x ||| y) < cnt (s2 ||| t2)
              · have hstep2 : srcRow b cnt x (g.take (j + 1)) (some (s, t)) = some (x, y) := by rw [hstep]; unfold srcStep; rw [if_pos hv]; show (if _ then _ else _) = _; rw [if_pos hs]
                have HS := Lib.hid hstep2
                obtain ⟨z1, hs1⟩ : ∃ s, cnt (x ||| y) = s := ⟨_, rfl⟩
                obtain ⟨z2, hs2⟩ : ∃ s, cnt (s2 ||| t2) = s := ⟨_, rfl⟩
                rw [hs1] at HZ1 hs
                rw [hs2] at HZ2 hs
                have hd : decide (z1 < z2) = true := decide_eq_true hs
                clear hv hstep hstep2 hs1 hs2 hs
                go_wp2_with fail
                go_quiet ((go_at_call 52; first | (with_reducible exact Calls.quiet_of_same (HZ1.out _)) | (with_reducible exact Calls.quiet_of_same (HZ2.out _))))
                go_wp2_with fail
                go_quiet (fail)
                go_wp2_with fail
                go_roundw
                case rel => exact ⟨j + 1, by omega, by go_num, ⟨x, y, rfl, rfl, HS⟩, by first | exact below_drewN HBQ.out | exact below_drewN (below_drewN HBQ.out)⟩
                case measure => simp [intOf]; omega
              · have hstep2 : srcRow b cnt x (g.take (j + 1)) (some (s, t)) = some (s2, t2) := by rw [hstep]; unfold srcStep; rw [if_pos hv]; show (if _ then _ else _) = _; rw [if_neg hs]
                have HS := Lib.hid hstep2
                obtain ⟨z1, hs1⟩ : ∃ s, cnt (x ||| y) = s := ⟨_, rfl⟩
                obtain ⟨z2, hs2⟩ : ∃ s, cnt (s2 ||| t2) = s := ⟨_, rfl⟩
                rw [hs1] at HZ1 hs
                rw [hs2] at HZ2 hs
                have hd : decide (z1 < z2) = false := decide_eq_false hs
                clear hv hstep hstep2 hs1 hs2 hs
                go_wp2_with fail
                go_quiet ((go_at_call 52; first | (with_reducible exact Calls.quiet_of_same (HZ1.out _)) | (with_reducible exact Calls.quiet_of_same (HZ2.out _))))
                go_wp2_with fail
                go_roundw
                case rel => exact ⟨j + 1, by omega, by go_num, ⟨s2, t2, rfl, rfl, HS⟩, below_drewN HBQ.out⟩
                case measure => simp [intOf]; omega
          · obtain rfl : j = n2 := by omega
            have hall : srcFrom b cnt (f.take (k + 1)) g (some (s0, t0)) = some (s2, t2) := by
              have h1 := ho2.out
              rw [List.take_of_length_le (by have := HN2.out; omega)] at h1
              rw [HST.out, ho.out]; exact h1
            have HALL := Lib.hid hall
            have HBQ := Lib.hid hbq
            clear hall hbq ho ho2
            go_wp2_with fail
            go_roundw
            case rel => exact ⟨k + 1, by omega, by go_num, ⟨s2, t2, rfl, rfl, HALL⟩, Below.next HB.out HBQ.out⟩
            case measure => simp [intOf]; omega
      · obtain rfl : k = n := by omega
        have HRR : Hid (R = (s, t, 0)) := Lib.hid (HPX.out (some (s, t)) (by
          have h1 := ho.out
          rw [List.take_of_length_le (by have := HN.out; omega)] at h1
          exact h1))
        clear ho
        go_wp2_with fail
        go_ret3
        rw [HRR.out]
        exact ⟨rfl, hb⟩
  · have hne : (E != 0) = true := by simpa using hE0
    have HRR : Hid (R = (0#16, 0#16, E)) := Lib.hid (by rw [← hR]; exact pairS_err hP hE0)
    clear h h2 hR hP hE0
    go_enter Tryd.func28, Tryd.ntmps28
    go_wp2_with fail
    with_reducible refine HV.out.mono ?_
    rintro e w1 ⟨rfl, hb1⟩
    have HB1 := Lib.hid hb1
    clear hb1
    go_wp2_with fail
    go_ret3
    rw [HRR.out]
    exact ⟨rfl, HB1.out⟩
end Go.Proofs.YtflpkkebampmfaaDoor
namespace Go.Proofs.YtflpkkebampmfaaDoor
open Go.RowKit Go.Shelf

theorem Tryd.infoSet2 : (Tryd.prog.info? 26).map (fun i => (i.zero, i.size, i.bytes)) = some (some (.int .u16 0), 1, 2) := by kernel_rfl
set_option maxRecDepth 100000 in
set_option maxHeartbeats 1000000 in
theorem clones_c (l : List (BitVec 16)) (a : Option Addr) (n c : Nat) (w : World) (h : Rd w a n c (l.map setV2)) (hb : n ≤ 1000000) :
    Calls Tryd.prog 25 #[.slice a n c] w fun e w' => ∃ a' c', e = .returned (.slice a' n c') ∧ Rd w' a' n c' (l.map setV2) ∧ Below w.heap.size w w' := by
  have hlen : (l.map setV2).length = n := h.len.symm
  cases a with
  | none =>
    have hc := h.nil rfl
    have hn : n = 0 := by have := h.le; omega
    subst hc hn
    have hl : l = [] := by simpa using hlen
    subst hl
    clear h hlen hb
    have q : ∀ (w : World) (a : Option Addr) (n c n' c' : Nat), (binOp .eql 52 (.slice a n c) (.slice none n' c')).run Tryd.prog w = .ok (.bool a.isNone) w := fun w a n c n' c' => Lib.run_eql_slice_nil w _ _ a n c n' c' Tryd.underlying52
    go_enter Tryd.func25, Tryd.ntmps25
    go_wp2
    go_ret
    exact ⟨_, _, rfl, Rd.none_ _, Below.refl _ _⟩
  | some ad =>
    have hh := Lib.hid h
    have hl2 := Lib.hid hlen
    clear h hlen
    have q : ∀ (w : World) (a : Option Addr) (n c n' c' : Nat), (binOp .eql 52 (.slice a n c) (.slice none n' c')).run Tryd.prog w = .ok (.bool a.isNone) w := fun w a n c n' c' => Lib.run_eql_slice_nil w _ _ a n c n' c' Tryd.underlying52
    go_enter Tryd.func25, Tryd.ntmps25
    go_wp2_with (at_builtin; go_must (refine wpList_apps _ _ 52 2 (.int .u16 0) _ _ _ (l.map setV2) Tryd.underlying52 Tryd.infoSet2 rfl (World.ownsRow_made w #[] 0 (Nat.le_refl _) (Nat.zero_le _) rfl) ((Below.refl _ w).alloc (Nat.le_refl _) _) (Nat.le_refl _) (hh.out.below ((Below.refl _ w).alloc (Nat.le_refl _) _)) (by intro u hu; obtain ⟨_, _, rfl⟩ := List.mem_map.1 hu; rfl) rfl rfl rfl rfl (by unfold maxLen; simp; omega) (by simp; omega) ?_))
    intro v' w1 hown1 hb1 _
    have hown2 : w1.ownsRow w.heap.size 26 1 v' n (l.map setV2) := by simpa using hown1
    obtain ⟨a', c', rfl, hr⟩ := rd_of_row hown2
    have HRR := Lib.hid hr
    clear hb hown1 hown2 hr
    go_wp2
    go_ret
    exact ⟨_, _, rfl, HRR.out, hb1⟩
end Go.Proofs.YtflpkkebampmfaaDoor
namespace Go.Proofs.YtflpkkebampmfaaDoor
open Go.RowKit

inductive IsInts (k : IntKind) (W : World) : Option Addr → Nat → Nat → List Int → Prop
  | nil : IsInts k W none 0 0 []
  | row {a : Addr} {len cap : Nat} {zs : List Int} (hl : len ≤ cap) (hm : cap ≤ maxLen) (hz : zs.length = cap)
      (hcell : ∀ i, i < zs.length → W.cell? (a.add i) = some (.int k (zs.getD i 0))) (hwz : ∀ n ∈ zs, (Lit.int k n).wf = true) : IsInts k W (some a) len cap (zs.take len)

theorem IsInts.rd {k : IntKind} {W : World} {a : Option Addr} {n c : Nat} {l : List Int} (h : IsInts k W a n c l) : Rd W a n c (l.map (Value.int k)) := by
  cases h with
  | nil => exact Rd.none_ W
  | @row a len cap zs hl hm hz hcell hwz =>
    refine ⟨by simp; omega, hl, hm, fun h => (by cases h), fun hn => ?_⟩
    have h0 := hcell 0 (by omega)
    have ha : a = ⟨a.block, a.off, none⟩ := by
      have : a.add 0 = a := by simp [Addr.add]
      rw [this] at h0
      unfold World.cell? at h0
      cases hs : a.spot with
      | none => cases a; simp_all
      | some s => rw [hs] at h0; split at h0 <;> simp at h0
    refine ⟨a.block, a.off, by rw [← ha], fun i v hv => ?_⟩
    have hi := (List.getElem?_eq_some_iff.1 hv).1
    have hi : i < n ∧ i < zs.length := by simp at hi; omega
    have h1 := hcell i (by omega)
    rw [ha] at h1
    rw [Addr.add_lit] at h1
    rw [h1]
    rw [List.getElem?_map, List.getElem?_take_of_lt hi.1, List.getElem?_eq_getElem hi.2] at hv
    simp at hv
    simp [List.getD, List.getElem?_eq_getElem hi.2, hv]
theorem IsInts.wf {k : IntKind} {W : World} {a : Option Addr} {n c : Nat} {l : List Int} (h : IsInts k W a n c l) : ∀ z ∈ l, (Lit.int k z).wf = true := by
  cases h with
  | nil => intro z hz; cases hz
  | row hl hm hz hcell hwz => exact fun z hz => hwz z (List.mem_of_mem_take hz)
theorem IsInts.len {k : IntKind} {W : World} {a : Option Addr} {n c : Nat} {l : List Int} (h : IsInts k W a n c l) : l.length = n := by
  cases h with
  | nil => rfl
  | row hl hm hz hcell hwz => simp; omega
end Go.Proofs.YtflpkkebampmfaaDoor
namespace Go.Proofs.YtflpkkebampmfaaDoor
open Go.RowKit Go.Shelf

theorem sets_of {W : World} {a : Option Addr} {n c : Nat} {l : List Int} (h : IsInts .u16 W a n c l) : ∃ L : List (BitVec 16), Rd W a n c (L.map setV2) ∧ L.length = n := by
  have hr := h.rd
  have hw := h.wf
  have : ∃ L : List (BitVec 16), l = L.map U := by
    clear hr h
    induction l with
    | nil => exact ⟨[], rfl⟩
    | cons x l ih =>
      obtain ⟨L, rfl⟩ := ih (fun z hz => hw z (List.mem_cons_of_mem _ hz))
      obtain ⟨y, rfl⟩ : ∃ y, x = U y := by
        have h := hw x (by simp)
        apply U_of
        simp [Lit.wf, IntKind.min, IntKind.max, IntKind.bits, IntKind.signed] at h
        omega
      exact ⟨y :: L, rfl⟩
  obtain ⟨L, rfl⟩ := this
  refine ⟨L, by rw [List.map_map] at hr; exact hr, by have := h.len; simpa using this⟩
theorem U_of_wf {a : Int} (h : (Lit.int .u16 a).wf = true) : ∃ x : BitVec 16, a = U x := by
  apply U_of
  simp [Lit.wf, IntKind.min, IntKind.max, IntKind.bits, IntKind.signed] at h
  omega

set_option maxRecDepth 100000 in
set_option maxHeartbeats 4000000 in
theorem families_w (a : Option Addr) (len cap : Nat) (z : List Int) (a2 : Option Addr) (len2 cap2 : Nat) (z2 : List Int) (bi : Int) (w : World) (ht : HasTab w) (hr : HasRng w) (hy : HasSyn w) (w0 : IsInts .u16 w a len cap z) (w1 : IsInts .u16 w a2 len2 cap2 z2) (w2 : (Lit.int .u16 bi).wf = true) :
    Calls Tryd.prog 7 #[.slice a len cap, .slice a2 len2 cap2, .int .u16 bi] w fun e w' => e = .returned (.bool true) ∧ Below w.heap.size w w' := by
  obtain ⟨L, hL, hlen⟩ := sets_of w0
  obtain ⟨M, hM, hlen2⟩ := sets_of w1
  obtain ⟨b, rfl⟩ := U_of_wf w2
  have HL := Lib.hid hL
  have HM := Lib.hid hM
  have HA := Lib.hid (fun u (hb : Below w.heap.size w u) => awake20_c u (ht.below hb) (hr.below hb) (hy.below hb))
  clear w0 w1 w2 hL hM hlen hlen2 ht hr hy
  by_cases h1 : (30 : Int) < (len : Int)
  · have d1 : decide ((30 : Int) < (len : Int)) = true := decide_eq_true h1
    clear h1
    go_enter Tryd.func7, Tryd.ntmps7
    go_wp2_with fail
    with_reducible refine (HA.out w (Below.refl _ _)).mono ?_
    rintro e w1 ⟨rfl, b1⟩
    go_wp2_with fail
    with_reducible refine (HA.out w1 b1).mono ?_
    rintro e w2 ⟨rfl, b2⟩
    go_wp2_with fail
    go_ret
    exact ⟨rfl, Below.next b1 b2⟩
  have d1 : decide ((30 : Int) < (len : Int)) = false := decide_eq_false h1
  by_cases h2 : (30 : Int) < (len2 : Int)
  · have d2 : decide ((30 : Int) < (len2 : Int)) = true := decide_eq_true h2
    clear h1 h2
    go_enter Tryd.func7, Tryd.ntmps7
    go_wp2_with fail
    with_reducible refine (HA.out w (Below.refl _ _)).mono ?_
    rintro e w1 ⟨rfl, b1⟩
    go_wp2_with fail
    with_reducible refine (HA.out w1 b1).mono ?_
    rintro e w2 ⟨rfl, b2⟩
    go_wp2_with fail
    go_ret
    exact ⟨rfl, Below.next b1 b2⟩
  have d2 : decide ((30 : Int) < (len2 : Int)) = false := decide_eq_false h2
  have H1 := Lib.hid (fun u (hb : Below w.heap.size w u) => families_c L M b a len cap a2 len2 cap2 u (HL.out.below hb) (HM.out.below hb))
  have H2 := Lib.hid (fun u (hb : Below w.heap.size w u) => rfamilies_c L M b a len cap a2 len2 cap2 u (HL.out.below hb) (HM.out.below hb))
  have H3 := Lib.hid (fun u (hb : Below w.heap.size w u) => families_c M L b a2 len2 cap2 a len cap u (HM.out.below hb) (HL.out.below hb))
  rw [famsB_comm] at H3
  obtain ⟨V, hV⟩ : ∃ V, famsB L M b = V := ⟨_, rfl⟩
  rw [hV] at H1 H2 H3
  have hvv : (V == V) = true := by simp
  clear h1 h2 hV
  go_enter Tryd.func7, Tryd.ntmps7
  go_wp2_with fail
  with_reducible refine (HA.out w (Below.refl _ _)).mono ?_
  rintro e w1 ⟨rfl, b1⟩
  go_wp2_with fail
  with_reducible refine (H1.out w1 b1).mono ?_
  rintro e w2 ⟨rfl, b2⟩
  have b2 := Below.next b1 b2
  clear b1
  go_wp2_with fail
  with_reducible refine (H2.out w2 b2).mono ?_
  rintro e w3 ⟨rfl, b3⟩
  have b3 := Below.next b2 b3
  clear b2
  go_wp2_with fail
  with_reducible refine (H3.out w3 b3).mono ?_
  rintro e w4 ⟨rfl, b4⟩
  have b4 := Below.next b3 b4
  clear b3
  go_wp2_with fail
  with_reducible refine (H2.out w4 b4).mono ?_
  rintro e w5 ⟨rfl, b5⟩
  have b5 := Below.next b4 b5
  clear b4
  go_wp2_with fail
  go_ret
  exact ⟨by first | rfl | simp, b5⟩

set_option maxRecDepth 100000 in
set_option maxHeartbeats 4000000 in
theorem pair_w (a : Option Addr) (len cap : Nat) (z : List Int) (a2 : Option Addr) (len2 cap2 : Nat) (z2 : List Int) (bi : Int) (w : World) (ht : HasTab w) (hr : HasRng w) (hy : HasSyn w) (w0 : IsInts .u16 w a len cap z) (w1 : IsInts .u16 w a2 len2 cap2 z2) (w2 : (Lit.int .u16 bi).wf = true) :
    Calls Tryd.prog 8 #[.slice a len cap, .slice a2 len2 cap2, .int .u16 bi] w fun e w' => e = .returned (.bool true) ∧ Below w.heap.size w w' := by
  obtain ⟨L, hL, hlen⟩ := sets_of w0
  obtain ⟨M, hM, hlen2⟩ := sets_of w1
  obtain ⟨b, rfl⟩ := U_of_wf w2
  have HL := Lib.hid hL
  have HM := Lib.hid hM
  have HA := Lib.hid (fun u (hb : Below w.heap.size w u) => awake20_c u (ht.below hb) (hr.below hb) (hy.below hb))
  clear w0 w1 w2 hL hM hlen hlen2 ht hr hy
  by_cases h1 : (30 : Int) < (len : Int)
  · have d1 : decide ((30 : Int) < (len : Int)) = true := decide_eq_true h1
    clear h1
    go_enter Tryd.func8, Tryd.ntmps8
    go_wp2_with fail
    with_reducible refine (HA.out w (Below.refl _ _)).mono ?_
    rintro e w1 ⟨rfl, b1⟩
    go_wp2_with fail
    with_reducible refine (HA.out w1 b1).mono ?_
    rintro e w2 ⟨rfl, b2⟩
    go_wp2_with fail
    go_ret
    exact ⟨rfl, Below.next b1 b2⟩
  have d1 : decide ((30 : Int) < (len : Int)) = false := decide_eq_false h1
  by_cases h2 : (30 : Int) < (len2 : Int)
  · have d2 : decide ((30 : Int) < (len2 : Int)) = true := decide_eq_true h2
    clear h1 h2
    go_enter Tryd.func8, Tryd.ntmps8
    go_wp2_with fail
    with_reducible refine (HA.out w (Below.refl _ _)).mono ?_
    rintro e w1 ⟨rfl, b1⟩
    go_wp2_with fail
    with_reducible refine (HA.out w1 b1).mono ?_
    rintro e w2 ⟨rfl, b2⟩
    go_wp2_with fail
    go_ret
    exact ⟨rfl, Below.next b1 b2⟩
  have d2 : decide ((30 : Int) < (len2 : Int)) = false := decide_eq_false h2
  have HC1 := Lib.hid (fun u (hb : Below w.heap.size w u) => clones_c L a len cap u (HL.out.below hb) (by omega))
  have HC2 := Lib.hid (fun u (hb : Below w.heap.size w u) => clones_c M a2 len2 cap2 u (HM.out.below hb) (by omega))
  have HP := Lib.hid (fun a n c a2 n2 c2 u h h2 => pair_c L M b a n c a2 n2 c2 u h h2)
  have HQ := Lib.hid (fun a n c a2 n2 c2 u h h2 => least_c L M b a n c a2 n2 c2 u h h2)
  have HRP := Lib.hid (fun u (hb : Below w.heap.size w u) => rpair_c L M b a len cap a2 len2 cap2 u (HL.out.below hb) (HM.out.below hb))
  have HRQ := Lib.hid (fun u (hb : Below w.heap.size w u) => rleast_c L M b a len cap a2 len2 cap2 u (HL.out.below hb) (HM.out.below hb))
  obtain ⟨⟨x1, y1, e1⟩, hV⟩ : ∃ V, pairS b (fun _ => 0) L M = V := ⟨_, rfl⟩
  obtain ⟨⟨x2, y2, e2⟩, hV2⟩ : ∃ V, pairS b cnt L M = V := ⟨_, rfl⟩
  rw [hV] at HP HRP
  rw [hV2] at HQ HRQ
  simp only at HP HRP HQ HRQ
  clear h1 h2 hV hV2
  have k1 : (x1 == x1) = true := by simp
  have k2 : (y1 == y1) = true := by simp
  have k3 : (e1 == e1) = true := by simp
  have k4 : (x2 == x2) = true := by simp
  have k5 : (y2 == y2) = true := by simp
  have k6 : (e2 == e2) = true := by simp
  go_enter Tryd.func8, Tryd.ntmps8
  go_wp2_with fail
  with_reducible refine (HA.out w (Below.refl _ _)).mono ?_
  rintro e w1 ⟨rfl, b1⟩
  go_wp2_with fail
  refine (HC1.out w1 b1).mono ?_
  rintro e wv1 ⟨a3, c3, rfl, rR3, h1⟩
  have bv1 := Below.next b1 h1
  have R3 := Lib.hid rR3
  clear rR3 h1
  go_wp2_with fail
  refine (HC2.out wv1 bv1).mono ?_
  rintro e wv2 ⟨a4, c4, rfl, rR4, h2⟩
  have bv2 := Below.next bv1 h2
  have R3_2 := Lib.hid (R3.out.below h2)
  have R4 := Lib.hid rR4
  clear rR4 h2
  go_wp2_with fail
  refine (HP.out a3 len c3 a4 len2 c4 wv2 R3_2.out R4.out).mono ?_
  rintro e wv3 ⟨rfl, h3⟩
  have bv3 := Below.next bv2 h3
  clear h3
  go_wp2_with fail
  refine (HRP.out wv3 bv3).mono ?_
  rintro e wv4 ⟨rfl, h4⟩
  have bv4 := Below.next bv3 h4
  clear h4
  go_wp2_with fail
  refine (HC1.out wv4 bv4).mono ?_
  rintro e wv5 ⟨a5, c5, rfl, rR5, h5⟩
  have bv5 := Below.next bv4 h5
  have R5 := Lib.hid rR5
  clear rR5 h5
  go_wp2_with fail
  refine (HC2.out wv5 bv5).mono ?_
  rintro e wv6 ⟨a6, c6, rfl, rR6, h6⟩
  have bv6 := Below.next bv5 h6
  have R5_6 := Lib.hid (R5.out.below h6)
  have R6 := Lib.hid rR6
  clear rR6 h6
  go_wp2_with fail
  refine (HQ.out a5 len c5 a6 len2 c6 wv6 R5_6.out R6.out).mono ?_
  rintro e wv7 ⟨rfl, h7⟩
  have bv7 := Below.next bv6 h7
  clear h7
  go_wp2_with fail
  refine (HRQ.out wv7 bv7).mono ?_
  rintro e wv8 ⟨rfl, h8⟩
  have bv8 := Below.next bv7 h8
  clear h8
  go_wp2_with fail
  go_ret
  exact ⟨(by first | rfl | (simp; done)), bv8⟩
end Go.Proofs.YtflpkkebampmfaaDoor
