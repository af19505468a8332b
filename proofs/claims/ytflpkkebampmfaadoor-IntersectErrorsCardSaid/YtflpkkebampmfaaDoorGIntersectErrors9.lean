/- Texts laid together. intersect.search, Pair, Least. Layer 20: the examples' expression; what the examples answer. Layer 20: awake (printed by aw20.py). Drafts in memory; nodes whose lists lie where nothing is being built. Plain lemmas over the model, no program. Nodes that lie in a range of blocks: they read the same in every world that agrees there. Plain lemmas over the model, no program. Two expressions made into boxes of their own, in whatever order. Plain lemmas over the model. A handed slice of integers, as a law's frame opens it. -/
import Derived.Test.YtflpkkebampmfaaDoorGIntersectErrors1
import Derived.Test.YtflpkkebampmfaaDoorGIntersectErrors4
import Derived.Test.YtflpkkebampmfaaDoorGIntersectErrors5
import Derived.Test.YtflpkkebampmfaaDoorGIntersectErrors7
import Derived.Test.YtflpkkebampmfaaDoorGIntersectErrors8
import Derived.Test.YtflpkkebampmfaaDoorProg
import Derived.Deep.RegionHeld3
namespace Go.Proofs.YtflpkkebampmfaaDoor
open Go.RowKit Go.Shelf

def oA : Option (BitVec 16 × BitVec 16) → BitVec 16
  | none => 0#16
  | some p => p.1
def oB : Option (BitVec 16 × BitVec 16) → BitVec 16
  | none => 0#16
  | some p => p.2
/-- a function value that answers a size -/
def SzAt (g : Nat) (lb : Array Value) (sz : BitVec 16 → Nat) : Prop := ∀ (z : BitVec 16) (W : World), Calls Tryd.prog g (#[.int .u16 (U z)] ++ lb) W fun e w' => e = .returned (.int .i64 (sz z)) ∧ ∃ q, w' = W.drewN q

set_option maxRecDepth 100000 in
set_option maxHeartbeats 4000000 in
theorem search_c (G : Nat) (lb : Array Value) (eg : ∀ args w, (callFunc G args).run Tryd.prog w = .ok (.enter G args) w) (sz : BitVec 16 → Nat) (hsz : SzAt G lb sz)
    (f g : List (BitVec 16)) (b : BitVec 16) (a : Option Addr) (n c : Nat) (a2 : Option Addr) (n2 c2 : Nat) (w : World) (h : Rd w a n c (f.map setV2)) (h2 : Rd w a2 n2 c2 (g.map setV2)) :
    Calls Tryd.prog 47 #[.slice a n c, .slice a2 n2 c2, .int .u16 (U b), .func (.func G) #[] lb] w fun e w' => e = .returned (.tuple #[.int .u16 (U (pairS b sz f g).1), .int .u16 (U (pairS b sz f g).2.1), .int .i64 (pairS b sz f g).2.2]) ∧ Below w.heap.size w w' := by
  have hnl : f.length = n := by have := h.len; simp at this; omega
  have hnl2 : g.length = n2 := by have := h2.len; simp at this; omega
  have hm := h.max
  have hle := h.le
  have hm2 := h2.max
  have hle2 := h2.le
  unfold maxLen at hm hm2
  have HR := Lib.hid h
  have HR2 := Lib.hid h2
  have HN := Lib.hid hnl
  have HN2 := Lib.hid hnl2
  have HSZ := Lib.hid hsz
  have HV1 := Lib.hid (valid_c f a n c w h)
  obtain ⟨R, hR⟩ : ∃ R, pairS b sz f g = R := ⟨_, rfl⟩
  rw [hR]
  have HPR := Lib.hid hR
  clear h h2 hnl hnl2 hsz hR
  obtain ⟨E1, hE1⟩ : ∃ E, valS f = E := ⟨_, rfl⟩
  obtain ⟨E2, hE2⟩ : ∃ E, valS g = E := ⟨_, rfl⟩
  rw [hE1] at HV1
  by_cases h1 : E1 = 0
  · subst h1
    by_cases h2 : E2 = 0
    · subst h2
      have HPS : Hid (R = match srcS b sz f g with | none => (0#16, 0#16, 13) | some p => (p.1, p.2, 0)) := by
        show R = _
        rw [← HPR.out]; unfold pairS; rw [if_neg (by rw [hE1]; simp), if_neg (by rw [hE2]; simp)]; rfl
      have HG0 := Lib.hid hE2
      clear hE1 hE2
      go_enter Tryd.func47, Tryd.ntmps47
      go_wp2_with fail
      with_reducible refine HV1.out.mono ?_
      rintro e w1 ⟨rfl, hb1⟩
      have HV2 := Lib.hid (valid_c g a2 n2 c2 w1 (HR2.out.below hb1))
      rw [HG0.out] at HV2
      have HB1 := Lib.hid hb1
      clear hb1
      go_wp2_with fail
      with_reducible refine HV2.out.mono ?_
      rintro e w2 ⟨rfl, hb2⟩
      have HB2 := Lib.hid (Below.next HB1.out hb2)
      clear hb2
      go_wp2_with fail
      go_loopw [13, 14, 15, 32] (fun u v z i wr => ∃ k : Nat, k ≤ n ∧ i = .int .i64 k ∧ (∃ o, u = .int .u16 (U (oA o)) ∧ v = .int .u16 (U (oB o)) ∧ z = .bool o.isSome ∧ Hid (srcFrom b sz (f.take k) g none = o)) ∧ Below w.heap.size w wr) (fun _ _ _ i _ => n - (intOf i).toNat)
      case atStart => exact ⟨0, Nat.zero_le _, rfl, ⟨none, rfl, rfl, rfl, rfl⟩, HB2.out⟩
      case round =>
        obtain ⟨k, hk, rfl, ⟨o, rfl, rfl, rfl, ho⟩, hb⟩ := hrel
        by_cases hlt : k < n
        · obtain ⟨x, hx⟩ : ∃ x, f[k]? = some x := ⟨_, List.getElem?_eq_getElem (by have := HN.out; omega)⟩
          obtain ⟨bb, oo, ha, hcell⟩ := (HR.out.below hb).at' (by omega)
          have hc := hcell k (.int .u16 (U x)) (by rw [List.getElem?_map, hx]; rfl)
          have HST := Lib.hid (srcFrom_succ (b := b) (sz := sz) (g := g) (o := none) hx)
          subst ha
          clear hcell hx
          go_wp2_with fail
          have HB := Lib.hid hb
          clear hb hc
          obtain ⟨W0, hW0⟩ : ∃ W0, W0 = wr := ⟨_, rfl⟩
          subst hW0
          go_loopw [13, 14, 15, 38] (fun u v z i wq => ∃ j : Nat, j ≤ n2 ∧ i = .int .i64 j ∧ (∃ o2, u = .int .u16 (U (oA o2)) ∧ v = .int .u16 (U (oB o2)) ∧ z = .bool o2.isSome ∧ Hid (srcRow b sz x (g.take j) o = o2)) ∧ Below W0.heap.size W0 wq) (fun _ _ _ i _ => n2 - (intOf i).toNat)
          case atStart => exact ⟨0, Nat.zero_le _, rfl, ⟨o, rfl, rfl, rfl, rfl⟩, Below.refl _ _⟩
          case round =>
            obtain ⟨j, hj, rfl, ⟨o2, rfl, rfl, rfl, ho2⟩, hbq⟩ := hrel
            by_cases hlt2 : j < n2
            · obtain ⟨y, hy⟩ : ∃ y, g[j]? = some y := ⟨_, List.getElem?_eq_getElem (by have := HN2.out; omega)⟩
              obtain ⟨b2, o3, ha2, hcell2⟩ := (HR2.out.below (Below.next HB.out hbq)).at' (by omega)
              have hc2 := hcell2 j (.int .u16 (U y)) (by rw [List.getElem?_map, hy]; rfl)
              have hstep : srcRow b sz x (g.take (j + 1)) o = srcStep b sz o2 x y := by rw [srcRow_succ hy, ho2.out]
              subst ha2
              have HV := Lib.hid (violated_c x y b wr)
              have HBQ := Lib.hid hbq
              clear hcell2 hy hbq
              cases hv : viol x y b
              · rw [hv] at HV
                rw [srcStep_miss hv] at hstep
                have HS := Lib.hid hstep
                clear hv hstep
                go_wp2_with fail
                with_reducible refine HV.out.mono ?_
                rintro e w5 ⟨rfl, rfl⟩
                go_wp2_with fail
                go_roundw
                case rel => exact ⟨j + 1, by omega, by go_num, ⟨o2, rfl, rfl, rfl, HS⟩, HBQ.out⟩
                case measure => simp [intOf]; omega
              · rw [hv] at HV
                cases o2 with
                | none =>
                  have hstep2 : srcRow b sz x (g.take (j + 1)) o = some (x, y) := by rw [hstep]; unfold srcStep; rw [if_pos hv]
                  have HS := Lib.hid hstep2
                  have hsome : (none : Option (BitVec 16 × BitVec 16)).isSome = false := rfl
                  rw [hsome]
                  clear hv hstep hstep2
                  go_wp2_with fail
                  with_reducible refine HV.out.mono ?_
                  rintro e w5 ⟨rfl, rfl⟩
                  go_wp2_with fail
                  go_roundw
                  case rel => exact ⟨j + 1, by omega, by go_num, ⟨some (x, y), rfl, rfl, rfl, HS⟩, HBQ.out⟩
                  case measure => simp [intOf]; omega
                | some p =>
                  obtain ⟨p1, p2⟩ := p
                  have hsome : (some (p1, p2) : Option (BitVec 16 × BitVec 16)).isSome = true := rfl
                  have hoA : oA (some (p1, p2)) = p1 := rfl
                  have hoB : oB (some (p1, p2)) = p2 := rfl
                  rw [hsome, hoA, hoB]
                  have HZ1 := Lib.hid (HSZ.out (x ||| y))
                  have HZ2 := Lib.hid (HSZ.out (p1 ||| p2))
                  by_cases hs : sz (x ||| y) < sz (p1 ||| p2)
                  · have hstep2 : srcRow b sz x (g.take (j + 1)) o = some (x, y) := by rw [hstep]; unfold srcStep; rw [if_pos hv]; show (if _ then _ else _) = _; rw [if_pos hs]
                    have HS := Lib.hid hstep2
                    obtain ⟨s1, hs1⟩ : ∃ s, sz (x ||| y) = s := ⟨_, rfl⟩
                    obtain ⟨s2, hs2⟩ : ∃ s, sz (p1 ||| p2) = s := ⟨_, rfl⟩
                    rw [hs1] at HZ1 hs
                    rw [hs2] at HZ2 hs
                    have hd : decide (s1 < s2) = true := decide_eq_true hs
                    clear hv hstep hstep2 hs1 hs2 hs
                    go_wp2_with fail
                    with_reducible refine HV.out.mono ?_
                    rintro e w5 ⟨rfl, rfl⟩
                    go_wp2_with fail
                    with_reducible refine (HZ1.out _).mono ?_
                    rintro e w6 ⟨rfl, q6, rfl⟩
                    go_wp2_with fail
                    with_reducible refine (HZ2.out _).mono ?_
                    rintro e w7 ⟨rfl, q7, rfl⟩
                    go_wp2_with fail
                    go_roundw
                    case rel => exact ⟨j + 1, by omega, by go_num, ⟨some (x, y), rfl, rfl, rfl, HS⟩, below_drewN HBQ.out⟩
                    case measure => simp [intOf]; omega
                  · have hstep2 : srcRow b sz x (g.take (j + 1)) o = some (p1, p2) := by rw [hstep]; unfold srcStep; rw [if_pos hv]; show (if _ then _ else _) = _; rw [if_neg hs]
                    have HS := Lib.hid hstep2
                    obtain ⟨s1, hs1⟩ : ∃ s, sz (x ||| y) = s := ⟨_, rfl⟩
                    obtain ⟨s2, hs2⟩ : ∃ s, sz (p1 ||| p2) = s := ⟨_, rfl⟩
                    rw [hs1] at HZ1 hs
                    rw [hs2] at HZ2 hs
                    have hd : decide (s1 < s2) = false := decide_eq_false hs
                    clear hv hstep hstep2 hs1 hs2 hs
                    go_wp2_with fail
                    with_reducible refine HV.out.mono ?_
                    rintro e w5 ⟨rfl, rfl⟩
                    go_wp2_with fail
                    with_reducible refine (HZ1.out _).mono ?_
                    rintro e w6 ⟨rfl, q6, rfl⟩
                    go_wp2_with fail
                    with_reducible refine (HZ2.out _).mono ?_
                    rintro e w7 ⟨rfl, q7, rfl⟩
                    go_wp2_with fail
                    go_roundw
                    case rel => exact ⟨j + 1, by omega, by go_num, ⟨some (p1, p2), rfl, rfl, rfl, HS⟩, below_drewN HBQ.out⟩
                    case measure => simp [intOf]; omega
            · obtain rfl : j = n2 := by omega
              have hall : srcFrom b sz (f.take (k + 1)) g none = o2 := by
                have h1 := ho2.out
                rw [List.take_of_length_le (by have := HN2.out; omega)] at h1
                rw [HST.out, ho.out]; exact h1
              have HALL := Lib.hid hall
              have HBQ := Lib.hid hbq
              clear hall hbq ho ho2
              go_wp2_with fail
              go_roundw
              case rel => exact ⟨k + 1, by omega, by go_num, ⟨o2, rfl, rfl, rfl, HALL⟩, Below.next HB.out HBQ.out⟩
              case measure => simp [intOf]; omega
        · obtain rfl : k = n := by omega
          have hall : srcS b sz f g = o := by
            have h1 := ho.out
            rw [List.take_of_length_le (by have := HN.out; omega)] at h1
            exact h1
          have hRR := HPS.out
          rw [hall] at hRR
          have HBQ := Lib.hid hb
          clear hall hb ho
          cases o with
          | none =>
            have hsome : (none : Option (BitVec 16 × BitVec 16)).isSome = false := rfl
            rw [hsome]
            have HRR : Hid (R = (0#16, 0#16, 13)) := hRR
            clear hRR
            go_wp2_with fail
            go_ret3
            rw [HRR.out]
            exact ⟨rfl, HBQ.out⟩
          | some p =>
            obtain ⟨p1, p2⟩ := p
            have hsome : (some (p1, p2) : Option (BitVec 16 × BitVec 16)).isSome = true := rfl
            have hoA : oA (some (p1, p2)) = p1 := rfl
            have hoB : oB (some (p1, p2)) = p2 := rfl
            rw [hsome, hoA, hoB]
            have HRR : Hid (R = (p1, p2, 0)) := hRR
            clear hRR
            go_wp2_with fail
            go_ret3
            rw [HRR.out]
            exact ⟨rfl, HBQ.out⟩
    · have HRR : Hid (R = (0#16, 0#16, E2)) := by
        show R = _
        rw [← HPR.out]; unfold pairS; rw [if_neg (by rw [hE1]; simp), if_pos (by rw [hE2]; exact h2), hE2]
      have HG0 := Lib.hid hE2
      have hne : (E2 != 0) = true := by simpa using h2
      clear hE1 hE2 h2
      go_enter Tryd.func47, Tryd.ntmps47
      go_wp2_with fail
      with_reducible refine HV1.out.mono ?_
      rintro e w1 ⟨rfl, hb1⟩
      have HV2 := Lib.hid (valid_c g a2 n2 c2 w1 (HR2.out.below hb1))
      rw [HG0.out] at HV2
      have HB1 := Lib.hid hb1
      clear hb1
      go_wp2_with fail
      with_reducible refine HV2.out.mono ?_
      rintro e w2 ⟨rfl, hb2⟩
      have HB2 := Lib.hid (Below.next HB1.out hb2)
      clear hb2
      go_wp2_with fail
      go_ret3
      rw [HRR.out]
      exact ⟨rfl, HB2.out⟩
  · have HRR : Hid (R = (0#16, 0#16, E1)) := by
      show R = _
      rw [← HPR.out]; unfold pairS; rw [if_pos (by rw [hE1]; exact h1), hE1]
    have hne : (E1 != 0) = true := by simpa using h1
    clear hE1 hE2 h1
    go_enter Tryd.func47, Tryd.ntmps47
    go_wp2_with fail
    with_reducible refine HV1.out.mono ?_
    rintro e w1 ⟨rfl, hb1⟩
    have HB1 := Lib.hid hb1
    clear hb1
    go_wp2_with fail
    go_ret3
    rw [HRR.out]
    exact ⟨rfl, HB1.out⟩

theorem pair1_at : SzAt 48 #[] (fun _ => 0) := fun z W => by
  show Calls Tryd.prog 48 #[.int .u16 (U z)] W _
  go_enter Tryd.func48, Tryd.ntmps48
  go_wp2_with fail
  go_ret
  exact ⟨rfl, 0, rfl⟩
theorem least1_at : SzAt 50 #[] cnt := fun z W => by
  show Calls Tryd.prog 50 #[.int .u16 (U z)] W _
  have HO := Lib.hid (ones_c z (U z) W rfl)
  go_enter Tryd.func50, Tryd.ntmps50
  go_wp2_with fail
  with_reducible refine HO.out.mono ?_
  rintro e w1 ⟨rfl, q, rfl⟩
  go_wp2_with fail
  go_ret
  exact ⟨rfl, q, rfl⟩

set_option maxHeartbeats 1000000 in
theorem pair_c (f g : List (BitVec 16)) (b : BitVec 16) (a : Option Addr) (n c : Nat) (a2 : Option Addr) (n2 c2 : Nat) (w : World) (h : Rd w a n c (f.map setV2)) (h2 : Rd w a2 n2 c2 (g.map setV2)) :
    Calls Tryd.prog 24 #[.slice a n c, .slice a2 n2 c2, .int .u16 (U b)] w fun e w' => e = .returned (.tuple #[.int .u16 (U (pairS b (fun _ => 0) f g).1), .int .u16 (U (pairS b (fun _ => 0) f g).2.1), .int .i64 (pairS b (fun _ => 0) f g).2.2]) ∧ Below w.heap.size w w' := by
  have HS := Lib.hid (search_c 48 #[] (enters_of Tryd.func48 (by kernel_rfl) rfl) _ pair1_at f g b a n c a2 n2 c2 w h h2)
  obtain ⟨R, hR⟩ : ∃ R, pairS b (fun _ => 0) f g = R := ⟨_, rfl⟩
  rw [hR] at HS ⊢
  clear h h2 hR
  go_enter Tryd.func24, Tryd.ntmps24
  go_wp2_with fail
  with_reducible refine HS.out.mono ?_
  rintro e w1 ⟨rfl, hb⟩
  go_wp2_with fail
  go_ret3
  exact ⟨rfl, hb⟩
set_option maxHeartbeats 1000000 in
theorem least_c (f g : List (BitVec 16)) (b : BitVec 16) (a : Option Addr) (n c : Nat) (a2 : Option Addr) (n2 c2 : Nat) (w : World) (h : Rd w a n c (f.map setV2)) (h2 : Rd w a2 n2 c2 (g.map setV2)) :
    Calls Tryd.prog 27 #[.slice a n c, .slice a2 n2 c2, .int .u16 (U b)] w fun e w' => e = .returned (.tuple #[.int .u16 (U (pairS b cnt f g).1), .int .u16 (U (pairS b cnt f g).2.1), .int .i64 (pairS b cnt f g).2.2]) ∧ Below w.heap.size w w' := by
  have HS := Lib.hid (search_c 50 #[] (enters_of Tryd.func50 (by kernel_rfl) rfl) _ least1_at f g b a n c a2 n2 c2 w h h2)
  obtain ⟨R, hR⟩ : ∃ R, pairS b cnt f g = R := ⟨_, rfl⟩
  rw [hR] at HS ⊢
  clear h h2 hR
  go_enter Tryd.func27, Tryd.ntmps27
  go_wp2_with fail
  with_reducible refine HS.out.mono ?_
  rintro e w1 ⟨rfl, hb⟩
  go_wp2_with fail
  go_ret3
  exact ⟨rfl, hb⟩
end Go.Proofs.YtflpkkebampmfaaDoor
namespace Go.Proofs.YtflpkkebampmfaaDoor
open Go.RowKit Go.Shelf

def twoX : Xpr := ⟨[⟨1, 0, 0, [], []⟩, ⟨1, 1, 0, [], []⟩, ⟨1, 2, 0, [], []⟩, ⟨2, 0, 2, [], [0, 1, 2]⟩], 3⟩
theorem twoX_ok : xprE twoX = 0 := by decide +kernel
theorem twoX_few : XprFew twoX := fun k nd h => by
  match k, h with
  | 0, h => cases h; decide
  | 1, h => cases h; decide
  | 2, h => cases h; decide
  | 3, h => cases h; decide
def awT : Byts := [48, 40, 49, 40, 121, 44, 32, 50, 40, 121, 44, 32, 120, 41, 41, 44, 32, 49, 40, 50, 40, 121, 44, 32, 120, 41, 44, 32, 120, 41, 41]
theorem aw_par : (parC awT).2 = 0 ∧ (parC awT).1.nodes.length = 11 ∧ certC twoX twoX 0#16 (parC awT).1 = true ∧ certC twoX twoX 1#16 (parC awT).1 = false := by decide +kernel
theorem aw_prv : (prvS twoX twoX (leftS twoX twoX 0#16)).2 = 0 ∧ certC twoX twoX 0#16 (prvS twoX twoX (leftS twoX twoX 0#16)).1 = true ∧ (prvS twoX twoX (leftS twoX twoX 1#16)).2 = 12 := by decide +kernel
theorem aw_pair : pairS 1#16 (fun _ => 0) [3#16, 5#16, 6#16] [3#16, 5#16, 6#16] = (3#16, 5#16, 0) ∧ (pairS 0#16 (fun _ => 0) [3#16, 5#16, 6#16] [3#16, 5#16, 6#16]).2.2 = 13 := by decide +kernel

def twoV (b : Nat) : List NodV := [⟨1, 0, 0, .slice none 0 0, .slice none 0 0⟩, ⟨1, 1, 0, .slice none 0 0, .slice none 0 0⟩, ⟨1, 2, 0, .slice none 0 0, .slice none 0 0⟩, ⟨2, 0, 2, .slice none 0 0, .slice (some ⟨b, 0, none⟩) 3 3⟩]

set_option maxRecDepth 100000 in
set_option maxHeartbeats 1000000 in
theorem two20_c (w : World) :
    Calls Tryd.prog 31 #[] w fun e w' => ∃ a c, e = .returned (.agg #[.slice a 4 c, .int .i64 3]) ∧ XM w' a 4 c twoX.nodes ∧ Below w.heap.size w w' := by
  go_enter Tryd.func31, Tryd.ntmps31
  go_wp2_with fail
  obtain ⟨B, hB⟩ : ∃ B, B = w.heap.size + 1 := ⟨_, rfl⟩
  rw [← hB]
  obtain ⟨W1, hW1⟩ : ∃ W1, W1 = w.alloc (.cells #[.slice (some ⟨B + 1, 0, none⟩) 4 4, .int .i64 3] 24) := ⟨_, rfl⟩
  obtain ⟨W2, hW2⟩ : ∃ W2, W2 = W1.alloc (.cells #[.int .i64 0, .int .i64 1, .int .i64 2] 3) := ⟨_, rfl⟩
  obtain ⟨W3, hW3⟩ : ∃ W3, W3 = W2.alloc (.cells ((twoV B).flatMap nodVC).toArray 64) := ⟨_, rfl⟩
  have e3 : ((twoV B).flatMap nodVC).toArray = #[.int .i64 1, .int .i64 0, .int .i64 0, .slice none 0 0, .slice none 0 0, .int .i64 1, .int .i64 1, .int .i64 0, .slice none 0 0, .slice none 0 0, .int .i64 1, .int .i64 2, .int .i64 0, .slice none 0 0, .slice none 0 0, .int .i64 2, .int .i64 0, .int .i64 2, .slice none 0 0, .slice (some ⟨B, 0, none⟩) 3 3] := rfl
  rw [← e3, ← hW1, ← hW2, ← hW3]
  have s1 : W1.heap.size = w.heap.size + 1 := by rw [hW1]; simp
  have s2 : W2.heap.size = w.heap.size + 1 + 1 := by rw [hW2]; simp [s1]
  have b1 : Below w.heap.size w W1 := by rw [hW1]; exact (Below.refl _ w).alloc (Nat.le_refl _) _
  have b2 : Below W1.heap.size W1 W2 := by rw [hW2]; exact (Below.refl _ _).alloc (Nat.le_refl _) _
  have b3 : Below W2.heap.size W2 W3 := by rw [hW3]; exact (Below.refl _ _).alloc (Nat.le_refl _) _
  have rI : Rd W3 (some ⟨B, 0, none⟩) 3 3 ([0, 1, 2].map (Value.int .i64)) := by
    refine Rd.below ?_ b3
    rw [hW2]; exact Rd.lit' W1 _ _ 3 _ rfl rfl (by decide) (by rw [hB, s1])
  have rX : XM W3 (some ⟨B + 1, 0, none⟩) 4 4 twoX.nodes := by
    refine XM.of_rdK (V := twoV B) (by rw [hW3]; exact RdK.lit' 5 W2 _ _ 4 _ (by simp) rfl (by decide) (by rw [hB, s2])) rfl ?_
    intro i p nd hp hn
    have nl : ∃ a n c, Value.slice none 0 0 = .slice a n c ∧ Rd W3 a n c (([] : List Int).map (Value.int .i64)) := ⟨none, 0, 0, rfl, Rd.none_ _⟩
    match i, hp, hn with
    | 0, hp, hn => cases hp; cases hn; exact ⟨rfl, rfl, rfl, nl, nl⟩
    | 1, hp, hn => cases hp; cases hn; exact ⟨rfl, rfl, rfl, nl, nl⟩
    | 2, hp, hn => cases hp; cases hn; exact ⟨rfl, rfl, rfl, nl, nl⟩
    | 3, hp, hn => cases hp; cases hn; exact ⟨rfl, rfl, rfl, nl, ⟨_, _, _, rfl, rI⟩⟩
  have e1 : W3.heap[w.heap.size]? = some (.cells #[.slice (some ⟨B + 1, 0, none⟩) 4 4, .int .i64 3] 24 (0, 0)) := by
    refine heap_below b3 (heap_below b2 ?_)
    rw [hW1]; exact heap_alloc_new _ _
  have hbw := Below.next b1 (Below.next b2 b3)
  refine bodyPost_ret (v := .agg #[.slice (some ⟨B + 1, 0, none⟩) 4 4, .int .i64 3]) ?_ rfl ⟨_, _, rfl, rX, hbw⟩
  exact results_cell_row rfl _ _ _ _ _ _ _ rfl e1 Tryd.underlying24 rfl (by kernel_rfl)
end Go.Proofs.YtflpkkebampmfaaDoor
namespace Go.Proofs.YtflpkkebampmfaaDoor
open Go.RowKit Go.Shelf

theorem awL : ([3#16, 5#16, 6#16] : List (BitVec 16)).map setV2 = [.int .u16 3, .int .u16 5, .int .u16 6] := rfl
theorem aw_p1 (u : World) (a : Option Addr) (h : Rd u a 3 3 [.int .u16 3, .int .u16 5, .int .u16 6]) : Calls Tryd.prog 24 #[.slice a 3 3, .slice a 3 3, .int .u16 1] u fun e w' => e = .returned (.tuple #[.int .u16 3, .int .u16 5, .int .i64 0]) ∧ Below u.heap.size u w' := by
  rw [← awL] at h
  have := pair_c [3#16, 5#16, 6#16] [3#16, 5#16, 6#16] 1#16 a 3 3 a 3 3 u h h
  rw [aw_pair.1] at this
  exact this
theorem aw_p0 (u : World) (a : Option Addr) (h : Rd u a 3 3 [.int .u16 3, .int .u16 5, .int .u16 6]) : Calls Tryd.prog 24 #[.slice a 3 3, .slice a 3 3, .int .u16 0] u fun e w' => ∃ x y, e = .returned (.tuple #[.int .u16 x, .int .u16 y, .int .i64 13]) ∧ Below u.heap.size u w' := by
  rw [← awL] at h
  have := pair_c [3#16, 5#16, 6#16] [3#16, 5#16, 6#16] 0#16 a 3 3 a 3 3 u h h
  rw [aw_pair.2] at this
  exact this.mono fun e w' hh => ⟨_, _, hh⟩
theorem aw_pa (u : World) (hr : HasRng u) (hy : HasSyn u) : Calls Tryd.prog 16 #[.string ⟨#[48, 40, 49, 40, 121, 44, 32, 50, 40, 121, 44, 32, 120, 41, 41, 44, 32, 49, 40, 50, 40, 121, 44, 32, 120, 41, 44, 32, 120, 41, 41]⟩] u fun e w' => ∃ a c, e = .returned (.tuple #[.agg #[.slice a 11 c, .int .i64 (parC awT).1.root], .int .i64 0]) ∧ TM w' a 11 c (parC awT).1.nodes ∧ Below u.heap.size u w' := by
  have := parse_c awT (by decide) u hr hy
  rw [aw_par.1, aw_par.2.1] at this
  exact this
theorem aw_v0 (u : World) (a1 : Option Addr) (c1 : Nat) (a2 : Option Addr) (c2 : Nat) (h1 : XM u a1 4 c1 twoX.nodes) (h2 : XM u a2 4 c2 twoX.nodes) (ht : HasTab u) :
    Calls Tryd.prog 13 #[.agg #[.slice a1 4 c1, .int .i64 3], .agg #[.slice a2 4 c2, .int .i64 3], .int .u16 0] u fun e w' => ∃ a n c r, e = .returned (.tuple #[.agg #[.slice a n c, .int .i64 r], .int .i64 0]) ∧ (TM w' a n c (prvS twoX twoX (leftS twoX twoX 0#16)).1.nodes ∧ r = (prvS twoX twoX (leftS twoX twoX 0#16)).1.root) ∧ Below u.heap.size u w' := by
  have := prove_ok twoX twoX 0#16 twoX_ok twoX_ok twoX_few twoX_few a1 4 c1 a2 4 c2 u h1 h2 ht
  rw [aw_prv.1] at this
  exact this.mono fun e w' ⟨a, c, h1, h2, h3⟩ => ⟨a, _, c, _, h1, ⟨h2, rfl⟩, h3⟩
theorem aw_v1 (u : World) (a1 : Option Addr) (c1 : Nat) (a2 : Option Addr) (c2 : Nat) (h1 : XM u a1 4 c1 twoX.nodes) (h2 : XM u a2 4 c2 twoX.nodes) (ht : HasTab u) :
    Calls Tryd.prog 13 #[.agg #[.slice a1 4 c1, .int .i64 3], .agg #[.slice a2 4 c2, .int .i64 3], .int .u16 1] u fun e w' => ∃ a n c r, e = .returned (.tuple #[.agg #[.slice a n c, .int .i64 r], .int .i64 12]) ∧ Below u.heap.size u w' := by
  have := prove_ok twoX twoX 1#16 twoX_ok twoX_ok twoX_few twoX_few a1 4 c1 a2 4 c2 u h1 h2 ht
  rw [aw_prv.2.2] at this
  exact this.mono fun e w' ⟨a, c, h1, h2, h3⟩ => ⟨a, _, c, _, h1, h3⟩
theorem aw_c (b : BitVec 16) (bi : Int) (hbi : U b = bi) (t : Tre) (V : Bool) (hV : certC twoX twoX b t = V) (u : World) (a1 : Option Addr) (c1 : Nat) (a2 : Option Addr) (c2 : Nat) (a : Option Addr) (n c : Nat) (h1 : XM u a1 4 c1 twoX.nodes) (h2 : XM u a2 4 c2 twoX.nodes) (h : TM u a n c t.nodes) :
    Calls Tryd.prog 15 #[.agg #[.slice a1 4 c1, .int .i64 3], .agg #[.slice a2 4 c2, .int .i64 3], .int .u16 bi, .agg #[.slice a n c, .int .i64 t.root]] u fun e w' => e = .returned (.bool V) ∧ Below u.heap.size u w' := by
  have := check_c twoX twoX b twoX_ok twoX_ok twoX_few twoX_few t a1 4 c1 a2 4 c2 a n c u h1 h2 h
  rw [hV, hbi] at this
  exact this

set_option maxRecDepth 100000 in
set_option maxHeartbeats 4000000 in
theorem awake20_c (w : World) (ht : HasTab w) (hr : HasRng w) (hy : HasSyn w) :
    Calls Tryd.prog 10 #[] w fun e w' => e = .returned (.bool true) ∧ Below w.heap.size w w' := by
  obtain ⟨W1, hW1⟩ : ∃ W1, W1 = w.alloc (.cells #[.int .u16 3, .int .u16 5, .int .u16 6] 26) := ⟨_, rfl⟩
  have hb1 : Below w.heap.size w W1 := by rw [hW1]; exact (Below.refl _ w).alloc (Nat.le_refl _) _
  have hf : Rd W1 (some ⟨w.heap.size, 0, none⟩) 3 3 [.int .u16 3, .int .u16 5, .int .u16 6] := by rw [hW1]; exact Rd.lit' w _ _ 3 _ rfl rfl (by decide) rfl
  have HF := Lib.hid hf
  have HB1 := Lib.hid hb1
  have HT := Lib.hid (fun u (hb : Below w.heap.size w u) => ht.below hb)
  have HE := Lib.hid (fun u (hb : Below w.heap.size w u) => aw_pa u (hr.below hb) (hy.below hb))
  obtain ⟨T, hT⟩ : ∃ T, (parC awT).1 = T := ⟨_, rfl⟩
  obtain ⟨Q, hQ⟩ : ∃ Q, (prvS twoX twoX (leftS twoX twoX 0#16)).1 = Q := ⟨_, rfl⟩
  have HV0 := Lib.hid aw_v0
  rw [hQ] at HV0
  rw [hT] at HE
  have HC0 : Hid (certC twoX twoX 0#16 T = true) := Lib.hid (by rw [← hT]; exact aw_par.2.2.1)
  have HC1 : Hid (certC twoX twoX 1#16 T = false) := Lib.hid (by rw [← hT]; exact aw_par.2.2.2)
  have HCQ : Hid (certC twoX twoX 0#16 Q = true) := Lib.hid (by rw [← hQ]; exact aw_prv.2.1)
  obtain ⟨rT, hrT⟩ : ∃ r, T.root = r := ⟨_, rfl⟩
  rw [hrT] at HE
  have HRT := Lib.hid hrT
  clear hT hQ ht hr hy hb1 hf hrT
  go_enter Tryd.func10, Tryd.ntmps10
  go_wp2_with fail
  rw [← hW1]
  clear hW1
  with_reducible refine (aw_p1 W1 _ HF.out).mono ?_
  rintro e w2 ⟨rfl, hb2⟩
  have HF2 := Lib.hid (HF.out.below hb2)
  have HB2 := Lib.hid (Below.next HB1.out hb2)
  clear hb2
  go_wp2_with fail
  with_reducible refine (aw_p0 w2 _ HF2.out).mono ?_
  rintro e w3 ⟨x3, y3, rfl, hb3⟩
  have HB3 := Lib.hid (Below.next HB2.out hb3)
  clear hb3
  go_wp2_with fail
  with_reducible refine (HE.out w3 HB3.out).mono ?_
  rintro e w4 ⟨aT, cT, rfl, htm, hb4⟩
  have HM4 := Lib.hid htm
  have HB4 := Lib.hid (Below.next HB3.out hb4)
  clear htm hb4
  go_wp2_with fail
  obtain ⟨W5, hW5⟩ : ∃ W5, W5 = w4.alloc (.cells #[.slice aT 11 cT, .int .i64 rT] 33) := ⟨_, rfl⟩
  rw [← hW5]
  have hb5 : Below w4.heap.size w4 W5 := by rw [hW5]; exact (Below.refl _ _).alloc (Nat.le_refl _) _
  have g5 : W5.heap[w4.heap.size]? = some (.cells #[.slice aT 11 cT, .int .i64 rT] 33 (0, 0)) := by rw [hW5]; exact heap_alloc_new _ _
  have HG5 := Lib.hid g5
  have HM5 := Lib.hid (RdK.below HM4.out hb5)
  have HB5 := Lib.hid (Below.next HB4.out hb5)
  clear hb5 g5 hW5
  with_reducible refine (two20_c W5).mono ?_
  rintro e w6 ⟨a6, c6, rfl, hx6, hb6⟩
  have HX6 := Lib.hid hx6
  have HS6 := Lib.hid hb6
  clear hx6 hb6
  go_wp2_with fail
  with_reducible refine (two20_c w6).mono ?_
  rintro e w7 ⟨a7, c7, rfl, hx7, hb7⟩
  have HX7 := Lib.hid hx7
  have HX67 := Lib.hid (HX6.out.below hb7)
  have HS7 := Lib.hid (Below.next HS6.out hb7)
  have HB7 := Lib.hid (Below.next HB5.out (Below.next HS6.out hb7))
  clear hx7 hb7
  go_wp2_with fail
  with_reducible refine (HV0.out w7 a6 c6 a7 c7 HX67.out HX7.out (HT.out w7 HB7.out)).mono ?_
  rintro e w8 ⟨aQ, nQ, cQ, rQ, rfl, ⟨htm, hrQ⟩, hb8⟩
  have HM8 := Lib.hid htm
  have HRQ := Lib.hid hrQ
  have HS8 := Lib.hid (Below.next HS7.out hb8)
  have HB8 := Lib.hid (Below.next HB7.out hb8)
  clear htm hrQ hb8
  go_wp2_with fail
  obtain ⟨W9, hW9⟩ : ∃ W9, W9 = w8.alloc (.cells #[.slice aQ nQ cQ, .int .i64 rQ] 33) := ⟨_, rfl⟩
  rw [← hW9]
  have hb9 : Below w8.heap.size w8 W9 := by rw [hW9]; exact (Below.refl _ _).alloc (Nat.le_refl _) _
  have g9 : W9.heap[w8.heap.size]? = some (.cells #[.slice aQ nQ cQ, .int .i64 rQ] 33 (0, 0)) := by rw [hW9]; exact heap_alloc_new _ _
  have HG9 := Lib.hid g9
  have HM9 := Lib.hid (RdK.below HM8.out hb9)
  have HS9 := Lib.hid (Below.next HS8.out hb9)
  have HB9 := Lib.hid (Below.next HB8.out hb9)
  clear hb9 g9 hW9
  with_reducible refine (two20_c W9).mono ?_
  rintro e w10 ⟨a10, c10, rfl, hx10, hb10⟩
  have HX10 := Lib.hid hx10
  have HZ10 := Lib.hid hb10
  clear hx10 hb10
  go_wp2_with fail
  with_reducible refine (two20_c w10).mono ?_
  rintro e w11 ⟨a11, c11, rfl, hx11, hb11⟩
  have HX11 := Lib.hid hx11
  have HX1011 := Lib.hid (HX10.out.below hb11)
  have HZ11 := Lib.hid (Below.next HZ10.out hb11)
  clear hx11 hb11
  go_wp2_with fail
  with_reducible refine (aw_v1 w11 a10 c10 a11 c11 HX1011.out HX11.out (HT.out w11 (Below.next HB9.out HZ11.out))).mono ?_
  rintro e w12 ⟨aR, nR, cR, rR, rfl, hb12⟩
  have HZ12 := Lib.hid (Below.next HZ11.out hb12)
  clear hb12
  go_wp2_with fail
  generalize hWA : w12.alloc _ = WA
  have hbA : Below w12.heap.size w12 WA := by rw [← hWA]; exact (Below.refl _ _).alloc (Nat.le_refl _) _
  have hz := Below.next HZ12.out hbA
  have hzw := Below.next HB9.out hz
  have hz5 := Below.next HS9.out hz
  have HZW := Lib.hid hzw
  have HMT := Lib.hid (RdK.below HM5.out hz5)
  have HMQ := Lib.hid (RdK.below HM9.out hz)
  have gT := heap_below hz5 HG5.out
  have gQ := heap_below hz HG9.out
  have KS : Hid (∀ u : World, Below WA.heap.size WA u → (u.cell? ⟨w4.heap.size, 0, none⟩ = some (.slice aT 11 cT) ∧ u.cell? ⟨w4.heap.size, 1, none⟩ = some (.int .i64 rT)) ∧ u.cell? ⟨w8.heap.size, 0, none⟩ = some (.slice aQ nQ cQ) ∧ u.cell? ⟨w8.heap.size, 1, none⟩ = some (.int .i64 rQ)) :=
    Lib.hid (fun u hu => ⟨⟨cell_of_row _ _ 0 _ _ _ (heap_below hu gT), cell_of_row _ _ 1 _ _ _ (heap_below hu gT)⟩, cell_of_row _ _ 0 _ _ _ (heap_below hu gQ), cell_of_row _ _ 1 _ _ _ (heap_below hu gQ)⟩)
  have HCT0 := Lib.hid (fun u a1 c1 a2 c2 h1 h2 h => aw_c 0#16 0 rfl T true HC0.out u a1 c1 a2 c2 aT 11 cT h1 h2 h)
  have HCQ0 := Lib.hid (fun u a1 c1 a2 c2 h1 h2 h => aw_c 0#16 0 rfl Q true HCQ.out u a1 c1 a2 c2 aQ nQ cQ h1 h2 h)
  have HCT1 := Lib.hid (fun u a1 c1 a2 c2 h1 h2 h => aw_c 1#16 1 rfl T false HC1.out u a1 c1 a2 c2 aT 11 cT h1 h2 h)
  rw [HRT.out] at HCT0 HCT1
  rw [← HRQ.out] at HCQ0
  have HY := Lib.hid (below_drew (Below.refl WA.heap.size WA))
  clear hWA hbA hz hzw hz5 gT gQ
  refine wp_region_noPanic ?_
  refine wp_region_takes (fun u => Below WA.heap.size WA u) [0, 1, 2, 3, 4, 5, 6, 7, 8, 9, 12] 23 (by kernel_rfl) (by kernel_rfl) (by kernel_rfl) (fun _ _ _ _ _ h => h) HY.out ?_
  repeat (refine wpTk_cons rfl (fun K hK => ?_); go_simp; apply Exists.intro; refine ⟨fun u hu => ?_, hK _ ?_⟩; (first | exact rfl | (obtain ⟨⟨q1, q2⟩, q3, q4⟩ := KS.out u hu; go_simp; done) | (obtain ⟨⟨q1, q2⟩, q3, q4⟩ := KS.out u hu; go_simp; exact rfl)); clear hK K)
  refine wpTk_nil ?_
  refine held_ready (rs := [10]) (by kernel_rfl) (by simp) ?_
  refine AllReadyH.cons rfl (fun K hK => ?_) AllReadyH.nil
  go_simp
  with_reducible refine (two20_c _).mono ?_
  rintro e v10 ⟨x10, d10, rfl, hx, hv⟩
  have HY2 := Lib.hid (below_at rfl HY.out hv)
  have HXA := Lib.hid hx
  have HVA := Lib.hid hv
  clear hx
  clear hv HY
  have HY := Lib.hid HY2.out
  clear HY2
  go_simp
  refine hK.out _ _ HY.out (fun hh => ?_)
  clear hh hK K; try simp only [Act.put, List.setIfInBounds_toArray, List.set_cons_zero, List.set_cons_succ]
  refine held_ready (rs := [11]) (by kernel_rfl) (by simp) ?_
  refine AllReadyH.cons rfl (fun K hK => ?_) AllReadyH.nil
  go_simp
  with_reducible refine (two20_c _).mono ?_
  rintro e v11 ⟨x11, d11, rfl, hx, hv⟩
  have HY2 := Lib.hid (below_at rfl HY.out hv)
  have HXB := Lib.hid hx
  have HXC := Lib.hid (HXA.out.below hv)
  clear hx HXA HVA
  clear hv HY
  have HY := Lib.hid HY2.out
  clear HY2
  go_simp
  refine hK.out _ _ HY.out (fun hh => ?_)
  clear hh hK K; try simp only [Act.put, List.setIfInBounds_toArray, List.set_cons_zero, List.set_cons_succ]
  refine held_ready (rs := [13]) (by kernel_rfl) (by simp) ?_
  refine AllReadyH.cons rfl (fun K hK => ?_) AllReadyH.nil
  go_simp
  with_reducible refine (HCT0.out _ x10 d10 x11 d11 HXC.out HXB.out (RdK.below HMT.out HY.out)).mono ?_
  rintro e v13 ⟨rfl, hv⟩
  have HY2 := Lib.hid (below_at rfl HY.out hv)
  clear HXB HXC
  clear hv HY
  have HY := Lib.hid HY2.out
  clear HY2
  go_simp
  refine hK.out _ _ HY.out (fun hh => ?_)
  clear hh hK K; try simp only [Act.put, List.setIfInBounds_toArray, List.set_cons_zero, List.set_cons_succ]
  refine held_takes (f := 17) (by kernel_rfl) (fun _ _ _ _ _ h => h) HY.out [14, 15, 18] _ _ (by kernel_rfl) ?_
  repeat (refine wpTk_cons rfl (fun K hK => ?_); go_simp; apply Exists.intro; refine ⟨fun u hu => ?_, hK _ ?_⟩; (first | exact rfl | (obtain ⟨⟨q1, q2⟩, q3, q4⟩ := KS.out u hu; go_simp; done) | (obtain ⟨⟨q1, q2⟩, q3, q4⟩ := KS.out u hu; go_simp; exact rfl)); clear hK K)
  refine wpTk_nil ?_
  refine held_ready (rs := [16]) (by kernel_rfl) (by simp) ?_
  refine AllReadyH.cons rfl (fun K hK => ?_) AllReadyH.nil
  go_simp
  with_reducible refine (two20_c _).mono ?_
  rintro e v16 ⟨x16, d16, rfl, hx, hv⟩
  have HY2 := Lib.hid (below_at rfl HY.out hv)
  have HXA := Lib.hid hx
  have HVA := Lib.hid hv
  clear hx
  clear hv HY
  have HY := Lib.hid HY2.out
  clear HY2
  go_simp
  refine hK.out _ _ HY.out (fun hh => ?_)
  clear hh hK K; try simp only [Act.put, List.setIfInBounds_toArray, List.set_cons_zero, List.set_cons_succ]
  refine held_ready (rs := [17]) (by kernel_rfl) (by simp) ?_
  refine AllReadyH.cons rfl (fun K hK => ?_) AllReadyH.nil
  go_simp
  with_reducible refine (two20_c _).mono ?_
  rintro e v17 ⟨x17, d17, rfl, hx, hv⟩
  have HY2 := Lib.hid (below_at rfl HY.out hv)
  have HXB := Lib.hid hx
  have HXC := Lib.hid (HXA.out.below hv)
  clear hx HXA HVA
  clear hv HY
  have HY := Lib.hid HY2.out
  clear HY2
  go_simp
  refine hK.out _ _ HY.out (fun hh => ?_)
  clear hh hK K; try simp only [Act.put, List.setIfInBounds_toArray, List.set_cons_zero, List.set_cons_succ]
  refine held_ready (rs := [19]) (by kernel_rfl) (by simp) ?_
  refine AllReadyH.cons rfl (fun K hK => ?_) AllReadyH.nil
  go_simp
  with_reducible refine (HCQ0.out _ x16 d16 x17 d17 HXC.out HXB.out (RdK.below HMQ.out HY.out)).mono ?_
  rintro e v19 ⟨rfl, hv⟩
  have HY2 := Lib.hid (below_at rfl HY.out hv)
  clear HXB HXC
  clear hv HY
  have HY := Lib.hid HY2.out
  clear HY2
  go_simp
  refine hK.out _ _ HY.out (fun hh => ?_)
  clear hh hK K; try simp only [Act.put, List.setIfInBounds_toArray, List.set_cons_zero, List.set_cons_succ]
  refine held_takes (f := 11) (by kernel_rfl) (fun _ _ _ _ _ h => h) HY.out [20, 21, 24] _ _ (by kernel_rfl) ?_
  repeat (refine wpTk_cons rfl (fun K hK => ?_); go_simp; apply Exists.intro; refine ⟨fun u hu => ?_, hK _ ?_⟩; (first | exact rfl | (obtain ⟨⟨q1, q2⟩, q3, q4⟩ := KS.out u hu; go_simp; done) | (obtain ⟨⟨q1, q2⟩, q3, q4⟩ := KS.out u hu; go_simp; exact rfl)); clear hK K)
  refine wpTk_nil ?_
  refine held_ready (rs := [22]) (by kernel_rfl) (by simp) ?_
  refine AllReadyH.cons rfl (fun K hK => ?_) AllReadyH.nil
  go_simp
  with_reducible refine (two20_c _).mono ?_
  rintro e v22 ⟨x22, d22, rfl, hx, hv⟩
  have HY2 := Lib.hid (below_at rfl HY.out hv)
  have HXA := Lib.hid hx
  have HVA := Lib.hid hv
  clear hx
  clear hv HY
  have HY := Lib.hid HY2.out
  clear HY2
  go_simp
  refine hK.out _ _ HY.out (fun hh => ?_)
  clear hh hK K; try simp only [Act.put, List.setIfInBounds_toArray, List.set_cons_zero, List.set_cons_succ]
  refine held_ready (rs := [23]) (by kernel_rfl) (by simp) ?_
  refine AllReadyH.cons rfl (fun K hK => ?_) AllReadyH.nil
  go_simp
  with_reducible refine (two20_c _).mono ?_
  rintro e v23 ⟨x23, d23, rfl, hx, hv⟩
  have HY2 := Lib.hid (below_at rfl HY.out hv)
  have HXB := Lib.hid hx
  have HXC := Lib.hid (HXA.out.below hv)
  clear hx HXA HVA
  clear hv HY
  have HY := Lib.hid HY2.out
  clear HY2
  go_simp
  refine hK.out _ _ HY.out (fun hh => ?_)
  clear hh hK K; try simp only [Act.put, List.setIfInBounds_toArray, List.set_cons_zero, List.set_cons_succ]
  refine held_ready (rs := [25]) (by kernel_rfl) (by simp) ?_
  refine AllReadyH.cons rfl (fun K hK => ?_) AllReadyH.nil
  go_simp
  with_reducible refine (HCT1.out _ x22 d22 x23 d23 HXC.out HXB.out (RdK.below HMT.out HY.out)).mono ?_
  rintro e v25 ⟨rfl, hv⟩
  have HY2 := Lib.hid (below_at rfl HY.out hv)
  clear HXB HXC
  clear hv HY
  have HY := Lib.hid HY2.out
  clear HY2
  go_simp
  refine hK.out _ _ HY.out (fun hh => ?_)
  clear hh hK K; try simp only [Act.put, List.setIfInBounds_toArray, List.set_cons_zero, List.set_cons_succ]
  refine held_takes (f := 4) (by kernel_rfl) (fun _ _ _ _ _ h => h) HY.out [26, 27, 28, 29] _ _ (by kernel_rfl) ?_
  repeat (refine wpTk_cons rfl (fun K hK => ?_); go_simp; apply Exists.intro; refine ⟨fun u hu => ?_, hK _ ?_⟩; (first | exact rfl | (obtain ⟨⟨q1, q2⟩, q3, q4⟩ := KS.out u hu; go_simp; done) | (obtain ⟨⟨q1, q2⟩, q3, q4⟩ := KS.out u hu; go_simp; exact rfl)); clear hK K)
  refine wpTk_nil ?_
  refine held_ready (rs := [30]) (by kernel_rfl) (by simp) ?_
  refine AllReadyH.cons rfl (fun K hK => ?_) AllReadyH.nil
  go_simp
  with_reducible refine (size_c _ _ _ _ _).mono ?_
  rintro e v30 ⟨rfl, hv⟩
  have HY2 := Lib.hid (below_at rfl HY.out hv)
  clear hv HY
  have HY := Lib.hid HY2.out
  clear HY2
  go_simp
  refine hK.out _ _ HY.out (fun hh => ?_)
  clear hh hK K; try simp only [Act.put, List.setIfInBounds_toArray, List.set_cons_zero, List.set_cons_succ]
  refine held_takes (f := 0) (by kernel_rfl) (fun _ _ _ _ _ h => h) HY.out [31, 32, 33] _ _ (by kernel_rfl) ?_
  repeat (refine wpTk_cons rfl (fun K hK => ?_); go_simp; apply Exists.intro; refine ⟨fun u hu => ?_, hK _ ?_⟩; (first | exact rfl | (obtain ⟨⟨q1, q2⟩, q3, q4⟩ := KS.out u hu; go_simp; done) | (obtain ⟨⟨q1, q2⟩, q3, q4⟩ := KS.out u hu; go_simp; exact rfl)); clear hK K)
  refine wpTk_nil ?_
  refine wpAnyH_done (by kernel_rfl) (NoPanic.normal ?_) _
  go_wp2_with fail
  go_ret
  exact ⟨rfl, Below.next HZW.out HY.out⟩
end Go.Proofs.YtflpkkebampmfaaDoor
namespace Go.Proofs.YtflpkkebampmfaaDoor
open Go.RowKit

/-- the five cells of a piece -/
structure PceM (w : World) (b o : Nat) (p : Pce) : Prop where
  c0 : w.cell? ⟨b, o, none⟩ = some (.int .u8 p.kind)
  c1 : w.cell? ⟨b, o + 1, none⟩ = some (.int .u8 p.server)
  c2 : w.cell? ⟨b, o + 2, none⟩ = some (.int .u8 p.need)
  c3 : w.cell? ⟨b, o + 3, none⟩ = some (.bool p.heavy)
  ks : ∃ a n c, w.cell? ⟨b, o + 4, none⟩ = some (.slice a n c) ∧ Rd w a n c (p.kids.map (Value.int .u8))
structure PM (w : World) (a : Option Addr) (n c : Nat) (ps : List Pce) : Prop where
  len : ps.length = n
  le : n ≤ c
  max : c ≤ maxLen
  at' : 0 < n → ∃ b o, a = some ⟨b, o, none⟩ ∧ ∀ i p, ps[i]? = some p → PceM w b (o + i * 5) p
theorem PceM.below {w w' : World} {b o : Nat} {p : Pce} (h : PceM w b o p) (hb : Below w.heap.size w w') : PceM w' b o p := by
  obtain ⟨a, n, c, h4, r4⟩ := h.ks
  exact ⟨cell_keep hb h.c0, cell_keep hb h.c1, cell_keep hb h.c2, cell_keep hb h.c3, ⟨a, n, c, cell_keep hb h4, r4.below hb⟩⟩
theorem PM.below {w w' : World} {a : Option Addr} {n c : Nat} {ps : List Pce} (h : PM w a n c ps) (hb : Below w.heap.size w w') : PM w' a n c ps := by
  refine ⟨h.len, h.le, h.max, fun hn => ?_⟩
  obtain ⟨b, o, ha, hc⟩ := h.at' hn
  exact ⟨b, o, ha, fun i p hi => (hc i p hi).below hb⟩

/-- a block as a value whose own block it is -/
def blkV (X : Nat) : Value := .slice (some ⟨X, 0, none⟩) 1 1
theorem blkV_own (X : Nat) : (blkV X).ownBlock = some X := rfl
theorem Rd.setOther {w : World} {a : Option Addr} {n c : Nat} {l : List Value} {X : Nat} (h : Rd w a n c l) (hc : Clear n (blkV X) a) (j : Nat) (u : Value) : Rd (w.setCell ⟨X, j, none⟩ u) a n c l := by
  refine ⟨h.len, h.le, h.max, h.nil, fun hn => ?_⟩
  obtain ⟨b, o, ha, hcell⟩ := h.at' hn
  refine ⟨b, o, ha, fun i v hv => ?_⟩
  have hne : b ≠ X := fun e => hc hn b o ha (by rw [blkV_own, e])
  have := hcell i v hv
  rw [World.cell?_of_block (w := w) (w' := w.setCell ⟨X, j, none⟩ u) (a := ⟨b, o + i, none⟩) (Below.heap_setCell _ _ _ _ hne)]
  exact this

/-- a node's value reads as the node, and its lists lie apart from a block and from the row of a value -/
structure NodC (w : World) (X : Nat) (v : Value) (p : NodV) (nd : Nod) : Prop where
  e0 : p.kind = nd.kind
  e1 : p.server = nd.server
  e2 : p.need = nd.need
  ws : ∃ a n c, p.wv = .slice a n c ∧ Rd w a n c (nd.weights.map (Value.int .i64)) ∧ Clear n v a ∧ ∀ Y, Y ≤ X → Clear n (blkV Y) a
  ks : ∃ a n c, p.kv = .slice a n c ∧ Rd w a n c (nd.kids.map (Value.int .i64)) ∧ Clear n v a ∧ ∀ Y, Y ≤ X → Clear n (blkV Y) a
theorem NodC.toR {w : World} {X : Nat} {v : Value} {p : NodV} {nd : Nod} (h : NodC w X v p nd) : NodR w p nd := by
  obtain ⟨a, n, c, h3, r3, _, _⟩ := h.ws
  obtain ⟨a', n', c', h4, r4, _, _⟩ := h.ks
  exact ⟨h.e0, h.e1, h.e2, ⟨a, n, c, h3, r3⟩, ⟨a', n', c', h4, r4⟩⟩
theorem NodC.below {w w' : World} {X : Nat} {v : Value} {p : NodV} {nd : Nod} (h : NodC w X v p nd) (hb : Below w.heap.size w w') : NodC w' X v p nd := by
  obtain ⟨a, n, c, h3, r3, k1, k2⟩ := h.ws
  obtain ⟨a', n', c', h4, r4, k3, k4⟩ := h.ks
  exact ⟨h.e0, h.e1, h.e2, ⟨a, n, c, h3, r3.below hb, k1, k2⟩, ⟨a', n', c', h4, r4.below hb, k3, k4⟩⟩
theorem NodC.grown {w w' : World} {X : Nat} {v v' : Value} {p : NodV} {nd : Nod} (h : NodC w X v p nd) (hg : w.grownBy w' v.ownBlock) (hv : ∀ g, v'.ownBlock = some g → v.ownBlock = some g ∨ w.heap.size ≤ g) : NodC w' X v' p nd := by
  obtain ⟨a, n, c, h3, r3, k1, k2⟩ := h.ws
  obtain ⟨a', n', c', h4, r4, k3, k4⟩ := h.ks
  exact ⟨h.e0, h.e1, h.e2, ⟨a, n, c, h3, r3.grown hg k1, k1.step r3 hv, k2⟩, ⟨a', n', c', h4, r4.grown hg k3, k3.step r4 hv, k4⟩⟩
theorem NodC.setAt {w : World} {X : Nat} {v : Value} {p : NodV} {nd : Nod} (h : NodC w X v p nd) (Y : Nat) (hY : Y ≤ X) (j : Nat) (u : Value) : NodC (w.setCell ⟨Y, j, none⟩ u) X v p nd := by
  obtain ⟨a, n, c, h3, r3, k1, k2⟩ := h.ws
  obtain ⟨a', n', c', h4, r4, k3, k4⟩ := h.ks
  exact ⟨h.e0, h.e1, h.e2, ⟨a, n, c, h3, r3.setOther (k2 Y hY) j u, k1, k2⟩, ⟨a', n', c', h4, r4.setOther (k4 Y hY) j u, k3, k4⟩⟩
theorem Clear.none (n : Nat) (v : Value) : Clear n v none := fun _ _ _ h => by cases h
/-- a row of the call's own lies above what lies below its base -/
theorem Clear.lower {w : World} {B k m n c : Nat} {e : TypeId} {a : Option Addr} {xs : List Value} {v : Value} (h : w.ownsRow B e k (.slice a n c) m xs) (hlt : ∀ g, v.ownBlock = some g → g < B) : Clear n v a := by
  intro hn b o ha he
  have h1 := (h.lt b (by rw [ha]; rfl)).1
  have h2 := hlt b he
  omega
/-- a server's node -/
theorem NodC.srv (w : World) (X : Nat) (v : Value) (k s : Int) : NodC w X v ⟨k, s, 0, .slice none 0 0, .slice none 0 0⟩ ⟨k, s, 0, [], []⟩ :=
  ⟨rfl, rfl, rfl, ⟨none, 0, 0, rfl, Rd.none_ _, Clear.none _ _, fun _ _ => Clear.none _ _⟩, ⟨none, 0, 0, rfl, Rd.none_ _, Clear.none _ _, fun _ _ => Clear.none _ _⟩⟩
/-- the nodes made so far, in the row of a field of a block -/
structure XW (w : World) (X : Nat) (v : Value) (t : TypeId) (nodes : List Nod) : Prop where
  row : ∃ V : List NodV, V.length = nodes.length ∧ w.ownsRow (X + 1) t 5 v nodes.length (V.flatMap nodVC) ∧ ∀ (i : Nat) p nd, V[i]? = some p → nodes[i]? = some nd → NodC w X v p nd
theorem XW.nil (w : World) (X : Nat) (t : TypeId) : XW w X (.slice none 0 0) t [] := ⟨[], rfl, World.ownsRow_nil _ _ _ _, fun i p nd h => by simp at h⟩
theorem XW.below {w w' : World} {X : Nat} {v : Value} {t : TypeId} {nodes : List Nod} (h : XW w X v t nodes) (hb : Below w.heap.size w w') : XW w' X v t nodes := by
  obtain ⟨V, h1, h2, h3⟩ := h.row
  exact ⟨V, h1, rowK_below h2 hb, fun i p nd hp hn => (h3 i p nd hp hn).below hb⟩
theorem XW.setAt {w : World} {X : Nat} {v : Value} {t : TypeId} {nodes : List Nod} (h : XW w X v t nodes) (Y : Nat) (hY : Y ≤ X) (j : Nat) (u : Value) : XW (w.setCell ⟨Y, j, none⟩ u) X v t nodes := by
  obtain ⟨V, h1, h2, h3⟩ := h.row
  exact ⟨V, h1, rowK_at h2 fun g hg => Below.heap_setCell _ _ _ _ (by have := (h2.lt g hg).1; show g ≠ Y; omega), fun i p nd hp hn => (h3 i p nd hp hn).setAt Y hY j u⟩
theorem XW.set {w : World} {X : Nat} {v : Value} {t : TypeId} {nodes : List Nod} (h : XW w X v t nodes) (j : Nat) (u : Value) : XW (w.setCell ⟨X, j, none⟩ u) X v t nodes := h.setAt X (Nat.le_refl _) j u
/-- a node more -/
theorem XW.push {w w' : World} {X : Nat} {v v' : Value} {t : TypeId} {nodes : List Nod} {p : NodV} {nd : Nod} {V : List NodV} (hV : V.length = nodes.length) (h3 : ∀ (i : Nat) p nd, V[i]? = some p → nodes[i]? = some nd → NodC w X v p nd) (hr : w'.ownsRow (X + 1) t 5 v' (nodes.length + 1) (V.flatMap nodVC ++ nodVC p))
    (hp : NodC w X v p nd) (hg : w.grownBy w' v.ownBlock) (hv : ∀ g, v'.ownBlock = some g → v.ownBlock = some g ∨ w.heap.size ≤ g) : XW w' X v' t (nodes ++ [nd]) := by
  refine ⟨V ++ [p], by simp [hV], ?_, fun i q m hq hm => ?_⟩
  · rw [List.flatMap_append, List.length_append, List.flatMap_cons, List.flatMap_nil, List.append_nil]; exact hr
  · by_cases hi : i < V.length
    · rw [List.getElem?_append_left hi] at hq
      rw [List.getElem?_append_left (by omega)] at hm
      exact (h3 i q m hq hm).grown hg hv
    · have hq2 := (List.getElem?_eq_some_iff.1 hq).1
      have : i = V.length := by simp at hq2; omega
      subst this
      rw [List.getElem?_append_right (Nat.le_refl _), Nat.sub_self] at hq
      rw [hV, List.getElem?_append_right (Nat.le_refl _), Nat.sub_self] at hm
      cases hq; cases hm
      exact hp.grown hg hv
theorem XW.xm {w : World} {X : Nat} {v : Value} {t : TypeId} {nodes : List Nod} (h : XW w X v t nodes) : ∃ a c, v = .slice a nodes.length c ∧ XM w a nodes.length c nodes := by
  obtain ⟨V, h1, h2, h3⟩ := h.row
  exact XM.of_row h2 h1 fun i p nd hp hn => (h3 i p nd hp hn).toR
end Go.Proofs.YtflpkkebampmfaaDoor
namespace Go.Proofs.YtflpkkebampmfaaDoor
open Go.RowKit

def XMR (lo hi : Nat) (w : World) (a : Option Addr) (n c : Nat) (nodes : List Nod) : Prop :=
  ∀ w2 : World, (∀ g, lo ≤ g → g < hi → w2.heap[g]? = w.heap[g]?) → XM w2 a n c nodes
theorem XMR.xm {lo hi : Nat} {w : World} {a : Option Addr} {n c : Nat} {nodes : List Nod} (h : XMR lo hi w a n c nodes) : XM w a n c nodes := h w fun _ _ _ => rfl
theorem XMR.mono {lo hi lo' hi' : Nat} {w : World} {a : Option Addr} {n c : Nat} {nodes : List Nod} (h : XMR lo hi w a n c nodes) (h1 : lo' ≤ lo) (h2 : hi ≤ hi') : XMR lo' hi' w a n c nodes :=
  fun w2 hg => h w2 fun g g1 g2 => hg g (by omega) (by omega)
theorem XMR.agree {lo hi : Nat} {w w' : World} {a : Option Addr} {n c : Nat} {nodes : List Nod} (h : XMR lo hi w a n c nodes) (hg : ∀ g, lo ≤ g → g < hi → w'.heap[g]? = w.heap[g]?) : XMR lo hi w' a n c nodes :=
  fun w2 h2 => h w2 fun g g1 g2 => (h2 g g1 g2).trans (hg g g1 g2)
theorem cell_blk_lt {w : World} {b o : Nat} {v : Value} (h : w.cell? ⟨b, o, none⟩ = some v) : b < w.heap.size := by
  by_cases hb : b < w.heap.size
  · exact hb
  · have h0 : w.heap[b]? = none := Array.getElem?_eq_none (by omega)
    simp [World.cell?, h0] at h
theorem Rd.agree {w w2 : World} {a : Option Addr} {n c X : Nat} {l : List Value} (h : Rd w a n c l) (hc : ∀ Y, Y ≤ X → Clear n (blkV Y) a) (hg : ∀ g, X + 1 ≤ g → g < w.heap.size → w2.heap[g]? = w.heap[g]?) : Rd w2 a n c l := by
  refine ⟨h.len, h.le, h.max, h.nil, fun hn => ?_⟩
  obtain ⟨b, o, ha, hcell⟩ := h.at' hn
  refine ⟨b, o, ha, fun i v hv => ?_⟩
  have h1 := hcell i v hv
  have hX : X + 1 ≤ b := by
    by_cases h2 : b ≤ X
    · exact absurd (blkV_own b) (hc b h2 hn b o ha)
    · omega
  rw [World.cell?_of_block (w := w) (w' := w2) (a := ⟨b, o + i, none⟩) (hg b hX (cell_blk_lt h1))]
  exact h1
theorem NodC.agree {w w2 : World} {X : Nat} {v : Value} {p : NodV} {nd : Nod} (h : NodC w X v p nd) (hg : ∀ g, X + 1 ≤ g → g < w.heap.size → w2.heap[g]? = w.heap[g]?) : NodR w2 p nd := by
  obtain ⟨a, n, c, h3, r3, _, k2⟩ := h.ws
  obtain ⟨a', n', c', h4, r4, _, k4⟩ := h.ks
  exact ⟨h.e0, h.e1, h.e2, ⟨a, n, c, h3, r3.agree k2 hg⟩, ⟨a', n', c', h4, r4.agree k4 hg⟩⟩
theorem XW.xmr {w : World} {X : Nat} {v : Value} {t : TypeId} {nodes : List Nod} (h : XW w X v t nodes) : ∃ a c, v = .slice a nodes.length c ∧ XMR (X + 1) w.heap.size w a nodes.length c nodes := by
  obtain ⟨V, h1, h2, h3⟩ := h.row
  obtain ⟨a, c, rfl, _⟩ := rdK_of_row h2
  refine ⟨a, c, rfl, fun w2 hg => ?_⟩
  obtain ⟨a', c', e, hx⟩ := XM.of_row (rowK_at h2 fun g hgv => hg g (h2.lt g hgv).1 (h2.lt g hgv).2) h1 fun i p nd hp hn => (h3 i p nd hp hn).agree hg
  cases e
  exact hx
end Go.Proofs.YtflpkkebampmfaaDoor
namespace Go.Proofs.YtflpkkebampmfaaDoor
open Go.RowKit

/-- two expressions made, in boxes of their own -/
structure TwoB (x y : Xpr) (w0 W : World) (p5 p6 : Value) : Prop where
  ex : ∃ b5 b6 a1 c1 a2 c2, p5 = .pointer (some ⟨b5, 0, none⟩) ∧ p6 = .pointer (some ⟨b6, 0, none⟩) ∧ W.heap[b5]? = some (.cells #[.slice a1 x.nodes.length c1, .int .i64 x.root] 24 (0, 0)) ∧ W.heap[b6]? = some (.cells #[.slice a2 y.nodes.length c2, .int .i64 y.root] 24 (0, 0)) ∧ XM W a1 x.nodes.length c1 x.nodes ∧ XM W a2 y.nodes.length c2 y.nodes
  bel : Below w0.heap.size w0 W

abbrev zEx : Obj := .cells #[.slice none 0 0, .int .i64 0] 24
structure TS (x y : Xpr) (w0 W : World) (o5 o6 : Option Nat) (r1 r2 : Option (Option Addr × Nat)) : Prop where
  bel : Below w0.heap.size w0 W
  b5 : ∀ b, o5 = some b → W.heap[b]? = some zEx ∧ w0.heap.size ≤ b
  b6 : ∀ b, o6 = some b → W.heap[b]? = some zEx ∧ w0.heap.size ≤ b
  ne : ∀ b b', o5 = some b → o6 = some b' → b ≠ b'
  x1 : ∀ p, r1 = some p → ∃ lo hi, XMR lo hi W p.1 x.nodes.length p.2 x.nodes ∧ hi ≤ W.heap.size ∧ ∀ b, (o5 = some b ∨ o6 = some b) → b < lo ∨ hi ≤ b
  x2 : ∀ p, r2 = some p → ∃ lo hi, XMR lo hi W p.1 y.nodes.length p.2 y.nodes ∧ hi ≤ W.heap.size ∧ ∀ b, (o5 = some b ∨ o6 = some b) → b < lo ∨ hi ≤ b
theorem heap_some_lt {w : World} {b : Nat} {o : Obj} (h : w.heap[b]? = some o) : b < w.heap.size := (Array.getElem?_eq_some_iff.1 h).1
section
variable {x y : Xpr} {w0 W W' : World} {o5 o6 : Option Nat} {r1 r2 : Option (Option Addr × Nat)}
theorem TS.start (x y : Xpr) (w0 : World) : TS x y w0 w0.drew none none none none :=
  ⟨below_drew (Below.refl _ _), (fun _ h => by cases h), (fun _ h => by cases h), (fun _ _ h => by cases h), (fun _ h => by cases h), (fun _ h => by cases h)⟩
theorem TS.lt (h : TS x y w0 W o5 o6 r1 r2) {b : Nat} (hb : o5 = some b ∨ o6 = some b) : b < W.heap.size := by
  rcases hb with e | e
  · exact heap_some_lt (h.b5 b e).1
  · exact heap_some_lt (h.b6 b e).1
theorem TS.call1 (h : TS x y w0 W o5 o6 none r2) (hb : Below W.heap.size W W') {a : Option Addr} {c : Nat} (hx : XMR W.heap.size W'.heap.size W' a x.nodes.length c x.nodes) : TS x y w0 W' o5 o6 (some (a, c)) r2 :=
  { bel := Below.next h.bel hb
    b5 := fun b e => ⟨heap_below hb (h.b5 b e).1, (h.b5 b e).2⟩
    b6 := fun b e => ⟨heap_below hb (h.b6 b e).1, (h.b6 b e).2⟩
    ne := h.ne
    x1 := fun p e => by cases e; exact ⟨_, _, hx, Nat.le_refl _, fun b hb' => .inl (h.lt hb')⟩
    x2 := fun p e => by
      obtain ⟨lo, hi, h1, h2, h3⟩ := h.x2 p e
      exact ⟨lo, hi, h1.agree fun g _ hg => hb.block g (by omega), Nat.le_trans h2 hb.size, h3⟩ }
theorem TS.call2 (h : TS x y w0 W o5 o6 r1 none) (hb : Below W.heap.size W W') {a : Option Addr} {c : Nat} (hx : XMR W.heap.size W'.heap.size W' a y.nodes.length c y.nodes) : TS x y w0 W' o5 o6 r1 (some (a, c)) :=
  { bel := Below.next h.bel hb
    b5 := fun b e => ⟨heap_below hb (h.b5 b e).1, (h.b5 b e).2⟩
    b6 := fun b e => ⟨heap_below hb (h.b6 b e).1, (h.b6 b e).2⟩
    ne := h.ne
    x2 := fun p e => by cases e; exact ⟨_, _, hx, Nat.le_refl _, fun b hb' => .inl (h.lt hb')⟩
    x1 := fun p e => by
      obtain ⟨lo, hi, h1, h2, h3⟩ := h.x1 p e
      exact ⟨lo, hi, h1.agree fun g _ hg => hb.block g (by omega), Nat.le_trans h2 hb.size, h3⟩ }
theorem alloc_x {nodes : List Nod} {p : Option Addr × Nat} (W : World) (o : Obj) {O Q : Nat → Prop} (h : ∃ lo hi, XMR lo hi W p.1 nodes.length p.2 nodes ∧ hi ≤ W.heap.size ∧ ∀ b, O b → b < lo ∨ hi ≤ b) (hq : ∀ b, Q b → b = W.heap.size ∨ O b) :
    ∃ lo hi, XMR lo hi (W.alloc o) p.1 nodes.length p.2 nodes ∧ hi ≤ (W.alloc o).heap.size ∧ ∀ b, Q b → b < lo ∨ hi ≤ b := by
  obtain ⟨lo, hi, h1, h2, h3⟩ := h
  refine ⟨lo, hi, h1.agree fun g _ hg => Below.heap_alloc W o g (by omega), by rw [World.size_alloc]; omega, fun b hb => ?_⟩
  rcases hq b hb with rfl | h
  · exact .inr h2
  · exact h3 b h
theorem TS.alloc5 (h : TS x y w0 W none o6 r1 r2) : TS x y w0 (W.alloc zEx) (some W.heap.size) o6 r1 r2 :=
  { bel := h.bel.alloc h.bel.size _
    b5 := fun b e => by cases e; exact ⟨heap_alloc_new _ _, h.bel.size⟩
    b6 := fun b e => ⟨heap_alloc_at (h.b6 b e).1 _, (h.b6 b e).2⟩
    ne := fun b b' e e' => by cases e; have := h.lt (.inr e'); omega
    x1 := fun p e => alloc_x W _ (h.x1 p e) fun b hb => by
      rcases hb with hb | hb
      · cases hb; exact .inl rfl
      · exact .inr (.inr hb)
    x2 := fun p e => alloc_x W _ (h.x2 p e) fun b hb => by
      rcases hb with hb | hb
      · cases hb; exact .inl rfl
      · exact .inr (.inr hb) }
theorem TS.alloc6 (h : TS x y w0 W o5 none r1 r2) : TS x y w0 (W.alloc zEx) o5 (some W.heap.size) r1 r2 :=
  { bel := h.bel.alloc h.bel.size _
    b6 := fun b e => by cases e; exact ⟨heap_alloc_new _ _, h.bel.size⟩
    b5 := fun b e => ⟨heap_alloc_at (h.b5 b e).1 _, (h.b5 b e).2⟩
    ne := fun b b' e e' => by cases e'; have := h.lt (.inl e); omega
    x1 := fun p e => alloc_x W _ (h.x1 p e) fun b hb => by
      rcases hb with hb | hb
      · exact .inr (.inl hb)
      · cases hb; exact .inl rfl
    x2 := fun p e => alloc_x W _ (h.x2 p e) fun b hb => by
      rcases hb with hb | hb
      · exact .inr (.inl hb)
      · cases hb; exact .inl rfl }
theorem open2 {w : World} {B : Nat} {p q : Value} {t : TypeId} (h : w.heap[B]? = some (.cells #[p, q] t (0, 0))) :
    (w.cell? ⟨B, 0, none⟩ = some p ∧ w.cell? ⟨B, 1, none⟩ = some q) ∧ w.frozen? ⟨B, 0, none⟩ = false ∧ w.frozen? ⟨B, 1, none⟩ = false :=
  ⟨⟨cell_of_row _ _ 0 _ _ _ h, cell_of_row _ _ 1 _ _ _ h⟩, frozen_row h 0, frozen_row h 1⟩
theorem TS.fin {b5 b6 : Nat} {a1 a2 : Option Addr} {c1 c2 : Nat} (h : TS x y w0 W (some b5) (some b6) (some (a1, c1)) (some (a2, c2))) {W1 W2 : World} (h1 : W1 = (W.setCell ⟨b5, 0, none⟩ (.slice a1 x.nodes.length c1)).setCell ⟨b5, 1, none⟩ (.int .i64 x.root)) (h2 : W2 = (W1.setCell ⟨b6, 0, none⟩ (.slice a2 y.nodes.length c2)).setCell ⟨b6, 1, none⟩ (.int .i64 y.root)) :
    (W1.heap[b6]? = some zEx ∧ Below w0.heap.size w0 W1) ∧ TwoB x y w0 W2 (.pointer (some ⟨b5, 0, none⟩)) (.pointer (some ⟨b6, 0, none⟩)) := by
  have hne := h.ne b5 b6 rfl rfl
  obtain ⟨e5, l5⟩ := h.b5 b5 rfl
  obtain ⟨e6, l6⟩ := h.b6 b6 rfl
  obtain ⟨lo1, hi1, x1, _, y1⟩ := h.x1 _ rfl
  obtain ⟨lo2, hi2, x2, _, y2⟩ := h.x2 _ rfl
  have H : ∀ g, g ≠ b5 → W1.heap[g]? = W.heap[g]? := fun g hg => by
    rw [h1, Below.heap_setCell _ ⟨b5, 1, none⟩ _ g hg, Below.heap_setCell _ ⟨b5, 0, none⟩ _ g hg]
  have K : ∀ g, g ≠ b6 → W2.heap[g]? = W1.heap[g]? := fun g hg => by
    rw [h2, Below.heap_setCell _ ⟨b6, 1, none⟩ _ g hg, Below.heap_setCell _ ⟨b6, 0, none⟩ _ g hg]
  have k6 : W1.heap[b6]? = some zEx := (H b6 (fun e => hne e.symm)).trans e6
  have B1 : Below w0.heap.size w0 W1 := by rw [h1]; exact (h.bel.setCell (p := ⟨b5, 0, none⟩) l5 _).setCell (p := ⟨b5, 1, none⟩) l5 _
  have B2 : Below w0.heap.size w0 W2 := by rw [h2]; exact (B1.setCell (p := ⟨b6, 0, none⟩) l6 _).setCell (p := ⟨b6, 1, none⟩) l6 _
  refine ⟨⟨k6, B1⟩, ⟨b5, b6, a1, c1, a2, c2, rfl, rfl, ?_, ?_, ?_, ?_⟩, B2⟩
  · rw [K b5 hne, h1, heap_set_at (heap_set_at e5 0 _) 1 _]; rfl
  · rw [h2, heap_set_at (heap_set_at k6 0 _) 1 _]; rfl
  · exact x1 W2 fun g g1 g2 => (K g (fun e => by have := y1 b6 (.inr rfl); omega)).trans (H g (fun e => by have := y1 b5 (.inl rfl); omega))
  · exact x2 W2 fun g g1 g2 => (K g (fun e => by have := y2 b6 (.inr rfl); omega)).trans (H g (fun e => by have := y2 b5 (.inl rfl); omega))
end
end Go.Proofs.YtflpkkebampmfaaDoor
namespace Go.Proofs.YtflpkkebampmfaaDoor
open Go.RowKit

inductive IsInts (k : IntKind) (W : World) : Option Addr → Nat → Nat → List Int → Prop
  | nil : IsInts k W none 0 0 []
  | row {a : Addr} {len cap : Nat} {zs : List Int} (hl : len ≤ cap) (hm : cap ≤ maxLen) (hz : zs.length = cap)
      (hcell : ∀ i, i < zs.length → W.cell? (a.add i) = some (.int k (zs.getD i 0))) (hwz : ∀ n ∈ zs, (Lit.int k n).wf = true) : IsInts k W (some a) len cap (zs.take len)

theorem IsInts.rd {k : IntKind} {W : World} {a : Option Addr} {n c : Nat} {l : List Int} (h : IsInts k W a n c l) : Rd W a n c (l.map (Value.int k)) := by
  cases h with
  | nil => exact Rd.none_ W
  | @row a len cap zs hl hm hz hcell hwz =>
    refine ⟨by simp; omega, hl, hm, fun h => (by cases h), fun hn => ?_⟩
    have h0 := hcell 0 (by omega)
    have ha : a = ⟨a.block, a.off, none⟩ := by
      have : a.add 0 = a := by simp [Addr.add]
      rw [this] at h0
      unfold World.cell? at h0
      cases hs : a.spot with
      | none => cases a; simp_all
      | some s => rw [hs] at h0; split at h0 <;> simp at h0
    refine ⟨a.block, a.off, by rw [← ha], fun i v hv => ?_⟩
    have hi := (List.getElem?_eq_some_iff.1 hv).1
    have hi : i < n ∧ i < zs.length := by simp at hi; omega
    have h1 := hcell i (by omega)
    rw [ha] at h1
    rw [Addr.add_lit] at h1
    rw [h1]
    rw [List.getElem?_map, List.getElem?_take_of_lt hi.1, List.getElem?_eq_getElem hi.2] at hv
    simp at hv
    simp [List.getD, List.getElem?_eq_getElem hi.2, hv]
theorem IsInts.wf {k : IntKind} {W : World} {a : Option Addr} {n c : Nat} {l : List Int} (h : IsInts k W a n c l) : ∀ z ∈ l, (Lit.int k z).wf = true := by
  cases h with
  | nil => intro z hz; cases hz
  | row hl hm hz hcell hwz => exact fun z hz => hwz z (List.mem_of_mem_take hz)
theorem IsInts.len {k : IntKind} {W : World} {a : Option Addr} {n c : Nat} {l : List Int} (h : IsInts k W a n c l) : l.length = n := by
  cases h with
  | nil => rfl
  | row hl hm hz hcell hwz => simp; omega
end Go.Proofs.YtflpkkebampmfaaDoor
