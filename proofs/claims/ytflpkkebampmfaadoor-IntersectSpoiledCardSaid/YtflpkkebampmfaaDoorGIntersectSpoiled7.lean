/- Texts laid together. intersect.Families and the reference's. intersect.search, Pair, Least. Layer 20: the examples' expression; what the examples answer. Layer 20: awake (printed by aw20.py). Drafts in memory; nodes whose lists lie where nothing is being built. Plain lemmas over the model, no program. A handed slice of integers, as a law's frame opens it. Handed drafts, as a law's frame opens them. Handed trees, choices, expressions, descriptions, as a law's frame opens them. -/
import Derived.Test.YtflpkkebampmfaaDoorGIntersectSpoiled1
import Derived.Test.YtflpkkebampmfaaDoorGIntersectSpoiled2
import Derived.Test.YtflpkkebampmfaaDoorGIntersectSpoiled3
import Derived.Test.YtflpkkebampmfaaDoorGIntersectSpoiled4
import Derived.Test.YtflpkkebampmfaaDoorGIntersectSpoiled6
import Derived.Test.YtflpkkebampmfaaDoorProg
import Derived.Deep.RegionHeld3
import Derived.OpenShut
import Derived.Deep.Slices
import Derived.Deep.Fields
import Derived.ChangeSame
namespace Go.Proofs.YtflpkkebampmfaaDoor
open Go.RowKit Go.Shelf

set_option maxHeartbeats 400000 in
theorem violated_c (x y b : BitVec 16) (w : World) :
    Calls Tryd.prog 46 #[.int .u16 (U x), .int .u16 (U y), .int .u16 (U b)] w fun e w' => e = .returned (.bool (viol x y b)) ∧ w' = w := by
  go_enter Tryd.func46, Tryd.ntmps46
  go_wp2_with fail
  go_ret
  exact ⟨rfl, rfl⟩

set_option maxRecDepth 100000 in
set_option maxHeartbeats 2000000 in
theorem families_c (f g : List (BitVec 16)) (b : BitVec 16) (a : Option Addr) (n c : Nat) (a2 : Option Addr) (n2 c2 : Nat) (w : World) (h : Rd w a n c (f.map setV2)) (h2 : Rd w a2 n2 c2 (g.map setV2)) :
    Calls Tryd.prog 22 #[.slice a n c, .slice a2 n2 c2, .int .u16 (U b)] w fun e w' => e = .returned (.bool (famsB f g b)) ∧ Below w.heap.size w w' := by
  have hnl : f.length = n := by have := h.len; simp at this; omega
  have hnl2 : g.length = n2 := by have := h2.len; simp at this; omega
  have hm := h.max
  have hle := h.le
  have hm2 := h2.max
  have hle2 := h2.le
  unfold maxLen at hm hm2
  have HR := Lib.hid h
  have HR2 := Lib.hid h2
  have HN := Lib.hid hnl
  have HN2 := Lib.hid hnl2
  clear h h2 hnl hnl2
  go_enter Tryd.func22, Tryd.ntmps22
  go_wp2_with fail
  go_loopw [13] (fun i wr => ∃ k : Nat, k ≤ n ∧ i = .int .i64 k ∧ Hid (∀ (i : Nat) x, i < k → f[i]? = some x → ∀ (j : Nat) y, g[j]? = some y → viol x y b = false) ∧ Below w.heap.size w wr) (fun i _ => n - (intOf i).toNat)
  case atStart => exact ⟨0, Nat.zero_le _, rfl, Lib.hid (fun i x hi => by omega), Below.refl _ _⟩
  case round =>
    obtain ⟨k, hk, rfl, hno, hb⟩ := hrel
    by_cases hlt : k < n
    · obtain ⟨x, hx⟩ : ∃ x, f[k]? = some x := ⟨_, List.getElem?_eq_getElem (by have := HN.out; omega)⟩
      obtain ⟨bb, oo, ha, hcell⟩ := (HR.out.below hb).at' (by omega)
      have hc := hcell k (.int .u16 (U x)) (by rw [List.getElem?_map, hx]; rfl)
      have HX := Lib.hid hx
      subst ha
      clear hcell hx
      go_wp2_with fail
      have HB := Lib.hid hb
      clear hb hc
      obtain ⟨W0, hW0⟩ : ∃ W0, W0 = wr := ⟨_, rfl⟩
      subst hW0
      go_loopw [19] (fun i wq => ∃ j : Nat, j ≤ n2 ∧ i = .int .i64 j ∧ Hid (∀ (i : Nat) y, i < j → g[i]? = some y → viol x y b = false) ∧ Below W0.heap.size W0 wq) (fun i _ => n2 - (intOf i).toNat)
      case atStart => exact ⟨0, Nat.zero_le _, rfl, Lib.hid (fun i x hi => by omega), Below.refl _ _⟩
      case round =>
        obtain ⟨j, hj, rfl, hnj, hbq⟩ := hrel
        by_cases hlt2 : j < n2
        · obtain ⟨y, hy⟩ : ∃ y, g[j]? = some y := ⟨_, List.getElem?_eq_getElem (by have := HN2.out; omega)⟩
          obtain ⟨b2, o2, ha2, hcell2⟩ := (HR2.out.below (Below.next HB.out hbq)).at' (by omega)
          have hc2 := hcell2 j (.int .u16 (U y)) (by rw [List.getElem?_map, hy]; rfl)
          subst ha2
          clear hcell2
          have HV := Lib.hid (violated_c x y b wr)
          cases hv : viol x y b
          · rw [hv] at HV
            have hnj' : Hid (∀ (i : Nat) y, i < j + 1 → g[i]? = some y → viol x y b = false) := Lib.hid (fun i z hi hz => by
              by_cases h1 : i < j
              · exact hnj.out i z h1 hz
              · obtain rfl : i = j := by omega
                rw [hy] at hz; cases hz; exact hv)
            clear hv hy hnj
            go_wp2_with fail
            with_reducible refine HV.out.mono ?_
            rintro e w1 ⟨rfl, rfl⟩
            go_wp2_with fail
            go_roundw
            case rel => exact ⟨j + 1, by omega, by go_num, hnj', hbq⟩
            case measure => simp [intOf]; omega
          · rw [hv] at HV
            have hF : Hid (famsB f g b = false) := famsB_hit HX.out hy hv
            clear hv hy hnj
            go_wp2_with fail
            with_reducible refine HV.out.mono ?_
            rintro e w1 ⟨rfl, rfl⟩
            go_wp2_with fail
            go_ret
            exact ⟨ret_bool hF.out.symm, Below.next HB.out hbq⟩
        · obtain rfl : j = n2 := by omega
          have hno' : Hid (∀ (i : Nat) z, i < k + 1 → f[i]? = some z → ∀ (j : Nat) y, g[j]? = some y → viol z y b = false) := Lib.hid (fun i z hi hz m y hy => by
            by_cases h1 : i < k
            · exact hno.out i z h1 hz m y hy
            · obtain rfl : i = k := by omega
              have := HX.out
              rw [this] at hz; cases hz
              exact hnj.out m y (by have := (List.getElem?_eq_some_iff.1 hy).1; have := HN2.out; omega) hy)
          clear hno hnj
          go_wp2_with fail
          go_roundw
          case rel => exact ⟨k + 1, by omega, by go_num, hno', Below.next HB.out hbq⟩
          case measure => simp [intOf]; omega
    · obtain rfl : k = n := by omega
      have hT : Hid (famsB f g b = true) := famsB_all fun i x hx j y hy => hno.out i x (by have := (List.getElem?_eq_some_iff.1 hx).1; have := HN.out; omega) hx j y hy
      clear hno
      go_wp2_with fail
      go_ret
      exact ⟨ret_bool hT.out.symm, hb⟩
set_option maxRecDepth 100000 in
set_option maxHeartbeats 2000000 in
theorem rfamilies_c (f g : List (BitVec 16)) (b : BitVec 16) (a : Option Addr) (n c : Nat) (a2 : Option Addr) (n2 c2 : Nat) (w : World) (h : Rd w a n c (f.map setV2)) (h2 : Rd w a2 n2 c2 (g.map setV2)) :
    Calls Tryd.prog 23 #[.slice a n c, .slice a2 n2 c2, .int .u16 (U b)] w fun e w' => e = .returned (.bool (famsB f g b)) ∧ Below w.heap.size w w' := by
  have hnl : f.length = n := by have := h.len; simp at this; omega
  have hnl2 : g.length = n2 := by have := h2.len; simp at this; omega
  have hm := h.max
  have hle := h.le
  have hm2 := h2.max
  have hle2 := h2.le
  unfold maxLen at hm hm2
  have HR := Lib.hid h
  have HR2 := Lib.hid h2
  have HN := Lib.hid hnl
  have HN2 := Lib.hid hnl2
  clear h h2 hnl hnl2
  go_enter Tryd.func23, Tryd.ntmps23
  go_wp2_with fail
  go_loopw [7] (fun i wr => ∃ k : Nat, k ≤ n ∧ i = .int .i64 k ∧ Hid (∀ (i : Nat) x, i < k → f[i]? = some x → ∀ (j : Nat) y, g[j]? = some y → viol x y b = false) ∧ Below w.heap.size w wr) (fun i _ => n - (intOf i).toNat)
  case atStart => exact ⟨0, Nat.zero_le _, rfl, Lib.hid (fun i x hi => by omega), Below.refl _ _⟩
  case round =>
    obtain ⟨k, hk, rfl, hno, hb⟩ := hrel
    by_cases hlt : k < n
    · obtain ⟨x, hx⟩ : ∃ x, f[k]? = some x := ⟨_, List.getElem?_eq_getElem (by have := HN.out; omega)⟩
      obtain ⟨bb, oo, ha, hcell⟩ := (HR.out.below hb).at' (by omega)
      have hc := hcell k (.int .u16 (U x)) (by rw [List.getElem?_map, hx]; rfl)
      have HX := Lib.hid hx
      subst ha
      clear hcell hx
      go_wp2_with fail
      have HB := Lib.hid hb
      have HCX := Lib.hid hc
      clear hb hc
      obtain ⟨W0, hW0⟩ : ∃ W0, W0 = wr := ⟨_, rfl⟩
      subst hW0
      go_loopw [8] (fun i wq => ∃ j : Nat, j ≤ n2 ∧ i = .int .i64 j ∧ Hid (∀ (i : Nat) y, i < j → g[i]? = some y → viol x y b = false) ∧ Below W0.heap.size W0 wq) (fun i _ => n2 - (intOf i).toNat)
      case atStart => exact ⟨0, Nat.zero_le _, rfl, Lib.hid (fun i x hi => by omega), Below.refl _ _⟩
      case round =>
        obtain ⟨j, hj, rfl, hnj, hbq⟩ := hrel
        by_cases hlt2 : j < n2
        · obtain ⟨y, hy⟩ : ∃ y, g[j]? = some y := ⟨_, List.getElem?_eq_getElem (by have := HN2.out; omega)⟩
          obtain ⟨b2, o2, ha2, hcell2⟩ := (HR2.out.below (Below.next HB.out hbq)).at' (by omega)
          have hc2 := hcell2 j (.int .u16 (U y)) (by rw [List.getElem?_map, hy]; rfl)
          subst ha2
          clear hcell2
          have hc1 := ((hbq.cell (p := ⟨bb, oo + k, none⟩) (cell_lt HCX.out)).trans HCX.out)
          cases hv : viol x y b
          · have hv2 : (x &&& y &&& ~~~b == 0#16) = false := hv
            have hnj' : Hid (∀ (i : Nat) y, i < j + 1 → g[i]? = some y → viol x y b = false) := Lib.hid (fun i z hi hz => by
              by_cases h1 : i < j
              · exact hnj.out i z h1 hz
              · obtain rfl : i = j := by omega
                rw [hy] at hz; cases hz; exact hv)
            clear hv hy hnj
            go_wp2_with fail
            go_quiet (fail)
            go_wp2_with fail
            go_roundw
            case rel => exact ⟨j + 1, by omega, by go_num, hnj', below_drewN hbq⟩
            case measure => simp [intOf]; omega
          · have hv2 : (x &&& y &&& ~~~b == 0#16) = true := hv
            have hF : Hid (famsB f g b = false) := famsB_hit HX.out hy hv
            clear hv hy hnj
            go_wp2_with fail
            go_quiet (fail)
            go_wp2_with fail
            go_ret
            exact ⟨ret_bool hF.out.symm, below_drewN (Below.next HB.out hbq)⟩
        · obtain rfl : j = n2 := by omega
          have hno' : Hid (∀ (i : Nat) z, i < k + 1 → f[i]? = some z → ∀ (j : Nat) y, g[j]? = some y → viol z y b = false) := Lib.hid (fun i z hi hz m y hy => by
            by_cases h1 : i < k
            · exact hno.out i z h1 hz m y hy
            · obtain rfl : i = k := by omega
              have := HX.out
              rw [this] at hz; cases hz
              exact hnj.out m y (by have := (List.getElem?_eq_some_iff.1 hy).1; have := HN2.out; omega) hy)
          clear hno hnj
          go_wp2_with fail
          go_roundw
          case rel => exact ⟨k + 1, by omega, by go_num, hno', Below.next HB.out hbq⟩
          case measure => simp [intOf]; omega
    · obtain rfl : k = n := by omega
      have hT : Hid (famsB f g b = true) := famsB_all fun i x hx j y hy => hno.out i x (by have := (List.getElem?_eq_some_iff.1 hx).1; have := HN.out; omega) hx j y hy
      clear hno
      go_wp2_with fail
      go_ret
      exact ⟨ret_bool hT.out.symm, hb⟩
end Go.Proofs.YtflpkkebampmfaaDoor
namespace Go.Proofs.YtflpkkebampmfaaDoor
open Go.RowKit Go.Shelf

def oA : Option (BitVec 16 × BitVec 16) → BitVec 16
  | none => 0#16
  | some p => p.1
def oB : Option (BitVec 16 × BitVec 16) → BitVec 16
  | none => 0#16
  | some p => p.2
/-- a function value that answers a size -/
def SzAt (g : Nat) (lb : Array Value) (sz : BitVec 16 → Nat) : Prop := ∀ (z : BitVec 16) (W : World), Calls Tryd.prog g (#[.int .u16 (U z)] ++ lb) W fun e w' => e = .returned (.int .i64 (sz z)) ∧ ∃ q, w' = W.drewN q

set_option maxRecDepth 100000 in
set_option maxHeartbeats 4000000 in
theorem search_c (G : Nat) (lb : Array Value) (eg : ∀ args w, (callFunc G args).run Tryd.prog w = .ok (.enter G args) w) (sz : BitVec 16 → Nat) (hsz : SzAt G lb sz)
    (f g : List (BitVec 16)) (b : BitVec 16) (a : Option Addr) (n c : Nat) (a2 : Option Addr) (n2 c2 : Nat) (w : World) (h : Rd w a n c (f.map setV2)) (h2 : Rd w a2 n2 c2 (g.map setV2)) :
    Calls Tryd.prog 47 #[.slice a n c, .slice a2 n2 c2, .int .u16 (U b), .func (.func G) #[] lb] w fun e w' => e = .returned (.tuple #[.int .u16 (U (pairS b sz f g).1), .int .u16 (U (pairS b sz f g).2.1), .int .i64 (pairS b sz f g).2.2]) ∧ Below w.heap.size w w' := by
  have hnl : f.length = n := by have := h.len; simp at this; omega
  have hnl2 : g.length = n2 := by have := h2.len; simp at this; omega
  have hm := h.max
  have hle := h.le
  have hm2 := h2.max
  have hle2 := h2.le
  unfold maxLen at hm hm2
  have HR := Lib.hid h
  have HR2 := Lib.hid h2
  have HN := Lib.hid hnl
  have HN2 := Lib.hid hnl2
  have HSZ := Lib.hid hsz
  have HV1 := Lib.hid (valid_c f a n c w h)
  obtain ⟨R, hR⟩ : ∃ R, pairS b sz f g = R := ⟨_, rfl⟩
  rw [hR]
  have HPR := Lib.hid hR
  clear h h2 hnl hnl2 hsz hR
  obtain ⟨E1, hE1⟩ : ∃ E, valS f = E := ⟨_, rfl⟩
  obtain ⟨E2, hE2⟩ : ∃ E, valS g = E := ⟨_, rfl⟩
  rw [hE1] at HV1
  by_cases h1 : E1 = 0
  · subst h1
    by_cases h2 : E2 = 0
    · subst h2
      have HPS : Hid (R = match srcS b sz f g with | none => (0#16, 0#16, 13) | some p => (p.1, p.2, 0)) := by
        show R = _
        rw [← HPR.out]; unfold pairS; rw [if_neg (by rw [hE1]; simp), if_neg (by rw [hE2]; simp)]; rfl
      have HG0 := Lib.hid hE2
      clear hE1 hE2
      go_enter Tryd.func47, Tryd.ntmps47
      go_wp2_with fail
      with_reducible refine HV1.out.mono ?_
      rintro e w1 ⟨rfl, hb1⟩
      have HV2 := Lib.hid (valid_c g a2 n2 c2 w1 (HR2.out.below hb1))
      rw [HG0.out] at HV2
      have HB1 := Lib.hid hb1
      clear hb1
      go_wp2_with fail
      with_reducible refine HV2.out.mono ?_
      rintro e w2 ⟨rfl, hb2⟩
      have HB2 := Lib.hid (Below.next HB1.out hb2)
      clear hb2
      go_wp2_with fail
      go_loopw [13, 14, 15, 32] (fun u v z i wr => ∃ k : Nat, k ≤ n ∧ i = .int .i64 k ∧ (∃ o, u = .int .u16 (U (oA o)) ∧ v = .int .u16 (U (oB o)) ∧ z = .bool o.isSome ∧ Hid (srcFrom b sz (f.take k) g none = o)) ∧ Below w.heap.size w wr) (fun _ _ _ i _ => n - (intOf i).toNat)
      case atStart => exact ⟨0, Nat.zero_le _, rfl, ⟨none, rfl, rfl, rfl, rfl⟩, HB2.out⟩
      case round =>
        obtain ⟨k, hk, rfl, ⟨o, rfl, rfl, rfl, ho⟩, hb⟩ := hrel
        by_cases hlt : k < n
        · obtain ⟨x, hx⟩ : ∃ x, f[k]? = some x := ⟨_, List.getElem?_eq_getElem (by have := HN.out; omega)⟩
          obtain ⟨bb, oo, ha, hcell⟩ := (HR.out.below hb).at' (by omega)
          have hc := hcell k (.int .u16 (U x)) (by rw [List.getElem?_map, hx]; rfl)
          have HST := Lib.hid (srcFrom_succ (b := b) (sz := sz) (g := g) (o := none) hx)
          subst ha
          clear hcell hx
          go_wp2_with fail
          have HB := Lib.hid hb
          clear hb hc
          obtain ⟨W0, hW0⟩ : ∃ W0, W0 = wr := ⟨_, rfl⟩
          subst hW0
          go_loopw [13, 14, 15, 38] (fun u v z i wq => ∃ j : Nat, j ≤ n2 ∧ i = .int .i64 j ∧ (∃ o2, u = .int .u16 (U (oA o2)) ∧ v = .int .u16 (U (oB o2)) ∧ z = .bool o2.isSome ∧ Hid (srcRow b sz x (g.take j) o = o2)) ∧ Below W0.heap.size W0 wq) (fun _ _ _ i _ => n2 - (intOf i).toNat)
          case atStart => exact ⟨0, Nat.zero_le _, rfl, ⟨o, rfl, rfl, rfl, rfl⟩, Below.refl _ _⟩
          case round =>
            obtain ⟨j, hj, rfl, ⟨o2, rfl, rfl, rfl, ho2⟩, hbq⟩ := hrel
            by_cases hlt2 : j < n2
            · obtain ⟨y, hy⟩ : ∃ y, g[j]? = some y := ⟨_, List.getElem?_eq_getElem (by have := HN2.out; omega)⟩
              obtain ⟨b2, o3, ha2, hcell2⟩ := (HR2.out.below (Below.next HB.out hbq)).at' (by omega)
              have hc2 := hcell2 j (.int .u16 (U y)) (by rw [List.getElem?_map, hy]; rfl)
              have hstep : srcRow b sz x (g.take (j + 1)) o = srcStep b sz o2 x y := by rw [srcRow_succ hy, ho2.out]
              subst ha2
              have HV := Lib.hid (violated_c x y b wr)
              have HBQ := Lib.hid hbq
              clear hcell2 hy hbq
              cases hv : viol x y b
              · rw [hv] at HV
                rw [srcStep_miss hv] at hstep
                have HS := Lib.hid hstep
                clear hv hstep
                go_wp2_with fail
                with_reducible refine HV.out.mono ?_
                rintro e w5 ⟨rfl, rfl⟩
                go_wp2_with fail
                go_roundw
                case rel => exact ⟨j + 1, by omega, by go_num, ⟨o2, rfl, rfl, rfl, HS⟩, HBQ.out⟩
                case measure => simp [intOf]; omega
              · rw [hv] at HV
                cases o2 with
                | none =>
                  have hstep2 : srcRow b sz x (g.take (j + 1)) o = some (x, y) := by rw [hstep]; unfold srcStep; rw [if_pos hv]
                  have HS := Lib.hid hstep2
                  have hsome : (none : Option (BitVec 16 × BitVec 16)).isSome = false := rfl
                  rw [hsome]
                  clear hv hstep hstep2
                  go_wp2_with fail
                  with_reducible refine HV.out.mono ?_
                  rintro e w5 ⟨rfl, rfl⟩
                  go_wp2_with fail
                  go_roundw
                  case rel => exact ⟨j + 1, by omega, by go_num, ⟨some (x, y), rfl, rfl, rfl, HS⟩, HBQ.out⟩
                  case measure => simp [intOf]; omega
                | some p =>
                  obtain ⟨p1, p2⟩ := p
                  have hsome : (some (p1, p2) : Option (BitVec 16 × BitVec 16)).isSome = true := rfl
                  have hoA : oA (some (p1, p2)) = p1 := rfl
                  have hoB : oB (some (p1, p2)) = p2 := rfl
                  rw [hsome, hoA, hoB]
                  have HZ1 := Lib.hid (HSZ.out (x ||| y))
                  have HZ2 := Lib.hid (HSZ.out (p1 ||| p2))
                  by_cases hs : sz (x ||| y) < sz (p1 ||| p2)
                  · have hstep2 : srcRow b sz x (g.take (j + 1)) o = some (x, y) := by rw [hstep]; unfold srcStep; rw [if_pos hv]; show (if _ then _ else _) = _; rw [if_pos hs]
                    have HS := Lib.hid hstep2
                    obtain ⟨s1, hs1⟩ : ∃ s, sz (x ||| y) = s := ⟨_, rfl⟩
                    obtain ⟨s2, hs2⟩ : ∃ s, sz (p1 ||| p2) = s := ⟨_, rfl⟩
                    rw [hs1] at HZ1 hs
                    rw [hs2] at HZ2 hs
                    have hd : decide (s1 < s2) = true := decide_eq_true hs
                    clear hv hstep hstep2 hs1 hs2 hs
                    go_wp2_with fail
                    with_reducible refine HV.out.mono ?_
                    rintro e w5 ⟨rfl, rfl⟩
                    go_wp2_with fail
                    with_reducible refine (HZ1.out _).mono ?_
                    rintro e w6 ⟨rfl, q6, rfl⟩
                    go_wp2_with fail
                    with_reducible refine (HZ2.out _).mono ?_
                    rintro e w7 ⟨rfl, q7, rfl⟩
                    go_wp2_with fail
                    go_roundw
                    case rel => exact ⟨j + 1, by omega, by go_num, ⟨some (x, y), rfl, rfl, rfl, HS⟩, below_drewN HBQ.out⟩
                    case measure => simp [intOf]; omega
                  · have hstep2 : srcRow b sz x (g.take (j + 1)) o = some (p1, p2) := by rw [hstep]; unfold srcStep; rw [if_pos hv]; show (if _ then _ else _) = _; rw [if_neg hs]
                    have HS := Lib.hid hstep2
                    obtain ⟨s1, hs1⟩ : ∃ s, sz (x ||| y) = s := ⟨_, rfl⟩
                    obtain ⟨s2, hs2⟩ : ∃ s, sz (p1 ||| p2) = s := ⟨_, rfl⟩
                    rw [hs1] at HZ1 hs
                    rw [hs2] at HZ2 hs
                    have hd : decide (s1 < s2) = false := decide_eq_false hs
                    clear hv hstep hstep2 hs1 hs2 hs
                    go_wp2_with fail
                    with_reducible refine HV.out.mono ?_
                    rintro e w5 ⟨rfl, rfl⟩
                    go_wp2_with fail
                    with_reducible refine (HZ1.out _).mono ?_
                    rintro e w6 ⟨rfl, q6, rfl⟩
                    go_wp2_with fail
                    with_reducible refine (HZ2.out _).mono ?_
                    rintro e w7 ⟨rfl, q7, rfl⟩
                    go_wp2_with fail
                    go_roundw
                    case rel => exact ⟨j + 1, by omega, by go_num, ⟨some (p1, p2), rfl, rfl, rfl, HS⟩, below_drewN HBQ.out⟩
                    case measure => simp [intOf]; omega
            · obtain rfl : j = n2 := by omega
              have hall : srcFrom b sz (f.take (k + 1)) g none = o2 := by
                have h1 := ho2.out
                rw [List.take_of_length_le (by have := HN2.out; omega)] at h1
                rw [HST.out, ho.out]; exact h1
              have HALL := Lib.hid hall
              have HBQ := Lib.hid hbq
              clear hall hbq ho ho2
              go_wp2_with fail
              go_roundw
              case rel => exact ⟨k + 1, by omega, by go_num, ⟨o2, rfl, rfl, rfl, HALL⟩, Below.next HB.out HBQ.out⟩
              case measure => simp [intOf]; omega
        · obtain rfl : k = n := by omega
          have hall : srcS b sz f g = o := by
            have h1 := ho.out
            rw [List.take_of_length_le (by have := HN.out; omega)] at h1
            exact h1
          have hRR := HPS.out
          rw [hall] at hRR
          have HBQ := Lib.hid hb
          clear hall hb ho
          cases o with
          | none =>
            have hsome : (none : Option (BitVec 16 × BitVec 16)).isSome = false := rfl
            rw [hsome]
            have HRR : Hid (R = (0#16, 0#16, 13)) := hRR
            clear hRR
            go_wp2_with fail
            go_ret3
            rw [HRR.out]
            exact ⟨rfl, HBQ.out⟩
          | some p =>
            obtain ⟨p1, p2⟩ := p
            have hsome : (some (p1, p2) : Option (BitVec 16 × BitVec 16)).isSome = true := rfl
            have hoA : oA (some (p1, p2)) = p1 := rfl
            have hoB : oB (some (p1, p2)) = p2 := rfl
            rw [hsome, hoA, hoB]
            have HRR : Hid (R = (p1, p2, 0)) := hRR
            clear hRR
            go_wp2_with fail
            go_ret3
            rw [HRR.out]
            exact ⟨rfl, HBQ.out⟩
    · have HRR : Hid (R = (0#16, 0#16, E2)) := by
        show R = _
        rw [← HPR.out]; unfold pairS; rw [if_neg (by rw [hE1]; simp), if_pos (by rw [hE2]; exact h2), hE2]
      have HG0 := Lib.hid hE2
      have hne : (E2 != 0) = true := by simpa using h2
      clear hE1 hE2 h2
      go_enter Tryd.func47, Tryd.ntmps47
      go_wp2_with fail
      with_reducible refine HV1.out.mono ?_
      rintro e w1 ⟨rfl, hb1⟩
      have HV2 := Lib.hid (valid_c g a2 n2 c2 w1 (HR2.out.below hb1))
      rw [HG0.out] at HV2
      have HB1 := Lib.hid hb1
      clear hb1
      go_wp2_with fail
      with_reducible refine HV2.out.mono ?_
      rintro e w2 ⟨rfl, hb2⟩
      have HB2 := Lib.hid (Below.next HB1.out hb2)
      clear hb2
      go_wp2_with fail
      go_ret3
      rw [HRR.out]
      exact ⟨rfl, HB2.out⟩
  · have HRR : Hid (R = (0#16, 0#16, E1)) := by
      show R = _
      rw [← HPR.out]; unfold pairS; rw [if_pos (by rw [hE1]; exact h1), hE1]
    have hne : (E1 != 0) = true := by simpa using h1
    clear hE1 hE2 h1
    go_enter Tryd.func47, Tryd.ntmps47
    go_wp2_with fail
    with_reducible refine HV1.out.mono ?_
    rintro e w1 ⟨rfl, hb1⟩
    have HB1 := Lib.hid hb1
    clear hb1
    go_wp2_with fail
    go_ret3
    rw [HRR.out]
    exact ⟨rfl, HB1.out⟩

theorem pair1_at : SzAt 48 #[] (fun _ => 0) := fun z W => by
  show Calls Tryd.prog 48 #[.int .u16 (U z)] W _
  go_enter Tryd.func48, Tryd.ntmps48
  go_wp2_with fail
  go_ret
  exact ⟨rfl, 0, rfl⟩
theorem least1_at : SzAt 50 #[] cnt := fun z W => by
  show Calls Tryd.prog 50 #[.int .u16 (U z)] W _
  have HO := Lib.hid (ones_c z (U z) W rfl)
  go_enter Tryd.func50, Tryd.ntmps50
  go_wp2_with fail
  with_reducible refine HO.out.mono ?_
  rintro e w1 ⟨rfl, q, rfl⟩
  go_wp2_with fail
  go_ret
  exact ⟨rfl, q, rfl⟩

set_option maxHeartbeats 1000000 in
theorem pair_c (f g : List (BitVec 16)) (b : BitVec 16) (a : Option Addr) (n c : Nat) (a2 : Option Addr) (n2 c2 : Nat) (w : World) (h : Rd w a n c (f.map setV2)) (h2 : Rd w a2 n2 c2 (g.map setV2)) :
    Calls Tryd.prog 24 #[.slice a n c, .slice a2 n2 c2, .int .u16 (U b)] w fun e w' => e = .returned (.tuple #[.int .u16 (U (pairS b (fun _ => 0) f g).1), .int .u16 (U (pairS b (fun _ => 0) f g).2.1), .int .i64 (pairS b (fun _ => 0) f g).2.2]) ∧ Below w.heap.size w w' := by
  have HS := Lib.hid (search_c 48 #[] (enters_of Tryd.func48 (by kernel_rfl) rfl) _ pair1_at f g b a n c a2 n2 c2 w h h2)
  obtain ⟨R, hR⟩ : ∃ R, pairS b (fun _ => 0) f g = R := ⟨_, rfl⟩
  rw [hR] at HS ⊢
  clear h h2 hR
  go_enter Tryd.func24, Tryd.ntmps24
  go_wp2_with fail
  with_reducible refine HS.out.mono ?_
  rintro e w1 ⟨rfl, hb⟩
  go_wp2_with fail
  go_ret3
  exact ⟨rfl, hb⟩
set_option maxHeartbeats 1000000 in
theorem least_c (f g : List (BitVec 16)) (b : BitVec 16) (a : Option Addr) (n c : Nat) (a2 : Option Addr) (n2 c2 : Nat) (w : World) (h : Rd w a n c (f.map setV2)) (h2 : Rd w a2 n2 c2 (g.map setV2)) :
    Calls Tryd.prog 27 #[.slice a n c, .slice a2 n2 c2, .int .u16 (U b)] w fun e w' => e = .returned (.tuple #[.int .u16 (U (pairS b cnt f g).1), .int .u16 (U (pairS b cnt f g).2.1), .int .i64 (pairS b cnt f g).2.2]) ∧ Below w.heap.size w w' := by
  have HS := Lib.hid (search_c 50 #[] (enters_of Tryd.func50 (by kernel_rfl) rfl) _ least1_at f g b a n c a2 n2 c2 w h h2)
  obtain ⟨R, hR⟩ : ∃ R, pairS b cnt f g = R := ⟨_, rfl⟩
  rw [hR] at HS ⊢
  clear h h2 hR
  go_enter Tryd.func27, Tryd.ntmps27
  go_wp2_with fail
  with_reducible refine HS.out.mono ?_
  rintro e w1 ⟨rfl, hb⟩
  go_wp2_with fail
  go_ret3
  exact ⟨rfl, hb⟩
end Go.Proofs.YtflpkkebampmfaaDoor
namespace Go.Proofs.YtflpkkebampmfaaDoor
open Go.RowKit Go.Shelf

def twoX : Xpr := ⟨[⟨1, 0, 0, [], []⟩, ⟨1, 1, 0, [], []⟩, ⟨1, 2, 0, [], []⟩, ⟨2, 0, 2, [], [0, 1, 2]⟩], 3⟩
theorem twoX_ok : xprE twoX = 0 := by decide +kernel
theorem twoX_few : XprFew twoX := fun k nd h => by
  match k, h with
  | 0, h => cases h; decide
  | 1, h => cases h; decide
  | 2, h => cases h; decide
  | 3, h => cases h; decide
def awT : Byts := [48, 40, 49, 40, 121, 44, 32, 50, 40, 121, 44, 32, 120, 41, 41, 44, 32, 49, 40, 50, 40, 121, 44, 32, 120, 41, 44, 32, 120, 41, 41]
theorem aw_par : (parC awT).2 = 0 ∧ (parC awT).1.nodes.length = 11 ∧ certC twoX twoX 0#16 (parC awT).1 = true ∧ certC twoX twoX 1#16 (parC awT).1 = false := by decide +kernel
theorem aw_prv : (prvS twoX twoX (leftS twoX twoX 0#16)).2 = 0 ∧ certC twoX twoX 0#16 (prvS twoX twoX (leftS twoX twoX 0#16)).1 = true ∧ (prvS twoX twoX (leftS twoX twoX 1#16)).2 = 12 := by decide +kernel
theorem aw_pair : pairS 1#16 (fun _ => 0) [3#16, 5#16, 6#16] [3#16, 5#16, 6#16] = (3#16, 5#16, 0) ∧ (pairS 0#16 (fun _ => 0) [3#16, 5#16, 6#16] [3#16, 5#16, 6#16]).2.2 = 13 := by decide +kernel

def twoV (b : Nat) : List NodV := [⟨1, 0, 0, .slice none 0 0, .slice none 0 0⟩, ⟨1, 1, 0, .slice none 0 0, .slice none 0 0⟩, ⟨1, 2, 0, .slice none 0 0, .slice none 0 0⟩, ⟨2, 0, 2, .slice none 0 0, .slice (some ⟨b, 0, none⟩) 3 3⟩]

set_option maxRecDepth 100000 in
set_option maxHeartbeats 1000000 in
theorem two20_c (w : World) :
    Calls Tryd.prog 31 #[] w fun e w' => ∃ a c, e = .returned (.agg #[.slice a 4 c, .int .i64 3]) ∧ XM w' a 4 c twoX.nodes ∧ Below w.heap.size w w' := by
  go_enter Tryd.func31, Tryd.ntmps31
  go_wp2_with fail
  obtain ⟨B, hB⟩ : ∃ B, B = w.heap.size + 1 := ⟨_, rfl⟩
  rw [← hB]
  obtain ⟨W1, hW1⟩ : ∃ W1, W1 = w.alloc (.cells #[.slice (some ⟨B + 1, 0, none⟩) 4 4, .int .i64 3] 24) := ⟨_, rfl⟩
  obtain ⟨W2, hW2⟩ : ∃ W2, W2 = W1.alloc (.cells #[.int .i64 0, .int .i64 1, .int .i64 2] 3) := ⟨_, rfl⟩
  obtain ⟨W3, hW3⟩ : ∃ W3, W3 = W2.alloc (.cells ((twoV B).flatMap nodVC).toArray 64) := ⟨_, rfl⟩
  have e3 : ((twoV B).flatMap nodVC).toArray = #[.int .i64 1, .int .i64 0, .int .i64 0, .slice none 0 0, .slice none 0 0, .int .i64 1, .int .i64 1, .int .i64 0, .slice none 0 0, .slice none 0 0, .int .i64 1, .int .i64 2, .int .i64 0, .slice none 0 0, .slice none 0 0, .int .i64 2, .int .i64 0, .int .i64 2, .slice none 0 0, .slice (some ⟨B, 0, none⟩) 3 3] := rfl
  rw [← e3, ← hW1, ← hW2, ← hW3]
  have s1 : W1.heap.size = w.heap.size + 1 := by rw [hW1]; simp
  have s2 : W2.heap.size = w.heap.size + 1 + 1 := by rw [hW2]; simp [s1]
  have b1 : Below w.heap.size w W1 := by rw [hW1]; exact (Below.refl _ w).alloc (Nat.le_refl _) _
  have b2 : Below W1.heap.size W1 W2 := by rw [hW2]; exact (Below.refl _ _).alloc (Nat.le_refl _) _
  have b3 : Below W2.heap.size W2 W3 := by rw [hW3]; exact (Below.refl _ _).alloc (Nat.le_refl _) _
  have rI : Rd W3 (some ⟨B, 0, none⟩) 3 3 ([0, 1, 2].map (Value.int .i64)) := by
    refine Rd.below ?_ b3
    rw [hW2]; exact Rd.lit' W1 _ _ 3 _ rfl rfl (by decide) (by rw [hB, s1])
  have rX : XM W3 (some ⟨B + 1, 0, none⟩) 4 4 twoX.nodes := by
    refine XM.of_rdK (V := twoV B) (by rw [hW3]; exact RdK.lit' 5 W2 _ _ 4 _ (by simp) rfl (by decide) (by rw [hB, s2])) rfl ?_
    intro i p nd hp hn
    have nl : ∃ a n c, Value.slice none 0 0 = .slice a n c ∧ Rd W3 a n c (([] : List Int).map (Value.int .i64)) := ⟨none, 0, 0, rfl, Rd.none_ _⟩
    match i, hp, hn with
    | 0, hp, hn => cases hp; cases hn; exact ⟨rfl, rfl, rfl, nl, nl⟩
    | 1, hp, hn => cases hp; cases hn; exact ⟨rfl, rfl, rfl, nl, nl⟩
    | 2, hp, hn => cases hp; cases hn; exact ⟨rfl, rfl, rfl, nl, nl⟩
    | 3, hp, hn => cases hp; cases hn; exact ⟨rfl, rfl, rfl, nl, ⟨_, _, _, rfl, rI⟩⟩
  have e1 : W3.heap[w.heap.size]? = some (.cells #[.slice (some ⟨B + 1, 0, none⟩) 4 4, .int .i64 3] 24 (0, 0)) := by
    refine heap_below b3 (heap_below b2 ?_)
    rw [hW1]; exact heap_alloc_new _ _
  have hbw := Below.next b1 (Below.next b2 b3)
  refine bodyPost_ret (v := .agg #[.slice (some ⟨B + 1, 0, none⟩) 4 4, .int .i64 3]) ?_ rfl ⟨_, _, rfl, rX, hbw⟩
  exact results_cell_row rfl _ _ _ _ _ _ _ rfl e1 Tryd.underlying24 rfl (by kernel_rfl)
end Go.Proofs.YtflpkkebampmfaaDoor
namespace Go.Proofs.YtflpkkebampmfaaDoor
open Go.RowKit Go.Shelf

theorem awL : ([3#16, 5#16, 6#16] : List (BitVec 16)).map setV2 = [.int .u16 3, .int .u16 5, .int .u16 6] := rfl
theorem aw_p1 (u : World) (a : Option Addr) (h : Rd u a 3 3 [.int .u16 3, .int .u16 5, .int .u16 6]) : Calls Tryd.prog 24 #[.slice a 3 3, .slice a 3 3, .int .u16 1] u fun e w' => e = .returned (.tuple #[.int .u16 3, .int .u16 5, .int .i64 0]) ∧ Below u.heap.size u w' := by
  rw [← awL] at h
  have := pair_c [3#16, 5#16, 6#16] [3#16, 5#16, 6#16] 1#16 a 3 3 a 3 3 u h h
  rw [aw_pair.1] at this
  exact this
theorem aw_p0 (u : World) (a : Option Addr) (h : Rd u a 3 3 [.int .u16 3, .int .u16 5, .int .u16 6]) : Calls Tryd.prog 24 #[.slice a 3 3, .slice a 3 3, .int .u16 0] u fun e w' => ∃ x y, e = .returned (.tuple #[.int .u16 x, .int .u16 y, .int .i64 13]) ∧ Below u.heap.size u w' := by
  rw [← awL] at h
  have := pair_c [3#16, 5#16, 6#16] [3#16, 5#16, 6#16] 0#16 a 3 3 a 3 3 u h h
  rw [aw_pair.2] at this
  exact this.mono fun e w' hh => ⟨_, _, hh⟩
theorem aw_pa (u : World) (hr : HasRng u) (hy : HasSyn u) : Calls Tryd.prog 16 #[.string ⟨#[48, 40, 49, 40, 121, 44, 32, 50, 40, 121, 44, 32, 120, 41, 41, 44, 32, 49, 40, 50, 40, 121, 44, 32, 120, 41, 44, 32, 120, 41, 41]⟩] u fun e w' => ∃ a c, e = .returned (.tuple #[.agg #[.slice a 11 c, .int .i64 (parC awT).1.root], .int .i64 0]) ∧ TM w' a 11 c (parC awT).1.nodes ∧ Below u.heap.size u w' := by
  have := parse_c awT (by decide) u hr hy
  rw [aw_par.1, aw_par.2.1] at this
  exact this
theorem aw_v0 (u : World) (a1 : Option Addr) (c1 : Nat) (a2 : Option Addr) (c2 : Nat) (h1 : XM u a1 4 c1 twoX.nodes) (h2 : XM u a2 4 c2 twoX.nodes) (ht : HasTab u) :
    Calls Tryd.prog 13 #[.agg #[.slice a1 4 c1, .int .i64 3], .agg #[.slice a2 4 c2, .int .i64 3], .int .u16 0] u fun e w' => ∃ a n c r, e = .returned (.tuple #[.agg #[.slice a n c, .int .i64 r], .int .i64 0]) ∧ (TM w' a n c (prvS twoX twoX (leftS twoX twoX 0#16)).1.nodes ∧ r = (prvS twoX twoX (leftS twoX twoX 0#16)).1.root) ∧ Below u.heap.size u w' := by
  have := prove_ok twoX twoX 0#16 twoX_ok twoX_ok twoX_few twoX_few a1 4 c1 a2 4 c2 u h1 h2 ht
  rw [aw_prv.1] at this
  exact this.mono fun e w' ⟨a, c, h1, h2, h3⟩ => ⟨a, _, c, _, h1, ⟨h2, rfl⟩, h3⟩
theorem aw_v1 (u : World) (a1 : Option Addr) (c1 : Nat) (a2 : Option Addr) (c2 : Nat) (h1 : XM u a1 4 c1 twoX.nodes) (h2 : XM u a2 4 c2 twoX.nodes) (ht : HasTab u) :
    Calls Tryd.prog 13 #[.agg #[.slice a1 4 c1, .int .i64 3], .agg #[.slice a2 4 c2, .int .i64 3], .int .u16 1] u fun e w' => ∃ a n c r, e = .returned (.tuple #[.agg #[.slice a n c, .int .i64 r], .int .i64 12]) ∧ Below u.heap.size u w' := by
  have := prove_ok twoX twoX 1#16 twoX_ok twoX_ok twoX_few twoX_few a1 4 c1 a2 4 c2 u h1 h2 ht
  rw [aw_prv.2.2] at this
  exact this.mono fun e w' ⟨a, c, h1, h2, h3⟩ => ⟨a, _, c, _, h1, h3⟩
theorem aw_c (b : BitVec 16) (bi : Int) (hbi : U b = bi) (t : Tre) (V : Bool) (hV : certC twoX twoX b t = V) (u : World) (a1 : Option Addr) (c1 : Nat) (a2 : Option Addr) (c2 : Nat) (a : Option Addr) (n c : Nat) (h1 : XM u a1 4 c1 twoX.nodes) (h2 : XM u a2 4 c2 twoX.nodes) (h : TM u a n c t.nodes) :
    Calls Tryd.prog 15 #[.agg #[.slice a1 4 c1, .int .i64 3], .agg #[.slice a2 4 c2, .int .i64 3], .int .u16 bi, .agg #[.slice a n c, .int .i64 t.root]] u fun e w' => e = .returned (.bool V) ∧ Below u.heap.size u w' := by
  have := check_c twoX twoX b twoX_ok twoX_ok twoX_few twoX_few t a1 4 c1 a2 4 c2 a n c u h1 h2 h
  rw [hV, hbi] at this
  exact this

set_option maxRecDepth 100000 in
set_option maxHeartbeats 4000000 in
theorem awake20_c (w : World) (ht : HasTab w) (hr : HasRng w) (hy : HasSyn w) :
    Calls Tryd.prog 10 #[] w fun e w' => e = .returned (.bool true) ∧ Below w.heap.size w w' := by
  obtain ⟨W1, hW1⟩ : ∃ W1, W1 = w.alloc (.cells #[.int .u16 3, .int .u16 5, .int .u16 6] 26) := ⟨_, rfl⟩
  have hb1 : Below w.heap.size w W1 := by rw [hW1]; exact (Below.refl _ w).alloc (Nat.le_refl _) _
  have hf : Rd W1 (some ⟨w.heap.size, 0, none⟩) 3 3 [.int .u16 3, .int .u16 5, .int .u16 6] := by rw [hW1]; exact Rd.lit' w _ _ 3 _ rfl rfl (by decide) rfl
  have HF := Lib.hid hf
  have HB1 := Lib.hid hb1
  have HT := Lib.hid (fun u (hb : Below w.heap.size w u) => ht.below hb)
  have HE := Lib.hid (fun u (hb : Below w.heap.size w u) => aw_pa u (hr.below hb) (hy.below hb))
  obtain ⟨T, hT⟩ : ∃ T, (parC awT).1 = T := ⟨_, rfl⟩
  obtain ⟨Q, hQ⟩ : ∃ Q, (prvS twoX twoX (leftS twoX twoX 0#16)).1 = Q := ⟨_, rfl⟩
  have HV0 := Lib.hid aw_v0
  rw [hQ] at HV0
  rw [hT] at HE
  have HC0 : Hid (certC twoX twoX 0#16 T = true) := Lib.hid (by rw [← hT]; exact aw_par.2.2.1)
  have HC1 : Hid (certC twoX twoX 1#16 T = false) := Lib.hid (by rw [← hT]; exact aw_par.2.2.2)
  have HCQ : Hid (certC twoX twoX 0#16 Q = true) := Lib.hid (by rw [← hQ]; exact aw_prv.2.1)
  obtain ⟨rT, hrT⟩ : ∃ r, T.root = r := ⟨_, rfl⟩
  rw [hrT] at HE
  have HRT := Lib.hid hrT
  clear hT hQ ht hr hy hb1 hf hrT
  go_enter Tryd.func10, Tryd.ntmps10
  go_wp2_with fail
  rw [← hW1]
  clear hW1
  with_reducible refine (aw_p1 W1 _ HF.out).mono ?_
  rintro e w2 ⟨rfl, hb2⟩
  have HF2 := Lib.hid (HF.out.below hb2)
  have HB2 := Lib.hid (Below.next HB1.out hb2)
  clear hb2
  go_wp2_with fail
  with_reducible refine (aw_p0 w2 _ HF2.out).mono ?_
  rintro e w3 ⟨x3, y3, rfl, hb3⟩
  have HB3 := Lib.hid (Below.next HB2.out hb3)
  clear hb3
  go_wp2_with fail
  with_reducible refine (HE.out w3 HB3.out).mono ?_
  rintro e w4 ⟨aT, cT, rfl, htm, hb4⟩
  have HM4 := Lib.hid htm
  have HB4 := Lib.hid (Below.next HB3.out hb4)
  clear htm hb4
  go_wp2_with fail
  obtain ⟨W5, hW5⟩ : ∃ W5, W5 = w4.alloc (.cells #[.slice aT 11 cT, .int .i64 rT] 33) := ⟨_, rfl⟩
  rw [← hW5]
  have hb5 : Below w4.heap.size w4 W5 := by rw [hW5]; exact (Below.refl _ _).alloc (Nat.le_refl _) _
  have g5 : W5.heap[w4.heap.size]? = some (.cells #[.slice aT 11 cT, .int .i64 rT] 33 (0, 0)) := by rw [hW5]; exact heap_alloc_new _ _
  have HG5 := Lib.hid g5
  have HM5 := Lib.hid (RdK.below HM4.out hb5)
  have HB5 := Lib.hid (Below.next HB4.out hb5)
  clear hb5 g5 hW5
  with_reducible refine (two20_c W5).mono ?_
  rintro e w6 ⟨a6, c6, rfl, hx6, hb6⟩
  have HX6 := Lib.hid hx6
  have HS6 := Lib.hid hb6
  clear hx6 hb6
  go_wp2_with fail
  with_reducible refine (two20_c w6).mono ?_
  rintro e w7 ⟨a7, c7, rfl, hx7, hb7⟩
  have HX7 := Lib.hid hx7
  have HX67 := Lib.hid (HX6.out.below hb7)
  have HS7 := Lib.hid (Below.next HS6.out hb7)
  have HB7 := Lib.hid (Below.next HB5.out (Below.next HS6.out hb7))
  clear hx7 hb7
  go_wp2_with fail
  with_reducible refine (HV0.out w7 a6 c6 a7 c7 HX67.out HX7.out (HT.out w7 HB7.out)).mono ?_
  rintro e w8 ⟨aQ, nQ, cQ, rQ, rfl, ⟨htm, hrQ⟩, hb8⟩
  have HM8 := Lib.hid htm
  have HRQ := Lib.hid hrQ
  have HS8 := Lib.hid (Below.next HS7.out hb8)
  have HB8 := Lib.hid (Below.next HB7.out hb8)
  clear htm hrQ hb8
  go_wp2_with fail
  obtain ⟨W9, hW9⟩ : ∃ W9, W9 = w8.alloc (.cells #[.slice aQ nQ cQ, .int .i64 rQ] 33) := ⟨_, rfl⟩
  rw [← hW9]
  have hb9 : Below w8.heap.size w8 W9 := by rw [hW9]; exact (Below.refl _ _).alloc (Nat.le_refl _) _
  have g9 : W9.heap[w8.heap.size]? = some (.cells #[.slice aQ nQ cQ, .int .i64 rQ] 33 (0, 0)) := by rw [hW9]; exact heap_alloc_new _ _
  have HG9 := Lib.hid g9
  have HM9 := Lib.hid (RdK.below HM8.out hb9)
  have HS9 := Lib.hid (Below.next HS8.out hb9)
  have HB9 := Lib.hid (Below.next HB8.out hb9)
  clear hb9 g9 hW9
  with_reducible refine (two20_c W9).mono ?_
  rintro e w10 ⟨a10, c10, rfl, hx10, hb10⟩
  have HX10 := Lib.hid hx10
  have HZ10 := Lib.hid hb10
  clear hx10 hb10
  go_wp2_with fail
  with_reducible refine (two20_c w10).mono ?_
  rintro e w11 ⟨a11, c11, rfl, hx11, hb11⟩
  have HX11 := Lib.hid hx11
  have HX1011 := Lib.hid (HX10.out.below hb11)
  have HZ11 := Lib.hid (Below.next HZ10.out hb11)
  clear hx11 hb11
  go_wp2_with fail
  with_reducible refine (aw_v1 w11 a10 c10 a11 c11 HX1011.out HX11.out (HT.out w11 (Below.next HB9.out HZ11.out))).mono ?_
  rintro e w12 ⟨aR, nR, cR, rR, rfl, hb12⟩
  have HZ12 := Lib.hid (Below.next HZ11.out hb12)
  clear hb12
  go_wp2_with fail
  generalize hWA : w12.alloc _ = WA
  have hbA : Below w12.heap.size w12 WA := by rw [← hWA]; exact (Below.refl _ _).alloc (Nat.le_refl _) _
  have hz := Below.next HZ12.out hbA
  have hzw := Below.next HB9.out hz
  have hz5 := Below.next HS9.out hz
  have HZW := Lib.hid hzw
  have HMT := Lib.hid (RdK.below HM5.out hz5)
  have HMQ := Lib.hid (RdK.below HM9.out hz)
  have gT := heap_below hz5 HG5.out
  have gQ := heap_below hz HG9.out
  have KS : Hid (∀ u : World, Below WA.heap.size WA u → (u.cell? ⟨w4.heap.size, 0, none⟩ = some (.slice aT 11 cT) ∧ u.cell? ⟨w4.heap.size, 1, none⟩ = some (.int .i64 rT)) ∧ u.cell? ⟨w8.heap.size, 0, none⟩ = some (.slice aQ nQ cQ) ∧ u.cell? ⟨w8.heap.size, 1, none⟩ = some (.int .i64 rQ)) :=
    Lib.hid (fun u hu => ⟨⟨cell_of_row _ _ 0 _ _ _ (heap_below hu gT), cell_of_row _ _ 1 _ _ _ (heap_below hu gT)⟩, cell_of_row _ _ 0 _ _ _ (heap_below hu gQ), cell_of_row _ _ 1 _ _ _ (heap_below hu gQ)⟩)
  have HCT0 := Lib.hid (fun u a1 c1 a2 c2 h1 h2 h => aw_c 0#16 0 rfl T true HC0.out u a1 c1 a2 c2 aT 11 cT h1 h2 h)
  have HCQ0 := Lib.hid (fun u a1 c1 a2 c2 h1 h2 h => aw_c 0#16 0 rfl Q true HCQ.out u a1 c1 a2 c2 aQ nQ cQ h1 h2 h)
  have HCT1 := Lib.hid (fun u a1 c1 a2 c2 h1 h2 h => aw_c 1#16 1 rfl T false HC1.out u a1 c1 a2 c2 aT 11 cT h1 h2 h)
  rw [HRT.out] at HCT0 HCT1
  rw [← HRQ.out] at HCQ0
  have HY := Lib.hid (below_drew (Below.refl WA.heap.size WA))
  clear hWA hbA hz hzw hz5 gT gQ
  refine wp_region_noPanic ?_
  refine wp_region_takes (fun u => Below WA.heap.size WA u) [0, 1, 2, 3, 4, 5, 6, 7, 8, 9, 12] 23 (by kernel_rfl) (by kernel_rfl) (by kernel_rfl) (fun _ _ _ _ _ h => h) HY.out ?_
  repeat (refine wpTk_cons rfl (fun K hK => ?_); go_simp; apply Exists.intro; refine ⟨fun u hu => ?_, hK _ ?_⟩; (first | exact rfl | (obtain ⟨⟨q1, q2⟩, q3, q4⟩ := KS.out u hu; go_simp; done) | (obtain ⟨⟨q1, q2⟩, q3, q4⟩ := KS.out u hu; go_simp; exact rfl)); clear hK K)
  refine wpTk_nil ?_
  refine held_ready (rs := [10]) (by kernel_rfl) (by simp) ?_
  refine AllReadyH.cons rfl (fun K hK => ?_) AllReadyH.nil
  go_simp
  with_reducible refine (two20_c _).mono ?_
  rintro e v10 ⟨x10, d10, rfl, hx, hv⟩
  have HY2 := Lib.hid (below_at rfl HY.out hv)
  have HXA := Lib.hid hx
  have HVA := Lib.hid hv
  clear hx
  clear hv HY
  have HY := Lib.hid HY2.out
  clear HY2
  go_simp
  refine hK.out _ _ HY.out (fun hh => ?_)
  clear hh hK K; try simp only [Act.put, List.setIfInBounds_toArray, List.set_cons_zero, List.set_cons_succ]
  refine held_ready (rs := [11]) (by kernel_rfl) (by simp) ?_
  refine AllReadyH.cons rfl (fun K hK => ?_) AllReadyH.nil
  go_simp
  with_reducible refine (two20_c _).mono ?_
  rintro e v11 ⟨x11, d11, rfl, hx, hv⟩
  have HY2 := Lib.hid (below_at rfl HY.out hv)
  have HXB := Lib.hid hx
  have HXC := Lib.hid (HXA.out.below hv)
  clear hx HXA HVA
  clear hv HY
  have HY := Lib.hid HY2.out
  clear HY2
  go_simp
  refine hK.out _ _ HY.out (fun hh => ?_)
  clear hh hK K; try simp only [Act.put, List.setIfInBounds_toArray, List.set_cons_zero, List.set_cons_succ]
  refine held_ready (rs := [13]) (by kernel_rfl) (by simp) ?_
  refine AllReadyH.cons rfl (fun K hK => ?_) AllReadyH.nil
  go_simp
  with_reducible refine (HCT0.out _ x10 d10 x11 d11 HXC.out HXB.out (RdK.below HMT.out HY.out)).mono ?_
  rintro e v13 ⟨rfl, hv⟩
  have HY2 := Lib.hid (below_at rfl HY.out hv)
  clear HXB HXC
  clear hv HY
  have HY := Lib.hid HY2.out
  clear HY2
  go_simp
  refine hK.out _ _ HY.out (fun hh => ?_)
  clear hh hK K; try simp only [Act.put, List.setIfInBounds_toArray, List.set_cons_zero, List.set_cons_succ]
  refine held_takes (f := 17) (by kernel_rfl) (fun _ _ _ _ _ h => h) HY.out [14, 15, 18] _ _ (by kernel_rfl) ?_
  repeat (refine wpTk_cons rfl (fun K hK => ?_); go_simp; apply Exists.intro; refine ⟨fun u hu => ?_, hK _ ?_⟩; (first | exact rfl | (obtain ⟨⟨q1, q2⟩, q3, q4⟩ := KS.out u hu; go_simp; done) | (obtain ⟨⟨q1, q2⟩, q3, q4⟩ := KS.out u hu; go_simp; exact rfl)); clear hK K)
  refine wpTk_nil ?_
  refine held_ready (rs := [16]) (by kernel_rfl) (by simp) ?_
  refine AllReadyH.cons rfl (fun K hK => ?_) AllReadyH.nil
  go_simp
  with_reducible refine (two20_c _).mono ?_
  rintro e v16 ⟨x16, d16, rfl, hx, hv⟩
  have HY2 := Lib.hid (below_at rfl HY.out hv)
  have HXA := Lib.hid hx
  have HVA := Lib.hid hv
  clear hx
  clear hv HY
  have HY := Lib.hid HY2.out
  clear HY2
  go_simp
  refine hK.out _ _ HY.out (fun hh => ?_)
  clear hh hK K; try simp only [Act.put, List.setIfInBounds_toArray, List.set_cons_zero, List.set_cons_succ]
  refine held_ready (rs := [17]) (by kernel_rfl) (by simp) ?_
  refine AllReadyH.cons rfl (fun K hK => ?_) AllReadyH.nil
  go_simp
  with_reducible refine (two20_c _).mono ?_
  rintro e v17 ⟨x17, d17, rfl, hx, hv⟩
  have HY2 := Lib.hid (below_at rfl HY.out hv)
  have HXB := Lib.hid hx
  have HXC := Lib.hid (HXA.out.below hv)
  clear hx HXA HVA
  clear hv HY
  have HY := Lib.hid HY2.out
  clear HY2
  go_simp
  refine hK.out _ _ HY.out (fun hh => ?_)
  clear hh hK K; try simp only [Act.put, List.setIfInBounds_toArray, List.set_cons_zero, List.set_cons_succ]
  refine held_ready (rs := [19]) (by kernel_rfl) (by simp) ?_
  refine AllReadyH.cons rfl (fun K hK => ?_) AllReadyH.nil
  go_simp
  with_reducible refine (HCQ0.out _ x16 d16 x17 d17 HXC.out HXB.out (RdK.below HMQ.out HY.out)).mono ?_
  rintro e v19 ⟨rfl, hv⟩
  have HY2 := Lib.hid (below_at rfl HY.out hv)
  clear HXB HXC
  clear hv HY
  have HY := Lib.hid HY2.out
  clear HY2
  go_simp
  refine hK.out _ _ HY.out (fun hh => ?_)
  clear hh hK K; try simp only [Act.put, List.setIfInBounds_toArray, List.set_cons_zero, List.set_cons_succ]
  refine held_takes (f := 11) (by kernel_rfl) (fun _ _ _ _ _ h => h) HY.out [20, 21, 24] _ _ (by kernel_rfl) ?_
  repeat (refine wpTk_cons rfl (fun K hK => ?_); go_simp; apply Exists.intro; refine ⟨fun u hu => ?_, hK _ ?_⟩; (first | exact rfl | (obtain ⟨⟨q1, q2⟩, q3, q4⟩ := KS.out u hu; go_simp; done) | (obtain ⟨⟨q1, q2⟩, q3, q4⟩ := KS.out u hu; go_simp; exact rfl)); clear hK K)
  refine wpTk_nil ?_
  refine held_ready (rs := [22]) (by kernel_rfl) (by simp) ?_
  refine AllReadyH.cons rfl (fun K hK => ?_) AllReadyH.nil
  go_simp
  with_reducible refine (two20_c _).mono ?_
  rintro e v22 ⟨x22, d22, rfl, hx, hv⟩
  have HY2 := Lib.hid (below_at rfl HY.out hv)
  have HXA := Lib.hid hx
  have HVA := Lib.hid hv
  clear hx
  clear hv HY
  have HY := Lib.hid HY2.out
  clear HY2
  go_simp
  refine hK.out _ _ HY.out (fun hh => ?_)
  clear hh hK K; try simp only [Act.put, List.setIfInBounds_toArray, List.set_cons_zero, List.set_cons_succ]
  refine held_ready (rs := [23]) (by kernel_rfl) (by simp) ?_
  refine AllReadyH.cons rfl (fun K hK => ?_) AllReadyH.nil
  go_simp
  with_reducible refine (two20_c _).mono ?_
  rintro e v23 ⟨x23, d23, rfl, hx, hv⟩
  have HY2 := Lib.hid (below_at rfl HY.out hv)
  have HXB := Lib.hid hx
  have HXC := Lib.hid (HXA.out.below hv)
  clear hx HXA HVA
  clear hv HY
  have HY := Lib.hid HY2.out
  clear HY2
  go_simp
  refine hK.out _ _ HY.out (fun hh => ?_)
  clear hh hK K; try simp only [Act.put, List.setIfInBounds_toArray, List.set_cons_zero, List.set_cons_succ]
  refine held_ready (rs := [25]) (by kernel_rfl) (by simp) ?_
  refine AllReadyH.cons rfl (fun K hK => ?_) AllReadyH.nil
  go_simp
  with_reducible refine (HCT1.out _ x22 d22 x23 d23 HXC.out HXB.out (RdK.below HMT.out HY.out)).mono ?_
  rintro e v25 ⟨rfl, hv⟩
  have HY2 := Lib.hid (below_at rfl HY.out hv)
  clear HXB HXC
  clear hv HY
  have HY := Lib.hid HY2.out
  clear HY2
  go_simp
  refine hK.out _ _ HY.out (fun hh => ?_)
  clear hh hK K; try simp only [Act.put, List.setIfInBounds_toArray, List.set_cons_zero, List.set_cons_succ]
  refine held_takes (f := 4) (by kernel_rfl) (fun _ _ _ _ _ h => h) HY.out [26, 27, 28, 29] _ _ (by kernel_rfl) ?_
  repeat (refine wpTk_cons rfl (fun K hK => ?_); go_simp; apply Exists.intro; refine ⟨fun u hu => ?_, hK _ ?_⟩; (first | exact rfl | (obtain ⟨⟨q1, q2⟩, q3, q4⟩ := KS.out u hu; go_simp; done) | (obtain ⟨⟨q1, q2⟩, q3, q4⟩ := KS.out u hu; go_simp; exact rfl)); clear hK K)
  refine wpTk_nil ?_
  refine held_ready (rs := [30]) (by kernel_rfl) (by simp) ?_
  refine AllReadyH.cons rfl (fun K hK => ?_) AllReadyH.nil
  go_simp
  with_reducible refine (size_c _ _ _ _ _).mono ?_
  rintro e v30 ⟨rfl, hv⟩
  have HY2 := Lib.hid (below_at rfl HY.out hv)
  clear hv HY
  have HY := Lib.hid HY2.out
  clear HY2
  go_simp
  refine hK.out _ _ HY.out (fun hh => ?_)
  clear hh hK K; try simp only [Act.put, List.setIfInBounds_toArray, List.set_cons_zero, List.set_cons_succ]
  refine held_takes (f := 0) (by kernel_rfl) (fun _ _ _ _ _ h => h) HY.out [31, 32, 33] _ _ (by kernel_rfl) ?_
  repeat (refine wpTk_cons rfl (fun K hK => ?_); go_simp; apply Exists.intro; refine ⟨fun u hu => ?_, hK _ ?_⟩; (first | exact rfl | (obtain ⟨⟨q1, q2⟩, q3, q4⟩ := KS.out u hu; go_simp; done) | (obtain ⟨⟨q1, q2⟩, q3, q4⟩ := KS.out u hu; go_simp; exact rfl)); clear hK K)
  refine wpTk_nil ?_
  refine wpAnyH_done (by kernel_rfl) (NoPanic.normal ?_) _
  go_wp2_with fail
  go_ret
  exact ⟨rfl, Below.next HZW.out HY.out⟩
end Go.Proofs.YtflpkkebampmfaaDoor
namespace Go.Proofs.YtflpkkebampmfaaDoor
open Go.RowKit

/-- the five cells of a piece -/
structure PceM (w : World) (b o : Nat) (p : Pce) : Prop where
  c0 : w.cell? ⟨b, o, none⟩ = some (.int .u8 p.kind)
  c1 : w.cell? ⟨b, o + 1, none⟩ = some (.int .u8 p.server)
  c2 : w.cell? ⟨b, o + 2, none⟩ = some (.int .u8 p.need)
  c3 : w.cell? ⟨b, o + 3, none⟩ = some (.bool p.heavy)
  ks : ∃ a n c, w.cell? ⟨b, o + 4, none⟩ = some (.slice a n c) ∧ Rd w a n c (p.kids.map (Value.int .u8))
structure PM (w : World) (a : Option Addr) (n c : Nat) (ps : List Pce) : Prop where
  len : ps.length = n
  le : n ≤ c
  max : c ≤ maxLen
  at' : 0 < n → ∃ b o, a = some ⟨b, o, none⟩ ∧ ∀ i p, ps[i]? = some p → PceM w b (o + i * 5) p
theorem PceM.below {w w' : World} {b o : Nat} {p : Pce} (h : PceM w b o p) (hb : Below w.heap.size w w') : PceM w' b o p := by
  obtain ⟨a, n, c, h4, r4⟩ := h.ks
  exact ⟨cell_keep hb h.c0, cell_keep hb h.c1, cell_keep hb h.c2, cell_keep hb h.c3, ⟨a, n, c, cell_keep hb h4, r4.below hb⟩⟩
theorem PM.below {w w' : World} {a : Option Addr} {n c : Nat} {ps : List Pce} (h : PM w a n c ps) (hb : Below w.heap.size w w') : PM w' a n c ps := by
  refine ⟨h.len, h.le, h.max, fun hn => ?_⟩
  obtain ⟨b, o, ha, hc⟩ := h.at' hn
  exact ⟨b, o, ha, fun i p hi => (hc i p hi).below hb⟩

/-- a block as a value whose own block it is -/
def blkV (X : Nat) : Value := .slice (some ⟨X, 0, none⟩) 1 1
theorem blkV_own (X : Nat) : (blkV X).ownBlock = some X := rfl
theorem Rd.setOther {w : World} {a : Option Addr} {n c : Nat} {l : List Value} {X : Nat} (h : Rd w a n c l) (hc : Clear n (blkV X) a) (j : Nat) (u : Value) : Rd (w.setCell ⟨X, j, none⟩ u) a n c l := by
  refine ⟨h.len, h.le, h.max, h.nil, fun hn => ?_⟩
  obtain ⟨b, o, ha, hcell⟩ := h.at' hn
  refine ⟨b, o, ha, fun i v hv => ?_⟩
  have hne : b ≠ X := fun e => hc hn b o ha (by rw [blkV_own, e])
  have := hcell i v hv
  rw [World.cell?_of_block (w := w) (w' := w.setCell ⟨X, j, none⟩ u) (a := ⟨b, o + i, none⟩) (Below.heap_setCell _ _ _ _ hne)]
  exact this

/-- a node's value reads as the node, and its lists lie apart from a block and from the row of a value -/
structure NodC (w : World) (X : Nat) (v : Value) (p : NodV) (nd : Nod) : Prop where
  e0 : p.kind = nd.kind
  e1 : p.server = nd.server
  e2 : p.need = nd.need
  ws : ∃ a n c, p.wv = .slice a n c ∧ Rd w a n c (nd.weights.map (Value.int .i64)) ∧ Clear n v a ∧ ∀ Y, Y ≤ X → Clear n (blkV Y) a
  ks : ∃ a n c, p.kv = .slice a n c ∧ Rd w a n c (nd.kids.map (Value.int .i64)) ∧ Clear n v a ∧ ∀ Y, Y ≤ X → Clear n (blkV Y) a
theorem NodC.toR {w : World} {X : Nat} {v : Value} {p : NodV} {nd : Nod} (h : NodC w X v p nd) : NodR w p nd := by
  obtain ⟨a, n, c, h3, r3, _, _⟩ := h.ws
  obtain ⟨a', n', c', h4, r4, _, _⟩ := h.ks
  exact ⟨h.e0, h.e1, h.e2, ⟨a, n, c, h3, r3⟩, ⟨a', n', c', h4, r4⟩⟩
theorem NodC.below {w w' : World} {X : Nat} {v : Value} {p : NodV} {nd : Nod} (h : NodC w X v p nd) (hb : Below w.heap.size w w') : NodC w' X v p nd := by
  obtain ⟨a, n, c, h3, r3, k1, k2⟩ := h.ws
  obtain ⟨a', n', c', h4, r4, k3, k4⟩ := h.ks
  exact ⟨h.e0, h.e1, h.e2, ⟨a, n, c, h3, r3.below hb, k1, k2⟩, ⟨a', n', c', h4, r4.below hb, k3, k4⟩⟩
theorem NodC.grown {w w' : World} {X : Nat} {v v' : Value} {p : NodV} {nd : Nod} (h : NodC w X v p nd) (hg : w.grownBy w' v.ownBlock) (hv : ∀ g, v'.ownBlock = some g → v.ownBlock = some g ∨ w.heap.size ≤ g) : NodC w' X v' p nd := by
  obtain ⟨a, n, c, h3, r3, k1, k2⟩ := h.ws
  obtain ⟨a', n', c', h4, r4, k3, k4⟩ := h.ks
  exact ⟨h.e0, h.e1, h.e2, ⟨a, n, c, h3, r3.grown hg k1, k1.step r3 hv, k2⟩, ⟨a', n', c', h4, r4.grown hg k3, k3.step r4 hv, k4⟩⟩
theorem NodC.setAt {w : World} {X : Nat} {v : Value} {p : NodV} {nd : Nod} (h : NodC w X v p nd) (Y : Nat) (hY : Y ≤ X) (j : Nat) (u : Value) : NodC (w.setCell ⟨Y, j, none⟩ u) X v p nd := by
  obtain ⟨a, n, c, h3, r3, k1, k2⟩ := h.ws
  obtain ⟨a', n', c', h4, r4, k3, k4⟩ := h.ks
  exact ⟨h.e0, h.e1, h.e2, ⟨a, n, c, h3, r3.setOther (k2 Y hY) j u, k1, k2⟩, ⟨a', n', c', h4, r4.setOther (k4 Y hY) j u, k3, k4⟩⟩
theorem Clear.none (n : Nat) (v : Value) : Clear n v none := fun _ _ _ h => by cases h
/-- a row of the call's own lies above what lies below its base -/
theorem Clear.lower {w : World} {B k m n c : Nat} {e : TypeId} {a : Option Addr} {xs : List Value} {v : Value} (h : w.ownsRow B e k (.slice a n c) m xs) (hlt : ∀ g, v.ownBlock = some g → g < B) : Clear n v a := by
  intro hn b o ha he
  have h1 := (h.lt b (by rw [ha]; rfl)).1
  have h2 := hlt b he
  omega
/-- a server's node -/
theorem NodC.srv (w : World) (X : Nat) (v : Value) (k s : Int) : NodC w X v ⟨k, s, 0, .slice none 0 0, .slice none 0 0⟩ ⟨k, s, 0, [], []⟩ :=
  ⟨rfl, rfl, rfl, ⟨none, 0, 0, rfl, Rd.none_ _, Clear.none _ _, fun _ _ => Clear.none _ _⟩, ⟨none, 0, 0, rfl, Rd.none_ _, Clear.none _ _, fun _ _ => Clear.none _ _⟩⟩
/-- the nodes made so far, in the row of a field of a block -/
structure XW (w : World) (X : Nat) (v : Value) (t : TypeId) (nodes : List Nod) : Prop where
  row : ∃ V : List NodV, V.length = nodes.length ∧ w.ownsRow (X + 1) t 5 v nodes.length (V.flatMap nodVC) ∧ ∀ (i : Nat) p nd, V[i]? = some p → nodes[i]? = some nd → NodC w X v p nd
theorem XW.nil (w : World) (X : Nat) (t : TypeId) : XW w X (.slice none 0 0) t [] := ⟨[], rfl, World.ownsRow_nil _ _ _ _, fun i p nd h => by simp at h⟩
theorem XW.below {w w' : World} {X : Nat} {v : Value} {t : TypeId} {nodes : List Nod} (h : XW w X v t nodes) (hb : Below w.heap.size w w') : XW w' X v t nodes := by
  obtain ⟨V, h1, h2, h3⟩ := h.row
  exact ⟨V, h1, rowK_below h2 hb, fun i p nd hp hn => (h3 i p nd hp hn).below hb⟩
theorem XW.setAt {w : World} {X : Nat} {v : Value} {t : TypeId} {nodes : List Nod} (h : XW w X v t nodes) (Y : Nat) (hY : Y ≤ X) (j : Nat) (u : Value) : XW (w.setCell ⟨Y, j, none⟩ u) X v t nodes := by
  obtain ⟨V, h1, h2, h3⟩ := h.row
  exact ⟨V, h1, rowK_at h2 fun g hg => Below.heap_setCell _ _ _ _ (by have := (h2.lt g hg).1; show g ≠ Y; omega), fun i p nd hp hn => (h3 i p nd hp hn).setAt Y hY j u⟩
theorem XW.set {w : World} {X : Nat} {v : Value} {t : TypeId} {nodes : List Nod} (h : XW w X v t nodes) (j : Nat) (u : Value) : XW (w.setCell ⟨X, j, none⟩ u) X v t nodes := h.setAt X (Nat.le_refl _) j u
/-- a node more -/
theorem XW.push {w w' : World} {X : Nat} {v v' : Value} {t : TypeId} {nodes : List Nod} {p : NodV} {nd : Nod} {V : List NodV} (hV : V.length = nodes.length) (h3 : ∀ (i : Nat) p nd, V[i]? = some p → nodes[i]? = some nd → NodC w X v p nd) (hr : w'.ownsRow (X + 1) t 5 v' (nodes.length + 1) (V.flatMap nodVC ++ nodVC p))
    (hp : NodC w X v p nd) (hg : w.grownBy w' v.ownBlock) (hv : ∀ g, v'.ownBlock = some g → v.ownBlock = some g ∨ w.heap.size ≤ g) : XW w' X v' t (nodes ++ [nd]) := by
  refine ⟨V ++ [p], by simp [hV], ?_, fun i q m hq hm => ?_⟩
  · rw [List.flatMap_append, List.length_append, List.flatMap_cons, List.flatMap_nil, List.append_nil]; exact hr
  · by_cases hi : i < V.length
    · rw [List.getElem?_append_left hi] at hq
      rw [List.getElem?_append_left (by omega)] at hm
      exact (h3 i q m hq hm).grown hg hv
    · have hq2 := (List.getElem?_eq_some_iff.1 hq).1
      have : i = V.length := by simp at hq2; omega
      subst this
      rw [List.getElem?_append_right (Nat.le_refl _), Nat.sub_self] at hq
      rw [hV, List.getElem?_append_right (Nat.le_refl _), Nat.sub_self] at hm
      cases hq; cases hm
      exact hp.grown hg hv
theorem XW.xm {w : World} {X : Nat} {v : Value} {t : TypeId} {nodes : List Nod} (h : XW w X v t nodes) : ∃ a c, v = .slice a nodes.length c ∧ XM w a nodes.length c nodes := by
  obtain ⟨V, h1, h2, h3⟩ := h.row
  exact XM.of_row h2 h1 fun i p nd hp hn => (h3 i p nd hp hn).toR
end Go.Proofs.YtflpkkebampmfaaDoor
namespace Go.Proofs.YtflpkkebampmfaaDoor
open Go.RowKit

inductive IsInts (k : IntKind) (W : World) : Option Addr → Nat → Nat → List Int → Prop
  | nil : IsInts k W none 0 0 []
  | row {a : Addr} {len cap : Nat} {zs : List Int} (hl : len ≤ cap) (hm : cap ≤ maxLen) (hz : zs.length = cap)
      (hcell : ∀ i, i < zs.length → W.cell? (a.add i) = some (.int k (zs.getD i 0))) (hwz : ∀ n ∈ zs, (Lit.int k n).wf = true) : IsInts k W (some a) len cap (zs.take len)

theorem IsInts.rd {k : IntKind} {W : World} {a : Option Addr} {n c : Nat} {l : List Int} (h : IsInts k W a n c l) : Rd W a n c (l.map (Value.int k)) := by
  cases h with
  | nil => exact Rd.none_ W
  | @row a len cap zs hl hm hz hcell hwz =>
    refine ⟨by simp; omega, hl, hm, fun h => (by cases h), fun hn => ?_⟩
    have h0 := hcell 0 (by omega)
    have ha : a = ⟨a.block, a.off, none⟩ := by
      have : a.add 0 = a := by simp [Addr.add]
      rw [this] at h0
      unfold World.cell? at h0
      cases hs : a.spot with
      | none => cases a; simp_all
      | some s => rw [hs] at h0; split at h0 <;> simp at h0
    refine ⟨a.block, a.off, by rw [← ha], fun i v hv => ?_⟩
    have hi := (List.getElem?_eq_some_iff.1 hv).1
    have hi : i < n ∧ i < zs.length := by simp at hi; omega
    have h1 := hcell i (by omega)
    rw [ha] at h1
    rw [Addr.add_lit] at h1
    rw [h1]
    rw [List.getElem?_map, List.getElem?_take_of_lt hi.1, List.getElem?_eq_getElem hi.2] at hv
    simp at hv
    simp [List.getD, List.getElem?_eq_getElem hi.2, hv]
theorem IsInts.wf {k : IntKind} {W : World} {a : Option Addr} {n c : Nat} {l : List Int} (h : IsInts k W a n c l) : ∀ z ∈ l, (Lit.int k z).wf = true := by
  cases h with
  | nil => intro z hz; cases hz
  | row hl hm hz hcell hwz => exact fun z hz => hwz z (List.mem_of_mem_take hz)
theorem IsInts.len {k : IntKind} {W : World} {a : Option Addr} {n c : Nat} {l : List Int} (h : IsInts k W a n c l) : l.length = n := by
  cases h with
  | nil => rfl
  | row hl hm hz hcell hwz => simp; omega
end Go.Proofs.YtflpkkebampmfaaDoor
namespace Go.Proofs.YtflpkkebampmfaaDoor
open Go.RowKit Go.ChangeShapes Go.WideShapes Go.Deep

section
variable {H : Type} {enc : TypeId × Value → H} {P : Program} {w : World} {base : Nat} {spare : Nat → Bool} {held : Bool}
theorem open_slice_fields {t e : TypeId} {fs : Array Field} {fuel : Nat} {cs : List Value} {x : DataW H × List MemPlace} (ht : P.underlying t = some (.slice e)) (he : P.underlying e = some (.struct fs))
    (hone : oneCellFields P fs = true) (hC : P.cellsOf e = fs.size) (h : DataW.trod enc P w base spare held fuel t cs = some x) :
    (cs = [.slice none 0 0] ∧ x = (.nil, [])) ∨
    ∃ (a : Addr) (len cap m : Nat) (D : Nat → DataW H) (Pl : Nat → List MemPlace), cs = [.slice (some a) len cap] ∧ base ≤ a.block ∧ len ≤ cap ∧ cap ≤ maxLen ∧ m = (if spare a.block then cap else len) ∧
      x = (.slice ((List.range len).map D) ((List.range (m - len)).map fun j => D (len + j)), MemPlace.row a (m * fs.size) ++ (List.range m).flatMap Pl) ∧
      ∀ i, i < m → ∃ (ys : List (DataW H × List MemPlace)) (n : Nat), D i = .agg (ys.map (·.1)) ∧ Pl i = ys.flatMap (·.2) ∧ ys.length = fs.size ∧
        ∀ (j : Nat) (f : Field), fs[j]? = some f → ∃ (v : Value) (y : DataW H × List MemPlace), w.cell? (a.add (i * fs.size + j)) = some v ∧ ys[j]? = some y ∧ DataW.trod enc P w base spare held n f.type [v] = some y := by
  rcases open_slice ht h with h0 | ⟨a, len, cap, m, n, D, Pl, hcs, hb, hl, hm, hmm, hx, hi⟩
  · exact .inl h0
  · refine .inr ⟨a, len, cap, m, D, Pl, hcs, hb, hl, hm, hmm, by rw [hC] at hx; exact hx, fun i him => ?_⟩
    obtain ⟨cs', hc, ht'⟩ := hi i him
    rw [hC] at hc
    obtain ⟨ys, n', hn', hy, hlen, hyl, hf⟩ := DataW.trod_struct he ht'
    obtain ⟨_, hcl, hat⟩ := World.cells?_some hc
    simp only [Prod.mk.injEq] at hy
    refine ⟨ys, n', hy.1, hy.2, hyl, fun j f hj => ?_⟩
    obtain ⟨ho, hk⟩ := hone_of hone j f hj
    have hjl : j < fs.size := (Array.getElem?_eq_some_iff.1 hj).1
    have hcell := hat j hjl
    have hv : cs'[j]? = some (cs'[j]'(by omega)) := List.getElem?_eq_getElem (by omega)
    have h1 := hf j f hj
    rw [ho, hk] at h1
    have hone' : (cs'.drop j).take 1 = [cs'[j]'(by omega)] := by
      rw [List.drop_eq_getElem_cons (by omega)]
      rfl
    rw [hone'] at h1
    have hys : ys[j]? = some (ys[j]'(by omega)) := List.getElem?_eq_getElem (by omega)
    refine ⟨_, _, ?_, hys, h1.trans hys⟩
    rw [← Go.Deep.add_add, hcell, hv]
end

theorem list_of {α : Type} {Q : Nat → α → Prop} : ∀ n, (∀ i, i < n → ∃ r, Q i r) → ∃ L : List α, L.length = n ∧ ∀ i r, L[i]? = some r → Q i r := by
  intro n
  induction n with
  | zero => intro _; exact ⟨[], rfl, fun i r h => by simp at h⟩
  | succ n ih =>
    intro h
    obtain ⟨L, hl, hL⟩ := ih (fun i hi => h i (by omega))
    obtain ⟨r, hr⟩ := h n (by omega)
    refine ⟨L ++ [r], by simp [hl], fun i q hq => ?_⟩
    by_cases hi : i < n
    · rw [List.getElem?_append_left (by omega)] at hq; exact hL i q hq
    · have := (List.getElem?_eq_some_iff.1 hq).1
      simp at this
      obtain rfl : i = n := by omega
      rw [List.getElem?_append_right (by omega), hl, Nat.sub_self] at hq
      cases hq; exact hr

theorem addr_plain {W : World} {a : Addr} {v : Value} (h : W.cell? (a.add 0) = some v) : a = ⟨a.block, a.off, none⟩ := by
  have : a.add 0 = a := by simp [Addr.add]
  rw [this] at h
  unfold World.cell? at h
  cases hs : a.spot with
  | none => cases a; simp_all
  | some s => rw [hs] at h; split at h <;> simp at h

theorem u8_bd {z : Int} (h : (Lit.int .u8 z).wf = true) : 0 ≤ z ∧ z < 256 := by
  simp [Lit.wf, IntKind.min, IntKind.max, IntKind.bits, IntKind.signed] at h; omega
set_option maxRecDepth 100000 in
theorem ints_of {H : Type} {enc : TypeId × Value → H} {W : World} {base : Nat} {held : Bool} {fuel : Nat} {cs : List Value} {x : DataW H × List MemPlace} (h : DataW.trod enc Tryd.prog W base (fun _ => true) held fuel 83 cs = some x) :
    ∃ a n c z, cs = [.slice a n c] ∧ IsInts .u8 W a n c z := by
  rcases open_ints Tryd.underlying83 Tryd.underlying5 (by kernel_rfl) h with ⟨hcs, _⟩ | ⟨x, l, c, zs, hcs, _, hl, hm, hz, _, hcell, hwz⟩
  · exact ⟨_, _, _, _, hcs, .nil⟩
  · exact ⟨_, _, _, _, hcs, .row hl hm (by simpa using hz) hcell hwz⟩
theorem open_pieces {H : Type} {enc : TypeId × Value → H} {w : World} {base : Nat} {held : Bool} {fuel : Nat} {cs : List Value} {x : DataW H × List MemPlace} (h : DataW.trod enc Tryd.prog w base (fun _ => true) held fuel 43 cs = some x) :
    ∃ a n c ps, cs = [.slice a n c] ∧ PM w a n c ps ∧ ∀ p ∈ ps, p.ok := by
  rcases open_slice_fields Tryd.underlying43 Tryd.underlying85 (by kernel_rfl) (by kernel_rfl) h with ⟨hcs, _⟩ | ⟨a, len, cap, m, D, Pl, hcs, _, hl, hm, hmm, _, hi⟩
  · exact ⟨none, 0, 0, [], hcs, ⟨rfl, Nat.le_refl _, by unfold maxLen; omega, fun hn => absurd hn (by decide)⟩, fun r hr => by cases hr⟩
  · have hlm : len ≤ m := by rw [hmm]; split <;> omega
    obtain ⟨L, hL1, hL2⟩ := list_of (α := Pce) (Q := fun i r => (w.cell? (a.add (i * 5 + 0)) = some (.int .u8 r.kind) ∧ w.cell? (a.add (i * 5 + 1)) = some (.int .u8 r.server) ∧ w.cell? (a.add (i * 5 + 2)) = some (.int .u8 r.need) ∧ w.cell? (a.add (i * 5 + 3)) = some (.bool r.heavy) ∧ ∃ a4 n4 c4, w.cell? (a.add (i * 5 + 4)) = some (.slice a4 n4 c4) ∧ Rd w a4 n4 c4 (r.kids.map (Value.int .u8))) ∧ r.ok) len (fun i hil => by
      obtain ⟨ys, n, _, _, _, hf⟩ := hi i (by omega)
      obtain ⟨v0, y0, c0, _, t0⟩ := hf 0 _ rfl
      obtain ⟨v1, y1, c1, _, t1⟩ := hf 1 _ rfl
      obtain ⟨v2, y2, c2, _, t2⟩ := hf 2 _ rfl
      obtain ⟨v3, y3, c3, _, t3⟩ := hf 3 _ rfl
      obtain ⟨v4, y4, c4, _, t4⟩ := hf 4 _ rfl
      obtain ⟨z0, e0, _, b0⟩ := DataW.trod_int Tryd.underlying5 t0
      obtain ⟨z1, e1, _, b1⟩ := DataW.trod_int Tryd.underlying5 t1
      obtain ⟨z2, e2, _, b2⟩ := DataW.trod_int Tryd.underlying5 t2
      obtain ⟨z3, e3, _⟩ := DataW.trod_bool Tryd.underlying4 t3
      obtain ⟨a4, n4, k4, z4, e4, i4⟩ := ints_of t4
      cases e0; cases e1; cases e2; cases e3; cases e4
      exact ⟨⟨z0, z1, z2, z3, z4⟩, ⟨c0, c1, c2, c3, a4, n4, k4, c4, i4.rd⟩, ⟨u8_bd b0, u8_bd b1, u8_bd b2⟩, fun z hz => u8_bd (i4.wf z hz)⟩)
    refine ⟨some a, len, cap, L, hcs, ⟨hL1, hl, hm, fun hn0 => ?_⟩, fun r hr => ?_⟩
    · obtain ⟨x0, hx0⟩ : ∃ x, L[0]? = some x := ⟨_, List.getElem?_eq_getElem (by omega)⟩
      have h0 := (hL2 0 x0 hx0).1.1
      rw [Nat.zero_mul, Nat.zero_add] at h0
      have ha := addr_plain h0
      refine ⟨a.block, a.off, by rw [← ha], fun i p hp => ?_⟩
      obtain ⟨⟨d0, d1, d2, d3, a4, n4, c4, d4, r4⟩, _⟩ := hL2 i p hp
      rw [ha, Addr.add_lit] at d0 d1 d2 d3 d4
      exact ⟨d0, by rw [Nat.add_assoc]; exact d1, by rw [Nat.add_assoc]; exact d2, by rw [Nat.add_assoc]; exact d3, a4, n4, c4, by rw [Nat.add_assoc]; exact d4, r4⟩
    · obtain ⟨i, hi⟩ := List.mem_iff_getElem?.1 hr
      exact (hL2 i r hi).2
theorem list3 {α : Type} (l : List α) (h : (⟨l⟩ : Array α).size = 3) : ∃ a b c, l = [a, b, c] := by
  match l, h with
  | [a, b, c], _ => exact ⟨a, b, c, rfl⟩
set_option maxRecDepth 100000 in
theorem open_draft {H : Type} {enc : TypeId × Value → H} {w : World} {base : Nat} {held : Bool} {fuel : Nat} {c : Value} {x : DataW H × List MemPlace} (h : DataW.trod enc Tryd.prog w base (fun _ => true) held fuel 45 [c] = some x) :
    ∃ a n cc ps, c = .slice a n cc ∧ PM w a n cc ps ∧ ∀ p ∈ ps, p.ok := by
  obtain ⟨xs, n, _, _, _, _, hfl⟩ := DataW.trod_struct Tryd.underlying45 h
  have k8 : Tryd.prog.cellsOf 43 = 1 := by kernel_rfl
  have h0 : DataW.trod enc Tryd.prog w base (fun _ => true) held n 43 (List.take (Tryd.prog.cellsOf 43) [c]) = xs[0]? := hfl 0 _ rfl
  rw [k8] at h0
  have hxl : xs.length = 1 := by assumption
  rw [List.getElem?_eq_getElem (by omega)] at h0
  obtain ⟨a, n1, cc, ps, e0, i0, i1⟩ := open_pieces h0
  simp at e0
  exact ⟨a, n1, cc, ps, e0, i0, i1⟩
/-- a case among the arguments -/
structure IsCase (W : World) (v : Value) (xs ys : List Pce) (b : Int) : Prop where
  val : ∃ a n c a2 n2 c2, v = .agg #[.slice a n c, .slice a2 n2 c2, .int .u16 b] ∧ PM W a n c xs ∧ PM W a2 n2 c2 ys
  okx : ∀ p ∈ xs, p.ok
  oky : ∀ p ∈ ys, p.ok
  num : (Lit.int .u16 b).wf = true
set_option maxRecDepth 100000 in
theorem open_case {H : Type} {enc : TypeId × Value → H} {W : World} {base b0 : Nat} {held : Bool} {v : Value} {d : DataW H} {p : List MemPlace} {r : Reach}
    (hv : Value.okWide Tryd.prog W r b0 47 v) (h : DataW.Trod enc Tryd.prog W base (fun _ => true) held 47 v d p) : ∃ xs ys b, IsCase W v xs ys b := by
  obtain ⟨cs, rfl, hsz⟩ := okWide_struct Tryd.underlying47 hv
  rw [show Tryd.prog.cellsOf 47 = 3 by kernel_rfl] at hsz
  obtain ⟨l⟩ := cs
  obtain ⟨c0, c1, c2, rfl⟩ := list3 l hsz
  obtain ⟨fuel, hf⟩ := h
  obtain ⟨xs, n, _, _, _, _, hfl⟩ := DataW.trod_struct Tryd.underlying47 hf
  have k8 : Tryd.prog.cellsOf 45 = 1 := by kernel_rfl
  have ku : Tryd.prog.cellsOf 26 = 1 := by kernel_rfl
  have h0 : DataW.trod enc Tryd.prog W base (fun _ => true) held n 45 (List.take (Tryd.prog.cellsOf 45) [c0, c1, c2]) = xs[0]? := hfl 0 _ rfl
  have h1 : DataW.trod enc Tryd.prog W base (fun _ => true) held n 45 (List.take (Tryd.prog.cellsOf 45) [c1, c2]) = xs[1]? := hfl 1 _ rfl
  have h2 : DataW.trod enc Tryd.prog W base (fun _ => true) held n 26 (List.take (Tryd.prog.cellsOf 26) [c2]) = xs[2]? := hfl 2 _ rfl
  rw [k8] at h0 h1
  rw [ku] at h2
  have hxl : xs.length = 3 := by assumption
  rw [List.getElem?_eq_getElem (by omega)] at h0 h1 h2
  obtain ⟨a, n1, cc, z1, e0, i0, o0⟩ := open_draft h0
  obtain ⟨a2, n2, cc2, z2, e1, i1, o1⟩ := open_draft h1
  obtain ⟨s, e2, _, hs⟩ := DataW.trod_int Tryd.underlying26 h2
  simp at e2
  subst e0 e1 e2
  exact ⟨z1, z2, s, ⟨a, n1, cc, a2, n2, cc2, rfl, i0, i1⟩, o0, o1, hs⟩
end Go.Proofs.YtflpkkebampmfaaDoor
namespace Go.Proofs.YtflpkkebampmfaaDoor
open Go.RowKit Go.ChangeShapes Go.WideShapes Go.Deep

theorem rdK_of {α : Type} (k : Nat) (hk0 : 0 < k) (enc : α → List Value) (hk : ∀ x, (enc x).length = k) {W : World} {a : Addr} {len cap : Nat} (hl : len ≤ cap) (hm : cap ≤ maxLen) (L : List α) (hn : L.length = len)
    (h : ∀ i x, L[i]? = some x → ∀ j, j < k → W.cell? (a.add (i * k + j)) = (enc x)[j]?) : RdK k W (some a) len cap (L.flatMap enc) := by
  refine ⟨by rw [flat_len k enc hk, hn], hl, hm, fun h => (by cases h), fun hn0 => ?_⟩
  obtain ⟨x0, hx0⟩ : ∃ x, L[0]? = some x := ⟨_, List.getElem?_eq_getElem (by omega)⟩
  have h0 := h 0 x0 hx0 0 hk0
  rw [Nat.zero_mul, Nat.zero_add, List.getElem?_eq_getElem (by rw [hk]; exact hk0)] at h0
  have ha := addr_plain h0
  refine ⟨a.block, a.off, by rw [← ha], fun i v hv => ?_⟩
  have hi := (List.getElem?_eq_some_iff.1 hv).1
  rw [flat_len k enc hk, hn] at hi
  have hq : i / k < len := Nat.div_lt_of_lt_mul (by rw [Nat.mul_comm]; exact hi)
  obtain ⟨x, hx⟩ : ∃ x, L[i / k]? = some x := ⟨_, List.getElem?_eq_getElem (by omega)⟩
  have hmod := Nat.mod_lt i hk0
  have h1 := h (i / k) x hx (i % k) hmod
  have h2 := flat_at k enc hk L (i / k) (i % k) x hx hmod
  have e : i / k * k + i % k = i := by rw [Nat.mul_comm]; exact Nat.div_add_mod i k
  rw [e] at h1 h2
  rw [hv] at h2
  rw [ha, Addr.add_lit] at h1
  rw [h1, ← h2]

/-- a description among the arguments -/
structure IsDraft (W : World) (v : Value) (xs : List Pce) : Prop where
  val : ∃ a n c, v = .agg #[.slice a n c] ∧ PM W a n c xs
  okx : ∀ p ∈ xs, p.ok
theorem list1 {α : Type} (l : List α) (h : (⟨l⟩ : Array α).size = 1) : ∃ a, l = [a] := by
  match l, h with
  | [a], _ => exact ⟨a, rfl⟩
theorem list2 {α : Type} (l : List α) (h : (⟨l⟩ : Array α).size = 2) : ∃ a b, l = [a, b] := by
  match l, h with
  | [a, b], _ => exact ⟨a, b, rfl⟩
set_option maxRecDepth 100000 in
theorem open_draftv {H : Type} {enc : TypeId × Value → H} {W : World} {base b0 : Nat} {held : Bool} {v : Value} {d : DataW H} {p : List MemPlace} {r : Reach}
    (hv : Value.okWide Tryd.prog W r b0 45 v) (h : DataW.Trod enc Tryd.prog W base (fun _ => true) held 45 v d p) : ∃ xs, IsDraft W v xs := by
  obtain ⟨cs, rfl, hsz⟩ := okWide_struct Tryd.underlying45 hv
  rw [show Tryd.prog.cellsOf 45 = 1 by kernel_rfl] at hsz
  obtain ⟨l⟩ := cs
  obtain ⟨c0, rfl⟩ := list1 l hsz
  obtain ⟨fuel, hf⟩ := h
  obtain ⟨a, n, cc, ps, e0, h1, h2⟩ := open_draft hf
  subst e0
  exact ⟨ps, ⟨a, n, cc, rfl, h1⟩, h2⟩

theorem open_choices {H : Type} {enc : TypeId × Value → H} {w : World} {base : Nat} {held : Bool} {fuel : Nat} {cs : List Value} {x : DataW H × List MemPlace} (h : DataW.trod enc Tryd.prog w base (fun _ => true) held fuel 31 cs = some x) :
    ∃ a n c ns, cs = [.slice a n c] ∧ TM w a n c ns := by
  rcases open_slice_fields Tryd.underlying31 Tryd.underlying39 (by kernel_rfl) (by kernel_rfl) h with ⟨hcs, _⟩ | ⟨a, len, cap, m, D, Pl, hcs, _, hl, hm, hmm, _, hi⟩
  · exact ⟨none, 0, 0, [], hcs, RdK.none_ _ _⟩
  · have hlm : len ≤ m := by rw [hmm]; split <;> omega
    obtain ⟨L, hL1, hL2⟩ := list_of (α := Cho) (Q := fun i r => ∀ j, j < 3 → w.cell? (a.add (i * 3 + j)) = (choC r)[j]?) len (fun i hil => by
      obtain ⟨ys, n, _, _, _, hf⟩ := hi i (by omega)
      obtain ⟨v0, y0, c0, _, t0⟩ := hf 0 _ rfl
      obtain ⟨v1, y1, c1, _, t1⟩ := hf 1 _ rfl
      obtain ⟨v2, y2, c2, _, t2⟩ := hf 2 _ rfl
      obtain ⟨z0, e0, _, _⟩ := DataW.trod_int Tryd.underlying3 t0
      obtain ⟨z1, e1, _, _⟩ := DataW.trod_int Tryd.underlying3 t1
      obtain ⟨z2, e2, _, _⟩ := DataW.trod_int Tryd.underlying3 t2
      cases e0; cases e1; cases e2
      refine ⟨⟨z0, z1, z2⟩, fun j hj => ?_⟩
      match j, hj with
      | 0, _ => exact c0
      | 1, _ => exact c1
      | 2, _ => exact c2)
    exact ⟨some a, len, cap, L, hcs, rdK_of 3 (by decide) choC choC_len hl hm L hL1 (fun i x hx j hj => hL2 i x hx j hj)⟩
/-- a tree among the arguments -/
structure IsTree (W : World) (v : Value) (t : Tre) : Prop where
  val : ∃ a n c, v = .agg #[.slice a n c, .int .i64 t.root] ∧ TM W a n c t.nodes
set_option maxRecDepth 100000 in
theorem open_tree {H : Type} {enc : TypeId × Value → H} {W : World} {base b0 : Nat} {held : Bool} {v : Value} {d : DataW H} {p : List MemPlace} {r : Reach}
    (hv : Value.okWide Tryd.prog W r b0 33 v) (h : DataW.Trod enc Tryd.prog W base (fun _ => true) held 33 v d p) : ∃ t, IsTree W v t := by
  obtain ⟨cs, rfl, hsz⟩ := okWide_struct Tryd.underlying33 hv
  rw [show Tryd.prog.cellsOf 33 = 2 by kernel_rfl] at hsz
  obtain ⟨l⟩ := cs
  obtain ⟨c0, c1, rfl⟩ := list2 l hsz
  obtain ⟨fuel, hf⟩ := h
  obtain ⟨xs, n, _, _, _, _, hfl⟩ := DataW.trod_struct Tryd.underlying33 hf
  have k8 : Tryd.prog.cellsOf 31 = 1 := by kernel_rfl
  have ku : Tryd.prog.cellsOf 3 = 1 := by kernel_rfl
  have h0 : DataW.trod enc Tryd.prog W base (fun _ => true) held n 31 (List.take (Tryd.prog.cellsOf 31) [c0, c1]) = xs[0]? := hfl 0 _ rfl
  have h1 : DataW.trod enc Tryd.prog W base (fun _ => true) held n 3 (List.take (Tryd.prog.cellsOf 3) [c1]) = xs[1]? := hfl 1 _ rfl
  rw [k8] at h0
  rw [ku] at h1
  have hxl : xs.length = 2 := by assumption
  rw [List.getElem?_eq_getElem (by omega)] at h0 h1
  obtain ⟨a, n1, cc, ns, e0, i0⟩ := open_choices h0
  obtain ⟨z, e1, _, _⟩ := DataW.trod_int Tryd.underlying3 h1
  simp at e0 e1
  subst e0 e1
  exact ⟨⟨ns, z⟩, ⟨a, n1, cc, rfl, i0⟩⟩
/-- a choice among the arguments -/
structure IsChoice (W : World) (v : Value) (q : Cho) : Prop where
  val : v = .agg #[.int .i64 q.server, .int .i64 q.first, .int .i64 q.second]
set_option maxRecDepth 100000 in
theorem open_choice {H : Type} {enc : TypeId × Value → H} {W : World} {base b0 : Nat} {held : Bool} {v : Value} {d : DataW H} {p : List MemPlace} {r : Reach}
    (hv : Value.okWide Tryd.prog W r b0 39 v) (h : DataW.Trod enc Tryd.prog W base (fun _ => true) held 39 v d p) : ∃ q, IsChoice W v q := by
  obtain ⟨cs, rfl, hsz⟩ := okWide_struct Tryd.underlying39 hv
  rw [show Tryd.prog.cellsOf 39 = 3 by kernel_rfl] at hsz
  obtain ⟨l⟩ := cs
  obtain ⟨c0, c1, c2, rfl⟩ := list3 l hsz
  obtain ⟨fuel, hf⟩ := h
  obtain ⟨xs, n, _, _, _, _, hfl⟩ := DataW.trod_struct Tryd.underlying39 hf
  have ku : Tryd.prog.cellsOf 3 = 1 := by kernel_rfl
  have h0 : DataW.trod enc Tryd.prog W base (fun _ => true) held n 3 (List.take (Tryd.prog.cellsOf 3) [c0, c1, c2]) = xs[0]? := hfl 0 _ rfl
  have h1 : DataW.trod enc Tryd.prog W base (fun _ => true) held n 3 (List.take (Tryd.prog.cellsOf 3) [c1, c2]) = xs[1]? := hfl 1 _ rfl
  have h2 : DataW.trod enc Tryd.prog W base (fun _ => true) held n 3 (List.take (Tryd.prog.cellsOf 3) [c2]) = xs[2]? := hfl 2 _ rfl
  rw [ku] at h0 h1 h2
  have hxl : xs.length = 3 := by assumption
  rw [List.getElem?_eq_getElem (by omega)] at h0 h1 h2
  obtain ⟨z0, e0, _, _⟩ := DataW.trod_int Tryd.underlying3 h0
  obtain ⟨z1, e1, _, _⟩ := DataW.trod_int Tryd.underlying3 h1
  obtain ⟨z2, e2, _, _⟩ := DataW.trod_int Tryd.underlying3 h2
  simp at e0 e1 e2
  subst e0 e1 e2
  exact ⟨⟨z0, z1, z2⟩, ⟨rfl⟩⟩

theorem ints64_of {H : Type} {enc : TypeId × Value → H} {W : World} {base : Nat} {held : Bool} {fuel : Nat} {cs : List Value} {x : DataW H × List MemPlace} (h : DataW.trod enc Tryd.prog W base (fun _ => true) held fuel 62 cs = some x) :
    ∃ a n c z, cs = [.slice a n c] ∧ IsInts .i64 W a n c z := by
  rcases open_ints Tryd.underlying62 Tryd.underlying3 (by kernel_rfl) h with ⟨hcs, _⟩ | ⟨x, l, c, zs, hcs, _, hl, hm, hz, _, hcell, hwz⟩
  · exact ⟨_, _, _, _, hcs, .nil⟩
  · exact ⟨_, _, _, _, hcs, .row hl hm (by simpa using hz) hcell hwz⟩
theorem open_nodes {H : Type} {enc : TypeId × Value → H} {w : World} {base : Nat} {held : Bool} {fuel : Nat} {cs : List Value} {x : DataW H × List MemPlace} (h : DataW.trod enc Tryd.prog w base (fun _ => true) held fuel 22 cs = some x) :
    ∃ a n c ns, cs = [.slice a n c] ∧ XM w a n c ns := by
  rcases open_slice_fields Tryd.underlying22 Tryd.underlying64 (by kernel_rfl) (by kernel_rfl) h with ⟨hcs, _⟩ | ⟨a, len, cap, m, D, Pl, hcs, _, hl, hm, hmm, _, hi⟩
  · exact ⟨none, 0, 0, [], hcs, XM.none_ _⟩
  · have hlm : len ≤ m := by rw [hmm]; split <;> omega
    obtain ⟨L, hL1, hL2⟩ := list_of (α := Nod) (Q := fun i r => w.cell? (a.add (i * 5 + 0)) = some (.int .i64 r.kind) ∧ w.cell? (a.add (i * 5 + 1)) = some (.int .i64 r.server) ∧ w.cell? (a.add (i * 5 + 2)) = some (.int .i64 r.need) ∧ (∃ a3 n3 c3, w.cell? (a.add (i * 5 + 3)) = some (.slice a3 n3 c3) ∧ Rd w a3 n3 c3 (r.weights.map (Value.int .i64))) ∧ ∃ a4 n4 c4, w.cell? (a.add (i * 5 + 4)) = some (.slice a4 n4 c4) ∧ Rd w a4 n4 c4 (r.kids.map (Value.int .i64))) len (fun i hil => by
      obtain ⟨ys, n, _, _, _, hf⟩ := hi i (by omega)
      obtain ⟨v0, y0, c0, _, t0⟩ := hf 0 _ rfl
      obtain ⟨v1, y1, c1, _, t1⟩ := hf 1 _ rfl
      obtain ⟨v2, y2, c2, _, t2⟩ := hf 2 _ rfl
      obtain ⟨v3, y3, c3, _, t3⟩ := hf 3 _ rfl
      obtain ⟨v4, y4, c4, _, t4⟩ := hf 4 _ rfl
      obtain ⟨z0, e0, _, _⟩ := DataW.trod_int Tryd.underlying3 t0
      obtain ⟨z1, e1, _, _⟩ := DataW.trod_int Tryd.underlying3 t1
      obtain ⟨z2, e2, _, _⟩ := DataW.trod_int Tryd.underlying3 t2
      obtain ⟨a3, n3, k3, z3, e3, i3⟩ := ints64_of t3
      obtain ⟨a4, n4, k4, z4, e4, i4⟩ := ints64_of t4
      cases e0; cases e1; cases e2; cases e3; cases e4
      exact ⟨⟨z0, z1, z2, z3, z4⟩, c0, c1, c2, ⟨a3, n3, k3, c3, i3.rd⟩, a4, n4, k4, c4, i4.rd⟩)
    refine ⟨some a, len, cap, L, hcs, ⟨hL1, hl, hm, fun h => (by cases h), fun hn0 => ?_⟩⟩
    obtain ⟨x0, hx0⟩ : ∃ x, L[0]? = some x := ⟨_, List.getElem?_eq_getElem (by omega)⟩
    have h0 := (hL2 0 x0 hx0).1
    rw [Nat.zero_mul, Nat.zero_add] at h0
    have ha := addr_plain h0
    refine ⟨a.block, a.off, by rw [← ha], fun i p hp => ?_⟩
    obtain ⟨d0, d1, d2, ⟨a3, n3, c3, d3, r3⟩, a4, n4, c4, d4, r4⟩ := hL2 i p hp
    rw [ha, Addr.add_lit] at d0 d1 d2 d3 d4
    exact ⟨d0, by rw [Nat.add_assoc]; exact d1, by rw [Nat.add_assoc]; exact d2, ⟨a3, n3, c3, by rw [Nat.add_assoc]; exact d3, r3⟩, a4, n4, c4, by rw [Nat.add_assoc]; exact d4, r4⟩
/-- an expression among the arguments -/
structure IsXpr (W : World) (v : Value) (x : Xpr) : Prop where
  val : ∃ a n c, v = .agg #[.slice a n c, .int .i64 x.root] ∧ XM W a n c x.nodes
set_option maxRecDepth 100000 in
theorem open_xpr {H : Type} {enc : TypeId × Value → H} {W : World} {base b0 : Nat} {held : Bool} {v : Value} {d : DataW H} {p : List MemPlace} {r : Reach}
    (hv : Value.okWide Tryd.prog W r b0 24 v) (h : DataW.Trod enc Tryd.prog W base (fun _ => true) held 24 v d p) : ∃ x, IsXpr W v x := by
  obtain ⟨cs, rfl, hsz⟩ := okWide_struct Tryd.underlying24 hv
  rw [show Tryd.prog.cellsOf 24 = 2 by kernel_rfl] at hsz
  obtain ⟨l⟩ := cs
  obtain ⟨c0, c1, rfl⟩ := list2 l hsz
  obtain ⟨fuel, hf⟩ := h
  obtain ⟨xs, n, _, _, _, _, hfl⟩ := DataW.trod_struct Tryd.underlying24 hf
  have k8 : Tryd.prog.cellsOf 22 = 1 := by kernel_rfl
  have ku : Tryd.prog.cellsOf 3 = 1 := by kernel_rfl
  have h0 : DataW.trod enc Tryd.prog W base (fun _ => true) held n 22 (List.take (Tryd.prog.cellsOf 22) [c0, c1]) = xs[0]? := hfl 0 _ rfl
  have h1 : DataW.trod enc Tryd.prog W base (fun _ => true) held n 3 (List.take (Tryd.prog.cellsOf 3) [c1]) = xs[1]? := hfl 1 _ rfl
  rw [k8] at h0
  rw [ku] at h1
  have hxl : xs.length = 2 := by assumption
  rw [List.getElem?_eq_getElem (by omega)] at h0 h1
  obtain ⟨a, n1, cc, ns, e0, i0⟩ := open_nodes h0
  obtain ⟨z, e1, _, _⟩ := DataW.trod_int Tryd.underlying3 h1
  simp at e0 e1
  subst e0 e1
  exact ⟨⟨ns, z⟩, ⟨a, n1, cc, rfl, i0⟩⟩
end Go.Proofs.YtflpkkebampmfaaDoor
