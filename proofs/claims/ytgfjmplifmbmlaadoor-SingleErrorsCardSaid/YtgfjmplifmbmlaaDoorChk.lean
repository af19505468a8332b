/- single.check; transversal.Disjoint. -/
import Derived.Test.YtgfjmplifmbmlaaDoorFam3
import Derived.Test.YtgfjmplifmbmlaaDoorSin1
namespace Go.Proofs.YtgfjmplifmbmlaaDoor
open Go.RowKit Go.Shelf

/-- a slice of lists of sets -/
def RdSS (w : World) (a : Option Addr) (n c : Nat) (Ls : List (List (BitVec 16))) : Prop :=
  ∃ vs : List Value, Rd w a n c vs ∧ vs.length = Ls.length ∧ ∀ (i : Nat) (L : List (BitVec 16)), Ls[i]? = some L → ∃ a' n' c', vs[i]? = some (Value.slice a' n' c') ∧ Rd w a' n' c' (L.map setV2)
theorem RdSS.below {w w' : World} {a : Option Addr} {n c : Nat} {Ls : List (List (BitVec 16))} (h : RdSS w a n c Ls) (hb : Below w.heap.size w w') : RdSS w' a n c Ls := by
  obtain ⟨vs, h1, h2, h3⟩ := h
  refine ⟨vs, h1.below hb, h2, fun i L hi => ?_⟩
  obtain ⟨a', n', c', e, hr⟩ := h3 i L hi
  exact ⟨a', n', c', e, hr.below hb⟩
theorem RdSS.len {w : World} {a : Option Addr} {n c : Nat} {Ls : List (List (BitVec 16))} (h : RdSS w a n c Ls) : Ls.length = n ∧ n ≤ c ∧ c ≤ 2 ^ 63 - 1 := by
  obtain ⟨vs, h1, h2, _⟩ := h
  have := h1.len; have := h1.le; have h3 := h1.max; unfold maxLen at h3
  omega
theorem RdSS.get {w : World} {a : Option Addr} {n c : Nat} {Ls : List (List (BitVec 16))} (h : RdSS w a n c Ls) {i : Nat} {L : List (BitVec 16)} (hi : Ls[i]? = some L) :
    ∃ b o a' n' c', a = some ⟨b, o, none⟩ ∧ w.cell? ⟨b, o + i, none⟩ = some (.slice a' n' c') ∧ Rd w a' n' c' (L.map setV2) := by
  obtain ⟨vs, h1, h2, h3⟩ := h
  obtain ⟨a', n', c', e, hr⟩ := h3 i L hi
  have hlt := (List.getElem?_eq_some_iff.1 e).1
  obtain ⟨b, o, ha, hc⟩ := h1.at' (by have := h1.len; omega)
  exact ⟨b, o, a', n', c', ha, hc i _ e, hr⟩

/-- what single.check finds -/
def hasZ (f : List (BitVec 16)) : Bool := f.any fun x => 0#16 == x
def offB (m : Nat) (f : List (BitVec 16)) : Bool := shrS (supS f) m != 0#16
def chkS (n : Int) (Ls : List (List (BitVec 16))) : Int :=
  if n < 1 ∨ 12 < n then 7 else if firstE (fun j => valS (Ls.getD j [])) Ls.length ≠ 0 then firstE (fun j => valS (Ls.getD j [])) Ls.length
  else if Ls.any (offB n.toNat) then 7 else if Ls.any hasZ then 9 else 0

theorem anyL_hit {α : Type} {p : α → Bool} {l : List α} {k : Nat} {x : α} (h : l[k]? = some x) (hp : p x = true) : l.any p = true :=
  List.any_eq_true.2 ⟨x, List.mem_of_getElem? h, hp⟩
theorem anyL_none {α : Type} {p : α → Bool} {l : List α} (h : ∀ (j : Nat) (x : α), l[j]? = some x → p x = false) : l.any p = false := by
  rw [Bool.eq_false_iff]
  intro hc
  obtain ⟨x, hx, hp⟩ := List.any_eq_true.1 hc
  obtain ⟨j, hj⟩ := List.mem_iff_getElem?.1 hx
  rw [h j x hj] at hp; cases hp

set_option maxRecDepth 100000 in
set_option maxHeartbeats 2000000 in
theorem check_c (nn : Int) (Ls : List (List (BitVec 16))) (a : Option Addr) (n c : Nat) (w : World) (h : RdSS w a n c Ls) :
    Calls Tryd.prog 35 #[.int .i64 nn, .slice a n c] w fun e w' => e = .returned (.int .i64 (chkS nn Ls)) ∧ Below w.heap.size w w' := by
  obtain ⟨hnl, hle, hm⟩ := h.len
  have HR := Lib.hid h
  have HN := Lib.hid hnl
  clear h hnl
  by_cases h1 : nn < 1
  · have hV : Hid (chkS nn Ls = 7) := by show _ = _; unfold chkS; rw [if_pos (.inl h1)]
    go_enter Tryd.func35, Tryd.ntmps35
    go_wp2_with fail
    go_ret
    exact ⟨by rw [hV.out]; rfl, Below.refl _ _⟩
  · by_cases h2 : 12 < nn
    · have hV : Hid (chkS nn Ls = 7) := by show _ = _; unfold chkS; rw [if_pos (.inr h2)]
      go_enter Tryd.func35, Tryd.ntmps35
      go_wp2_with fail
      go_ret
      exact ⟨by rw [hV.out]; rfl, Below.refl _ _⟩
    · obtain ⟨m, rfl⟩ := Int.eq_ofNat_of_zero_le (by omega : 0 ≤ nn)
      have hC : Hid (chkS m Ls = if firstE (fun j => valS (Ls.getD j [])) Ls.length ≠ 0 then firstE (fun j => valS (Ls.getD j [])) Ls.length
          else if Ls.any (offB m) then 7 else if Ls.any hasZ then 9 else 0) := by
        show _ = _; unfold chkS; rw [if_neg (by omega)]; rfl
      go_enter Tryd.func35, Tryd.ntmps35
      go_wp2_with fail
      go_loopw [20] (fun i wr => ∃ k : Nat, k ≤ n ∧ i = .int .i64 k ∧ Hid (∀ j, j < k → valS (Ls.getD j []) = 0) ∧ Below w.heap.size w wr) (fun i _ => n - (intOf i).toNat)
      case atStart => exact ⟨0, Nat.zero_le _, rfl, Lib.hid (fun j hj => by omega), Below.refl _ _⟩
      case round =>
        obtain ⟨k, hk, rfl, hno, hb⟩ := hrel
        by_cases hlt : k < n
        · obtain ⟨L, hL⟩ : ∃ L, Ls[k]? = some L := ⟨Ls[k]'(by have := HN.out; omega), List.getElem?_eq_getElem _⟩
          have hgd : Ls.getD k [] = L := by simp [List.getD, hL]
          obtain ⟨b, o, a', n', c', ha, hc, hr⟩ := (HR.out.below hb).get hL
          subst ha
          have HV := Lib.hid (valid_c L a' n' c' wr hr)
          by_cases hv : valS L = 0
          · have hno' : Hid (∀ j, j < k + 1 → valS (Ls.getD j []) = 0) := Lib.hid (fun j hj => by
              by_cases h1 : j < k
              · exact hno.out j h1
              · obtain rfl : j = k := by omega
                rw [hgd]; exact hv)
            rw [hv] at HV
            clear hno hL hgd hr hv
            go_wp2_with fail
            refine HV.out.mono ?_
            rintro e w1 ⟨rfl, hb2⟩
            have hb3 := Below.next hb hb2
            clear hb hb2
            go_wp2_with fail
            go_roundw
            case rel => exact ⟨k + 1, by omega, by go_num, hno', hb3⟩
            case measure => simp [intOf]; omega
          · have hE : Hid (chkS m Ls = valS L) := by
              show _ = _
              have := firstE_hit (fun j => valS (Ls.getD j [])) Ls.length k (by have := HN.out; omega) hno.out (by show valS (Ls.getD k []) ≠ 0; rw [hgd]; exact hv)
              rw [hC.out, this, hgd, if_pos hv]
            obtain ⟨v, hvv⟩ : ∃ v, valS L = v := ⟨_, rfl⟩
            rw [hvv] at HV hE hv
            have hv1 : (v != 0) = true := by simpa using hv
            clear hno hL hgd hr hv hvv
            go_wp2_with fail
            refine HV.out.mono ?_
            rintro e w1 ⟨rfl, hb2⟩
            have hb3 := Below.next hb hb2
            clear hb hb2
            go_wp2_with fail
            go_ret
            exact ⟨by rw [hE.out]; rfl, hb3⟩
        · have hF : Hid (firstE (fun j => valS (Ls.getD j [])) Ls.length = 0) := firstE_none _ _ (fun j hj => hno.out j (by have := HN.out; omega))
          have hC2 : Hid (chkS m Ls = if Ls.any (offB m) then 7 else if Ls.any hasZ then 9 else 0) := by
            show _ = _; rw [hC.out, hF.out]; rfl
          clear hno hF hC
          go_wp2_with fail
          go_loopw [32] (fun i wr => ∃ k : Nat, k ≤ n ∧ i = .int .i64 k ∧ Hid (∀ (j : Nat) (L : List (BitVec 16)), j < k → Ls[j]? = some L → offB m L = false) ∧ Below w.heap.size w wr) (fun i _ => n - (intOf i).toNat)
          case atStart => exact ⟨0, Nat.zero_le _, rfl, Lib.hid (fun j L hj => by omega), hb⟩
          case round =>
            clear hb
            obtain ⟨k, hk, rfl, hno, hb⟩ := hrel
            by_cases hlt2 : k < n
            · obtain ⟨L, hL⟩ : ∃ L, Ls[k]? = some L := ⟨Ls[k]'(by have := HN.out; omega), List.getElem?_eq_getElem _⟩
              obtain ⟨b, o, a', n', c', ha, hc, hr⟩ := (HR.out.below hb).get hL
              subst ha
              have HV := Lib.hid (support_c L a' n' c' wr hr)
              cases ho : offB m L
              · have hno' : Hid (∀ (j : Nat) (L : List (BitVec 16)), j < k + 1 → Ls[j]? = some L → offB m L = false) := Lib.hid (fun j L' hj hj' => by
                  by_cases h1 : j < k
                  · exact hno.out j L' h1 hj'
                  · obtain rfl : j = k := by omega
                    rw [hL] at hj'; cases hj'; exact ho)
                unfold offB at ho
                obtain ⟨sv, hsv⟩ : ∃ s, supS L = s := ⟨_, rfl⟩
                rw [hsv] at HV ho
                clear hno hL hr hsv
                go_wp2_with fail
                refine HV.out.mono ?_
                rintro e w1 ⟨rfl, rfl⟩
                go_wp2_with fail
                go_roundw
                case rel => exact ⟨k + 1, by omega, by go_num, hno', hb⟩
                case measure => simp [intOf]; omega
              · have hE : Hid (chkS m Ls = 7) := by show _ = _; rw [hC2.out, if_pos (anyL_hit hL ho)]
                unfold offB at ho
                obtain ⟨sv, hsv⟩ : ∃ s, supS L = s := ⟨_, rfl⟩
                rw [hsv] at HV ho
                clear hno hL hr hsv
                go_wp2_with fail
                refine HV.out.mono ?_
                rintro e w1 ⟨rfl, rfl⟩
                go_wp2_with fail
                go_ret
                exact ⟨by rw [hE.out]; rfl, hb⟩
            · have hC3 : Hid (chkS m Ls = if Ls.any hasZ then 9 else 0) := by
                show _ = _; rw [hC2.out, anyL_none (fun j L hL => hno.out j L (by have := (List.getElem?_eq_some_iff.1 hL).1; have := HN.out; omega) hL)]; rfl
              clear hno hC2
              go_wp2_with fail
              go_loopw [44] (fun i wr => ∃ k : Nat, k ≤ n ∧ i = .int .i64 k ∧ Hid (∀ (j : Nat) (L : List (BitVec 16)), j < k → Ls[j]? = some L → hasZ L = false) ∧ Below w.heap.size w wr) (fun i _ => n - (intOf i).toNat)
              case atStart => exact ⟨0, Nat.zero_le _, rfl, Lib.hid (fun j L hj => by omega), hb⟩
              case round =>
                clear hb
                obtain ⟨k, hk, rfl, hno, hb⟩ := hrel
                by_cases hlt3 : k < n
                · obtain ⟨L, hL⟩ : ∃ L, Ls[k]? = some L := ⟨Ls[k]'(by have := HN.out; omega), List.getElem?_eq_getElem _⟩
                  obtain ⟨b, o, a', n', c', ha, hc, hr⟩ := (HR.out.below hb).get hL
                  subst ha
                  have HV : Hid (Calls Tryd.prog 57 #[.slice a' n' c', .int .u16 0] wr fun e w' => e = .returned (.bool (hasZ L)) ∧ w' = wr) := Lib.hid (containsv_c L 0#16 a' n' c' wr hr)
                  cases ho : hasZ L
                  · have hno' : Hid (∀ (j : Nat) (L : List (BitVec 16)), j < k + 1 → Ls[j]? = some L → hasZ L = false) := Lib.hid (fun j L' hj hj' => by
                      by_cases h1 : j < k
                      · exact hno.out j L' h1 hj'
                      · obtain rfl : j = k := by omega
                        rw [hL] at hj'; cases hj'; exact ho)
                    rw [ho] at HV
                    clear hno hL hr ho
                    go_wp2_with fail
                    refine HV.out.mono ?_
                    rintro e w1 ⟨rfl, rfl⟩
                    go_wp2_with fail
                    go_roundw
                    case rel => exact ⟨k + 1, by omega, by go_num, hno', hb⟩
                    case measure => simp [intOf]; omega
                  · have hE : Hid (chkS m Ls = 9) := by show _ = _; rw [hC3.out, if_pos (anyL_hit hL ho)]
                    rw [ho] at HV
                    clear hno hL hr ho
                    go_wp2_with fail
                    refine HV.out.mono ?_
                    rintro e w1 ⟨rfl, rfl⟩
                    go_wp2_with fail
                    go_ret
                    exact ⟨by rw [hE.out]; rfl, hb⟩
                · have hE : Hid (chkS m Ls = 0) := by
                    show _ = _; rw [hC3.out, anyL_none (fun j L hL => hno.out j L (by have := (List.getElem?_eq_some_iff.1 hL).1; have := HN.out; omega) hL)]; rfl
                  clear hno
                  go_wp2_with fail
                  go_ret
                  exact ⟨by rw [hE.out]; rfl, hb⟩

/-- the first disjoint pair -/
def disS (f g : List (BitVec 16)) : Option (BitVec 16 × BitVec 16) :=
  (f.flatMap fun x => g.map fun y => (x, y)).find? fun p => p.1 &&& p.2 == 0#16
theorem dis_row (x : BitVec 16) (g : List (BitVec 16)) (k : Nat) (h : ∀ j, j < k → (x &&& g.getD j 0#16 == 0#16) = false) (hk : k ≤ g.length) : (g.map fun y => (x, y)).find? (fun p => p.1 &&& p.2 == 0#16) = ((g.drop k).map fun y => (x, y)).find? (fun p => p.1 &&& p.2 == 0#16) := by
  have e : (g.map fun y => (x, y)) = ((g.take k).map fun y => (x, y)) ++ ((g.drop k).map fun y => (x, y)) := by rw [← List.map_append, List.take_append_drop]
  rw [e, List.find?_append]
  rw [List.find?_eq_none.2]
  · rfl
  · intro p hp
    obtain ⟨y, hy, rfl⟩ := List.mem_map.1 hp
    obtain ⟨j, hj, rfl⟩ := List.mem_iff_getElem.1 hy
    rw [List.length_take] at hj
    have := h j (by omega)
    rw [getD_at (by omega)] at this
    rw [List.getElem_take]
    simpa using this
theorem disS_drop (f g : List (BitVec 16)) (k : Nat) (h : ∀ j, j < k → ∀ i, i < g.length → (f.getD j 0#16 &&& g.getD i 0#16 == 0#16) = false) (hk : k ≤ f.length) : disS f g = disS (f.drop k) g := by
  unfold disS
  have e : (f.flatMap fun x => g.map fun y => (x, y)) = ((f.take k).flatMap fun x => g.map fun y => (x, y)) ++ ((f.drop k).flatMap fun x => g.map fun y => (x, y)) := by rw [← List.flatMap_append, List.take_append_drop]
  rw [e, List.find?_append]
  rw [List.find?_eq_none.2]
  · rfl
  · intro p hp
    obtain ⟨x, hx, hp⟩ := List.mem_flatMap.1 hp
    obtain ⟨y, hy, rfl⟩ := List.mem_map.1 hp
    obtain ⟨j, hj, rfl⟩ := List.mem_iff_getElem.1 hx
    obtain ⟨i, hi, rfl⟩ := List.mem_iff_getElem.1 hy
    rw [List.length_take] at hj
    have := h j (by omega) i hi
    rw [getD_at (by omega), getD_at hi] at this
    rw [List.getElem_take]
    simpa using this
theorem disS_none (f g : List (BitVec 16)) (h : ∀ j, j < f.length → ∀ i, i < g.length → (f.getD j 0#16 &&& g.getD i 0#16 == 0#16) = false) : disS f g = none := by
  rw [disS_drop f g f.length h (Nat.le_refl _), List.drop_length]; rfl
theorem disS_hit (f g : List (BitVec 16)) (k i : Nat) (hk : k < f.length) (hi : i < g.length) (h : ∀ j, j < k → ∀ i, i < g.length → (f.getD j 0#16 &&& g.getD i 0#16 == 0#16) = false) (h2 : ∀ j, j < i → (f.getD k 0#16 &&& g.getD j 0#16 == 0#16) = false)
    (h3 : (f.getD k 0#16 &&& g.getD i 0#16 == 0#16) = true) : disS f g = some (f.getD k 0#16, g.getD i 0#16) := by
  rw [disS_drop f g k h (by omega)]
  unfold disS
  rw [List.drop_eq_getElem_cons hk, List.flatMap_cons, List.find?_append, ← getD_at hk, dis_row _ _ i h2 (by omega), List.drop_eq_getElem_cons hi, ← getD_at hi, List.map_cons, List.find?_cons]
  simp only [h3]
  rfl
def disT (f g : List (BitVec 16)) : BitVec 16 × BitVec 16 × Int := match disS f g with | some (x, y) => (x, y, 0) | none => (0#16, 0#16, 13)

set_option maxRecDepth 100000 in
set_option maxHeartbeats 2000000 in
theorem disjoint_c (f g : List (BitVec 16)) (a : Option Addr) (n c : Nat) (a2 : Option Addr) (n2 c2 : Nat) (w : World) (h : Rd w a n c (f.map setV2)) (h2 : Rd w a2 n2 c2 (g.map setV2)) :
    Calls Tryd.prog 41 #[.slice a n c, .slice a2 n2 c2] w fun e w' => e = .returned (.tuple #[.int .u16 (U (disT f g).1), .int .u16 (U (disT f g).2.1), .int .i64 (disT f g).2.2]) ∧ w' = w := by
  have hnl : f.length = n := by have := h.len; simp at this; omega
  have hnl2 : g.length = n2 := by have := h2.len; simp at this; omega
  have hm := h.max
  have hle := h.le
  have hm2 := h2.max
  have hle2 := h2.le
  unfold maxLen at hm hm2
  have HR := Lib.hid h
  have HN := Lib.hid hnl
  have HR2 := Lib.hid h2
  have HN2 := Lib.hid hnl2
  clear h hnl h2 hnl2
  go_enter Tryd.func41, Tryd.ntmps41
  go_wp2_with fail
  go_loop [13] (fun i => ∃ k : Nat, k ≤ n ∧ i = .int .i64 k ∧ Hid (∀ j, j < k → ∀ i, i < g.length → (f.getD j 0#16 &&& g.getD i 0#16 == 0#16) = false)) (fun i => n - (intOf i).toNat)
  case atStart => exact ⟨0, Nat.zero_le _, rfl, Lib.hid (fun j hj => by omega)⟩
  case round =>
    obtain ⟨k, hk, rfl, hno⟩ := hrel
    by_cases hlt : k < n
    · obtain ⟨b, o, ha, hcell⟩ := HR.out.at' (by omega)
      have hc := hcell k _ (at_cell (by have := HN.out; omega))
      obtain ⟨x, hx⟩ : ∃ x, f.getD k 0#16 = x := ⟨_, rfl⟩
      rw [hx] at hc
      have HX := Lib.hid hx
      subst ha
      clear hcell hx
      go_wp2_with fail
      go_loop [19] (fun i => ∃ j : Nat, j ≤ n2 ∧ i = .int .i64 j ∧ Hid (∀ i, i < j → (x &&& g.getD i 0#16 == 0#16) = false)) (fun i => n2 - (intOf i).toNat)
      case atStart => exact ⟨0, Nat.zero_le _, rfl, Lib.hid (fun j hj => by omega)⟩
      case round =>
        obtain ⟨j, hj, rfl, hno2⟩ := hrel
        by_cases hlt2 : j < n2
        · obtain ⟨b2, o2, ha2, hcell2⟩ := HR2.out.at' (by omega)
          have hc2 := hcell2 j _ (at_cell (by have := HN2.out; omega))
          obtain ⟨y, hy⟩ : ∃ y, g.getD j 0#16 = y := ⟨_, rfl⟩
          rw [hy] at hc2
          subst ha2
          cases hq : (x &&& y == 0#16)
          · have hno3 : Hid (∀ i, i < j + 1 → (x &&& g.getD i 0#16 == 0#16) = false) := Lib.hid (fun i hi => by
              by_cases h1 : i < j
              · exact hno2.out i h1
              · obtain rfl : i = j := by omega
                rw [hy]; exact hq)
            clear hcell2 hno2 hy
            go_wp2_with fail
            go_round
            case rel => exact ⟨j + 1, by omega, by go_num, hno3⟩
            case measure => simp [intOf]; omega
          · have hD : Hid (disT f g = (x, y, 0)) := by
              show _ = _
              unfold disT
              rw [disS_hit f g k j (by have := HN.out; omega) (by have := HN2.out; omega) hno.out (by rw [HX.out]; exact hno2.out) (by rw [HX.out, hy]; exact hq), HX.out, hy]
            clear hcell2 hno2 hy hno
            go_wp2_with fail
            exact bodyPost_ret (v := .tuple #[.int .u16 (U x), .int .u16 (U y), .int .i64 0]) (by simp [results, Tryd.results41, go_sem]) rfl ⟨by rw [hD.out], rfl⟩
        · have hno3 : Hid (∀ j, j < k + 1 → ∀ i, i < g.length → (f.getD j 0#16 &&& g.getD i 0#16 == 0#16) = false) := Lib.hid (fun j' hj' i hi => by
            by_cases h1 : j' < k
            · exact hno.out j' h1 i hi
            · obtain rfl : j' = k := by omega
              rw [HX.out]; exact hno2.out i (by have := HN2.out; omega))
          clear hno hno2
          go_wp2_with fail
          go_round
          case rel => exact ⟨k + 1, by omega, by go_num, hno3⟩
          case measure => simp [intOf]; omega
    · have hD : Hid (disT f g = (0#16, 0#16, 13)) := by
        show _ = _
        unfold disT
        rw [disS_none f g (fun j hj => hno.out j (by have := HN.out; omega))]
      clear hno
      go_wp2_with fail
      exact bodyPost_ret (v := .tuple #[.int .u16 0, .int .u16 0, .int .i64 13]) (by simp [results, Tryd.results41, go_sem]) rfl ⟨by rw [hD.out]; rfl, rfl⟩
end Go.Proofs.YtgfjmplifmbmlaaDoor
