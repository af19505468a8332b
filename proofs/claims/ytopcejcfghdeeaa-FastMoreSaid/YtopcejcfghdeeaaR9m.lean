/- The reference of layer 9: Minimal, Made. -/
import Derived.Test.YtopcejcfghdeeaaR9
namespace Go.Proofs.Ytopcejcfghdeeaa
open Go.RowKit Go.Shelf

/-- the minimal sets of a list, in order -/
def minSt (f : List (BitVec 16)) (o : List (BitVec 16)) (x : BitVec 16) : List (BitVec 16) := if ((f.any fun y => y == x) && !accS o x) = true then o ++ [x] else o
def minTo (f : List (BitVec 16)) (m : Nat) : List (BitVec 16) := ((subsS9 (supS f)).take m).foldl (minSt f) []
def minS (f : List (BitVec 16)) : List (BitVec 16) := (subsS9 (supS f)).foldl (minSt f) []
theorem minTo_succ {f : List (BitVec 16)} {m : Nat} {x : BitVec 16} (hx : (subsS9 (supS f))[m]? = some x) : minTo f (m + 1) = minSt f (minTo f m) x := by
  unfold minTo; rw [List.take_add_one, hx, Option.toList_some, List.foldl_append]; rfl
theorem minTo_all {f : List (BitVec 16)} {m : Nat} (h : (subsS9 (supS f)).length = m) : minTo f m = minS f := by
  unfold minTo minS; rw [List.take_of_length_le (by omega)]
theorem minSt_le (f o : List (BitVec 16)) (x : BitVec 16) : (minSt f o x).length ≤ o.length + 1 := by
  unfold minSt; split
  · simp
  · omega
theorem fold_le (f : List (BitVec 16)) : ∀ (l o : List (BitVec 16)), (l.foldl (minSt f) o).length ≤ o.length + l.length := by
  intro l
  induction l with
  | nil => intro o; simp
  | cons x l ih =>
    intro o
    rw [List.foldl_cons, List.length_cons]
    have := ih (minSt f o x)
    have := minSt_le f o x
    omega
theorem minTo_le (f : List (BitVec 16)) (m : Nat) : (minTo f m).length ≤ m := by
  unfold minTo
  have := fold_le f ((subsS9 (supS f)).take m) []
  rw [List.length_take] at this
  simp at this
  omega
/-- within the inner loop -/
def inK (f o : List (BitVec 16)) (x : BitVec 16) (k : Nat) : List (BitVec 16) := minSt (f.take k) o x
theorem acc_self (o : List (BitVec 16)) (x : BitVec 16) : accS (o ++ [x]) x = true := by
  unfold accS subB
  rw [List.any_append, Bool.or_eq_true]
  right
  have : x &&& ~~~x = 0#16 := by
    apply BitVec.eq_of_getLsbD_eq
    intro i hi
    simp
  simp [this]
theorem any_take {f : List (BitVec 16)} {k : Nat} (hk : k < f.length) (x : BitVec 16) : ((f.take (k + 1)).any fun y => y == x) = (((f.take k).any fun y => y == x) || (f.getD k 0#16 == x)) := by
  rw [List.take_add_one, at_some hk, Option.toList_some, List.any_append]; simp
theorem inK_ne {f o : List (BitVec 16)} {x : BitVec 16} {k : Nat} (hk : k < f.length) (h : (f.getD k 0#16 == x) = false) : inK f o x (k + 1) = inK f o x k := by
  unfold inK minSt
  rw [any_take hk, h, Bool.or_false]
theorem inK_acc {f o : List (BitVec 16)} {x : BitVec 16} {k : Nat} (hk : k < f.length) (h : (f.getD k 0#16 == x) = true) (ha : accS (inK f o x k) x = true) : inK f o x (k + 1) = inK f o x k := by
  unfold inK minSt at ha ⊢
  rw [any_take hk, h, Bool.or_true, Bool.true_and]
  cases h1 : (f.take k).any fun y => y == x
  · rw [h1] at ha
    simp only [Bool.false_and, Bool.false_eq_true, if_false] at ha ⊢
    rw [ha]; simp
  · simp
theorem inK_new {f o : List (BitVec 16)} {x : BitVec 16} {k : Nat} (hk : k < f.length) (h : (f.getD k 0#16 == x) = true) (ha : accS (inK f o x k) x = false) : inK f o x (k + 1) = inK f o x k ++ [x] := by
  unfold inK minSt at ha ⊢
  rw [any_take hk, h, Bool.or_true, Bool.true_and]
  cases h1 : (f.take k).any fun y => y == x
  · rw [h1] at ha
    simp only [Bool.false_and, Bool.false_eq_true, if_false] at ha ⊢
    rw [ha]; simp
  · rw [h1] at ha
    simp only [Bool.true_and] at ha
    cases h2 : accS o x
    · rw [h2] at ha
      simp only [Bool.not_false, if_true] at ha
      rw [acc_self] at ha; cases ha
    · rw [h2] at ha
      simp only [Bool.not_true, Bool.false_eq_true, if_false] at ha
      rw [h2] at ha; cases ha
theorem inK_len (f o : List (BitVec 16)) (x : BitVec 16) (k : Nat) : (inK f o x k).length ≤ o.length + 1 := minSt_le _ _ _
theorem rd_drewN {w : World} {a : Option Addr} {n c : Nat} {l : List Value} (h : Rd w a n c l) (q : Nat) : Rd (w.drewN q) a n c l := ⟨h.len, h.le, h.max, h.nil, h.at'⟩
theorem row_drewN {w : World} {B k n : Nat} {e : TypeId} {v : Value} {xs : List Value} (h : w.ownsRow B e k v n xs) (q : Nat) : (w.drewN q).ownsRow B e k v n xs := h

set_option maxRecDepth 100000 in
set_option maxHeartbeats 4000000 in
theorem minimal9_c (f : List (BitVec 16)) (a : Option Addr) (n c : Nat) (w : World) (h : Rd w a n c (f.map setV2)) :
    Calls Try.prog 23 #[.slice a n c] w fun e w' => ∃ v, e = .returned v ∧ Own w w' 26 v ((minS f).map setV2) ∧ Below w.heap.size w w' := by
  have hnl : f.length = n := by have := h.len; simp at this; omega
  have hm := h.max
  have hle := h.le
  unfold maxLen at hm
  have HR := Lib.hid h
  have HN := Lib.hid hnl
  have HSU := Lib.hid (support9_c f a n c w h)
  have HSB := Lib.hid (fun w => subsets9_c (supS f) w)
  clear h hnl
  obtain ⟨L, hL⟩ : ∃ L, subsS9 (supS f) = L := ⟨_, rfl⟩
  have hL17 : L.length ≤ 1200000 := by
    rw [← hL]; unfold subsS9
    have := subsTo_len (supS f) (cnt (supS f) + 1)
    have := cnt_le (supS f)
    omega
  have HL := Lib.hid hL
  rw [hL] at HSB
  obtain ⟨S, hS⟩ : ∃ S, supS f = S := ⟨_, rfl⟩
  rw [hS] at HSU HSB
  obtain ⟨p, hp⟩ : ∃ p, L.length = p := ⟨_, rfl⟩
  rw [hp] at hL17
  have HP := Lib.hid hp
  clear hL hS hp
  go_enter Try.func23, Try.ntmps23
  go_wp2_with fail
  refine HSU.out.mono ?_
  rintro e w1 ⟨rfl, rfl⟩
  go_wp2_with fail
  refine (HSB.out _).mono ?_
  rintro e w2 ⟨v2, rfl, o2, b2⟩
  obtain ⟨al, cl, rfl, hrl⟩ := o2.rdn p (by rw [List.length_map, HP.out])
  have hlc := hrl.le
  have hlm := hrl.max
  unfold maxLen at hlm
  have HRL := Lib.hid hrl
  have HB2 := Lib.hid b2
  clear o2 hrl b2 HSU HSB
  go_wp2_with fail
  go_loopw [3, 5] (fun v i wr => ∃ m : Nat, m ≤ p ∧ i = .int .i64 m ∧ wr.ownsRow w2.heap.size 26 1 v (minTo f m).length ((minTo f m).map setV2) ∧ Below w2.heap.size w2 wr) (fun _ i _ => p - (intOf i).toNat)
  case atStart => exact ⟨0, Nat.zero_le _, rfl, World.ownsRow_nil _ _ _ _, Below.refl _ _⟩
  case round =>
    obtain ⟨m, hm2, rfl, hown, hb⟩ := hrel
    by_cases hlt : m < p
    · have hml : m < L.length := by have := HP.out; omega
      have hcx := at_cell hml
      have hxs := at_some hml
      obtain ⟨x, hx⟩ : ∃ x, L.getD m 0#16 = x := ⟨_, rfl⟩
      rw [hx] at hcx hxs
      have HST := Lib.hid (minTo_succ (f := f) (m := m) (by rw [HL.out]; exact hxs))
      have hol := minTo_le f m
      obtain ⟨o, ho⟩ : ∃ o, minTo f m = o := ⟨_, rfl⟩
      rw [ho] at HST hown hol
      have HCX := Lib.hid hcx
      have HO := Lib.hid hown
      have HB := Lib.hid hb
      clear hml hcx hxs hx ho hown hb
      go_wp2_with fail
      go_loopw [3, 6] (fun v i wr => ∃ k : Nat, k ≤ n ∧ i = .int .i64 k ∧ wr.ownsRow w2.heap.size 26 1 v (inK f o x k).length ((inK f o x k).map setV2) ∧ Below w2.heap.size w2 wr) (fun _ i _ => n - (intOf i).toNat)
      case atStart => exact ⟨0, Nat.zero_le _, rfl, by simpa [inK, minSt] using HO.out, HB.out⟩
      case round =>
        obtain ⟨k, hk, rfl, hown, hb⟩ := hrel
        have hil := inK_len f o x k
        by_cases hlt2 : k < n
        · have hkl : k < f.length := by have := HN.out; omega
          obtain ⟨b1, o1, ha1, hcell1⟩ := (HR.out.below (Below.next HB2.out hb)).at' (by omega)
          obtain ⟨b3, o3, ha3, hcell3⟩ := (HRL.out.below hb).at' (by omega)
          have hc1 := hcell1 k _ (at_cell hkl)
          have hc3 := hcell3 m _ HCX.out
          obtain ⟨g, hg⟩ : ∃ g, inK f o x k = g := ⟨_, rfl⟩
          have hne := inK_ne (o := o) (x := x) hkl
          have hac := inK_acc (o := o) (x := x) hkl
          have hnw := inK_new (o := o) (x := x) hkl
          rw [hg] at hown hil hne hac hnw
          obtain ⟨y, hy⟩ : ∃ y, f.getD k 0#16 = y := ⟨_, rfl⟩
          rw [hy] at hc1 hne hac hnw
          obtain ⟨ag, cg, rfl, hrg⟩ := rd_of_row hown
          have HAC := Lib.hid (fun q => accepts9_c g x ag g.length cg (wr.drewN q) (rd_drewN hrg q))
          cases ha1
          cases ha3
          clear hcell1 hcell3 hg hy hkl hrg
          cases hq : (y == x)
          · have HS := Lib.hid (hne hq)
            clear hne hac hnw
            go_wp2_with fail
            go_quiet (fail)
            go_wp2_with fail
            go_roundw
            case rel => exact ⟨k + 1, by omega, by go_num, by rw [HS.out]; exact row_drewN hown _, below_drewN hb⟩
            case measure => simp [intOf]; omega
          · cases ha : accS g x
            · have HS := Lib.hid (hnw hq ha)
              rw [ha] at HAC
              obtain ⟨G, hG⟩ : ∃ G, g.length = G := ⟨_, rfl⟩
              rw [hG] at hown hil HAC ⊢
              have HL2 : Hid ((inK f o x (k + 1)).length = G + 1) := by show _ = _; rw [HS.out, List.length_append, hG]; rfl
              have HM2 : Hid ((inK f o x (k + 1)).map setV2 = g.map setV2 ++ [.int .u16 (U x)]) := by show _ = _; rw [HS.out, List.map_append]; rfl
              clear hne hac hnw hG HS
              go_wp2_with fail
              go_quiet ((go_at_call 51; exact Calls.quiet_of_same (HAC.out _)))
              have hown2 := row_drewN hown nq
              have hb2 := below_drewN (q := nq) hb
              have hc3' : (wr.drewN nq).cell? ⟨b3, o3 + m, none⟩ = some (.int .u16 (U x)) := hc3
              generalize wr.drewN nq = wn at hown2 hb2 hc3' ⊢
              clear hown hb hc3 hc1 HAC
              go_wp2_with (at_builtin; go_must (refine wpList_app _ _ 22 2 (.int .u16 0) (.int .u16 (U x)) _ Try.underlying22 Try.infoSet rfl hown2 hb2 (Nat.le_refl _) rfl rfl rfl rfl rfl (by unfold maxLen; omega) (by omega) ?_))
              intro v' w4 hown4 hb4 _ _
              clear hown2 hb2
              go_wp2_with fail
              go_roundw
              case rel => exact ⟨k + 1, by omega, by go_num, by rw [HM2.out, HL2.out]; exact hown4, hb4⟩
              case measure => simp [intOf]; omega
            · have HS := Lib.hid (hac hq ha)
              rw [ha] at HAC
              clear hne hac hnw
              go_wp2_with fail
              go_quiet ((go_at_call 51; exact Calls.quiet_of_same (HAC.out _)))
              go_wp2_with fail
              go_roundw
              case rel => exact ⟨k + 1, by omega, by go_num, by rw [HS.out]; exact row_drewN hown _, below_drewN hb⟩
              case measure => simp [intOf]; omega
        · obtain rfl : k = n := by omega
          have hE : inK f o x k = minTo f (m + 1) := by
            unfold inK
            rw [HST.out, List.take_of_length_le (by have := HN.out; omega)]
          rw [hE] at hown
          have HO2 := Lib.hid hown
          clear hE hown
          go_wp2_with fail
          go_roundw
          case rel => exact ⟨m + 1, by omega, by go_num, HO2.out, hb⟩
          case measure => simp [intOf]; omega
    · obtain rfl : m = p := by omega
      rw [minTo_all (by rw [HL.out, HP.out])] at hown
      have HO : Hid (Own w2 wr 26 u3 ((minS f).map setV2)) := by show Own _ _ _ _ _; unfold Own; rw [List.length_map]; exact hown
      clear hown
      go_wp2_with fail
      go_ret
      exact ⟨_, rfl, HO.out.mono HB2.out.size, Below.next HB2.out hb⟩
end Go.Proofs.Ytopcejcfghdeeaa
