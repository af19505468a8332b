/- The law's examples: awake returns true. -/
import Derived.Test.YthkboibhkpkliaaDoorFmt
namespace Go.Proofs.YthkboibhkpkliaaDoor
open Go.RowKit Go.Shelf

/-- the subsets by numbers, to reckon an example -/
theorem subsS_dep (x : BitVec 16) : subsS x = (List.range (cnt x + 1)).flatMap fun (k : Nat) => (numsTo k (2 ^ cnt x)).map (dep (memS x)) := by
  unfold subsS subsTo
  simp only [chooseS_dep]
theorem subs5 : subsS 5#16 = [0#16, 1#16, 4#16, 5#16] := by rw [subsS_dep]; decide
theorem len_subs (x : BitVec 16) (h : cnt x ≤ 16) : (subsS x).length ≤ 3000000 := by
  have := subsTo_le x (cnt x + 1)
  unfold subsS
  omega

theorem fmt37 : fmtB 37#16 = ⟨#[123, 48, 32, 50, 32, 53, 125]⟩ := by
  unfold fmtB fmtS
  rw [show memS 37#16 = [0, 2, 5] by decide]
  have d : ∀ i, i < 10 → Lib.decDigits i = [UInt8.ofNat (48 + i)] := fun i h => by rw [Lib.decDigits, dif_pos h]
  simp only [List.map_cons, List.map_nil, d 0 (by decide), d 2 (by decide), d 5 (by decide)]
  rfl

/-- Collect(Subsets(s)) -/
theorem collect_subsets (x : BitVec 16) (w : World) (ht : HasTab w) (b : Nat) (hs : w.cell? ⟨b, 0, none⟩ = some (.int .u16 (U x))) :
    Calls Tryd.prog 17 #[.func (.func 44) #[] #[.pointer (some ⟨b, 0, none⟩)]] w fun e W' => ∃ v, e = .returned v ∧ Own w W' 23 v ((subsS x).map setV) ∧ Below w.heap.size w W' := by
  refine collect_c _ _ _ (len_subs x (cnt_le x)) (enters_of Tryd.func44 (by kernel_rfl) rfl) w fun m => ?_
  refine subsets1_stops m b (CCol w.heap.size) (fun k => .inr ⟨by decide, by decide⟩) (fun t => .inl ?_) (fun t => .inl (cell_lt hs)) x w ht hs
  exact cell_lt (ht 0 (by decide))

theorem collect_choose (x : BitVec 16) (k : Int) (w : World) (ht : HasTab w) (b b2 : Nat) (hs : w.cell? ⟨b, 0, none⟩ = some (.int .u16 (U x))) (hk : w.cell? ⟨b2, 0, none⟩ = some (.int .i64 k)) :
    Calls Tryd.prog 17 #[.func (.func 46) #[] #[.pointer (some ⟨b, 0, none⟩), .pointer (some ⟨b2, 0, none⟩)]] w fun e W' => ∃ v, e = .returned v ∧ Own w W' 23 v ((chooseS x k).map setV) ∧ Below w.heap.size w W' := by
  refine collect_c _ _ _ (by have := chooseS_le x k; omega) (enters_of Tryd.func46 (by kernel_rfl) rfl) w fun m => ?_
  refine choose1_stops m b b2 (CCol w.heap.size) (fun k => .inr ⟨by decide, by decide⟩) (fun t => .inl ?_) (fun t => .inl (cell_lt hs)) (fun t => .inl (cell_lt hk)) x k w ht hs hk
  exact cell_lt (ht 0 (by decide))

set_option maxRecDepth 100000 in
set_option maxHeartbeats 2000000 in
theorem awake_c (w : World) (ht : HasTab w) :
    Calls Tryd.prog 13 #[] w fun e w' => e = .returned (.bool true) ∧ Below w.heap.size w w' := by
  go_enter Tryd.func13, Tryd.ntmps13
  have hb0 := Below.refl w.heap.size w
  have HT := Lib.hid ht
  clear ht
  go_wp2_with fail
  refine (of_c [2, 0, 5] _ 3 3 _ (Rd.lit _ _ _ _ _ rfl rfl (by decide))).mono ?_
  rintro e w1 ⟨rfl, rfl⟩
  rw [show U (ofS 0#16 [2, 0, 5]).1 = 37 by decide, show (ofS 0#16 [2, 0, 5]).2 = 0 by decide]
  go_wp2_with fail
  refine (rename_c 5#16 5 [4, 9, 1] _ 3 3 _ rfl (HT.out.below ((hb0.alloc (Nat.le_refl _) _).alloc (by simp) _)) (Rd.lit' _ _ _ _ _ rfl rfl (by decide) (by simp))).mono ?_
  rintro e w2 ⟨rfl, hb2⟩
  rw [show U (renS 5#16 [4, 9, 1]).1 = 18 by decide, show (renS 5#16 [4, 9, 1]).2 = 0 by decide]
  have hb3 : Below w.heap.size w w2 := ((hb0.alloc (Nat.le_refl _) _).alloc (by simp) _).trans (hb2.mono (by simp; omega))
  clear hb2
  go_wp2_with fail
  refine (format_c 37#16 37 _ rfl (HT.out.below hb3)).mono ?_
  rintro e w3 ⟨rfl, hb4⟩
  rw [fmt37]
  have hb5 := Below.next hb3 hb4
  clear hb3 hb4
  go_wp2_with fail
  refine (compare_c 8#16 3#16 8 3 _ rfl rfl).mono ?_
  rintro e w4 ⟨rfl, hb6⟩
  rw [show cmpS 8#16 3#16 = -1 by decide]
  have hb7 := Below.next hb5 hb6
  clear hb5 hb6
  go_wp2_with fail
  refine (subsets_c 5#16 5 _ rfl).mono ?_
  rintro e w5 ⟨rfl, hw5⟩
  have hb8 : Below w.heap.size w w5 := by rw [hw5]; exact hb7.alloc hb7.size _
  have hc5 : w5.cell? ⟨w4.heap.size, 0, none⟩ = some (.int .u16 (U 5#16)) := by rw [hw5]; exact cell_new _ _ _ 0 _ rfl
  clear hw5 hb7
  have hcol := Lib.hid (collect_subsets 5#16 w5 (HT.out.below hb8) w4.heap.size hc5)
  clear hc5
  go_wp2_with fail
  refine hcol.out.mono ?_
  rintro e w6 ⟨v, rfl, hown, hb9⟩
  rw [subs5] at hown
  obtain ⟨a, c, rfl, hr⟩ := hown.rdn 4 rfl
  have hb10 := Below.next hb8 hb9
  clear hb8 hb9 hown hcol
  go_wp2_with fail
  refine (rsame_c [0#16, 1#16, 4#16, 5#16] [0#16, 1#16, 4#16, 5#16] _ _ _ _ _ _ _ (hr.below ((Below.refl _ _).alloc (Nat.le_refl _) _)) (Rd.lit _ _ _ 4 _ rfl rfl (by decide))).mono ?_
  rintro e w7 ⟨rfl, hb11⟩
  rw [show decide ([0#16, 1#16, 4#16, 5#16] = [0#16, 1#16, 4#16, 5#16]) = true by decide]
  have hb12 : Below w.heap.size w w7 := (hb10.alloc hb10.size _).trans (hb11.mono (by have := hb10.size; simp; omega))
  clear hb10 hb11 hr
  go_wp2_with fail
  go_ret
  exact ⟨rfl, hb12⟩
end Go.Proofs.YthkboibhkpkliaaDoor
