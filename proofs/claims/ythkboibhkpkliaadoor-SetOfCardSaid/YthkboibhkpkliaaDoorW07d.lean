/- Laws of layer 7: the members. -/
import Derived.Test.YthkboibhkpkliaaDoorW07b
namespace Go.Proofs.YthkboibhkpkliaaDoor
open Go.RowKit Go.Shelf

def natI (i : Nat) : Int := (i : Int)
/-- the set of a list of numbers, as 'Of' puts it together -/
def orL : BitVec 16 → List Nat → BitVec 16
  | s, [] => s
  | s, i :: l => orL (s ||| bitS i) l
theorem hasB_orL (l : List Nat) : ∀ (s : BitVec 16) (p : Nat), (∀ i ∈ l, i < 16) → hasB (orL s l) p = (hasB s p || decide (p ∈ l)) := by
  induction l with
  | nil => intro s p _; simp [orL]
  | cons i l ih =>
    intro s p h
    rw [orL, ih _ _ (fun j hj => h j (by simp [hj])), hasB_or, hasB_bit i p (h i (by simp)), Bool.or_assoc]
    congr 1
    by_cases e : p = i <;> simp [e]
theorem orL_memS (x : BitVec 16) : orL 0#16 (memS x) = x := by
  apply hasB_ext
  intro p _
  rw [hasB_orL _ _ _ (memS_16 x), hasB_zero, Bool.false_or]
  cases h : hasB x p
  · simp [mem_memS, h]
  · simp [mem_memS, h]
theorem ofS_nat (l : List Nat) : ∀ s : BitVec 16, l.Pairwise (· < ·) → (∀ i ∈ l, i < 16 ∧ hasB s i = false) →
    ((∀ i ∈ l, i < 12) → ofS s (l.map natI) = (orL s l, 0)) ∧ ((∃ i ∈ l, 12 ≤ i) → (ofS s (l.map natI)).2 ≠ 0) := by
  induction l with
  | nil => intro s _ _; exact ⟨fun _ => rfl, fun ⟨i, hi, _⟩ => by cases hi⟩
  | cons i l ih =>
    intro s hp hs
    have h0 := hs i (by simp)
    have hlt := (List.pairwise_cons.1 hp).1
    have hs' : ∀ j ∈ l, j < 16 ∧ hasB (s ||| bitS i) j = false := by
      intro j hj
      have h1 := hs j (by simp [hj])
      refine ⟨h1.1, ?_⟩
      rw [hasB_or, h1.2, hasB_bit i j h0.1, Bool.false_or]
      have := hlt j hj
      simp; omega
    have ih := ih (s ||| bitS i) (List.pairwise_cons.1 hp).2 hs'
    by_cases hi : i < 12
    · have e : addS s (natI i) = (s ||| bitS i, 0) := by
        unfold addS natI
        rw [if_neg (by omega), if_neg (by simp [h0.2])]
        rfl
      have e2 : ofS s ((i :: l).map natI) = ofS (s ||| bitS i) (l.map natI) := by
        rw [List.map_cons, ofS, e]; simp
      rw [e2]
      refine ⟨fun h => ih.1 (fun j hj => h j (by simp [hj])), fun ⟨j, hj, hj2⟩ => ih.2 ⟨j, ?_, hj2⟩⟩
      rcases List.mem_cons.1 hj with rfl | h
      · omega
      · exact h
    · have e : addS s (natI i) = (0#16, 7) := by
        unfold addS natI
        rw [if_pos (by omega)]
      refine ⟨fun h => absurd (h i (by simp)) hi, fun _ => ?_⟩
      rw [List.map_cons, ofS, e]; simp
theorem lt12_iff (x : BitVec 16) : (∀ i ∈ memS x, i < 12) ↔ U x < 4096 := by
  have e : (U x < 4096) ↔ x.toNat < 2 ^ 12 := by unfold U; omega
  rw [e]
  constructor
  · intro h
    apply Nat.lt_pow_two_of_testBit
    intro i hi
    cases hb : x.toNat.testBit i with
    | false => rfl
    | true => have := h i (mem_memS.2 hb); omega
  · intro h i hi
    have hb : x.toNat.testBit i = true := mem_memS.1 hi
    refine Nat.lt_of_not_le fun hc => ?_
    have := Nat.testBit_lt_two_pow (Nat.lt_of_lt_of_le h (Nat.pow_le_pow_right (by decide) hc))
    rw [this] at hb; cases hb
theorem ofS_memS (x : BitVec 16) : (U x < 4096 → ofS 0#16 ((memS x).map natI) = (x, 0)) ∧ (¬ U x < 4096 → (ofS 0#16 ((memS x).map natI)).2 ≠ 0) := by
  have h := ofS_nat (memS x) 0#16 (memS_sorted x) (fun i hi => ⟨memS_16 x i hi, hasB_zero i⟩)
  rw [orL_memS] at h
  refine ⟨fun hx => h.1 ((lt12_iff x).2 hx), fun hx => h.2 ?_⟩
  refine Classical.byContradiction fun hc => hx ((lt12_iff x).1 fun i hi => Nat.lt_of_not_le fun h12 => hc ⟨i, hi, h12⟩)
theorem map_natI (x : BitVec 16) : (memS x).map intV = ((memS x).map natI).map (Value.int .i64) := by
  rw [List.map_map]; rfl

set_option maxRecDepth 100000 in
set_option maxHeartbeats 1000000 in
theorem setMembers_w (a : Int) (w : World) (ht : HasTab w) (w0 : (Lit.int .u16 a).wf = true) :
    Calls Tryd.prog 9 #[.int .u16 a] w fun e w' => e = .returned (.bool true) ∧ Below w.heap.size w w' := by
  obtain ⟨x, rfl⟩ := U_of_wf w0
  clear w0
  have HT := Lib.hid ht
  clear ht
  have HA := Lib.hid (awake_c w HT.out)
  obtain ⟨m1, m2⟩ := ofS_memS x
  have e1 : Hid (((memS x).map intV) = ((memS x).map natI).map (Value.int .i64)) := map_natI x
  obtain ⟨ml, hml⟩ : ∃ l, Hid ((memS x).map natI = l) := ⟨_, rfl⟩
  rw [hml.out] at e1 m1 m2
  obtain ⟨t, f, htf⟩ : ∃ t f, Hid (ofS 0#16 ml = (t, f)) := ⟨_, _, rfl⟩
  rw [htf.out] at m1 m2
  have hlen : ((memS x).map intV).length = cnt x := by rw [List.length_map]; rfl
  have hn : Hid (((memS x).map intV).length = cnt x) := hlen
  have f2 : Hid (((f == 0) = false ∧ decide (U x < 4096) = false) ∨ (f = 0 ∧ x = t ∧ decide (U x < 4096) = true)) := Lib.hid (by
    by_cases h : U x < 4096
    · have := m1 h; cases this; exact .inr ⟨rfl, rfl, by simpa using h⟩
    · exact .inl ⟨by simpa using m2 h, by simpa using h⟩)
  clear m1 m2 hlen
  go_enter Tryd.func9, Tryd.ntmps9
  go_wp2_with fail
  refine HA.out.mono ?_
  rintro e w1 ⟨rfl, b1⟩
  have HM := Lib.hid (members_c x _ w1 rfl (HT.out.below b1))
  go_wp2_with fail
  refine HM.out.mono ?_
  rintro e w2 ⟨v, rfl, hown, b2⟩
  obtain ⟨a, c, rfl, hr⟩ := hown.rdn (cnt x) hn.out
  have b3 := Below.next b1 b2; clear b1 b2 hown HM
  go_wp2_with fail
  refine (rmembers_c x _ _ rfl).mono ?_
  rintro e w3 ⟨v, rfl, hown, b4⟩
  obtain ⟨b, d, rfl, hr2⟩ := hown.rdn (cnt x) hn.out
  have b5 := Below.next b3 b4
  have hr3 := hr.below b4
  clear b3 b4 hown hr
  rw [e1.out] at hr2 hr3
  go_wp2_with fail
  refine (equali_c ml ml _ _ _ _ _ _ _ hr3 hr2).mono ?_
  rintro e w4 ⟨rfl, b6⟩
  rw [show decide (ml = ml) = true by simp]
  have b7 := Below.next b5 b6
  have hr4 := hr3.below b6
  clear b5 b6 hr2 hr3
  go_wp2_with fail
  refine (count_c x _ _ rfl).mono ?_
  rintro e w5 ⟨rfl, q, rfl⟩
  have b8 := below_drewN (q := q) b7
  have hr5 := hr4.below (below_drewN (q := q) (Below.refl _ _))
  clear b7 hr4
  go_wp2_with fail
  refine (of_c ml _ _ _ _ hr5).mono ?_
  rintro e w6 ⟨rfl, rfl⟩
  rw [htf.out]
  rcases f2.out with ⟨h1, h2⟩ | ⟨rfl, rfl, h2⟩
  · have h0 : ¬ f = 0 := by simpa using h1
    clear f2
    go_wp2_with fail
    all_goals go_ret
    all_goals first | exact ⟨rfl, b8⟩ | (exact absurd h1 (by decide))
  · clear f2
    go_wp2_with fail
    go_ret
    exact ⟨rfl, b8⟩
end Go.Proofs.YthkboibhkpkliaaDoor
