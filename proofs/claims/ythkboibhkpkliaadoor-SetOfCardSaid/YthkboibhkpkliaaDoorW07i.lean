/- Laws of layer 7: Of. -/
import Derived.Test.YthkboibhkpkliaaDoorColI
import Derived.Test.YthkboibhkpkliaaDoorW07e
namespace Go.Proofs.YthkboibhkpkliaaDoor
open Go.RowKit Go.Shelf

theorem hasB_or_bit (x : BitVec 16) (n i : Nat) (hn : n < 16) : hasB (x ||| bitS n) i = (hasB x i || decide (i = n)) := by
  unfold hasB bitS
  rw [BitVec.getLsbD_or, BitVec.getLsbD_shiftLeft]
  by_cases h : i = n
  · subst h; simp [hn]
  · by_cases h2 : i < n
    · simp [h, h2]
    · have : (1#16).getLsbD (i - n) = false := by
        rw [BitVec.getLsbD_one]; simp; omega
      simp [this, h]

theorem ofS_ok2 : ∀ (l : List Int) (s0 s : BitVec 16), ofS s0 l = (s, 0) →
    (∀ i ∈ l, 0 ≤ i ∧ i < 12 ∧ hasB s0 i.toNat = false) ∧ l.Nodup ∧ ∀ j : Nat, hasB s j = (hasB s0 j || decide ((j : Int) ∈ l)) := by
  intro l
  induction l with
  | nil =>
    intro s0 s h
    obtain rfl : s0 = s := by simpa [ofS] using h
    exact ⟨fun i hi => (by cases hi), List.nodup_nil, fun j => (by simp)⟩
  | cons i l ih =>
    intro s0 s h
    rw [ofS] at h
    by_cases h0 : (addS s0 i).2 = 0
    · rw [if_pos h0] at h
      obtain ⟨i1, i2, i3⟩ := ih _ _ h
      unfold addS at h0 i1 i3
      by_cases hr : i < 0 ∨ 12 ≤ i
      · rw [if_pos hr] at h0; exact absurd h0 (by simp)
      · rw [if_neg hr] at h0 i1 i3
        by_cases hb : hasB s0 i.toNat = true
        · rw [if_pos hb] at h0; exact absurd h0 (by simp)
        · rw [if_neg hb] at i1 i3
          simp only at i1 i3
          have hn : i.toNat < 16 := by omega
          refine ⟨?_, ?_, ?_⟩
          · intro k hk
            rcases List.mem_cons.1 hk with rfl | hk
            · exact ⟨by omega, by omega, by simpa using hb⟩
            · obtain ⟨a, b, c⟩ := i1 k hk
              rw [hasB_or_bit _ _ _ hn, Bool.or_eq_false_iff] at c
              exact ⟨a, b, c.1⟩
          · refine List.nodup_cons.2 ⟨fun hm => ?_, i2⟩
            obtain ⟨_, _, c⟩ := i1 i hm
            rw [hasB_or_bit _ _ _ hn, Bool.or_eq_false_iff] at c
            simp at c
          · intro j
            rw [i3 j, hasB_or_bit _ _ _ hn, Bool.or_assoc]
            congr 1
            rw [Bool.eq_iff_iff]
            simp only [Bool.or_eq_true, decide_eq_true_eq, List.mem_cons]
            constructor
            · rintro (h | h)
              · left; omega
              · right; exact h
            · rintro (h | h)
              · left; omega
              · right; exact h
    · rw [if_neg h0] at h
      exact absurd (Prod.mk.inj h).2 h0

theorem of_sorted (l : List Int) (s : BitVec 16) (h : ofS 0#16 l = (s, 0)) : (memS s).map natI = srt l ∧ cnt s = l.length := by
  obtain ⟨h1, h2, h3⟩ := ofS_ok2 l _ _ h
  have hz : ∀ j, hasB 0#16 j = false := fun j => by simp [hasB]
  have hp : ((memS s).map natI).Perm l := by
    refine (List.perm_ext_iff_of_nodup ?_ h2).2 fun a => ?_
    · exact List.pairwise_map.2 (List.Pairwise.imp (fun h e => by unfold natI at e; omega) (memS_sorted s))
    · rw [List.mem_map]
      constructor
      · rintro ⟨i, hi, rfl⟩
        have := mem_memS.1 hi
        rw [h3 i, hz, Bool.false_or] at this
        exact of_decide_eq_true this
      · intro ha
        obtain ⟨a0, a1, _⟩ := h1 a ha
        refine ⟨a.toNat, mem_memS.2 ?_, by unfold natI; omega⟩
        rw [h3, hz, Bool.false_or, decide_eq_true_iff, show ((a.toNat : Nat) : Int) = a by omega]
        exact ha
  refine ⟨?_, by unfold cnt; rw [← hp.length_eq, List.length_map]⟩
  refine List.Perm.eq_of_pairwise (le := fun x y : Int => decide (x ≤ y) = true) (fun a b _ _ h1 h2 => by have := of_decide_eq_true h1; have := of_decide_eq_true h2; omega) ?_ (List.pairwise_mergeSort (fun a b c h1 h2 => by have := of_decide_eq_true h1; have := of_decide_eq_true h2; exact decide_eq_true (by omega)) (fun a b => by simp; omega) l) (hp.trans (List.mergeSort_perm l _).symm)
  rw [List.pairwise_map]
  exact List.Pairwise.imp (fun h => decide_eq_true (by unfold natI; omega)) (memS_sorted s)

set_option maxRecDepth 100000 in
set_option maxHeartbeats 4000000 in
theorem setOf_w (a : Option Addr) (len cap : Nat) (z : List Int) (w : World) (ht : HasTab w) (w0 : IsInts .i64 w a len cap z) :
    Calls Tryd.prog 12 #[.slice a len cap] w fun e w' => e = .returned (.bool true) ∧ Below w.heap.size w w' := by
  have HT := Lib.hid ht
  clear ht
  have HA := Lib.hid (fun w h => awake_c w h)
  have hz := w0.len
  have hrd := w0.rd
  by_cases hc : (30 : Int) < (len : Int)
  · have hd : decide ((30 : Int) < (len : Int)) = true := by simpa using hc
    clear hc hz hrd w0
    go_enter Tryd.func12, Tryd.ntmps12
    go_wp2_with fail
    refine (HA.out w HT.out).mono ?_
    rintro e w2 ⟨rfl, hb⟩
    go_wp2_with fail
    refine (HA.out w2 (HT.out.below hb)).mono ?_
    rintro e w3 ⟨rfl, hb4⟩
    go_wp2_with fail
    go_ret
    exact ⟨rfl, Below.next hb hb4⟩
  · have hd : decide ((30 : Int) < (len : Int)) = false := by simpa using hc
    have hl30 : len ≤ 1000000 := by omega
    have HL := Lib.hid hl30
    have HR := Lib.hid hrd
    have HZ := Lib.hid hz
    clear hc hz hrd w0 hl30
    obtain ⟨s, f, hsf⟩ : ∃ s f, Hid (ofS 0#16 z = (s, f)) := ⟨_, _, rfl⟩
    go_enter Tryd.func12, Tryd.ntmps12
    go_wp2_with fail
    refine (HA.out w HT.out).mono ?_
    rintro e w2 ⟨rfl, hb⟩
    have HC := Lib.hid (clonei_c z _ _ _ w2 (HR.out.below hb) HL.out)
    go_wp2_with fail
    refine HC.out.mono ?_
    rintro e w3 ⟨v, rfl, hown, hb2⟩
    obtain ⟨b, d, rfl, hr2⟩ := hown.rdn len (by rw [List.length_map]; exact HZ.out)
    have hb3 := Below.next hb hb2
    clear hb hb2 hown HC
    go_wp2_with fail
    refine (of_c z _ _ _ _ hr2).mono ?_
    rintro e w4 ⟨rfl, rfl⟩
    rw [hsf.out]
    clear hr2
    go_wp2_with fail
    refine (rof_c z _ _ _ _ (HR.out.below hb3)).mono ?_
    rintro e w4 ⟨rfl, rfl⟩
    rw [hsf.out]
    by_cases hf : f = 0
    · subst hf
      obtain ⟨q1, q2⟩ := of_sorted z s hsf.out
      have Q1 := Lib.hid q1
      have Q2 : Hid (cnt s = len) := by show _ = _; rw [q2, HZ.out]
      clear q1 q2
      go_wp2_with fail
      refine (values_c a len cap w3).mono ?_
      rintro e w4 ⟨rfl, hw4⟩
      have hb4 : Below w.heap.size w w4 := by rw [hw4]; exact hb3.alloc hb3.size _
      have hc4 : w4.cell? ⟨w3.heap.size, 0, none⟩ = some (.slice a len cap) := by rw [hw4]; exact cell_new _ _ _ 0 _ rfl
      have HS := Lib.hid (sorted_c z a len cap w3.heap.size w4 hc4 (HR.out.below hb4) HL.out)
      clear hw4 hc4 hb3
      go_wp2_with fail
      refine HS.out.mono ?_
      rintro e w5 ⟨v, rfl, hown, hb5⟩
      obtain ⟨b, d, rfl, hr5⟩ := hown.rdn len (by rw [List.length_map, ← Q1.out, List.length_map]; exact Q2.out)
      have hb6 := Below.next hb4 hb5
      clear hb4 hb5 hown HS
      have HM := Lib.hid (members_c s _ w5 rfl (HT.out.below hb6))
      go_wp2_with fail
      refine HM.out.mono ?_
      rintro e w6 ⟨v, rfl, hown, hb7⟩
      rw [map_natI, Q1.out] at hown
      obtain ⟨b2, d2, rfl, hr6⟩ := hown.rdn len (by rw [List.length_map, ← Q1.out, List.length_map]; exact Q2.out)
      have hr7 := hr5.below hb7
      have hb8 := Below.next hb6 hb7
      clear hb6 hb7 hown HM hr5
      go_wp2_with fail
      refine (equali_c (srt z) (srt z) _ _ _ _ _ _ _ hr6 hr7).mono ?_
      rintro e w7 ⟨rfl, hb9⟩
      rw [show decide (srt z = srt z) = true by simp]
      have hb10 := Below.next hb8 hb9
      clear hb8 hb9 hr6 hr7
      go_wp2_with fail
      refine (count_c s _ _ rfl).mono ?_
      rintro e w8 ⟨rfl, q, rfl⟩
      have hb11 := below_drewN (q := q) hb10
      clear hb10
      rw [Q2.out]
      go_wp2_with fail
      go_ret
      exact ⟨ret_bool (by simp), hb11⟩
    · have h0 : ¬ f = 0 := hf
      clear hf
      go_wp2_with fail
      go_ret
      exact ⟨rfl, hb3⟩
end Go.Proofs.YthkboibhkpkliaaDoor
