/- The reference's Given. -/
import Derived.Test.YtgfjmplifmbmlaaDoorR8v
import Derived.Test.YtgfjmplifmbmlaaDoorChk
import Derived.IntWalk
namespace Go.Proofs.YtgfjmplifmbmlaaDoor
open Go.RowKit Go.Shelf

theorem shr_or (a b : BitVec 16) (m : Nat) : shrS (a ||| b) m = shrS a m ||| shrS b m := by
  apply BitVec.eq_of_getLsbD_eq
  intro i _
  simp [shrS]
theorem or_zero (a b : BitVec 16) : (a ||| b != 0#16) = ((a != 0#16) || (b != 0#16)) := by
  rw [Bool.eq_iff_iff, Bool.or_eq_true, bne_iff_ne, bne_iff_ne, bne_iff_ne]
  constructor
  · intro h
    by_cases ha : a = 0#16
    · right; intro hb; apply h; rw [ha, hb]; rfl
    · left; exact ha
  · intro h hc
    have h1 : ∀ i, i < 16 → a.getLsbD i = false ∧ b.getLsbD i = false := by
      intro i hi
      have := congrArg (fun x => x.getLsbD i) hc
      simpa using this
    rcases h with h | h
    · exact h (BitVec.eq_of_getLsbD_eq (fun i hi => by rw [(h1 i hi).1]; simp))
    · exact h (BitVec.eq_of_getLsbD_eq (fun i hi => by rw [(h1 i hi).2]; simp))
theorem shr_big (a : BitVec 16) (m : Nat) : (shrS a m != 0#16) = decide (2 ^ m ≤ a.toNat) := by
  rw [Bool.eq_iff_iff, bne_iff_ne, decide_eq_true_iff]
  have e : (shrS a m).toNat = a.toNat / 2 ^ m := by unfold shrS; rw [BitVec.toNat_ushiftRight, Nat.shiftRight_eq_div_pow]
  have hp : 0 < 2 ^ m := Nat.two_pow_pos m
  constructor
  · intro h
    apply Classical.byContradiction
    intro hc
    apply h
    apply BitVec.eq_of_toNat_eq
    rw [e, Nat.div_eq_of_lt (by omega)]; rfl
  · intro h hc
    rw [hc] at e
    have := Nat.div_pos h hp
    have e0 : (0#16).toNat = 0 := rfl
    omega
theorem off_or (f g : List (BitVec 16)) (m : Nat) : (offB m f || offB m g) = decide (2 ^ m ≤ (supS f ||| supS g).toNat) := by
  unfold offB
  rw [← or_zero, ← shr_or, shr_big]
theorem valS_sorted {f : List (BitVec 16)} (h : valS f = 0) : ∀ j, j < f.length → e1 f j = 0 := by
  unfold valS at h
  split at h
  · cases h
  · split at h
    · rename_i h1 h2; exact absurd h h2
    · rename_i h1 h2
      exact firstE_zero _ _ (by simpa using h2)
theorem hasZ_first {f : List (BitVec 16)} (h : valS f = 0) : hasZ f = (decide (0 < f.length) && (f.getD 0 0#16 == 0#16)) := by
  rw [Bool.eq_iff_iff, Bool.and_eq_true, decide_eq_true_iff, beq_iff_eq]
  constructor
  · intro hz
    unfold hasZ at hz
    obtain ⟨x, hx, hp⟩ := List.any_eq_true.1 hz
    obtain ⟨i, hi, rfl⟩ := List.mem_iff_getElem.1 hx
    have h0 : f[i] = 0#16 := (eq_of_beq hp).symm
    refine ⟨by omega, ?_⟩
    by_cases hi0 : i = 0
    · subst hi0; rw [getD_at hi]; exact h0
    · have := sorted_mono (valS_sorted h) 0 i (by omega) hi
      rw [getD_at hi, h0] at this
      have e : keyS 0#16 = 0 := by decide
      omega
  · rintro ⟨h1, h2⟩
    unfold hasZ
    exact List.any_eq_true.2 ⟨f.getD 0 0#16, by rw [getD_at h1]; exact List.getElem_mem h1, by rw [h2]; rfl⟩

theorem chk2 (m : Nat) (h1 : 1 ≤ m) (h2 : m ≤ 12) (f g : List (BitVec 16)) : chkS m [f, g] = if valS f ≠ 0 then valS f else if valS g ≠ 0 then valS g else if offB m f || offB m g then 7 else if hasZ f || hasZ g then 9 else 0 := by
  unfold chkS
  rw [if_neg (by omega)]
  have e : firstE (fun j => valS ([f, g].getD j [])) [f, g].length = if valS f ≠ 0 then valS f else valS g := by
    by_cases hf : valS f = 0
    · rw [if_neg (by simpa using hf)]
      by_cases hg : valS g = 0
      · rw [hg]; exact firstE_none _ _ (fun j hj => by
          match j, hj with
          | 0, _ => exact hf
          | 1, _ => exact hg)
      · exact firstE_hit (fun j => valS ([f, g].getD j [])) 2 1 (by decide) (fun j hj => by
          match j, hj with
          | 0, _ => exact hf) hg
    · rw [if_pos hf]
      exact firstE_hit (fun j => valS ([f, g].getD j [])) 2 0 (by decide) (fun j hj => by omega) hf
  rw [e]
  have hm : ((m : Nat) : Int).toNat = m := by omega
  by_cases hf : valS f = 0
  · by_cases hg : valS g = 0
    · simp [hf, hg, hm]
    · simp [hf, hg]
  · simp [hf]

set_option maxRecDepth 100000 in
set_option maxHeartbeats 2000000 in
theorem given_c (f g : List (BitVec 16)) (nn : Int) (a : Option Addr) (n c : Nat) (a2 : Option Addr) (n2 c2 : Nat) (w : World) (h : Rd w a n c (f.map setV2)) (h2 : Rd w a2 n2 c2 (g.map setV2)) :
    Calls Tryd.prog 22 #[.slice a n c, .slice a2 n2 c2, .int .i64 nn] w fun e w' => e = .returned (.int .i64 (chkS nn [f, g])) ∧ Below w.heap.size w w' := by
  have hnl : f.length = n := by have := h.len; simp at this; omega
  have hnl2 : g.length = n2 := by have := h2.len; simp at this; omega
  have hm1 := h.max
  have hle := h.le
  have hm2 := h2.max
  have hle2 := h2.le
  unfold maxLen at hm1 hm2
  have HR := Lib.hid h
  have HR2 := Lib.hid h2
  have HN := Lib.hid hnl
  have HN2 := Lib.hid hnl2
  clear h h2 hnl hnl2
  by_cases h1 : nn < 1
  · have hV : Hid (chkS nn [f, g] = 7) := by show _ = _; unfold chkS; rw [if_pos (.inl h1)]
    go_enter Tryd.func22, Tryd.ntmps22
    go_wp2_with fail
    go_ret
    exact ⟨by rw [hV.out]; rfl, Below.refl _ _⟩
  · by_cases h12 : 12 < nn
    · have hV : Hid (chkS nn [f, g] = 7) := by show _ = _; unfold chkS; rw [if_pos (.inr h12)]
      go_enter Tryd.func22, Tryd.ntmps22
      go_wp2_with fail
      go_ret
      exact ⟨by rw [hV.out]; rfl, Below.refl _ _⟩
    · obtain ⟨m, rfl⟩ := Int.eq_ofNat_of_zero_le (by omega : 0 ≤ nn)
      have HC := Lib.hid (chk2 m (by omega) (by omega) f g)
      have HV := Lib.hid (fun w h => valid8_c f a n c w h)
      have HV2 := Lib.hid (fun w h => valid8_c g a2 n2 c2 w h)
      by_cases hf : valS f = 0
      · rw [hf] at HV
        by_cases hg : valS g = 0
        · rw [hg] at HV2
          have hz1 := hasZ_first hf
          have hz2 := hasZ_first hg
          have hoff := off_or f g m
          have hC : Hid (chkS m [f, g] = if offB m f || offB m g then 7 else if hasZ f || hasZ g then 9 else 0) := by
            show _ = _; rw [HC.out, hf, hg]; rfl
          have hb2 : ((supS f ||| supS g).toNat : Int) < 65536 := by have := (supS f ||| supS g).isLt; omega
          have q1 : IntKind.i64.wrap (U (supS f ||| supS g)) = U (supS f ||| supS g) := by have := U_bd (supS f ||| supS g); exact IntWalk.i64_in _ (by omega)
          have HZ1 := Lib.hid hz1
          have HZ2 := Lib.hid hz2
          have HOFF := Lib.hid hoff
          have HS1 := Lib.hid (fun w h => support8_c f a n c w h)
          have HS2 := Lib.hid (fun w h => support8_c g a2 n2 c2 w h)
          clear hf hg HC hz1 hz2 hoff
          go_enter Tryd.func22, Tryd.ntmps22
          go_wp2_with fail
          refine (HV.out w HR.out).mono ?_
          rintro e w1 ⟨rfl, b1⟩
          go_wp2_with fail
          refine (HV2.out w1 (HR2.out.below b1)).mono ?_
          rintro e w2 ⟨rfl, b2⟩
          have b3 := Below.next b1 b2
          have G1 := Lib.hid (fun q => HS1.out (w2.drewN q) (HR.out.below (below_drewN b3)))
          have G2 := Lib.hid (fun q => HS2.out (w2.drewN q) (HR2.out.below (below_drewN b3)))
          clear b1 b2
          go_wp2_with fail
          go_quiet ((go_at_call 40; first | (with_reducible exact Calls.quiet_of_same (G1.out _)) | (with_reducible exact Calls.quiet_of_same (G2.out _))))
          have hp : decide (wrap64 (2 ^ m) ≤ U (supS f ||| supS g)) = (offB m f || offB m g) := by
            have hw : ∀ k : Fin 13, wrap64 (2 ^ k.val) = ((2 ^ k.val : Nat) : Int) := by decide +kernel
            have := hw ⟨m, by omega⟩
            simp only at this
            rw [this, HOFF.out]
            unfold U
            rw [Bool.eq_iff_iff, decide_eq_true_iff, decide_eq_true_iff]; omega
          rw [hp]
          have b4 := below_drewN (q := nq) b3
          clear hp G1 G2 HS1 HS2 b3 q1 hb2
          cases ho : (offB m f || offB m g)
          · have hC2 : Hid (chkS m [f, g] = if hasZ f || hasZ g then 9 else 0) := by show _ = _; rw [hC.out, ho]; rfl
            have hD : Hid ((hasZ f || hasZ g) = ((decide (0 < n) && f.getD 0 0#16 == 0#16) || (decide (0 < n2) && g.getD 0 0#16 == 0#16))) := by
              show _ = _; rw [HZ1.out, HZ2.out, HN.out, HN2.out]
            clear ho hC HZ1 HZ2 HOFF
            by_cases hn0 : 0 < n
            · obtain ⟨b, o, ha, hcell⟩ := (HR.out.below b4).at' hn0
              have hc : (w2.drewN nq).cell? ⟨b, o, none⟩ = some (.int .u16 (U (f.getD 0 0#16))) := hcell 0 _ (at_cell (by have := HN.out; omega))
              obtain ⟨x, hx⟩ : ∃ x, f.getD 0 0#16 = x := ⟨_, rfl⟩
              rw [hx] at hc hD
              subst ha
              clear hcell hx
              cases hx0 : (x == 0#16)
              · by_cases hn2 : 0 < n2
                · obtain ⟨b2, o2, ha2, hcell2⟩ := (HR2.out.below b4).at' hn2
                  have hc2 : (w2.drewN nq).cell? ⟨b2, o2, none⟩ = some (.int .u16 (U (g.getD 0 0#16))) := hcell2 0 _ (at_cell (by have := HN2.out; omega))
                  obtain ⟨y, hy⟩ : ∃ y, g.getD 0 0#16 = y := ⟨_, rfl⟩
                  rw [hy] at hc2 hD
                  subst ha2
                  clear hcell2 hy
                  cases hy0 : (y == 0#16)
                  · have hE : Hid (chkS m [f, g] = 0) := by show _ = _; rw [hC2.out, hD.out, hx0, hy0]; simp
                    clear hD hC2
                    go_wp2_with fail
                    go_ret
                    exact ⟨by rw [hE.out]; rfl, b4⟩
                  · have hE : Hid (chkS m [f, g] = 9) := by show _ = _; rw [hC2.out, hD.out, hx0, hy0]; simp [hn2]
                    clear hD hC2
                    go_wp2_with fail
                    go_ret
                    exact ⟨by rw [hE.out]; rfl, b4⟩
                · have hE : Hid (chkS m [f, g] = 0) := by show _ = _; rw [hC2.out, hD.out, hx0]; simp [hn2]
                  clear hD hC2
                  go_wp2_with fail
                  go_ret
                  exact ⟨by rw [hE.out]; rfl, b4⟩
              · have hE : Hid (chkS m [f, g] = 9) := by show _ = _; rw [hC2.out, hD.out, hx0]; simp [hn0]
                clear hD hC2
                go_wp2_with fail
                go_ret
                exact ⟨by rw [hE.out]; rfl, b4⟩
            · by_cases hn2 : 0 < n2
              · obtain ⟨b2, o2, ha2, hcell2⟩ := (HR2.out.below b4).at' hn2
                have hc2 : (w2.drewN nq).cell? ⟨b2, o2, none⟩ = some (.int .u16 (U (g.getD 0 0#16))) := hcell2 0 _ (at_cell (by have := HN2.out; omega))
                obtain ⟨y, hy⟩ : ∃ y, g.getD 0 0#16 = y := ⟨_, rfl⟩
                rw [hy] at hc2 hD
                subst ha2
                clear hcell2 hy
                cases hy0 : (y == 0#16)
                · have hE : Hid (chkS m [f, g] = 0) := by show _ = _; rw [hC2.out, hD.out, hy0]; simp [hn0]
                  clear hD hC2
                  go_wp2_with fail
                  go_ret
                  exact ⟨by rw [hE.out]; rfl, b4⟩
                · have hE : Hid (chkS m [f, g] = 9) := by show _ = _; rw [hC2.out, hD.out, hy0]; simp [hn0, hn2]
                  clear hD hC2
                  go_wp2_with fail
                  go_ret
                  exact ⟨by rw [hE.out]; rfl, b4⟩
              · have hE : Hid (chkS m [f, g] = 0) := by show _ = _; rw [hC2.out, hD.out]; simp [hn0, hn2]
                clear hD hC2
                go_wp2_with fail
                go_ret
                exact ⟨by rw [hE.out]; rfl, b4⟩
          · have hE : Hid (chkS m [f, g] = 7) := by show _ = _; rw [hC.out, ho]; rfl
            clear ho hC HZ1 HZ2 HOFF
            go_wp2_with fail
            go_ret
            exact ⟨by rw [hE.out]; rfl, b4⟩
        · have hE : Hid (chkS m [f, g] = valS g) := by show _ = _; rw [HC.out, hf]; simp [hg]
          obtain ⟨v, hv⟩ : ∃ v, valS g = v := ⟨_, rfl⟩
          rw [hv] at HV2 hE hg
          have hv1 : (v != 0) = true := by simpa using hg
          clear hv hg hf HC
          go_enter Tryd.func22, Tryd.ntmps22
          go_wp2_with fail
          refine (HV.out w HR.out).mono ?_
          rintro e w1 ⟨rfl, b1⟩
          go_wp2_with fail
          refine (HV2.out w1 (HR2.out.below b1)).mono ?_
          rintro e w2 ⟨rfl, b2⟩
          go_wp2_with fail
          go_ret
          exact ⟨by rw [hE.out]; rfl, Below.next b1 b2⟩
      · have hE : Hid (chkS m [f, g] = valS f) := by show _ = _; rw [HC.out]; simp [hf]
        obtain ⟨v, hv⟩ : ∃ v, valS f = v := ⟨_, rfl⟩
        rw [hv] at HV hE hf
        have hv1 : (v != 0) = true := by simpa using hf
        clear hv hf HC
        go_enter Tryd.func22, Tryd.ntmps22
        go_wp2_with fail
        refine (HV.out w HR.out).mono ?_
        rintro e w1 ⟨rfl, b1⟩
        go_wp2_with fail
        go_ret
        exact ⟨by rw [hE.out]; rfl, b1⟩
end Go.Proofs.YtgfjmplifmbmlaaDoor
