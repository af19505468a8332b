/- Texts laid together. The reference's Given. single.Pick. The reference's Pick. The reference's Same of events. The examples of layer 37. A handed slice of structs, as a law's frame opens it. A handed slice of integers, as a law's frame opens it. Laws of layer 37: Pick. single.begin; Run and Check where nothing happens; the law on errors. Layer 37: run.add on a run that stands for a list of events. -/
import Derived.Test.YtgfjmplifmbmlaaDoorGSingleAttack1
import Derived.Test.YtgfjmplifmbmlaaDoorGSingleAttack2
import Derived.Test.YtgfjmplifmbmlaaDoorGSingleAttack3
import Derived.Test.YtgfjmplifmbmlaaDoorGSingleAttack4
import Derived.Test.YtgfjmplifmbmlaaDoorGSingleAttack5
import Derived.Test.YtgfjmplifmbmlaaDoorProg
import Derived.IntWalk
import Derived.Laws.StructEq
import Derived.Deep.Slices
import Derived.Deep.Fields
import Derived.ChangeSame
import Derived.Laws.MakeOwn
namespace Go.Proofs.YtgfjmplifmbmlaaDoor
open Go.RowKit Go.Shelf

theorem shr_or (a b : BitVec 16) (m : Nat) : shrS (a ||| b) m = shrS a m ||| shrS b m := by
  apply BitVec.eq_of_getLsbD_eq
  intro i _
  simp [shrS]
theorem or_zero (a b : BitVec 16) : (a ||| b != 0#16) = ((a != 0#16) || (b != 0#16)) := by
  rw [Bool.eq_iff_iff, Bool.or_eq_true, bne_iff_ne, bne_iff_ne, bne_iff_ne]
  constructor
  · intro h
    by_cases ha : a = 0#16
    · right; intro hb; apply h; rw [ha, hb]; rfl
    · left; exact ha
  · intro h hc
    have h1 : ∀ i, i < 16 → a.getLsbD i = false ∧ b.getLsbD i = false := by
      intro i hi
      have := congrArg (fun x => x.getLsbD i) hc
      simpa using this
    rcases h with h | h
    · exact h (BitVec.eq_of_getLsbD_eq (fun i hi => by rw [(h1 i hi).1]; simp))
    · exact h (BitVec.eq_of_getLsbD_eq (fun i hi => by rw [(h1 i hi).2]; simp))
theorem shr_big (a : BitVec 16) (m : Nat) : (shrS a m != 0#16) = decide (2 ^ m ≤ a.toNat) := by
  rw [Bool.eq_iff_iff, bne_iff_ne, decide_eq_true_iff]
  have e : (shrS a m).toNat = a.toNat / 2 ^ m := by unfold shrS; rw [BitVec.toNat_ushiftRight, Nat.shiftRight_eq_div_pow]
  have hp : 0 < 2 ^ m := Nat.two_pow_pos m
  constructor
  · intro h
    apply Classical.byContradiction
    intro hc
    apply h
    apply BitVec.eq_of_toNat_eq
    rw [e, Nat.div_eq_of_lt (by omega)]; rfl
  · intro h hc
    rw [hc] at e
    have := Nat.div_pos h hp
    have e0 : (0#16).toNat = 0 := rfl
    omega
theorem off_or (f g : List (BitVec 16)) (m : Nat) : (offB m f || offB m g) = decide (2 ^ m ≤ (supS f ||| supS g).toNat) := by
  unfold offB
  rw [← or_zero, ← shr_or, shr_big]
theorem valS_sorted {f : List (BitVec 16)} (h : valS f = 0) : ∀ j, j < f.length → e1 f j = 0 := by
  unfold valS at h
  split at h
  · cases h
  · split at h
    · rename_i h1 h2; exact absurd h h2
    · rename_i h1 h2
      exact firstE_zero _ _ (by simpa using h2)
theorem hasZ_first {f : List (BitVec 16)} (h : valS f = 0) : hasZ f = (decide (0 < f.length) && (f.getD 0 0#16 == 0#16)) := by
  rw [Bool.eq_iff_iff, Bool.and_eq_true, decide_eq_true_iff, beq_iff_eq]
  constructor
  · intro hz
    unfold hasZ at hz
    obtain ⟨x, hx, hp⟩ := List.any_eq_true.1 hz
    obtain ⟨i, hi, rfl⟩ := List.mem_iff_getElem.1 hx
    have h0 : f[i] = 0#16 := (eq_of_beq hp).symm
    refine ⟨by omega, ?_⟩
    by_cases hi0 : i = 0
    · subst hi0; rw [getD_at hi]; exact h0
    · have := sorted_mono (valS_sorted h) 0 i (by omega) hi
      rw [getD_at hi, h0] at this
      have e : keyS 0#16 = 0 := by decide
      omega
  · rintro ⟨h1, h2⟩
    unfold hasZ
    exact List.any_eq_true.2 ⟨f.getD 0 0#16, by rw [getD_at h1]; exact List.getElem_mem h1, by rw [h2]; rfl⟩

theorem chk2 (m : Nat) (h1 : 1 ≤ m) (h2 : m ≤ 12) (f g : List (BitVec 16)) : chkS m [f, g] = if valS f ≠ 0 then valS f else if valS g ≠ 0 then valS g else if offB m f || offB m g then 7 else if hasZ f || hasZ g then 9 else 0 := by
  unfold chkS
  rw [if_neg (by omega)]
  have e : firstE (fun j => valS ([f, g].getD j [])) [f, g].length = if valS f ≠ 0 then valS f else valS g := by
    by_cases hf : valS f = 0
    · rw [if_neg (by simpa using hf)]
      by_cases hg : valS g = 0
      · rw [hg]; exact firstE_none _ _ (fun j hj => by
          match j, hj with
          | 0, _ => exact hf
          | 1, _ => exact hg)
      · exact firstE_hit (fun j => valS ([f, g].getD j [])) 2 1 (by decide) (fun j hj => by
          match j, hj with
          | 0, _ => exact hf) hg
    · rw [if_pos hf]
      exact firstE_hit (fun j => valS ([f, g].getD j [])) 2 0 (by decide) (fun j hj => by omega) hf
  rw [e]
  have hm : ((m : Nat) : Int).toNat = m := by omega
  by_cases hf : valS f = 0
  · by_cases hg : valS g = 0
    · simp [hf, hg, hm]
    · simp [hf, hg]
  · simp [hf]

set_option maxRecDepth 100000 in
set_option maxHeartbeats 2000000 in
theorem given_c (f g : List (BitVec 16)) (nn : Int) (a : Option Addr) (n c : Nat) (a2 : Option Addr) (n2 c2 : Nat) (w : World) (h : Rd w a n c (f.map setV2)) (h2 : Rd w a2 n2 c2 (g.map setV2)) :
    Calls Tryd.prog 22 #[.slice a n c, .slice a2 n2 c2, .int .i64 nn] w fun e w' => e = .returned (.int .i64 (chkS nn [f, g])) ∧ Below w.heap.size w w' := by
  have hnl : f.length = n := by have := h.len; simp at this; omega
  have hnl2 : g.length = n2 := by have := h2.len; simp at this; omega
  have hm1 := h.max
  have hle := h.le
  have hm2 := h2.max
  have hle2 := h2.le
  unfold maxLen at hm1 hm2
  have HR := Lib.hid h
  have HR2 := Lib.hid h2
  have HN := Lib.hid hnl
  have HN2 := Lib.hid hnl2
  clear h h2 hnl hnl2
  by_cases h1 : nn < 1
  · have hV : Hid (chkS nn [f, g] = 7) := by show _ = _; unfold chkS; rw [if_pos (.inl h1)]
    go_enter Tryd.func22, Tryd.ntmps22
    go_wp2_with fail
    go_ret
    exact ⟨by rw [hV.out]; rfl, Below.refl _ _⟩
  · by_cases h12 : 12 < nn
    · have hV : Hid (chkS nn [f, g] = 7) := by show _ = _; unfold chkS; rw [if_pos (.inr h12)]
      go_enter Tryd.func22, Tryd.ntmps22
      go_wp2_with fail
      go_ret
      exact ⟨by rw [hV.out]; rfl, Below.refl _ _⟩
    · obtain ⟨m, rfl⟩ := Int.eq_ofNat_of_zero_le (by omega : 0 ≤ nn)
      have HC := Lib.hid (chk2 m (by omega) (by omega) f g)
      have HV := Lib.hid (fun w h => valid8_c f a n c w h)
      have HV2 := Lib.hid (fun w h => valid8_c g a2 n2 c2 w h)
      by_cases hf : valS f = 0
      · rw [hf] at HV
        by_cases hg : valS g = 0
        · rw [hg] at HV2
          have hz1 := hasZ_first hf
          have hz2 := hasZ_first hg
          have hoff := off_or f g m
          have hC : Hid (chkS m [f, g] = if offB m f || offB m g then 7 else if hasZ f || hasZ g then 9 else 0) := by
            show _ = _; rw [HC.out, hf, hg]; rfl
          have hb2 : ((supS f ||| supS g).toNat : Int) < 65536 := by have := (supS f ||| supS g).isLt; omega
          have q1 : IntKind.i64.wrap (U (supS f ||| supS g)) = U (supS f ||| supS g) := by have := U_bd (supS f ||| supS g); exact IntWalk.i64_in _ (by omega)
          have HZ1 := Lib.hid hz1
          have HZ2 := Lib.hid hz2
          have HOFF := Lib.hid hoff
          have HS1 := Lib.hid (fun w h => support8_c f a n c w h)
          have HS2 := Lib.hid (fun w h => support8_c g a2 n2 c2 w h)
          clear hf hg HC hz1 hz2 hoff
          go_enter Tryd.func22, Tryd.ntmps22
          go_wp2_with fail
          refine (HV.out w HR.out).mono ?_
          rintro e w1 ⟨rfl, b1⟩
          go_wp2_with fail
          refine (HV2.out w1 (HR2.out.below b1)).mono ?_
          rintro e w2 ⟨rfl, b2⟩
          have b3 := Below.next b1 b2
          have G1 := Lib.hid (fun q => HS1.out (w2.drewN q) (HR.out.below (below_drewN b3)))
          have G2 := Lib.hid (fun q => HS2.out (w2.drewN q) (HR2.out.below (below_drewN b3)))
          clear b1 b2
          go_wp2_with fail
          go_quiet ((go_at_call 40; first | (with_reducible exact Calls.quiet_of_same (G1.out _)) | (with_reducible exact Calls.quiet_of_same (G2.out _))))
          have hp : decide (wrap64 (2 ^ m) ≤ U (supS f ||| supS g)) = (offB m f || offB m g) := by
            have hw : ∀ k : Fin 13, wrap64 (2 ^ k.val) = ((2 ^ k.val : Nat) : Int) := by decide +kernel
            have := hw ⟨m, by omega⟩
            simp only at this
            rw [this, HOFF.out]
            unfold U
            rw [Bool.eq_iff_iff, decide_eq_true_iff, decide_eq_true_iff]; omega
          rw [hp]
          have b4 := below_drewN (q := nq) b3
          clear hp G1 G2 HS1 HS2 b3 q1 hb2
          cases ho : (offB m f || offB m g)
          · have hC2 : Hid (chkS m [f, g] = if hasZ f || hasZ g then 9 else 0) := by show _ = _; rw [hC.out, ho]; rfl
            have hD : Hid ((hasZ f || hasZ g) = ((decide (0 < n) && f.getD 0 0#16 == 0#16) || (decide (0 < n2) && g.getD 0 0#16 == 0#16))) := by
              show _ = _; rw [HZ1.out, HZ2.out, HN.out, HN2.out]
            clear ho hC HZ1 HZ2 HOFF
            by_cases hn0 : 0 < n
            · obtain ⟨b, o, ha, hcell⟩ := (HR.out.below b4).at' hn0
              have hc : (w2.drewN nq).cell? ⟨b, o, none⟩ = some (.int .u16 (U (f.getD 0 0#16))) := hcell 0 _ (at_cell (by have := HN.out; omega))
              obtain ⟨x, hx⟩ : ∃ x, f.getD 0 0#16 = x := ⟨_, rfl⟩
              rw [hx] at hc hD
              subst ha
              clear hcell hx
              cases hx0 : (x == 0#16)
              · by_cases hn2 : 0 < n2
                · obtain ⟨b2, o2, ha2, hcell2⟩ := (HR2.out.below b4).at' hn2
                  have hc2 : (w2.drewN nq).cell? ⟨b2, o2, none⟩ = some (.int .u16 (U (g.getD 0 0#16))) := hcell2 0 _ (at_cell (by have := HN2.out; omega))
                  obtain ⟨y, hy⟩ : ∃ y, g.getD 0 0#16 = y := ⟨_, rfl⟩
                  rw [hy] at hc2 hD
                  subst ha2
                  clear hcell2 hy
                  cases hy0 : (y == 0#16)
                  · have hE : Hid (chkS m [f, g] = 0) := by show _ = _; rw [hC2.out, hD.out, hx0, hy0]; simp
                    clear hD hC2
                    go_wp2_with fail
                    go_ret
                    exact ⟨by rw [hE.out]; rfl, b4⟩
                  · have hE : Hid (chkS m [f, g] = 9) := by show _ = _; rw [hC2.out, hD.out, hx0, hy0]; simp [hn2]
                    clear hD hC2
                    go_wp2_with fail
                    go_ret
                    exact ⟨by rw [hE.out]; rfl, b4⟩
                · have hE : Hid (chkS m [f, g] = 0) := by show _ = _; rw [hC2.out, hD.out, hx0]; simp [hn2]
                  clear hD hC2
                  go_wp2_with fail
                  go_ret
                  exact ⟨by rw [hE.out]; rfl, b4⟩
              · have hE : Hid (chkS m [f, g] = 9) := by show _ = _; rw [hC2.out, hD.out, hx0]; simp [hn0]
                clear hD hC2
                go_wp2_with fail
                go_ret
                exact ⟨by rw [hE.out]; rfl, b4⟩
            · by_cases hn2 : 0 < n2
              · obtain ⟨b2, o2, ha2, hcell2⟩ := (HR2.out.below b4).at' hn2
                have hc2 : (w2.drewN nq).cell? ⟨b2, o2, none⟩ = some (.int .u16 (U (g.getD 0 0#16))) := hcell2 0 _ (at_cell (by have := HN2.out; omega))
                obtain ⟨y, hy⟩ : ∃ y, g.getD 0 0#16 = y := ⟨_, rfl⟩
                rw [hy] at hc2 hD
                subst ha2
                clear hcell2 hy
                cases hy0 : (y == 0#16)
                · have hE : Hid (chkS m [f, g] = 0) := by show _ = _; rw [hC2.out, hD.out, hy0]; simp [hn0]
                  clear hD hC2
                  go_wp2_with fail
                  go_ret
                  exact ⟨by rw [hE.out]; rfl, b4⟩
                · have hE : Hid (chkS m [f, g] = 9) := by show _ = _; rw [hC2.out, hD.out, hy0]; simp [hn0, hn2]
                  clear hD hC2
                  go_wp2_with fail
                  go_ret
                  exact ⟨by rw [hE.out]; rfl, b4⟩
              · have hE : Hid (chkS m [f, g] = 0) := by show _ = _; rw [hC2.out, hD.out]; simp [hn0, hn2]
                clear hD hC2
                go_wp2_with fail
                go_ret
                exact ⟨by rw [hE.out]; rfl, b4⟩
          · have hE : Hid (chkS m [f, g] = 7) := by show _ = _; rw [hC.out, ho]; rfl
            clear ho hC HZ1 HZ2 HOFF
            go_wp2_with fail
            go_ret
            exact ⟨by rw [hE.out]; rfl, b4⟩
        · have hE : Hid (chkS m [f, g] = valS g) := by show _ = _; rw [HC.out, hf]; simp [hg]
          obtain ⟨v, hv⟩ : ∃ v, valS g = v := ⟨_, rfl⟩
          rw [hv] at HV2 hE hg
          have hv1 : (v != 0) = true := by simpa using hg
          clear hv hg hf HC
          go_enter Tryd.func22, Tryd.ntmps22
          go_wp2_with fail
          refine (HV.out w HR.out).mono ?_
          rintro e w1 ⟨rfl, b1⟩
          go_wp2_with fail
          refine (HV2.out w1 (HR2.out.below b1)).mono ?_
          rintro e w2 ⟨rfl, b2⟩
          go_wp2_with fail
          go_ret
          exact ⟨by rw [hE.out]; rfl, Below.next b1 b2⟩
      · have hE : Hid (chkS m [f, g] = valS f) := by show _ = _; rw [HC.out]; simp [hf]
        obtain ⟨v, hv⟩ : ∃ v, valS f = v := ⟨_, rfl⟩
        rw [hv] at HV hE hf
        have hv1 : (v != 0) = true := by simpa using hf
        clear hv hf HC
        go_enter Tryd.func22, Tryd.ntmps22
        go_wp2_with fail
        refine (HV.out w HR.out).mono ?_
        rintro e w1 ⟨rfl, b1⟩
        go_wp2_with fail
        go_ret
        exact ⟨by rw [hE.out]; rfl, b1⟩
end Go.Proofs.YtgfjmplifmbmlaaDoor
namespace Go.Proofs.YtgfjmplifmbmlaaDoor
open Go.RowKit Go.Shelf

def noB : ByteArray := ⟨#[]⟩
theorem pickS_inv {read : List (BitVec 16)} {b : Int} {l : List Rep} (hb : 1 ≤ b) (h : invR b 0#16 l = true) : pickS read b l = (⟨#[]⟩, 1) := by
  unfold pickS; rw [if_neg (by omega), if_pos h]
theorem pickS_state {read : List (BitVec 16)} {b : Int} {l : List Rep} (hb : 1 ≤ b) (h : invR b 0#16 l = false) (ha : accS read (seenR l) = false) : pickS read b l = (⟨#[]⟩, 10) := by
  unfold pickS; rw [if_neg (by omega), if_neg (by rw [h]; decide), if_pos ha]
theorem pickS_none {read : List (BitVec 16)} {b : Int} {l : List Rep} (hb : 1 ≤ b) (h : invR b 0#16 l = false) (ha : accS read (seenR l) = true) (h0 : (bestR l).1 = 0) : pickS read b l = (⟨#[]⟩, 4) := by
  unfold pickS; rw [if_neg (by omega), if_neg (by rw [h]; decide), if_neg (by rw [ha]; decide), if_pos h0]
theorem pickS_some {read : List (BitVec 16)} {b : Int} {l : List Rep} (hb : 1 ≤ b) (h : invR b 0#16 l = false) (ha : accS read (seenR l) = true) (h0 : (bestR l).1 ≠ 0) : pickS read b l = ((bestR l).2, 0) := by
  unfold pickS; rw [if_neg (by omega), if_neg (by rw [h]; decide), if_neg (by rw [ha]; decide), if_neg h0]

set_option maxRecDepth 100000 in
set_option maxHeartbeats 4000000 in
theorem Pick_c (read : List (BitVec 16)) (bal : Int) (l : List Rep) (a : Option Addr) (n c : Nat) (a2 : Option Addr) (n2 c2 : Nat) (w : World) (h : Rd w a n c (read.map setV2)) (h2 : RdK 3 w a2 n2 c2 (l.flatMap repC)) :
    Calls Tryd.prog 11 #[.slice a n c, .int .i64 bal, .slice a2 n2 c2] w fun e w' => e = .returned (.tuple #[.string (pickS read bal l).1, .int .i64 (pickS read bal l).2]) ∧ Below w.heap.size w w' := by
  have hnl : l.length = n2 := by have := h2.len; rw [flat_len 3 repC repC_len] at this; omega
  have hm := h2.max
  have hle := h2.le
  unfold maxLen at hm
  have HR := Lib.hid h
  have HR2 := Lib.hid h2
  have HN := Lib.hid hnl
  clear h h2 hnl
  by_cases hb1 : bal < 1
  · have hP : Hid (pickS read bal l = (⟨#[]⟩, 1)) := by show _ = _; unfold pickS; rw [if_pos hb1]
    go_enter Tryd.func11, Tryd.ntmps11
    go_wp2_with fail
    go_ret2
    exact ⟨by rw [hP.out]; rfl, Below.refl _ _⟩
  · have HB1 := Lib.hid (show 1 ≤ bal by omega)
    go_enter Tryd.func11, Tryd.ntmps11
    go_wp2_with fail
    go_loopw [8, 17] (fun v i wr => ∃ (k : Nat) (s : BitVec 16), k ≤ n2 ∧ i = .int .i64 k ∧ v = .int .u16 (U s) ∧ Hid (s = seenR (l.take k)) ∧ Hid (invR bal 0#16 (l.take k) = false) ∧ Below w.heap.size w wr) (fun _ i _ => n2 - (intOf i).toNat)
    case atStart => exact ⟨0, 0#16, Nat.zero_le _, rfl, rfl, rfl, rfl, Below.refl _ _⟩
    case round =>
      obtain ⟨k, s, hk, rfl, rfl, hs, hinv, hb⟩ := hrel
      have hsz := hb.size
      by_cases hlt : k < n2
      · obtain ⟨r, hr⟩ : ∃ r, l[k]? = some r := ⟨l[k]'(by have := HN.out; omega), List.getElem?_eq_getElem _⟩
        obtain ⟨b, o, ha, hcell⟩ := RdK.cells (HR2.out.below hb) repC_len (by omega)
        have hc0 : wr.cell? ⟨b, o + k * 3, none⟩ = some (.int .i64 r.server) := hcell k r hr 0 (by omega)
        have hc1 : wr.cell? ⟨b, o + k * 3 + 1, none⟩ = some (.int .i64 r.ballot) := hcell k r hr 1 (by omega)
        have hc2 : wr.cell? ⟨b, o + k * 3 + 2, none⟩ = some (.string r.value) := hcell k r hr 2 (by omega)
        have HS := Lib.hid (seenR_take hr)
        obtain ⟨hi1, hi2⟩ := invR_take hr hinv.out
        rw [← hs.out] at hi1 hi2
        have HI1 := Lib.hid hi1
        have HI2 := Lib.hid (fun hb => pickS_inv (read := read) HB1.out (hi2 hb))
        have hbad : Hid (badR bal s r = (decide (r.server < 0) || decide (12 ≤ r.server) || decide (r.ballot < 0) || decide (bal ≤ r.ballot) || hasB s r.server.toNat)) := rfl
        have hsee : Hid (seeR s r = s ||| bitS r.server.toNat) := rfl
        obtain ⟨rs, hrs⟩ : ∃ x, r.server = x := ⟨_, rfl⟩
        obtain ⟨rb, hrb⟩ : ∃ x, r.ballot = x := ⟨_, rfl⟩
        obtain ⟨rv, hrv⟩ : ∃ x, r.value = x := ⟨_, rfl⟩
        rw [hrs] at hc0 hbad hsee
        rw [hrb] at hc1 hbad
        rw [hrv] at hc2
        subst ha
        clear hcell hrs hrb hrv hr hi1 hi2
        by_cases g1 : rs < 0
        · have hP : Hid (pickS read bal l = (⟨#[]⟩, 1)) := HI2.out (by rw [hbad.out]; simp [g1])
          clear HI1 HI2 hbad hsee HS
          go_wp2_with fail
          go_ret2
          exact ⟨by rw [hP.out]; rfl, hb.alloc hsz _⟩
        · by_cases g2 : 12 ≤ rs
          · have hP : Hid (pickS read bal l = (⟨#[]⟩, 1)) := HI2.out (by rw [hbad.out]; simp [g2])
            clear HI1 HI2 hbad hsee HS
            go_wp2_with fail
            go_ret2
            exact ⟨by rw [hP.out]; rfl, hb.alloc hsz _⟩
          · by_cases g3 : rb < 0
            · have hP : Hid (pickS read bal l = (⟨#[]⟩, 1)) := HI2.out (by rw [hbad.out]; simp [g3])
              clear HI1 HI2 hbad hsee HS
              go_wp2_with fail
              go_ret2
              exact ⟨by rw [hP.out]; rfl, hb.alloc hsz _⟩
            · by_cases g4 : bal ≤ rb
              · have hP : Hid (pickS read bal l = (⟨#[]⟩, 1)) := HI2.out (by rw [hbad.out]; simp [g4])
                clear HI1 HI2 hbad hsee HS
                go_wp2_with fail
                go_ret2
                exact ⟨by rw [hP.out]; rfl, hb.alloc hsz _⟩
              · obtain ⟨m, rfl⟩ := Int.eq_ofNat_of_zero_le (by omega : 0 ≤ rs)
                cases g5 : hasB s m
                · have hnb : Hid (badR bal s r = false) := by show _ = _; rw [hbad.out]; simp [g3, g4, g5]; omega
                  have hinv' : Hid (invR bal 0#16 (l.take (k + 1)) = false) := by show _ = _; rw [HI1.out, hnb.out]
                  clear HI1 HI2 hbad hnb hinv
                  go_wp2_with fail
                  go_roundw
                  case rel => exact ⟨k + 1, s ||| bitS m, by omega, by go_num, rfl, by show _ = _; rw [HS.out, ← hs.out, hsee.out]; rfl, hinv', hb.alloc hsz _⟩
                  case measure => simp [intOf]; omega
                · have hP : Hid (pickS read bal l = (⟨#[]⟩, 1)) := HI2.out (by rw [hbad.out]; simp [g5])
                  clear HI1 HI2 hbad hsee HS
                  go_wp2_with fail
                  go_ret2
                  exact ⟨by rw [hP.out]; rfl, hb.alloc hsz _⟩
      · have hE : Hid (l.take k = l) := List.take_of_length_le (by have := HN.out; omega)
        rw [hE.out] at hinv
        have HP := Lib.hid (pick_c read l a n c a2 n2 c2 wr (HR.out.below hb) (HR2.out.below hb) (fun r hr => by have := invR_ok hinv.out r hr; omega))
        obtain ⟨⟨bb, bv⟩, hbb⟩ : ∃ p, bestR l = p := ⟨_, rfl⟩
        have HBB := Lib.hid hbb
        rw [hbb] at HP
        clear hs hbb hE
        cases hacc : accS read (seenR l)
        · have hP : Hid (pickS read bal l = (⟨#[]⟩, 10)) := pickS_state HB1.out hinv.out hacc
          rw [hacc] at HP
          clear hacc hinv
          go_wp2_with fail
          refine HP.out.mono ?_
          rintro e w3 ⟨sv, rfl, hb3⟩
          have hb4 := Below.next hb hb3
          have hsz4 := hb4.size
          clear hb hb3 hsz
          go_wp2_with fail
          go_ret2
          exact ⟨by rw [hP.out]; rfl, hb4.alloc hsz4 _⟩
        · by_cases h0 : bb = 0
          · have hP : Hid (pickS read bal l = (⟨#[]⟩, 4)) := pickS_none HB1.out hinv.out hacc (by rw [HBB.out]; exact h0)
            rw [hacc] at HP
            subst h0
            clear hacc hinv
            go_wp2_with fail
            refine HP.out.mono ?_
            rintro e w3 ⟨sv, rfl, hb3⟩
            have hb4 := Below.next hb hb3
            have hsz4 := hb4.size
            clear hb hb3 hsz
            go_wp2_with fail
            go_ret2
            exact ⟨by rw [hP.out]; rfl, hb4.alloc hsz4 _⟩
          · have hP : Hid (pickS read bal l = (bv, 0)) := by show _ = _; rw [pickS_some HB1.out hinv.out hacc (by rw [HBB.out]; exact h0), HBB.out]
            rw [hacc] at HP
            have h0' : (bb == 0) = false := by simpa using h0
            clear hacc hinv h0
            go_wp2_with fail
            refine HP.out.mono ?_
            rintro e w3 ⟨sv, rfl, hb3⟩
            have hb4 := Below.next hb hb3
            have hsz4 := hb4.size
            clear hb hb3 hsz
            go_wp2_with fail
            go_ret2
            exact ⟨by rw [hP.out]; rfl, hb4.alloc hsz4 _⟩
end Go.Proofs.YtgfjmplifmbmlaaDoor
namespace Go.Proofs.YtgfjmplifmbmlaaDoor
open Go.RowKit Go.Shelf

theorem step_le {p : Int × ByteArray} {r : Rep} (h : r.ballot ≤ p.1) : stepR p r = p := by unfold stepR; rw [if_neg (by omega)]
theorem step_gt {p : Int × ByteArray} {r : Rep} (h : p.1 < r.ballot) : stepR p r = (r.ballot, r.value) := by unfold stepR; rw [if_pos h]

set_option maxRecDepth 100000 in
set_option maxHeartbeats 4000000 in
theorem rPick_c (read : List (BitVec 16)) (bal : Int) (l : List Rep) (a : Option Addr) (n c : Nat) (a2 : Option Addr) (n2 c2 : Nat) (w : World) (h : Rd w a n c (read.map setV2)) (h2 : RdK 3 w a2 n2 c2 (l.flatMap repC)) :
    Calls Tryd.prog 14 #[.slice a n c, .int .i64 bal, .slice a2 n2 c2] w fun e w' => e = .returned (.tuple #[.string (pickS read bal l).1, .int .i64 (pickS read bal l).2]) ∧ Below w.heap.size w w' := by
  have hnl : l.length = n2 := by have := h2.len; rw [flat_len 3 repC repC_len] at this; omega
  have hm := h2.max
  have hle := h2.le
  unfold maxLen at hm
  have HR := Lib.hid h
  have HR2 := Lib.hid h2
  have HN := Lib.hid hnl
  clear h h2 hnl
  by_cases hb1 : bal < 1
  · have hP : Hid (pickS read bal l = (⟨#[]⟩, 1)) := by show _ = _; unfold pickS; rw [if_pos hb1]
    go_enter Tryd.func14, Tryd.ntmps14
    go_wp2_with fail
    go_ret2
    exact ⟨by rw [hP.out]; rfl, Below.refl _ _⟩
  · have HB1 := Lib.hid (show 1 ≤ bal by omega)
    go_enter Tryd.func14, Tryd.ntmps14
    go_wp2_with fail
    go_loopw [8, 9] (fun v i wr => ∃ (k : Nat) (s : BitVec 16), k ≤ n2 ∧ i = .int .i64 k ∧ v = .int .u16 (U s) ∧ Hid (s = seenR (l.take k)) ∧ Hid (invR bal 0#16 (l.take k) = false) ∧ Below w.heap.size w wr) (fun _ i _ => n2 - (intOf i).toNat)
    case atStart => exact ⟨0, 0#16, Nat.zero_le _, rfl, rfl, rfl, rfl, Below.refl _ _⟩
    case round =>
      obtain ⟨k, s, hk, rfl, rfl, hs, hinv, hb⟩ := hrel
      have hsz := hb.size
      by_cases hlt : k < n2
      · obtain ⟨r, hr⟩ : ∃ r, l[k]? = some r := ⟨l[k]'(by have := HN.out; omega), List.getElem?_eq_getElem _⟩
        obtain ⟨b, o, ha, hcell⟩ := RdK.cells (HR2.out.below hb) repC_len (by omega)
        have hc0 : wr.cell? ⟨b, o + k * 3, none⟩ = some (.int .i64 r.server) := hcell k r hr 0 (by omega)
        have hc1 : wr.cell? ⟨b, o + k * 3 + 1, none⟩ = some (.int .i64 r.ballot) := hcell k r hr 1 (by omega)
        have hc2 : wr.cell? ⟨b, o + k * 3 + 2, none⟩ = some (.string r.value) := hcell k r hr 2 (by omega)
        have HS := Lib.hid (seenR_take hr)
        obtain ⟨hi1, hi2⟩ := invR_take hr hinv.out
        rw [← hs.out] at hi1 hi2
        have HI1 := Lib.hid hi1
        have HI2 := Lib.hid (fun hb => pickS_inv (read := read) HB1.out (hi2 hb))
        have hbad : Hid (badR bal s r = (decide (r.server < 0) || decide (12 ≤ r.server) || decide (r.ballot < 0) || decide (bal ≤ r.ballot) || hasB s r.server.toNat)) := rfl
        have hsee : Hid (seeR s r = s ||| bitS r.server.toNat) := rfl
        obtain ⟨rs, hrs⟩ : ∃ x, r.server = x := ⟨_, rfl⟩
        obtain ⟨rb, hrb⟩ : ∃ x, r.ballot = x := ⟨_, rfl⟩
        obtain ⟨rv, hrv⟩ : ∃ x, r.value = x := ⟨_, rfl⟩
        rw [hrs] at hc0 hbad hsee
        rw [hrb] at hc1 hbad
        rw [hrv] at hc2
        subst ha
        clear hcell hrs hrb hrv hr hi1 hi2
        by_cases g1 : rs < 0
        · have hP : Hid (pickS read bal l = (⟨#[]⟩, 1)) := HI2.out (by rw [hbad.out]; simp [g1])
          clear HI1 HI2 hbad hsee HS
          go_wp2_with fail
          go_ret2
          exact ⟨by rw [hP.out]; rfl, hb.alloc hsz _⟩
        · by_cases g2 : 12 ≤ rs
          · have hP : Hid (pickS read bal l = (⟨#[]⟩, 1)) := HI2.out (by rw [hbad.out]; simp [g2])
            clear HI1 HI2 hbad hsee HS
            go_wp2_with fail
            go_ret2
            exact ⟨by rw [hP.out]; rfl, hb.alloc hsz _⟩
          · by_cases g3 : rb < 0
            · have hP : Hid (pickS read bal l = (⟨#[]⟩, 1)) := HI2.out (by rw [hbad.out]; simp [g3])
              clear HI1 HI2 hbad hsee HS
              go_wp2_with fail
              go_ret2
              exact ⟨by rw [hP.out]; rfl, hb.alloc hsz _⟩
            · by_cases g4 : bal ≤ rb
              · have hP : Hid (pickS read bal l = (⟨#[]⟩, 1)) := HI2.out (by rw [hbad.out]; simp [g4])
                clear HI1 HI2 hbad hsee HS
                go_wp2_with fail
                go_ret2
                exact ⟨by rw [hP.out]; rfl, hb.alloc hsz _⟩
              · obtain ⟨m, rfl⟩ := Int.eq_ofNat_of_zero_le (by omega : 0 ≤ rs)
                cases g5 : hasB s m
                · have hnb : Hid (badR bal s r = false) := by show _ = _; rw [hbad.out]; simp [g3, g4, g5]; omega
                  have hinv' : Hid (invR bal 0#16 (l.take (k + 1)) = false) := by show _ = _; rw [HI1.out, hnb.out]
                  clear HI1 HI2 hbad hnb hinv
                  go_wp2_with fail
                  go_roundw
                  case rel => exact ⟨k + 1, s ||| bitS m, by omega, by go_num, rfl, by show _ = _; rw [HS.out, ← hs.out, hsee.out]; rfl, hinv', hb.alloc hsz _⟩
                  case measure => simp [intOf]; omega
                · have hP : Hid (pickS read bal l = (⟨#[]⟩, 1)) := HI2.out (by rw [hbad.out]; simp [g5])
                  clear HI1 HI2 hbad hsee HS
                  go_wp2_with fail
                  go_ret2
                  exact ⟨by rw [hP.out]; rfl, hb.alloc hsz _⟩
      · have hE : Hid (l.take k = l) := List.take_of_length_le (by have := HN.out; omega)
        rw [hE.out] at hinv
        have hs2 : Hid (s = seenR l) := by show _ = _; rw [hs.out, hE.out]
        have HA := Lib.hid (accepts8_c read s a n c wr (HR.out.below hb))
        clear hs hE
        cases hacc : accS read s
        · have hP : Hid (pickS read bal l = (⟨#[]⟩, 10)) := pickS_state HB1.out hinv.out (by rw [← hs2.out]; exact hacc)
          rw [hacc] at HA
          clear hacc hinv
          go_wp2_with fail
          refine HA.out.mono ?_
          rintro e w3 ⟨rfl, rfl⟩
          go_wp2_with fail
          go_ret2
          exact ⟨by rw [hP.out]; rfl, hb⟩
        · have hacc2 : Hid (accS read (seenR l) = true) := by show _ = _; rw [← hs2.out]; exact hacc
          rw [hacc] at HA
          clear hacc
          go_wp2_with fail
          refine HA.out.mono ?_
          rintro e w3 ⟨rfl, rfl⟩
          go_wp2_with fail
          go_loopw [11, 12] (fun v i wr => ∃ (k : Nat), k ≤ n2 ∧ i = .int .i64 k ∧ ((v = .int .i64 (-1) ∧ Hid ((bestR (l.take k)).1 = 0)) ∨ ∃ (j : Nat) (q : Rep), v = .int .i64 j ∧ j < k ∧ Hid (l[j]? = some q ∧ bestR (l.take k) = (q.ballot, q.value) ∧ 0 < q.ballot)) ∧ Below w.heap.size w wr) (fun _ i _ => n2 - (intOf i).toNat)
          case atStart => exact ⟨0, Nat.zero_le _, rfl, .inl ⟨rfl, rfl⟩, hb⟩
          case round =>
            clear hb HA hsz
            obtain ⟨i, hi, rfl, hv, hb⟩ := hrel
            by_cases hlt2 : i < n2
            · obtain ⟨r, hr⟩ : ∃ r, l[i]? = some r := ⟨l[i]'(by have := HN.out; omega), List.getElem?_eq_getElem _⟩
              obtain ⟨b, o, ha, hcell⟩ := RdK.cells (HR2.out.below hb) repC_len (by omega)
              have HCELL := Lib.hid hcell
              have hc1 : wr.cell? ⟨b, o + i * 3 + 1, none⟩ = some (.int .i64 r.ballot) := hcell i r hr 1 (by omega)
              have HB := Lib.hid (bestR_take hr)
              have HRR := Lib.hid hr
              obtain ⟨rb, hrb⟩ : ∃ x, r.ballot = x := ⟨_, rfl⟩
              rw [hrb] at hc1
              have HRB := Lib.hid hrb
              subst ha
              clear hcell hr hrb
              rcases hv with ⟨rfl, h0⟩ | ⟨j, q, rfl, hj, hq⟩
              · by_cases hgt : 0 < rb
                · go_wp2_with fail
                  go_quiet (fail)
                  go_wp2_with fail
                  go_roundw
                  case rel => exact ⟨i + 1, by omega, by go_num, .inr ⟨i, r, rfl, by omega, ⟨HRR.out, by rw [HB.out, step_gt (by rw [h0.out, HRB.out]; exact hgt)], by rw [HRB.out]; exact hgt⟩⟩, below_drewN hb⟩
                  case measure => simp [intOf]; omega
                · have hd : decide (0 < rb) = false := decide_eq_false hgt
                  have HG := Lib.hid (show rb ≤ 0 by omega)
                  clear hgt
                  go_wp2_with fail
                  go_quiet (fail)
                  go_wp2_with fail
                  go_roundw
                  case rel => exact ⟨i + 1, by omega, by go_num, .inl ⟨rfl, by show _ = _; rw [HB.out, step_le (by rw [h0.out, HRB.out]; exact HG.out)]; exact h0.out⟩, below_drewN hb⟩
                  case measure => simp [intOf]; omega
              · have hj2 : j < n2 := by omega
                have hc2 : wr.cell? ⟨b, o + j * 3 + 1, none⟩ = some (.int .i64 q.ballot) := HCELL.out j q hq.out.1 1 (by omega)
                obtain ⟨qb, hqb⟩ : ∃ x, q.ballot = x := ⟨_, rfl⟩
                rw [hqb] at hc2
                have HQB := Lib.hid hqb
                have hq0 : 0 < qb := by rw [← hqb]; exact hq.out.2.2
                have HQ0 := Lib.hid hq0
                clear hqb hq0
                by_cases hgt : qb < rb
                · have h0 : 0 < rb := by have := HQ0.out; omega
                  go_wp2_with fail
                  go_quiet (fail)
                  go_wp2_with fail
                  go_roundw
                  case rel => exact ⟨i + 1, by omega, by go_num, .inr ⟨i, r, rfl, by omega, ⟨HRR.out, by rw [HB.out, step_gt (by rw [hq.out.2.1, HRB.out]; show q.ballot < rb; rw [HQB.out]; exact hgt)], by rw [HRB.out]; exact h0⟩⟩, below_drewN hb⟩
                  case measure => simp [intOf]; omega
                · have HG := Lib.hid (show rb ≤ qb by omega)
                  have hd2 : decide (qb < rb) = false := decide_eq_false hgt
                  clear hgt
                  by_cases h0 : 0 < rb
                  · go_wp2_with fail
                    go_quiet (fail)
                    go_wp2_with fail
                    go_roundw
                    case rel => exact ⟨i + 1, by omega, by go_num, .inr ⟨j, q, rfl, by omega, ⟨hq.out.1, by rw [HB.out, step_le (by rw [hq.out.2.1, HRB.out]; show rb ≤ q.ballot; rw [HQB.out]; exact HG.out)]; exact hq.out.2.1, hq.out.2.2⟩⟩, below_drewN hb⟩
                    case measure => simp [intOf]; omega
                  · have hd : decide (0 < rb) = false := decide_eq_false h0
                    clear h0
                    go_wp2_with fail
                    go_quiet (fail)
                    go_wp2_with fail
                    go_roundw
                    case rel => exact ⟨i + 1, by omega, by go_num, .inr ⟨j, q, rfl, by omega, ⟨hq.out.1, by rw [HB.out, step_le (by rw [hq.out.2.1, HRB.out]; show rb ≤ q.ballot; rw [HQB.out]; exact HG.out)]; exact hq.out.2.1, hq.out.2.2⟩⟩, below_drewN hb⟩
                    case measure => simp [intOf]; omega
            · have hE : Hid (l.take i = l) := List.take_of_length_le (by have := HN.out; omega)
              rcases hv with ⟨rfl, h0⟩ | ⟨j, q, rfl, hj, hq⟩
              · have hP : Hid (pickS read bal l = (⟨#[]⟩, 4)) := pickS_none HB1.out hinv.out hacc2.out (by rw [← hE.out]; exact h0.out)
                clear h0 hE
                go_wp2_with fail
                go_ret2
                exact ⟨by rw [hP.out]; rfl, hb⟩
              · have hj2 : j < n2 := by omega
                have hP : Hid (pickS read bal l = (q.value, 0)) := by
                  show _ = _
                  have e := hq.out.2.1
                  rw [hE.out] at e
                  rw [pickS_some HB1.out hinv.out hacc2.out (by rw [e]; show q.ballot ≠ 0; have := hq.out.2.2; omega), e]
                obtain ⟨b, o, ha, hcell⟩ := RdK.cells (HR2.out.below hb) repC_len (by omega)
                have hc2 : wr.cell? ⟨b, o + j * 3 + 2, none⟩ = some (.string q.value) := hcell j q hq.out.1 2 (by omega)
                obtain ⟨qv, hqv⟩ : ∃ x, q.value = x := ⟨_, rfl⟩
                rw [hqv] at hc2 hP
                subst ha
                clear hcell hqv hq hE
                go_wp2_with fail
                go_ret2
                exact ⟨by rw [hP.out]; rfl, hb⟩
end Go.Proofs.YtgfjmplifmbmlaaDoor
namespace Go.Proofs.YtgfjmplifmbmlaaDoor
open Go.RowKit Go.Shelf

theorem ev_ne {p q : Ev} (h : p ≠ q) : (p.kind == q.kind) = false ∨ ((p.kind == q.kind) = true ∧ (p.server == q.server) = false) ∨ ((p.kind == q.kind) = true ∧ (p.server == q.server) = true ∧ (p.ballot == q.ballot) = false) ∨
    ((p.kind == q.kind) = true ∧ (p.server == q.server) = true ∧ (p.ballot == q.ballot) = true ∧ (p.value.toList == q.value.toList) = false) := by
  obtain ⟨a, b, c, d⟩ := p
  obtain ⟨a', b', c', d'⟩ := q
  simp only
  cases h1 : (a == a')
  · exact .inl rfl
  · cases h2 : (b == b')
    · exact .inr (.inl ⟨rfl, rfl⟩)
    · cases h3 : (c == c')
      · exact .inr (.inr (.inl ⟨rfl, rfl, rfl⟩))
      · refine .inr (.inr (.inr ⟨rfl, rfl, rfl, ?_⟩))
        have e1 := eq_of_beq h1; have e2 := eq_of_beq h2; have e3 := eq_of_beq h3
        subst e1 e2 e3
        rw [ByteArray.toList_eq, ByteArray.toList_eq]
        refine beq_eq_false_iff_ne.2 (fun e => h ?_)
        have : d = d' := ByteArray.ext (Array.toList_inj.1 e)
        rw [this]
theorem same_at {α : Type} [DecidableEq α] {l m : List α} {k : Nat} (hl : l.length = m.length) {x y : α} (hx : l[k]? = some x) (hy : m[k]? = some y) (h : l.take k = m.take k) :
    (x = y → l.take (k + 1) = m.take (k + 1)) ∧ (x ≠ y → l ≠ m) := by
  constructor
  · rintro rfl; rw [List.take_add_one, List.take_add_one, hx, hy, h]
  · rintro hne rfl; rw [hx] at hy; cases hy; exact hne rfl

set_option maxRecDepth 100000 in
set_option maxHeartbeats 2000000 in
theorem sameE_c (l m : List Ev) (a : Option Addr) (n c : Nat) (a2 : Option Addr) (n2 c2 : Nat) (w : World) (h : RdK 4 w a n c (l.flatMap evC)) (h2 : RdK 4 w a2 n2 c2 (m.flatMap evC)) :
    Calls Tryd.prog 21 #[.slice a n c, .slice a2 n2 c2] w fun e w' => e = .returned (.bool (decide (l = m))) ∧ Below w.heap.size w w' := by
  have hnl : l.length = n := by have := h.len; rw [flat_len 4 evC evC_len] at this; omega
  have hnl2 : m.length = n2 := by have := h2.len; rw [flat_len 4 evC evC_len] at this; omega
  have hm := h.max
  have hle := h.le
  have hm2 := h2.max
  have hle2 := h2.le
  unfold maxLen at hm hm2
  have HR := Lib.hid h
  have HN := Lib.hid hnl
  have HR2 := Lib.hid h2
  have HN2 := Lib.hid hnl2
  clear h hnl h2 hnl2
  by_cases hnn : n = n2
  · subst hnn
    go_enter Tryd.func21, Tryd.ntmps21
    go_wp2_with fail
    go_loopw [5] (fun i wr => ∃ k : Nat, k ≤ n ∧ i = .int .i64 k ∧ Hid (l.take k = m.take k) ∧ Below w.heap.size w wr) (fun i _ => n - (intOf i).toNat)
    case atStart => exact ⟨0, Nat.zero_le _, rfl, rfl, Below.refl _ _⟩
    case round =>
      obtain ⟨k, hk, rfl, ht, hb⟩ := hrel
      by_cases hlt : k < n
      · obtain ⟨p, hp⟩ : ∃ r, l[k]? = some r := ⟨l[k]'(by have := HN.out; omega), List.getElem?_eq_getElem _⟩
        obtain ⟨q, hq⟩ : ∃ r, m[k]? = some r := ⟨m[k]'(by have := HN2.out; omega), List.getElem?_eq_getElem _⟩
        obtain ⟨b, o, ha, hcell⟩ := RdK.cells (HR.out.below hb) evC_len (by omega)
        have c0 : wr.cell? ⟨b, o + k * 4, none⟩ = some (.int .i64 p.kind) := hcell k p hp 0 (by omega)
        have c1 : wr.cell? ⟨b, o + k * 4 + 1, none⟩ = some (.int .i64 p.server) := hcell k p hp 1 (by omega)
        have c2 : wr.cell? ⟨b, o + k * 4 + 2, none⟩ = some (.int .i64 p.ballot) := hcell k p hp 2 (by omega)
        have c3 : wr.cell? ⟨b, o + k * 4 + 3, none⟩ = some (.string p.value) := hcell k p hp 3 (by omega)
        obtain ⟨b2, o2, ha2, hcell2⟩ := RdK.cells (HR2.out.below hb) evC_len (by omega)
        have d0 : wr.cell? ⟨b2, o2 + k * 4, none⟩ = some (.int .i64 q.kind) := hcell2 k q hq 0 (by omega)
        have d1 : wr.cell? ⟨b2, o2 + k * 4 + 1, none⟩ = some (.int .i64 q.server) := hcell2 k q hq 1 (by omega)
        have d2 : wr.cell? ⟨b2, o2 + k * 4 + 2, none⟩ = some (.int .i64 q.ballot) := hcell2 k q hq 2 (by omega)
        have d3 : wr.cell? ⟨b2, o2 + k * 4 + 3, none⟩ = some (.string q.value) := hcell2 k q hq 3 (by omega)
        obtain ⟨s1, s2⟩ := same_at (by rw [HN.out, HN2.out]) hp hq ht.out
        have S1 := Lib.hid s1
        have S2 := Lib.hid s2
        subst ha ha2
        clear hcell hcell2 hp hq s1 s2
        by_cases he : p = q
        · subst he
          have ht2 : Hid (l.take (k + 1) = m.take (k + 1)) := S1.out rfl
          obtain ⟨pk, ps, pb, pv⟩ := p
          simp only at c0 c1 c2 c3 d0 d1 d2 d3
          clear S1 S2 ht
          go_wp2_with fail
          go_quiet (fail)
          go_wp2_with fail
          go_roundw
          case rel => exact ⟨k + 1, by omega, by go_num, ht2, below_drewN hb⟩
          case measure => simp [intOf]; omega
        · have hE : Hid (decide (l = m) = false) := decide_eq_false (S2.out he)
          have hne := ev_ne he
          obtain ⟨pk, ps, pb, pv⟩ := p
          obtain ⟨qk, qs, qb, qv⟩ := q
          simp only at c0 c1 c2 c3 d0 d1 d2 d3 hne
          clear S1 S2 he ht
          rcases hne with h1 | ⟨h1, h2⟩ | ⟨h1, h2, h3⟩ | ⟨h1, h2, h3, h4⟩
          all_goals
            go_wp2_with fail
            go_quiet (fail)
            go_wp2_with fail
            go_ret
            exact ⟨ret_bool hE.out.symm, below_drewN hb⟩
      · have hE : Hid (decide (l = m) = true) := by
          show _ = _
          rw [decide_eq_true_iff]
          have := ht.out
          rw [List.take_of_length_le (by have := HN.out; omega), List.take_of_length_le (by have := HN2.out; omega)] at this
          exact this
        clear ht
        go_wp2_with fail
        go_ret
        exact ⟨ret_bool hE.out.symm, hb⟩
  · have hE : Hid (decide (l = m) = false) := by
      show _ = _
      rw [decide_eq_false_iff_not]
      rintro rfl
      exact hnn (by rw [← HN.out, HN2.out])
    have hne : ((n : Int) != (n2 : Int)) = true := by rw [bne_iff_ne]; omega
    clear hnn
    go_enter Tryd.func21, Tryd.ntmps21
    go_wp2_with fail
    go_ret
    exact ⟨ret_bool hE.out.symm, Below.refl _ _⟩
end Go.Proofs.YtgfjmplifmbmlaaDoor
namespace Go.Proofs.YtgfjmplifmbmlaaDoor
open Go.RowKit Go.Shelf

def twoS : List (BitVec 16) := [3#16, 5#16, 6#16]
def rep1 : Rep := ⟨0, 1, ⟨#[120]⟩⟩
def rep2 : Rep := ⟨2, 2, ⟨#[121]⟩⟩
def evs6 : List Ev := [⟨1, 0, 1, ⟨#[]⟩⟩, ⟨2, 1, 1, ⟨#[118, 49]⟩⟩, ⟨2, 2, 1, ⟨#[118, 49]⟩⟩, ⟨1, 0, 2, ⟨#[]⟩⟩, ⟨2, 1, 2, ⟨#[118, 50]⟩⟩, ⟨2, 2, 2, ⟨#[118, 50]⟩⟩]
theorem ex_pick1 : pickS twoS 3 [rep1, rep2] = (⟨#[121]⟩, 0) := by decide +kernel
theorem ex_pick2 : pickS twoS 3 [rep1] = (⟨#[]⟩, 10) := by decide +kernel
theorem ex_att : attS [1#16] [6#16] 3 = (evs6, 0) := by
  have h1 : chkS 3 [[1#16], [6#16]] = 0 := by decide +kernel
  have h2 : disS [1#16] [6#16] = some (1#16, 6#16) := by decide +kernel
  have m1 : memS 1#16 = [0] := by decide +kernel
  have m6 : memS 6#16 = [1, 2] := by decide +kernel
  have v1 : valB 1 = ⟨#[118, 49]⟩ := by unfold valB; rw [Lib.decDigits_one (by decide)]; rfl
  have v2 : valB 2 = ⟨#[118, 50]⟩ := by unfold valB; rw [Lib.decDigits_one (by decide)]; rfl
  unfold attS
  rw [if_neg (by rw [h1]; decide), h2]
  show (atkTo 1#16 1#16 6#16 2, (0 : Int)) = _
  unfold atkTo blkS evP evA evs6
  rw [m1, m6, v1, v2]; rfl

set_option maxRecDepth 100000 in
set_option maxHeartbeats 4000000 in
theorem awake37_c (w : World) (ht : HasTab w) :
    Calls Tryd.prog 10 #[] w fun e w' => e = .returned (.bool true) ∧ Below w.heap.size w w' := by
  have HT := Lib.hid ht
  clear ht
  have hb0 := Below.refl w.heap.size w
  go_enter Tryd.func10, Tryd.ntmps10
  go_wp2_with fail
  obtain ⟨w1, hw1⟩ : ∃ w1, w.alloc (.cells #[.int .u16 3, .int .u16 5, .int .u16 6] 30) = w1 := ⟨_, rfl⟩
  have r1 : Rd w1 (some ⟨w.heap.size, 0, none⟩) 3 3 (twoS.map setV2) := by rw [← hw1]; exact Rd.lit w _ _ 3 _ rfl rfl (by decide)
  have b1 : Below w.heap.size w w1 := by rw [← hw1]; exact hb0.alloc (Nat.le_refl _) _
  have R1 := Lib.hid r1
  rw [hw1]
  clear hw1 r1 hb0
  refine (clones_c twoS _ 3 3 w1 R1.out (by decide)).mono ?_
  rintro e w2 ⟨a2, c2, rfl, r2, b2⟩
  have b3 := Below.next b1 b2
  have R2 := Lib.hid r2
  have R1b := Lib.hid (R1.out.below b2)
  clear r2 b1 b2 R1
  go_wp2_with fail
  obtain ⟨w3, hw3⟩ : ∃ w3, w2.alloc (.cells #[.int .i64 0, .int .i64 1, .string ⟨#[120]⟩, .int .i64 2, .int .i64 2, .string ⟨#[121]⟩] 33) = w3 := ⟨_, rfl⟩
  have b23 : Below w2.heap.size w2 w3 := by rw [← hw3]; exact (Below.refl _ _).alloc (Nat.le_refl _) _
  have k3 : RdK 3 w3 (some ⟨w2.heap.size, 0, none⟩) 2 2 ([rep1, rep2].flatMap repC) := by rw [← hw3]; exact RdK.lit' 3 w2 _ _ 2 _ rfl rfl (by decide) rfl
  have b4 := Below.next b3 b23
  have HP := Lib.hid (Pick_c twoS 3 [rep1, rep2] a2 3 c2 _ 2 2 w3 (R2.out.below b23) k3)
  rw [ex_pick1] at HP
  have R1c := Lib.hid (R1b.out.below b23)
  rw [hw3]
  clear hw3 k3 b3 b23 R1b R2
  refine HP.out.mono ?_
  rintro e w4 ⟨rfl, b5⟩
  have b6 := Below.next b4 b5
  have R1d := Lib.hid (R1c.out.below b5)
  clear HP b4 b5 R1c
  go_wp2_with fail
  refine (clones_c twoS _ 3 3 w4 R1d.out (by decide)).mono ?_
  rintro e w5 ⟨a5, c5, rfl, r5, b7⟩
  have b8 := Below.next b6 b7
  have R5 := Lib.hid r5
  clear r5 b6 b7 R1d
  go_wp2_with fail
  obtain ⟨w6, hw6⟩ : ∃ w6, w5.alloc (.cells #[.int .i64 0, .int .i64 1, .string ⟨#[120]⟩] 33) = w6 := ⟨_, rfl⟩
  have b56 : Below w5.heap.size w5 w6 := by rw [← hw6]; exact (Below.refl _ _).alloc (Nat.le_refl _) _
  have k6 : RdK 3 w6 (some ⟨w5.heap.size, 0, none⟩) 1 1 ([rep1].flatMap repC) := by rw [← hw6]; exact RdK.lit' 3 w5 _ _ 1 _ rfl rfl (by decide) rfl
  have b9 := Below.next b8 b56
  have HP := Lib.hid (Pick_c twoS 3 [rep1] a5 3 c5 _ 1 1 w6 (R5.out.below b56) k6)
  rw [ex_pick2] at HP
  rw [hw6]
  clear hw6 k6 b8 b56 R5
  refine HP.out.mono ?_
  rintro e w7 ⟨rfl, b10⟩
  have b11 := Below.next b9 b10
  clear HP b9 b10
  go_wp2_with fail
  obtain ⟨w8, hw8⟩ : ∃ w8, (w7.alloc (.cells #[.int .u16 1] 30)).alloc (.cells #[.int .u16 6] 30) = w8 := ⟨_, rfl⟩
  have r8 : Rd w8 (some ⟨w7.heap.size, 0, none⟩) 1 1 ([1#16].map setV2) := by
    rw [← hw8]; exact (Rd.lit w7 #[.int .u16 1] 30 1 _ rfl rfl (by decide)).below ((Below.refl _ _).alloc (Nat.le_refl _) _)
  have r8' : Rd w8 (some ⟨w7.heap.size + 1, 0, none⟩) 1 1 ([6#16].map setV2) := by
    rw [← hw8]; exact Rd.lit' _ #[.int .u16 6] 30 1 _ rfl rfl (by decide) (by simp)
  have b78 : Below w7.heap.size w7 w8 := by rw [← hw8]; exact ((Below.refl _ _).alloc (Nat.le_refl _) _).alloc (by simp) _
  have b12 := Below.next b11 b78
  have HA := Lib.hid (attack_c [1#16] [6#16] 3 _ 1 1 _ 1 1 w8 r8 r8' (HT.out.below b12))
  rw [ex_att] at HA
  rw [hw8]
  clear hw8 r8 r8' b11 b78
  refine HA.out.mono ?_
  rintro e w9 ⟨a9, c9, rfl, k9, b13⟩
  have b14 := Below.next b12 b13
  have K9 := Lib.hid k9
  clear k9 b12 b13 HA
  go_wp2_with fail
  obtain ⟨wA, hwA⟩ : ∃ wA, w9.alloc (.cells (evs6.flatMap evC).toArray 48) = wA := ⟨_, rfl⟩
  have b9A : Below w9.heap.size w9 wA := by rw [← hwA]; exact (Below.refl _ _).alloc (Nat.le_refl _) _
  have kA : RdK 4 wA (some ⟨w9.heap.size, 0, none⟩) 6 6 (evs6.flatMap evC) := by rw [← hwA]; exact RdK.lit' 4 w9 _ _ 6 _ rfl rfl (by decide) rfl
  have b15 := Below.next b14 b9A
  have HS := Lib.hid (sameE_c evs6 evs6 a9 6 c9 _ 6 6 wA (K9.out.below b9A) kA)
  rw [show decide (evs6 = evs6) = true by simp] at HS
  change Calls _ _ _ _ _
  rw [show w9.alloc (.cells #[.int .i64 1, .int .i64 0, .int .i64 1, .string ⟨#[]⟩, .int .i64 2, .int .i64 1, .int .i64 1, .string ⟨#[118, 49]⟩, .int .i64 2, .int .i64 2, .int .i64 1, .string ⟨#[118, 49]⟩,
    .int .i64 1, .int .i64 0, .int .i64 2, .string ⟨#[]⟩, .int .i64 2, .int .i64 1, .int .i64 2, .string ⟨#[118, 50]⟩, .int .i64 2, .int .i64 2, .int .i64 2, .string ⟨#[118, 50]⟩] 48) = wA from hwA]
  clear hwA kA b14 b9A K9
  refine HS.out.mono ?_
  rintro e wB ⟨rfl, b16⟩
  have b17 := Below.next b15 b16
  clear b15 b16 HS
  go_wp2_with fail
  go_ret
  exact ⟨rfl, b17⟩
end Go.Proofs.YtgfjmplifmbmlaaDoor
namespace Go.Proofs.YtgfjmplifmbmlaaDoor
open Go.RowKit Go.ChangeShapes Go.WideShapes Go.Deep

section
variable {H : Type} {enc : TypeId × Value → H} {P : Program} {w : World} {base : Nat} {spare : Nat → Bool} {held : Bool}
theorem open_slice_fields {t e : TypeId} {fs : Array Field} {fuel : Nat} {cs : List Value} {x : DataW H × List MemPlace} (ht : P.underlying t = some (.slice e)) (he : P.underlying e = some (.struct fs))
    (hone : oneCellFields P fs = true) (hC : P.cellsOf e = fs.size) (h : DataW.trod enc P w base spare held fuel t cs = some x) :
    (cs = [.slice none 0 0] ∧ x = (.nil, [])) ∨
    ∃ (a : Addr) (len cap m : Nat) (D : Nat → DataW H) (Pl : Nat → List MemPlace), cs = [.slice (some a) len cap] ∧ base ≤ a.block ∧ len ≤ cap ∧ cap ≤ maxLen ∧ m = (if spare a.block then cap else len) ∧
      x = (.slice ((List.range len).map D) ((List.range (m - len)).map fun j => D (len + j)), MemPlace.row a (m * fs.size) ++ (List.range m).flatMap Pl) ∧
      ∀ i, i < m → ∃ (ys : List (DataW H × List MemPlace)) (n : Nat), D i = .agg (ys.map (·.1)) ∧ Pl i = ys.flatMap (·.2) ∧ ys.length = fs.size ∧
        ∀ (j : Nat) (f : Field), fs[j]? = some f → ∃ (v : Value) (y : DataW H × List MemPlace), w.cell? (a.add (i * fs.size + j)) = some v ∧ ys[j]? = some y ∧ DataW.trod enc P w base spare held n f.type [v] = some y := by
  rcases open_slice ht h with h0 | ⟨a, len, cap, m, n, D, Pl, hcs, hb, hl, hm, hmm, hx, hi⟩
  · exact .inl h0
  · refine .inr ⟨a, len, cap, m, D, Pl, hcs, hb, hl, hm, hmm, by rw [hC] at hx; exact hx, fun i him => ?_⟩
    obtain ⟨cs', hc, ht'⟩ := hi i him
    rw [hC] at hc
    obtain ⟨ys, n', hn', hy, hlen, hyl, hf⟩ := DataW.trod_struct he ht'
    obtain ⟨_, hcl, hat⟩ := World.cells?_some hc
    simp only [Prod.mk.injEq] at hy
    refine ⟨ys, n', hy.1, hy.2, hyl, fun j f hj => ?_⟩
    obtain ⟨ho, hk⟩ := hone_of hone j f hj
    have hjl : j < fs.size := (Array.getElem?_eq_some_iff.1 hj).1
    have hcell := hat j hjl
    have hv : cs'[j]? = some (cs'[j]'(by omega)) := List.getElem?_eq_getElem (by omega)
    have h1 := hf j f hj
    rw [ho, hk] at h1
    have hone' : (cs'.drop j).take 1 = [cs'[j]'(by omega)] := by
      rw [List.drop_eq_getElem_cons (by omega)]
      rfl
    rw [hone'] at h1
    have hys : ys[j]? = some (ys[j]'(by omega)) := List.getElem?_eq_getElem (by omega)
    refine ⟨_, _, ?_, hys, h1.trans hys⟩
    rw [← Go.Deep.add_add, hcell, hv]
end

theorem list_of {α : Type} {Q : Nat → α → Prop} : ∀ n, (∀ i, i < n → ∃ r, Q i r) → ∃ L : List α, L.length = n ∧ ∀ i r, L[i]? = some r → Q i r := by
  intro n
  induction n with
  | zero => intro _; exact ⟨[], rfl, fun i r h => by simp at h⟩
  | succ n ih =>
    intro h
    obtain ⟨L, hl, hL⟩ := ih (fun i hi => h i (by omega))
    obtain ⟨r, hr⟩ := h n (by omega)
    refine ⟨L ++ [r], by simp [hl], fun i q hq => ?_⟩
    by_cases hi : i < n
    · rw [List.getElem?_append_left (by omega)] at hq; exact hL i q hq
    · have := (List.getElem?_eq_some_iff.1 hq).1
      simp at this
      obtain rfl : i = n := by omega
      rw [List.getElem?_append_right (by omega), hl, Nat.sub_self] at hq
      cases hq; exact hr

theorem addr_plain {W : World} {a : Addr} {v : Value} (h : W.cell? (a.add 0) = some v) : a = ⟨a.block, a.off, none⟩ := by
  have : a.add 0 = a := by simp [Addr.add]
  rw [this] at h
  unfold World.cell? at h
  cases hs : a.spot with
  | none => cases a; simp_all
  | some s => rw [hs] at h; split at h <;> simp at h

/-- elements of k cells out of their cells -/
theorem rdK_of {α : Type} (k : Nat) (hk0 : 0 < k) (enc : α → List Value) (hk : ∀ x, (enc x).length = k) {W : World} {a : Addr} {len cap : Nat} (hl : len ≤ cap) (hm : cap ≤ maxLen) (L : List α) (hn : L.length = len)
    (h : ∀ i x, L[i]? = some x → ∀ j, j < k → W.cell? (a.add (i * k + j)) = (enc x)[j]?) : RdK k W (some a) len cap (L.flatMap enc) := by
  refine ⟨by rw [flat_len k enc hk, hn], hl, hm, fun h => (by cases h), fun hn0 => ?_⟩
  obtain ⟨x0, hx0⟩ : ∃ x, L[0]? = some x := ⟨_, List.getElem?_eq_getElem (by omega)⟩
  have h0 := h 0 x0 hx0 0 hk0
  rw [Nat.zero_mul, Nat.zero_add, List.getElem?_eq_getElem (by rw [hk]; exact hk0)] at h0
  have ha := addr_plain h0
  refine ⟨a.block, a.off, by rw [← ha], fun i v hv => ?_⟩
  have hi := (List.getElem?_eq_some_iff.1 hv).1
  rw [flat_len k enc hk, hn] at hi
  have hq : i / k < len := Nat.div_lt_of_lt_mul (by rw [Nat.mul_comm]; exact hi)
  obtain ⟨x, hx⟩ : ∃ x, L[i / k]? = some x := ⟨_, List.getElem?_eq_getElem (by omega)⟩
  have hmod := Nat.mod_lt i hk0
  have h1 := h (i / k) x hx (i % k) hmod
  have h2 := flat_at k enc hk L (i / k) (i % k) x hx hmod
  have e : i / k * k + i % k = i := by rw [Nat.mul_comm]; exact Nat.div_add_mod i k
  rw [e] at h1 h2
  rw [hv] at h2
  rw [ha, Addr.add_lit] at h1
  rw [h1, ← h2]

def IsReps (W : World) (a : Option Addr) (n c : Nat) (L : List Rep) : Prop := RdK 3 W a n c (L.flatMap repC) ∧ ∀ r ∈ L, r.value.size ≤ maxLen
theorem open_reps {H : Type} {enc : TypeId × Value → H} {w : World} {base : Nat} {spare : Nat → Bool} {held : Bool} {fuel : Nat} {cs : List Value} {x : DataW H × List MemPlace} (h : DataW.trod enc Tryd.prog w base spare held fuel 23 cs = some x) :
    ∃ a n c L, cs = [.slice a n c] ∧ IsReps w a n c L := by
  rcases open_slice_fields Tryd.underlying23 Tryd.underlying33 (by kernel_rfl) (by kernel_rfl) h with ⟨hcs, _⟩ | ⟨a, len, cap, m, D, Pl, hcs, _, hl, hm, hmm, _, hi⟩
  · exact ⟨none, 0, 0, [], hcs, RdK.none_ _ _, fun r hr => by cases hr⟩
  · have hlm : len ≤ m := by rw [hmm]; split <;> omega
    obtain ⟨L, hL1, hL2⟩ := list_of (α := Rep) (Q := fun i r => (∀ j, j < 3 → w.cell? (a.add (i * 3 + j)) = (repC r)[j]?) ∧ r.value.size ≤ maxLen) len (fun i hil => by
      obtain ⟨ys, n, _, _, _, hf⟩ := hi i (by omega)
      obtain ⟨v0, y0, c0, _, t0⟩ := hf 0 _ rfl
      obtain ⟨v1, y1, c1, _, t1⟩ := hf 1 _ rfl
      obtain ⟨v2, y2, c2, _, t2⟩ := hf 2 _ rfl
      obtain ⟨z0, e0, _, _⟩ := DataW.trod_int Tryd.underlying3 t0
      obtain ⟨z1, e1, _, _⟩ := DataW.trod_int Tryd.underlying3 t1
      obtain ⟨z2, e2, _, hz2⟩ := DataW.trod_string Tryd.underlying9 t2
      cases e0; cases e1; cases e2
      refine ⟨⟨z0, z1, z2⟩, fun j hj => ?_, hz2⟩
      match j, hj with
      | 0, _ => exact c0
      | 1, _ => exact c1
      | 2, _ => exact c2)
    refine ⟨some a, len, cap, L, hcs, rdK_of 3 (by decide) repC repC_len hl hm L hL1 (fun i x hx j hj => (hL2 i x hx).1 j hj), fun r hr => ?_⟩
    obtain ⟨i, hi⟩ := List.mem_iff_getElem?.1 hr
    exact (hL2 i r hi).2
end Go.Proofs.YtgfjmplifmbmlaaDoor
namespace Go.Proofs.YtgfjmplifmbmlaaDoor
open Go.RowKit

inductive IsInts (k : IntKind) (W : World) : Option Addr → Nat → Nat → List Int → Prop
  | nil : IsInts k W none 0 0 []
  | row {a : Addr} {len cap : Nat} {zs : List Int} (hl : len ≤ cap) (hm : cap ≤ maxLen) (hz : zs.length = cap)
      (hcell : ∀ i, i < zs.length → W.cell? (a.add i) = some (.int k (zs.getD i 0))) (hwz : ∀ n ∈ zs, (Lit.int k n).wf = true) : IsInts k W (some a) len cap (zs.take len)

theorem IsInts.rd {k : IntKind} {W : World} {a : Option Addr} {n c : Nat} {l : List Int} (h : IsInts k W a n c l) : Rd W a n c (l.map (Value.int k)) := by
  cases h with
  | nil => exact Rd.none_ W
  | @row a len cap zs hl hm hz hcell hwz =>
    refine ⟨by simp; omega, hl, hm, fun h => (by cases h), fun hn => ?_⟩
    have h0 := hcell 0 (by omega)
    have ha : a = ⟨a.block, a.off, none⟩ := by
      have : a.add 0 = a := by simp [Addr.add]
      rw [this] at h0
      unfold World.cell? at h0
      cases hs : a.spot with
      | none => cases a; simp_all
      | some s => rw [hs] at h0; split at h0 <;> simp at h0
    refine ⟨a.block, a.off, by rw [← ha], fun i v hv => ?_⟩
    have hi := (List.getElem?_eq_some_iff.1 hv).1
    have hi : i < n ∧ i < zs.length := by simp at hi; omega
    have h1 := hcell i (by omega)
    rw [ha] at h1
    rw [Addr.add_lit] at h1
    rw [h1]
    rw [List.getElem?_map, List.getElem?_take_of_lt hi.1, List.getElem?_eq_getElem hi.2] at hv
    simp at hv
    simp [List.getD, List.getElem?_eq_getElem hi.2, hv]
theorem IsInts.wf {k : IntKind} {W : World} {a : Option Addr} {n c : Nat} {l : List Int} (h : IsInts k W a n c l) : ∀ z ∈ l, (Lit.int k z).wf = true := by
  cases h with
  | nil => intro z hz; cases hz
  | row hl hm hz hcell hwz => exact fun z hz => hwz z (List.mem_of_mem_take hz)
theorem IsInts.len {k : IntKind} {W : World} {a : Option Addr} {n c : Nat} {l : List Int} (h : IsInts k W a n c l) : l.length = n := by
  cases h with
  | nil => rfl
  | row hl hm hz hcell hwz => simp; omega
end Go.Proofs.YtgfjmplifmbmlaaDoor
namespace Go.Proofs.YtgfjmplifmbmlaaDoor
open Go.RowKit Go.Shelf

theorem sets_of {W : World} {a : Option Addr} {n c : Nat} {l : List Int} (h : IsInts .u16 W a n c l) : ∃ L : List (BitVec 16), Rd W a n c (L.map setV2) ∧ L.length = n := by
  have hr := h.rd
  have hw := h.wf
  have : ∃ L : List (BitVec 16), l = L.map U := by
    clear hr h
    induction l with
    | nil => exact ⟨[], rfl⟩
    | cons x l ih =>
      obtain ⟨L, rfl⟩ := ih (fun z hz => hw z (List.mem_cons_of_mem _ hz))
      obtain ⟨y, rfl⟩ : ∃ y, x = U y := by
        have h := hw x (by simp)
        apply U_of
        simp [Lit.wf, IntKind.min, IntKind.max, IntKind.bits, IntKind.signed] at h
        omega
      exact ⟨y :: L, rfl⟩
  obtain ⟨L, rfl⟩ := this
  refine ⟨L, by rw [List.map_map] at hr; exact hr, by have := h.len; simpa using this⟩

set_option maxRecDepth 100000 in
set_option maxHeartbeats 4000000 in
theorem singlePick_w (a : Option Addr) (len cap : Nat) (z : List Int) (bal : Int) (a2 : Option Addr) (len2 cap2 : Nat) (z2 : List Rep) (w : World) (ht : HasTab w) (w0 : IsInts .u16 w a len cap z) (_ : (Lit.int .i64 bal).wf = true) (w2 : IsReps w a2 len2 cap2 z2) :
    Calls Tryd.prog 3 #[.slice a len cap, .int .i64 bal, .slice a2 len2 cap2] w fun e w' => e = .returned (.bool true) ∧ Below w.heap.size w w' := by
  obtain ⟨L, hL, hlen⟩ := sets_of w0
  have h2 := w2.1
  have HT := Lib.hid ht
  have HL := Lib.hid hL
  have H2 := Lib.hid h2
  have HA := Lib.hid (fun w h => awake37_c w h)
  clear w0 w2 hL h2 ht hlen
  by_cases hc : (15 : Int) < (len : Int)
  · have hd : decide ((15 : Int) < (len : Int)) = true := decide_eq_true hc
    clear hc
    go_enter Tryd.func3, Tryd.ntmps3
    go_wp2_with fail
    refine (HA.out w HT.out).mono ?_
    rintro e w1 ⟨rfl, b1⟩
    go_wp2_with fail
    refine (HA.out w1 (HT.out.below b1)).mono ?_
    rintro e w2 ⟨rfl, b2⟩
    go_wp2_with fail
    go_ret
    exact ⟨rfl, Below.next b1 b2⟩
  · have hd : decide ((15 : Int) < (len : Int)) = false := decide_eq_false hc
    by_cases hc2 : (15 : Int) < (len2 : Int)
    · have hd2 : decide ((15 : Int) < (len2 : Int)) = true := decide_eq_true hc2
      clear hc hc2
      go_enter Tryd.func3, Tryd.ntmps3
      go_wp2_with fail
      refine (HA.out w HT.out).mono ?_
      rintro e w1 ⟨rfl, b1⟩
      go_wp2_with fail
      refine (HA.out w1 (HT.out.below b1)).mono ?_
      rintro e w2 ⟨rfl, b2⟩
      go_wp2_with fail
      go_ret
      exact ⟨rfl, Below.next b1 b2⟩
    · have hd2 : decide ((15 : Int) < (len2 : Int)) = false := decide_eq_false hc2
      have HC := Lib.hid (fun w h => clones_c L a len cap w h (by omega))
      have HC2 := Lib.hid (fun w h => cloner_c z2 a2 len2 cap2 w h (by omega))
      obtain ⟨⟨pv, pe⟩, hp⟩ : ∃ p, pickS L bal z2 = p := ⟨_, rfl⟩
      have HP := Lib.hid (fun a n c a2 n2 c2 w h h2 => Pick_c L bal z2 a n c a2 n2 c2 w h h2)
      have HQ := Lib.hid (fun a n c a2 n2 c2 w h h2 => rPick_c L bal z2 a n c a2 n2 c2 w h h2)
      rw [hp] at HP HQ
      clear hc hc2 hp
      go_enter Tryd.func3, Tryd.ntmps3
      go_wp2_with fail
      refine (HA.out w HT.out).mono ?_
      rintro e w1 ⟨rfl, b1⟩
      go_wp2_with fail
      refine (HC.out w1 (HL.out.below b1)).mono ?_
      rintro e w2 ⟨a3, c3, rfl, r3, b2⟩
      have b3 := Below.next b1 b2
      have R3 := Lib.hid r3
      clear r3 b1 b2 HC
      go_wp2_with fail
      refine (HC2.out w2 (H2.out.below b3)).mono ?_
      rintro e w3 ⟨a4, c4, rfl, r4, b4⟩
      have b5 := Below.next b3 b4
      have R4 := Lib.hid r4
      have R3' := Lib.hid (R3.out.below b4)
      clear r4 b3 b4 HC2 R3
      go_wp2_with fail
      refine (HP.out a3 len c3 a4 len2 c4 w3 R3'.out R4.out).mono ?_
      rintro e w4 ⟨rfl, b6⟩
      have b7 := Below.next b5 b6
      clear b5 b6 HP
      go_wp2_with fail
      refine (HQ.out a len cap a2 len2 cap2 w4 (HL.out.below b7) (H2.out.below b7)).mono ?_
      rintro e w5 ⟨rfl, b8⟩
      have b9 := Below.next b7 b8
      clear b7 b8 HQ
      go_wp2_with fail
      go_ret
      exact ⟨ret_bool (by simp), b9⟩
end Go.Proofs.YtgfjmplifmbmlaaDoor
namespace Go.Proofs.YtgfjmplifmbmlaaDoor
open Go.RowKit Go.Shelf

theorem Tryd.infoAcc : (Tryd.prog.info? 96).map (fun i => (i.zero, i.size, i.bytes)) = some (some (.agg #[.int .i64 0, .int .i64 0, .string ⟨#[]⟩]), 3, 32) := by kernel_rfl
theorem make_acc (m : Nat) (hm : m ≤ 1000000) : ∀ w, (Instr.makeSlice 90 (.int .i64 m) (.int .i64 m)).run Tryd.prog w = .ok (.slice (some ⟨w.heap.size, 0, none⟩) m m) (w.alloc (.cells (madeCells #[.int .i64 0, .int .i64 0, .string ⟨#[]⟩] (m * 3)) 96)) := by
  intro w
  obtain ⟨i, hi1, hi2, hi3, hi4⟩ := info_parts Tryd.infoAcc
  have := run_make (P := Tryd.prog) w 90 96 i _ Tryd.underlying90 hi1 hi2 .i64 .i64 m m (by omega) (Int.le_refl _) (by rw [hi4]; omega) (by omega)
  rw [hi3] at this
  simp only [Int.toNat_natCast] at this
  exact this

set_option maxRecDepth 100000 in
set_option maxHeartbeats 1000000 in
theorem begin_c (m : Nat) (hm : m ≤ 12) (a : Option Addr) (n c : Nat) (w : World) :
    Calls Tryd.prog 36 #[.slice a n c, .int .i64 m] w fun e w' => e = .returned (.pointer (some ⟨w.heap.size + 3, 0, none⟩)) ∧
      w' = (((w.alloc (.cells (madeCells #[.int .i64 0, .int .i64 0, .string ⟨#[]⟩] (m * 3)) 96)).alloc (.map #[] 0)).alloc (.map #[] 0)).alloc (.cells #[.slice a n c, .slice (some ⟨w.heap.size, 0, none⟩) m m, .map (some (w.heap.size + 1)), .map (some (w.heap.size + 2))] 94) := by
  have hmk := make_acc m (by omega)
  have hmm : ∀ (t : TypeId) (w : World), (Instr.makeMap t none).run Tryd.prog w = .ok (.map (some w.heap.size)) (w.alloc (.map #[] 0)) := fun _ _ => rfl
  go_enter Tryd.func36, Tryd.ntmps36
  go_wp2_with fail
  go_ret
  exact ⟨rfl, rfl⟩

theorem chk_out {nn : Int} {Ls : List (List (BitVec 16))} (h : nn < 1 ∨ 12 < nn) : chkS nn Ls = 7 := by unfold chkS; rw [if_pos h]
theorem sup_nil : supS [] = 0#16 := rfl
theorem chk_nil (nn : Int) (f : List (BitVec 16)) : chkS nn [f, []] = chkS nn [f] := by
  by_cases h : nn < 1 ∨ 12 < nn
  · rw [chk_out h, chk_out h]
  · obtain ⟨m, rfl⟩ := Int.eq_ofNat_of_zero_le (by omega : 0 ≤ nn)
    rw [chk2 m (by omega) (by omega)]
    have hv : valS [] = 0 := by decide +kernel
    have ho : offB m [] = false := by unfold offB; rw [sup_nil]; simp [shrS]
    have hz : hasZ [] = false := rfl
    unfold chkS
    rw [if_neg h]
    have hm : ((m : Nat) : Int).toNat = m := by omega
    have e : firstE (fun j => valS ([f].getD j [])) [f].length = valS f := by
      by_cases hf : valS f = 0
      · rw [hf]; exact firstE_none _ _ (fun j hj => by
          match j, hj with
          | 0, _ => exact hf)
      · exact firstE_hit (fun j => valS ([f].getD j [])) 1 0 (by decide) (fun j hj => by omega) hf
    rw [e, hv, ho, hz, hm]
    simp
theorem valS_kinds (l : List (BitVec 16)) : valS l = 0 ∨ valS l = 1 ∨ valS l = 3 ∨ valS l = 7 := by
  have hk : ∀ k, e1 l k = 0 ∨ e1 l k = 1 ∨ e1 l k = 7 := by
    intro k; unfold e1; split
    · exact .inr (.inr rfl)
    · split
      · exact .inr (.inl rfl)
      · exact .inl rfl
  have hf : firstE (e1 l) l.length = 0 ∨ firstE (e1 l) l.length = 1 ∨ firstE (e1 l) l.length = 7 := by
    unfold firstE
    cases h : ((List.range l.length).map (e1 l)).find? (fun x => x != 0) with
    | none => exact .inl rfl
    | some v =>
      have := List.mem_of_find?_eq_some h
      obtain ⟨j, _, rfl⟩ := List.mem_map.1 this
      exact hk j
  unfold valS
  split
  · exact .inr (.inr (.inl rfl))
  · split
    · rcases hf with h | h | h
      · rename_i _ h2; exact absurd h h2
      · exact .inr (.inl h)
      · exact .inr (.inr (.inr h))
    · split
      · exact .inr (.inl rfl)
      · exact .inl rfl
theorem chk1_kinds (nn : Int) (f : List (BitVec 16)) : chkS nn [f] ≠ 13 ∧ (valS f ≠ 0 → chkS nn [f] ≠ 0) := by
  rw [← chk_nil]
  by_cases h : nn < 1 ∨ 12 < nn
  · rw [chk_out h]; exact ⟨by decide, fun _ => by decide⟩
  · obtain ⟨m, rfl⟩ := Int.eq_ofNat_of_zero_le (by omega : 0 ≤ nn)
    rw [chk2 m (by omega) (by omega)]
    have hv : valS [] = 0 := by decide +kernel
    rw [hv]
    have hk := valS_kinds f
    constructor
    · split
      · omega
      · split
        · rename_i h; exact absurd rfl h
        · split
          · decide
          · split <;> decide
    · intro hf
      rw [if_pos hf]; exact hf

set_option maxRecDepth 100000 in
set_option maxHeartbeats 2000000 in
theorem run_err (read write : List (BitVec 16)) (nn : Int) (a : Option Addr) (n c : Nat) (a2 : Option Addr) (n2 c2 : Nat) (a3 : Option Addr) (n3 c3 : Nat) (w : World) (h : Rd w a n c (read.map setV2)) (h2 : Rd w a2 n2 c2 (write.map setV2)) (he : chkS nn [read, write] ≠ 0) :
    Calls Tryd.prog 16 #[.slice a n c, .slice a2 n2 c2, .int .i64 nn, .slice a3 n3 c3] w fun e w' => e = .returned (.tuple #[.slice none 0 0, .int .i64 (chkS nn [read, write])]) ∧ Below w.heap.size w w' := by
  have hb0 : Below w.heap.size w (w.alloc (.cells #[.slice a n c, .slice a2 n2 c2] 22)) := (Below.refl _ w).alloc (Nat.le_refl _) _
  have hss : RdSS (w.alloc (.cells #[.slice a n c, .slice a2 n2 c2] 22)) (some ⟨w.heap.size, 0, none⟩) 2 2 [read, write] := by
    refine ⟨[.slice a n c, .slice a2 n2 c2], Rd.lit _ _ _ 2 _ rfl rfl (by decide), rfl, fun i L hi => ?_⟩
    match i, hi with
    | 0, hi => cases hi; exact ⟨a, n, c, rfl, h.below hb0⟩
    | 1, hi => cases hi; exact ⟨a2, n2, c2, rfl, h2.below hb0⟩
    | i + 2, hi => simp at hi
  have HC := Lib.hid (check_c nn [read, write] _ 2 2 _ hss)
  have HB0 := Lib.hid hb0
  obtain ⟨v, hv⟩ : ∃ v, chkS nn [read, write] = v := ⟨_, rfl⟩
  have HV := Lib.hid hv
  rw [hv] at HC he
  have hv1 : (v != 0) = true := by simpa using he
  clear h h2 hss hb0 hv he
  go_enter Tryd.func16, Tryd.ntmps16
  go_wp2_with fail
  refine HC.out.mono ?_
  rintro e w1 ⟨rfl, hb1⟩
  have hb2 := Below.next HB0.out (by exact hb1)
  clear hb1
  go_wp2_with fail
  go_ret2
  exact ⟨by rw [HV.out]; rfl, hb2⟩

def or13 (e : Int) : Int := if e = 0 then 13 else e
set_option maxRecDepth 100000 in
set_option maxHeartbeats 2000000 in
theorem check_nil (read : List (BitVec 16)) (nn : Int) (a : Option Addr) (n c : Nat) (w : World) (h : Rd w a n c (read.map setV2)) :
    Calls Tryd.prog 19 #[.slice a n c, .int .i64 nn, .slice none 0 0] w fun e w' => e = .returned (.tuple #[.int .i64 0, .int .i64 (or13 (chkS nn [read]))]) ∧ Below w.heap.size w w' := by
  have hb0 : Below w.heap.size w (w.alloc (.cells #[.slice a n c] 22)) := (Below.refl _ w).alloc (Nat.le_refl _) _
  have hss : RdSS (w.alloc (.cells #[.slice a n c] 22)) (some ⟨w.heap.size, 0, none⟩) 1 1 [read] := by
    refine ⟨[.slice a n c], Rd.lit _ _ _ 1 _ rfl rfl (by decide), rfl, fun i L hi => ?_⟩
    match i, hi with
    | 0, hi => cases hi; exact ⟨a, n, c, rfl, h.below hb0⟩
    | i + 1, hi => simp at hi
  have HC := Lib.hid (check_c nn [read] _ 1 1 _ hss)
  have HB0 := Lib.hid hb0
  clear h hss hb0
  by_cases he : chkS nn [read] = 0
  · have hr : ¬ (nn < 1 ∨ 12 < nn) := fun h => by rw [chk_out h] at he; cases he
    obtain ⟨m, rfl⟩ := Int.eq_ofNat_of_zero_le (by omega : 0 ≤ nn)
    have hV : Hid (or13 (chkS m [read]) = 13) := by show _ = _; unfold or13; rw [if_pos he]
    have HG := Lib.hid (fun w => begin_c m (by omega) a n c w)
    rw [he] at HC
    clear he hr
    go_enter Tryd.func19, Tryd.ntmps19
    go_wp2_with fail
    refine HC.out.mono ?_
    rintro e w1 ⟨rfl, hb1⟩
    have hb2 := Below.next HB0.out (by exact hb1)
    clear hb1
    go_wp2_with fail
    refine (HG.out w1).mono ?_
    rintro e w2 ⟨rfl, hw2⟩
    have hb3 : Below w1.heap.size w1 w2 := by
      rw [hw2]
      exact ((((Below.refl _ w1).alloc (Nat.le_refl _) _).alloc (by simp) _).alloc (by simp; omega) _).alloc (by simp; omega) _
    have hb4 := Below.next hb2 hb3
    clear hw2 hb2 hb3
    go_wp2_with fail
    go_loop [24] (fun i => i = .int .i64 0) (fun i => 0)
    case atStart => rfl
    case round =>
      obtain rfl := hrel
      go_wp2_with fail
      go_ret2
      exact ⟨by rw [hV.out]; rfl, hb4⟩
  · have hV : Hid (or13 (chkS nn [read]) = chkS nn [read]) := by show _ = _; unfold or13; rw [if_neg he]
    obtain ⟨v, hv⟩ : ∃ v, chkS nn [read] = v := ⟨_, rfl⟩
    rw [hv] at HC he hV
    have HV := Lib.hid hv
    have hv1 : (v != 0) = true := by simpa using he
    clear hv he
    go_enter Tryd.func19, Tryd.ntmps19
    go_wp2_with fail
    refine HC.out.mono ?_
    rintro e w1 ⟨rfl, hb1⟩
    have hb2 := Below.next HB0.out (by exact hb1)
    clear hb1
    go_wp2_with fail
    go_ret2
    exact ⟨by rw [HV.out, hV.out]; rfl, hb2⟩

set_option maxRecDepth 100000 in
set_option maxHeartbeats 4000000 in
theorem singleErrors_w (a : Option Addr) (len cap : Nat) (z : List Int) (a2 : Option Addr) (len2 cap2 : Nat) (z2 : List Int) (nn : Int) (w : World) (ht : HasTab w) (w0 : IsInts .u16 w a len cap z) (w1 : IsInts .u16 w a2 len2 cap2 z2) (_ : (Lit.int .i64 nn).wf = true) :
    Calls Tryd.prog 5 #[.slice a len cap, .slice a2 len2 cap2, .int .i64 nn] w fun e w' => e = .returned (.bool true) ∧ Below w.heap.size w w' := by
  obtain ⟨f, hf, hlen⟩ := sets_of w0
  obtain ⟨g, hg, hlen2⟩ := sets_of w1
  have HT := Lib.hid ht
  have HF := Lib.hid hf
  have HG := Lib.hid hg
  have HA := Lib.hid (fun w h => awake37_c w h)
  clear w0 w1 hf hg ht hlen hlen2
  by_cases hc : (20 : Int) < (len : Int)
  · have hd : decide ((20 : Int) < (len : Int)) = true := decide_eq_true hc
    clear hc
    go_enter Tryd.func5, Tryd.ntmps5
    go_wp2_with fail
    refine (HA.out w HT.out).mono ?_
    rintro e w1 ⟨rfl, b1⟩
    go_wp2_with fail
    refine (HA.out w1 (HT.out.below b1)).mono ?_
    rintro e w2 ⟨rfl, b2⟩
    go_wp2_with fail
    go_ret
    exact ⟨rfl, Below.next b1 b2⟩
  · have hd : decide ((20 : Int) < (len : Int)) = false := decide_eq_false hc
    by_cases hc2 : (20 : Int) < (len2 : Int)
    · have hd2 : decide ((20 : Int) < (len2 : Int)) = true := decide_eq_true hc2
      clear hc hc2
      go_enter Tryd.func5, Tryd.ntmps5
      go_wp2_with fail
      refine (HA.out w HT.out).mono ?_
      rintro e w1 ⟨rfl, b1⟩
      go_wp2_with fail
      refine (HA.out w1 (HT.out.below b1)).mono ?_
      rintro e w2 ⟨rfl, b2⟩
      go_wp2_with fail
      go_ret
      exact ⟨rfl, Below.next b1 b2⟩
    · have hd2 : decide ((20 : Int) < (len2 : Int)) = false := decide_eq_false hc2
      have HC := Lib.hid (fun w h => clones_c f a len cap w h (by omega))
      have HC2 := Lib.hid (fun w h => clones_c g a2 len2 cap2 w h (by omega))
      have HV := Lib.hid (fun w h h2 => given_c f g nn a len cap a2 len2 cap2 w h h2)
      have HV2 := Lib.hid (fun w h => given_c f [] nn a len cap none 0 0 w h (Rd.none_ w))
      rw [chk_nil] at HV2
      have HN := Lib.hid (fun a c w h => check_nil f nn a len c w h)
      have HW := Lib.hid (fun w h => valid8_c f a len cap w h)
      obtain ⟨k1, k2⟩ := chk1_kinds nn f
      -- the second half, from any world
      have hend : Hid ((chkS nn [f] = 0 ∧ or13 (chkS nn [f]) = 13 ∧ valS f = 0) ∨ ((chkS nn [f] == 0) = false ∧ or13 (chkS nn [f]) = chkS nn [f] ∧ (chkS nn [f] != 13) = true)) := Lib.hid (by
        by_cases h : chkS nn [f] = 0
        · refine .inl ⟨h, by unfold or13; rw [if_pos h], Classical.byContradiction fun hv => k2 hv h⟩
        · exact .inr ⟨by simpa using h, by unfold or13; rw [if_neg h], by simpa using k1⟩)
      obtain ⟨v2, hv2⟩ : ∃ v, chkS nn [f] = v := ⟨_, rfl⟩
      rw [hv2] at HV2 HN hend
      clear hc hc2 k1 k2 hv2
      by_cases he : chkS nn [f, g] = 0
      · rw [he] at HV
        clear he HC2
        go_enter Tryd.func5, Tryd.ntmps5
        go_wp2_with fail
        refine (HA.out w HT.out).mono ?_
        rintro e w1 ⟨rfl, b1⟩
        go_wp2_with fail
        refine (HV.out w1 (HF.out.below b1) (HG.out.below b1)).mono ?_
        rintro e w2 ⟨rfl, b2⟩
        have b3 := Below.next b1 b2
        clear b1 b2 HV HA
        go_wp2_with fail
        refine (HV2.out w2 (HF.out.below b3)).mono ?_
        rintro e w3 ⟨rfl, b4⟩
        have b5 := Below.next b3 b4
        clear b3 b4 HV2
        go_wp2_with fail
        refine (HC.out w3 (HF.out.below b5)).mono ?_
        rintro e w4 ⟨a4, c4, rfl, r4, b6⟩
        have b7 := Below.next b5 b6
        have R4 := Lib.hid r4
        clear r4 b5 b6 HC
        go_wp2_with fail
        refine (HN.out a4 c4 w4 R4.out).mono ?_
        rintro e w5 ⟨rfl, b8⟩
        have b9 := Below.next b7 b8
        clear b7 b8 HN
        rcases hend.out with ⟨rfl, h2, h3⟩ | ⟨h1, h2, h3⟩
        · rw [h2]
          rw [h3] at HW
          clear h2 h3 hend
          go_wp2_with fail
          refine (HW.out w5 (HF.out.below b9)).mono ?_
          rintro e w6 ⟨rfl, b10⟩
          go_wp2_with fail
          go_ret
          exact ⟨rfl, Below.next b9 b10⟩
        · rw [h2]
          obtain ⟨v3, hv3⟩ : ∃ v, valS f = v := ⟨_, rfl⟩
          rw [hv3] at HW
          clear h2 hend hv3
          go_wp2_with fail
          refine (HW.out w5 (HF.out.below b9)).mono ?_
          rintro e w6 ⟨rfl, b10⟩
          by_cases h0 : v3 = 0
          · subst h0
            go_wp2_with fail
            go_ret
            exact ⟨ret_bool (by simp), Below.next b9 b10⟩
          · have h0' : (v3 == 0) = false := by simpa using h0
            clear h0
            go_wp2_with fail
            go_ret
            exact ⟨ret_bool (by simp [h3]), Below.next b9 b10⟩
      · have HR := Lib.hid (fun a c a2 c2 a3 n3 c3 w h h2 => run_err f g nn a len c a2 len2 c2 a3 n3 c3 w h h2 he)
        have hatt : attS f g nn = ([], chkS nn [f, g]) := by unfold attS; rw [if_pos he]
        have HK := Lib.hid (fun a c a2 c2 w h h2 ht => attack_c f g nn a len c a2 len2 c2 w h h2 ht)
        rw [hatt] at HK
        obtain ⟨v1, hv1⟩ : ∃ v, chkS nn [f, g] = v := ⟨_, rfl⟩
        rw [hv1] at HV HR HK he
        have hv1' : (v1 != 0) = true := by simpa using he
        clear he hatt hv1
        go_enter Tryd.func5, Tryd.ntmps5
        go_wp2_with fail
        refine (HA.out w HT.out).mono ?_
        rintro e w1 ⟨rfl, b1⟩
        go_wp2_with fail
        refine (HV.out w1 (HF.out.below b1) (HG.out.below b1)).mono ?_
        rintro e w2 ⟨rfl, b2⟩
        have b3 := Below.next b1 b2
        clear b1 b2 HV HA
        go_wp2_with fail
        refine (HC.out w2 (HF.out.below b3)).mono ?_
        rintro e w3 ⟨a3, c3, rfl, r3, b4⟩
        have b5 := Below.next b3 b4
        have R3 := Lib.hid r3
        clear r3 b3 b4
        go_wp2_with fail
        refine (HC2.out w3 (HG.out.below b5)).mono ?_
        rintro e w4 ⟨a4, c4, rfl, r4, b6⟩
        have b7 := Below.next b5 b6
        have R4 := Lib.hid r4
        have R3' := Lib.hid (R3.out.below b6)
        clear r4 b5 b6 R3
        go_wp2_with fail
        have b8 : Below w4.heap.size w4 (w4.alloc (.cells #[.int .u8 0, .int .u8 1] 5)) := (Below.refl _ _).alloc (Nat.le_refl _) _
        refine (HR.out a3 c3 a4 c4 _ 2 2 _ (R3'.out.below b8) (R4.out.below b8)).mono ?_
        rintro e w5 ⟨rfl, b9⟩
        have b10 := Below.next (Below.next b7 b8) b9
        clear b7 b8 b9 R3' R4 HR
        go_wp2_with fail
        refine (HC.out w5 (HF.out.below b10)).mono ?_
        rintro e w6 ⟨a6, c6, rfl, r6, b11⟩
        have b12 := Below.next b10 b11
        have R6 := Lib.hid r6
        clear r6 b10 b11
        go_wp2_with fail
        refine (HC2.out w6 (HG.out.below b12)).mono ?_
        rintro e w7 ⟨a7, c7, rfl, r7, b13⟩
        have b14 := Below.next b12 b13
        have R7 := Lib.hid r7
        have R6' := Lib.hid (R6.out.below b13)
        clear r7 b12 b13 R6
        go_wp2_with fail
        refine (HK.out a6 c6 a7 c7 w7 R6'.out R7.out (HT.out.below b14)).mono ?_
        rintro e w8 ⟨a8, c8, rfl, _, b15⟩
        have b16 := Below.next b14 b15
        clear b14 b15 R6' R7 HK
        go_wp2_with fail
        refine (HV2.out w8 (HF.out.below b16)).mono ?_
        rintro e w9 ⟨rfl, b17⟩
        have b18 := Below.next b16 b17
        clear b16 b17 HV2
        go_wp2_with fail
        refine (HC.out w9 (HF.out.below b18)).mono ?_
        rintro e wA ⟨a4, c4, rfl, r4, b6⟩
        have b7 := Below.next b18 b6
        have R4 := Lib.hid r4
        clear r4 b18 b6 HC
        go_wp2_with fail
        refine (HN.out a4 c4 wA R4.out).mono ?_
        rintro e w5 ⟨rfl, b8⟩
        have b9 := Below.next b7 b8
        clear b7 b8 HN
        rcases hend.out with ⟨rfl, h2, h3⟩ | ⟨h1, h2, h3⟩
        · rw [h2]
          rw [h3] at HW
          clear h2 h3 hend
          go_wp2_with fail
          refine (HW.out w5 (HF.out.below b9)).mono ?_
          rintro e w6 ⟨rfl, b10⟩
          go_wp2_with fail
          go_ret
          exact ⟨rfl, Below.next b9 b10⟩
        · rw [h2]
          obtain ⟨v3, hv3⟩ : ∃ v, valS f = v := ⟨_, rfl⟩
          rw [hv3] at HW
          clear h2 hend hv3
          go_wp2_with fail
          refine (HW.out w5 (HF.out.below b9)).mono ?_
          rintro e w6 ⟨rfl, b10⟩
          by_cases h0 : v3 = 0
          · subst h0
            go_wp2_with fail
            go_ret
            exact ⟨ret_bool (by simp), Below.next b9 b10⟩
          · have h0' : (v3 == 0) = false := by simpa using h0
            clear h0
            go_wp2_with fail
            go_ret
            exact ⟨ret_bool (by simp [h3]), Below.next b9 b10⟩
end Go.Proofs.YtgfjmplifmbmlaaDoor
namespace Go.Proofs.YtgfjmplifmbmlaaDoor
open Go.RowKit Go.Maps

def evV (e : Ev) : Value := .agg #[.int .i64 e.kind, .int .i64 e.server, .int .i64 e.ballot, .string e.value]
theorem repE_le (n : Nat) (l : List Ev) (b : Int) (k : Nat) : (repE n l b k).length ≤ 1 := by
  unfold repE
  split
  · split <;> simp
  · simp
theorem repS_le (n : Nat) (l : List Ev) (b : Int) : (repS n l b).length ≤ l.length := by
  unfold repS
  have : ∀ k, (repTo n l b k).length ≤ k := by
    intro k
    induction k with
    | zero => simp [repTo]
    | succ k ih => rw [repTo_succ, List.length_append]; have := repE_le n l b k; omega
  exact this _

theorem add_yes {read : List (BitVec 16)} {ra : Option Addr} {rn rc B m cnt : Nat} {l : List Ev} {f : Lit → Option Value} {e : Ev} (hm : m ≤ 12) (hi : Inv m l) (hl : l.length ≤ 1000) (hcnt : cnt ≤ 1000) (hw : (Lit.int .i64 e.ballot).wf = true) (hf : folS read m l e = true) (w : World) (hr : Rd w ra rn rc (read.map setV2)) (h : StM w B m cnt (.slice ra rn rc) (stOf m l) f) :
    Calls Tryd.prog 38 #[.pointer (some ⟨B + 3, 0, none⟩), evV e] w fun x w' => x = .returned (.bool true) ∧ Below B w w' ∧ ∃ f', StM w' B m (cnt + 1) (.slice ra rn rc) (stOf m (l ++ [e])) f' ∧ Frm B f f' w w' := by
  obtain ⟨hi2, hP⟩ := fol_step hm hi hf
  obtain ⟨k, s, b, x⟩ := e
  unfold folS at hf
  simp only at hf hw
  split at hf
  · cases hf
  · rename_i hr0
    obtain ⟨s', rfl⟩ := Int.eq_ofNat_of_zero_le (by omega : 0 ≤ s)
    have hs : s' < m := by omega
    have hb1 : 1 ≤ b := by omega
    have hc : ¬ ((s' : Int) < 0 ∨ (((stOf m l).acc.length : Nat) : Int) ≤ (s' : Int) ∨ b < 1) := by
      show ¬ ((s' : Int) < 0 ∨ ((repA m l).length : Int) ≤ (s' : Int) ∨ b < 1)
      rw [repA_len]; omega
    unfold addP at hP
    simp only at hP
    rw [if_neg hc] at hP
    split at hf
    · rename_i hk
      subst hk
      have hf0 := hf
      rw [Bool.and_eq_true] at hf
      rw [if_pos rfl, if_pos (by exact hf0)] at hP
      have hx : x = ⟨#[]⟩ := bs_ext (by have := hf.2; unfold emB at this; rw [eq_of_beq this]; decide +kernel)
      subst hx
      have hp : (atS (stOf m l).acc (s' : Int)).prom < b := by have := hf.1; unfold promB at this; show (atS (repA m l) (s' : Int)).prom < b; simpa using this
      injection hP with hP
      rw [← hP]
      exact add1_c B m cnt _ (stOf m l) f s' b hs hb1 hw hm hcnt (by have := repS_le m l b; show (repS m l b).length ≤ 1000; omega) hp w h
    · rename_i hk1
      split at hf
      · rename_i hk
        subst hk
        rw [Bool.and_eq_true, Bool.and_eq_true, Bool.not_eq_true'] at hf
        have hok : okP (valP read (stOf m l) b) x = true := by rw [okP_okD hi hb1]; exact hf.2
        rw [if_neg (by decide), if_pos rfl, if_pos (by rw [hok, Bool.and_true, Bool.and_eq_true, Bool.not_eq_true']; exact hf.1)] at hP
        have hp : (atS (stOf m l).acc (s' : Int)).prom ≤ b := by have := hf.1.1; unfold accpB at this; simp at this; exact this.2
        injection hP with hP
        rw [← hP]
        exact add2_c read ra rn rc B m cnt (stOf m l) f s' b x hs hb1 hw hm hcnt hp hf.1.2 hok w hr h
      · cases hf
theorem add_no {read : List (BitVec 16)} {ra : Option Addr} {rn rc B m cnt : Nat} {l : List Ev} {f : Lit → Option Value} {e : Ev} (hm : m ≤ 12) (hi : Inv m l) (hw : (Lit.int .i64 e.ballot).wf = true) (hf : folS read m l e = false) (w : World) (hr : Rd w ra rn rc (read.map setV2)) (h : StM w B m cnt (.slice ra rn rc) (stOf m l) f) :
    Calls Tryd.prog 38 #[.pointer (some ⟨B + 3, 0, none⟩), evV e] w fun x w' => x = .returned (.bool false) ∧ Below w.heap.size w w' := by
  obtain ⟨k, s, b, x⟩ := e
  unfold folS at hf
  simp only at hf hw
  by_cases hr0 : s < 0 ∨ (m : Int) ≤ s ∨ b < 1
  · exact addn0_c B m cnt _ _ f k s b x hm hr0 w h
  · rw [if_neg hr0] at hf
    obtain ⟨s', rfl⟩ := Int.eq_ofNat_of_zero_le (by omega : 0 ≤ s)
    have hs : s' < m := by omega
    have hb1 : 1 ≤ b := by omega
    by_cases hk1 : k = 1
    · subst hk1
      rw [if_pos rfl] at hf
      refine addn1_c B m cnt _ (stOf m l) f s' b x hs hb1 hm ?_ w h
      show b ≤ (atS (repA m l) (s' : Int)).prom ∨ _
      unfold promB at hf
      by_cases h9 : (atS (repA m l) (s' : Int)).prom < b
      · rw [decide_eq_true h9] at hf; exact .inr (by simpa using hf)
      · exact .inl (by omega)
    · by_cases hk2 : k = 2
      · subst hk2
        rw [if_neg (by decide), if_pos rfl] at hf
        refine addn2_c read ra rn rc B m cnt (stOf m l) f s' b x hs hb1 hw hm ?_ w hr h
        rw [okP_okD hi hb1]; exact hf
      · exact addn9_c B m cnt _ _ f k s' b x hm hs hb1 hk1 hk2 w h

theorem made_acc (m : Nat) (hm : m ≤ 12) : madeCells #[.int .i64 0, .int .i64 0, .string ⟨#[]⟩] (m * 3) = ((List.replicate m acc0).flatMap accC).toArray := by
  apply Array.ext
  · simp [madeCells, flat_len 3 accC accC_len]
  · intro i h1 h2
    have hl : i < m * 3 := by simpa [madeCells] using h1
    obtain ⟨q, r, hr, hi⟩ : ∃ q r, r < 3 ∧ i = q * 3 + r := ⟨i / 3, i % 3, by omega, by omega⟩
    subst hi
    have hq : q < m := by omega
    have hx : (List.replicate m acc0)[q]? = some acc0 := by rw [List.getElem?_replicate, if_pos hq]
    have h3 := flat_at 3 accC accC_len (List.replicate m acc0) q r acc0 hx hr
    have h4 : ((List.replicate m acc0).flatMap accC).toArray[q * 3 + r]? = (accC acc0)[r]? := by simpa using h3
    rw [Array.getElem?_eq_getElem h2] at h4
    have h5 : (accC acc0)[r]? = some ((madeCells #[.int .i64 0, .int .i64 0, .string ⟨#[]⟩] (m * 3))[q * 3 + r]) := by
      simp only [madeCells, Array.getElem_ofFn]
      match r, hr with
      | 0, _ => simp [accC, acc0]
      | 1, _ => simp [accC, acc0, Nat.add_mod]
      | 2, _ => simp [accC, acc0, Nat.add_mod]
    rw [h5] at h4
    exact (Option.some.inj h4).symm
theorem stOf_nil (m : Nat) : stOf m [] = st0 m := rfl
theorem begin_st (m : Nat) (hm : m ≤ 12) (a : Option Addr) (n c : Nat) (w : World) :
    Calls Tryd.prog 36 #[.slice a n c, .int .i64 m] w fun e w' => e = .returned (.pointer (some ⟨w.heap.size + 3, 0, none⟩)) ∧ Below w.heap.size w w' ∧ StM w' w.heap.size m 0 (.slice a n c) (stOf m []) (fun _ => none) := by
  refine (begin_c m hm a n c w).mono fun e w' ⟨h1, h2⟩ => ⟨h1, ?_, ?_⟩
  · rw [h2]; exact ((((Below.refl _ w).alloc (Nat.le_refl _) _).alloc (by simp) _).alloc (by simp; omega) _).alloc (by simp; omega) _
  · rw [made_acc m hm] at h2
    obtain ⟨wA, hA⟩ : ∃ x, w.alloc (.cells ((List.replicate m acc0).flatMap accC).toArray 96) = x := ⟨_, rfl⟩
    obtain ⟨wB, hB⟩ : ∃ x, wA.alloc (.map #[] 0) = x := ⟨_, rfl⟩
    obtain ⟨wC, hC⟩ : ∃ x, wB.alloc (.map #[] 0) = x := ⟨_, rfl⟩
    rw [hA, hB, hC] at h2
    have sA : wA.heap.size = w.heap.size + 1 := by rw [← hA]; simp
    have sB : wB.heap.size = w.heap.size + 2 := by rw [← hB, World.size_alloc, sA]
    have sC : wC.heap.size = w.heap.size + 3 := by rw [← hC, World.size_alloc, sB]
    have bAB : Below wA.heap.size wA wB := by rw [← hB]; exact blA _ _
    have bBC : Below wB.heap.size wB wC := by rw [← hC]; exact blA _ _
    have bCD : Below wC.heap.size wC w' := by rw [h2]; exact blA _ _
    have fB : FM wB Tryd.prog 3 (w.heap.size + 1) 0 (fun _ => none) := by
      have := FM.made wA Tryd.prog 3
      rw [hB, sA] at this; exact this
    have fC : FM wC Tryd.prog 3 (w.heap.size + 2) 0 (fun _ => none) := by
      have := FM.made wB Tryd.prog 3
      rw [hC, sB] at this; exact this
    have hacc : wA.heap[w.heap.size]? = some (.cells ((List.replicate m acc0).flatMap accC).toArray 96 (0, 0)) := by rw [← hA]; exact heap_alloc_new w _
    refine ⟨heap_below bCD (heap_below bBC (heap_below bAB hacc)), by show (repA m []).length = m; rw [repA_len], ?_, (fB.below bBC).below bCD, (fC.below bCD).congr (fun y => rfl), fun b => rfl, fun b b' v v' _ h => (by cases h), fun b r hr => by simp [stOf, repS, repTo] at hr⟩
    have := heap_alloc_new wC (.cells #[.slice a n c, .slice (some ⟨w.heap.size, 0, none⟩) m m, .map (some (w.heap.size + 1)), .map (some (w.heap.size + 2))] 94)
    rw [sC, ← h2] at this
    exact this
end Go.Proofs.YtgfjmplifmbmlaaDoor
