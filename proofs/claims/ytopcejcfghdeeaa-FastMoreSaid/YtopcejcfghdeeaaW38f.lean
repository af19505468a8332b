/- Laws of layer 38: Found. -/
import Derived.Test.YtopcejcfghdeeaaFew
import Derived.Test.YtopcejcfghdeeaaR9d
import Derived.Test.YtopcejcfghdeeaaVot
import Derived.Test.YtopcejcfghdeeaaFnd
namespace Go.Proofs.Ytopcejcfghdeeaa
open Go.RowKit Go.Shelf

theorem u8_bd {W : World} {a : Option Addr} {n c : Nat} {l : List Int} (h : IsInts .u8 W a n c l) : ∀ z ∈ l, 0 ≤ z ∧ z < 256 := fun z hz => by
  have := h.wf z hz
  simp [Lit.wf, IntKind.min, IntKind.max, IntKind.bits, IntKind.signed] at this
  omega
theorem made_min (l : List Int) (hw : ∀ z ∈ l, 0 ≤ z ∧ z < 256) (a : Option Addr) (n c : Nat) (w : World) (h : Rd w a n c (l.map (Value.int .u8))) :
    Calls Try.prog 24 #[.slice a n c] w fun e w' => ∃ ao co, e = .returned (.slice ao (madS l).length co) ∧ Rd w' ao (madS l).length co ((madS l).map setV2) ∧ Below w.heap.size w w' := by
  refine (made9_c l hw a n c w h).mono ?_
  rintro e w' ⟨v, rfl, ho, hb⟩
  obtain ⟨ao, co, rfl, hr⟩ := ho.rdn (madS l).length (by simp)
  exact ⟨ao, co, rfl, hr, hb⟩
theorem min_min (f : List (BitVec 16)) (a : Option Addr) (n c : Nat) (w : World) (h : Rd w a n c (f.map setV2)) :
    Calls Try.prog 23 #[.slice a n c] w fun e w' => ∃ ao co, e = .returned (.slice ao (minS f).length co) ∧ Rd w' ao (minS f).length co ((minS f).map setV2) ∧ Below w.heap.size w w' := by
  refine (minimal9_c f a n c w h).mono ?_
  rintro e w' ⟨v, rfl, ho, hb⟩
  obtain ⟨ao, co, rfl, hr⟩ := ho.rdn (minS f).length (by simp)
  exact ⟨ao, co, rfl, hr, hb⟩
theorem votes_r (l : List Int) (hw : ∀ z ∈ l, 0 ≤ z ∧ z < 256) (a : Option Addr) (n c : Nat) (w : World) (h : Rd w a n c (l.map (Value.int .u8))) :
    Calls Try.prog 26 #[.slice a n c] w fun e w' => ∃ ao co, e = .returned (.slice ao (votsS l).length co) ∧ Rd w' ao (votsS l).length co ((votsS l).map Value.string) ∧ Below w.heap.size w w' := by
  refine (votes_c l hw a n c w h).mono ?_
  rintro e w' ⟨v, rfl, ho, hb⟩
  obtain ⟨ao, co, rfl, hr⟩ := ho.rdn (votsS l).length (by simp)
  exact ⟨ao, co, rfl, hr, hb⟩
theorem pss_len {Q : List (BitVec 16)} {V : List ByteArray} {s : BitVec 16} (ha : argS Q V.length = 0) : pssS Q V s = (posS Q V s, 0) := by unfold pssS; rw [ha]; rfl

set_option maxRecDepth 100000 in
set_option maxHeartbeats 4000000 in
theorem fastFound_w (a : Option Addr) (len cap : Nat) (z : List Int) (a2 : Option Addr) (len2 cap2 : Nat) (z2 : List Int) (a3 : Option Addr) (len3 cap3 : Nat) (z3 : List Int) (w : World) (w0 : IsInts .u8 w a len cap z) (w2 : IsInts .u8 w a2 len2 cap2 z2) (w3 : IsInts .u8 w a3 len3 cap3 z3) :
    Calls Try.prog 6 #[.slice a len cap, .slice a2 len2 cap2, .slice a3 len3 cap3] w fun e w' => e = .returned (.bool true) ∧ Below w.heap.size w w' := by
  have HL1 := Lib.hid w0.rd
  have HL2 := Lib.hid w2.rd
  have HL3 := Lib.hid w3.rd
  have hle3 := w3.rd.le
  have hmx3 := w3.rd.max
  unfold maxLen at hmx3
  have hz3 := w3.len
  have HM1 := Lib.hid (made_min z (u8_bd w0) a len cap w w0.rd)
  have HM2 := Lib.hid (fun w h => made_min z2 (u8_bd w2) a2 len2 cap2 w h)
  have HV := Lib.hid (fun w h => votes_r z3 (u8_bd w3) a3 len3 cap3 w h)
  have HMM1 := Lib.hid (fun a n c w h => min_min (madS z) a n c w h)
  have HMM2 := Lib.hid (fun a n c w h => min_min (madS z2) a n c w h)
  have HA := Lib.hid (fun w => awake38_c w)
  have hvl := votsS_len z3
  rw [hz3] at hvl
  clear w0 w2 w3 hz3
  obtain ⟨R, hR⟩ : ∃ R, minS (madS z) = R := ⟨_, rfl⟩
  obtain ⟨Q, hQ⟩ : ∃ R, minS (madS z2) = R := ⟨_, rfl⟩
  obtain ⟨V, hV⟩ : ∃ R, votsS z3 = R := ⟨_, rfl⟩
  rw [hR] at HMM1
  rw [hQ] at HMM2
  rw [hV] at HV hvl
  obtain ⟨A, hA⟩ : ∃ R, madS z = R := ⟨_, rfl⟩
  obtain ⟨B, hB⟩ : ∃ R, madS z2 = R := ⟨_, rfl⟩
  rw [hA] at HM1 HMM1
  rw [hB] at HM2 HMM2
  obtain ⟨nA, hnA⟩ : ∃ n, A.length = n := ⟨_, rfl⟩
  obtain ⟨nB, hnB⟩ : ∃ n, B.length = n := ⟨_, rfl⟩
  obtain ⟨nR, hnR⟩ : ∃ n, R.length = n := ⟨_, rfl⟩
  obtain ⟨nQ, hnQ⟩ : ∃ n, Q.length = n := ⟨_, rfl⟩
  obtain ⟨nV, hnV⟩ : ∃ n, V.length = n := ⟨_, rfl⟩
  rw [hnA] at HM1
  rw [hnB] at HM2
  rw [hnR] at HMM1
  rw [hnQ] at HMM2
  simp only [hnV] at HV hvl
  have HNR := Lib.hid hnR
  have HNV := Lib.hid hnV
  have HVM := Lib.hid hvl
  clear hvl
  clear hR hQ hV hA hB hnA hnB hnR hnQ hnV
  go_enter Try.func6, Try.ntmps6
  go_wp2_with fail
  refine HM1.out.mono ?_
  rintro e w1 ⟨b1, d1, rfl, r1, c1⟩
  go_wp2_with fail
  refine (HMM1.out _ _ _ _ r1).mono ?_
  rintro e w2 ⟨b2, d2, rfl, r2, c2⟩
  have c3 := Below.next c1 c2
  have R2 := Lib.hid r2
  clear r1 c1 c2 r2 HM1 HMM1
  go_wp2_with fail
  refine (HM2.out _ (HL2.out.below c3)).mono ?_
  rintro e w3 ⟨b3, d3, rfl, r3, c4⟩
  have c5 := Below.next c3 c4
  have R2b := Lib.hid (R2.out.below c4)
  clear c3 c4 R2 HM2
  go_wp2_with fail
  refine (HMM2.out _ _ _ _ r3).mono ?_
  rintro e w4 ⟨b4, d4, rfl, r4, c6⟩
  have c7 := Below.next c5 c6
  have R2c := Lib.hid (R2b.out.below c6)
  have R4 := Lib.hid r4
  clear c5 c6 R2b r3 r4 HMM2
  go_wp2_with fail
  refine (HA.out _).mono ?_
  rintro e w5 ⟨rfl, c8⟩
  have c9 := Below.next c7 c8
  have R2d := Lib.hid (R2c.out.below c8)
  have R4b := Lib.hid (R4.out.below c8)
  clear c7 c8 R2c R4
  by_cases h0 : len3 = 0
  · subst h0
    go_wp2_with fail
    refine (HA.out _).mono ?_
    rintro e w6 ⟨rfl, c10⟩
    have c11 := Below.next c9 c10
    clear c9 c10
    go_wp2_with fail
    go_ret
    exact ⟨rfl, c11⟩
  · have h0b : ((len3 : Int) == 0) = false := by simp; omega
    by_cases h12 : 12 < len3
    · go_wp2_with fail
      refine (HA.out _).mono ?_
      rintro e w6 ⟨rfl, c10⟩
      have c11 := Below.next c9 c10
      clear c9 c10
      go_wp2_with fail
      go_ret
      exact ⟨rfl, c11⟩
    · have HS := Lib.hid (rsafe_c R Q b2 nR d2 b4 nQ d4 w5 R2d.out R4b.out)
      cases hs : ((claT R Q).2.2.2 == 13)
      · rw [hs] at HS
        clear hs
        go_wp2_with fail
        refine HS.out.mono ?_
        rintro e w6 ⟨rfl, c10⟩
        have c11 := Below.next c9 c10
        clear c9 c10
        go_wp2_with fail
        refine (HA.out _).mono ?_
        rintro e w7 ⟨rfl, c12⟩
        have c13 := Below.next c11 c12
        clear c11 c12
        go_wp2_with fail
        go_ret
        exact ⟨rfl, c13⟩
      · rw [hs] at HS
        have hsafe := eq_of_beq hs
        have hv0 : 1 ≤ nV := by have := HVM.out; omega
        have hv1 : nV ≤ 12 := by have := HVM.out; omega
        have HSAFE := Lib.hid hsafe
        clear hs hsafe
        go_wp2_with fail
        refine HS.out.mono ?_
        rintro e w6 ⟨rfl, c10⟩
        have c11 := Below.next c9 c10
        have R2e := Lib.hid (R2d.out.below c10)
        have R4c := Lib.hid (R4b.out.below c10)
        clear c9 c10 R2d R4b HS
        go_wp2_with fail
        refine (HV.out _ (HL3.out.below c11)).mono ?_
        rintro e w7 ⟨b7, d7, rfl, r7, c12⟩
        have c13 := Below.next c11 c12
        have R2f := Lib.hid (R2e.out.below c12)
        have R4d := Lib.hid (R4c.out.below c12)
        have HCH := Lib.hid (chosen_c Q V b4 nQ d4 b7 nV d7 w7 R4d.out r7 (by omega))
        have R7 := Lib.hid r7
        have hck := cho_kinds (Q := Q) (V := V) (args_ok HSAFE.out (by rw [HNV.out]; exact hv0) (by rw [HNV.out]; exact hv1))
        obtain ⟨⟨x, e1⟩, hch⟩ : ∃ p, choS Q V = p := ⟨_, rfl⟩
        rw [hch] at HCH hck
        unfold V2 at HCH
        have HCE := Lib.hid hch
        clear c11 c12 R2e R4c r7 HV hch
        go_wp2_with fail
        refine HCH.out.mono ?_
        rintro e w8 ⟨rfl, c14⟩
        have c15 := Below.next c13 c14
        have R2g := Lib.hid (R2f.out.below c14)
        have R4e := Lib.hid (R4d.out.below c14)
        have R7b := Lib.hid (R7.out.below c14)
        have hle2 := R2g.out.le
        have hmx2 := R2g.out.max
        unfold maxLen at hmx2
        have HCK := Lib.hid hck
        have C15 := Lib.hid c15
        clear c13 c14 R2f R4d R7 HCH hck c15
        go_wp2_with fail
        go_loopw [53] (fun i wr => ∃ k : Nat, k ≤ nR ∧ i = .int .i64 k ∧ Below w8.heap.size w8 wr) (fun i _ => nR - (intOf i).toNat)
        case atStart => exact ⟨0, Nat.zero_le _, rfl, Below.refl _ _⟩
        case round =>
          obtain ⟨k, hk, rfl, hb⟩ := hrel
          by_cases hlt : k < nR
          · have hkl : k < R.length := by have := HNR.out; omega
            obtain ⟨bb, oo, ha, hcell⟩ := (R2g.out.below hb).at' (by omega)
            have hc := hcell k _ (at_cell hkl)
            have hsR : R.getD k 0#16 ∈ R := by rw [getD_at hkl]; exact List.getElem_mem hkl
            obtain ⟨s, hs⟩ : ∃ s, R.getD k 0#16 = s := ⟨_, rfl⟩
            rw [hs] at hc hsR
            have HPO := Lib.hid (possible_c Q V s b4 nQ d4 b7 nV d7 wr (R4e.out.below hb) (R7b.out.below hb) (by omega))
            have HRE := Lib.hid (fun w h h2 => recover_c Q V s b4 nQ d4 b7 nV d7 w h h2 (by omega))
            have hargs := args_ok (R := R) (Q := Q) HSAFE.out (n := V.length) (by rw [HNV.out]; exact hv0) (by rw [HNV.out]; exact hv1)
            rw [pss_len hargs] at HPO
            have hm1 : (posS Q V s).length ≤ 1 := by
              rcases pos_one (R := R) HSAFE.out (V := V) (by rw [HNV.out]; omega) hsR with ⟨x, hx⟩ | hx <;> rw [hx] <;> simp
            have hrk := rec_kinds (R := R) HSAFE.out (V := V) (by rw [HNV.out]; exact hv0) (by rw [HNV.out]; exact hv1) hsR
            have hfd : e1 = 0 → recS Q V s = (x, 0) := fun he => found (R := R) HSAFE.out (by rw [HNV.out]; exact hv0) (by rw [HNV.out]; exact hv1) hsR (by rw [HCE.out, he])
            obtain ⟨m, hm⟩ : ∃ m, (posS Q V s).length = m := ⟨_, rfl⟩
            obtain ⟨⟨y, g⟩, hrec⟩ : ∃ p, recS Q V s = p := ⟨_, rfl⟩
            rw [hrec] at HRE hrk hfd
            unfold V2 at HRE
            simp only [hm] at HPO hm1
            have HB := Lib.hid hb
            subst ha
            clear hcell hs hsR hkl hargs hm hrec hb
            by_cases he : e1 = 0
            · have hyg := hfd he
              subst he
              injection hyg with hy hg
              subst hy hg
              have k1 : (y.toList == y.toList) = true := by simp
              clear hfd hrk
              go_wp2_with fail
              refine HPO.out.mono ?_
              rintro e wA ⟨bA, dA, rfl, rA, cA⟩
              have hbA := Below.next HB.out cA
              clear rA cA HPO
              go_wp2_with fail
              refine (HRE.out _ (R4e.out.below hbA) (R7b.out.below hbA)).mono ?_
              rintro e wB ⟨rfl, cB⟩
              have hbB := Below.next hbA cB
              clear hbA cB HRE
              go_wp2_with fail
              go_roundw
              case rel => exact ⟨k + 1, by omega, by go_num, hbB⟩
              case measure => simp [intOf]; omega
            · have he4 : e1 = 4 := by
                rcases HCK.out with h | h
                · exact absurd h he
                · exact h
              subst he4
              clear hfd he
              have hg12 : (g == 12) = false := by
                rcases hrk with h | h
                · have h' : g = 0 := h
                  subst h'; rfl
                · have h' : g = 4 := h
                  subst h'; rfl
              clear hrk
              go_wp2_with fail
              refine HPO.out.mono ?_
              rintro e wA ⟨bA, dA, rfl, rA, cA⟩
              have hbA := Below.next HB.out cA
              clear rA cA HPO
              go_wp2_with fail
              refine (HRE.out _ (R4e.out.below hbA) (R7b.out.below hbA)).mono ?_
              rintro e wB ⟨rfl, cB⟩
              have hbB := Below.next hbA cB
              clear hbA cB HRE
              go_wp2_with fail
              go_roundw
              case rel => exact ⟨k + 1, by omega, by go_num, hbB⟩
              case measure => simp [intOf]; omega
          · have hbF := Below.next C15.out hb
            rcases HCK.out with h | h
            · have h' : e1 = 0 := h
              subst h'
              clear h
              go_wp2_with fail
              go_ret
              exact ⟨rfl, hbF⟩
            · have h' : e1 = 4 := h
              subst h'
              clear h
              go_wp2_with fail
              go_ret
              exact ⟨rfl, hbF⟩
end Go.Proofs.Ytopcejcfghdeeaa
