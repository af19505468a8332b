/- Layer 38: fast.Recover. -/
import Derived.Test.YtopcejcfghdeeaaRec
namespace Go.Proofs.Ytopcejcfghdeeaa
open Go.RowKit Go.Shelf Go.Sort

set_option maxRecDepth 100000 in
set_option maxHeartbeats 4000000 in
theorem recover_c (q : List (BitVec 16)) (V : List ByteArray) (h : BitVec 16) (a : Option Addr) (n c : Nat) (a2 : Option Addr) (n2 c2 : Nat) (w : World) (hr : Rd w a n c (q.map setV2)) (hr2 : Rd w a2 n2 c2 (V.map Value.string)) (hn : n2 ≤ 100) :
    Calls Try.prog 20 #[.slice a n c, .int .u16 (U h), .slice a2 n2 c2] w fun e w' => e = .returned (V2 (recS q V h)) ∧ Below w.heap.size w w' := by
  have hnl : V.length = n2 := by have := hr2.len; simp at this; omega
  have HR := Lib.hid hr
  have HR2 := Lib.hid hr2
  have HA := Lib.hid (args_c q a n c a2 n2 c2 w hr hn)
  clear hr hr2
  by_cases he : argS q n2 = 0
  · have hC : Hid (recS q V h = recM V h (posS q V h)) := by show _ = _; unfold recS; rw [hnl, he]; rfl
    rw [he] at HA
    have hn12 := args_zero he
    have HN := Lib.hid hnl
    have HC := Lib.hid (fun w hh => count_f V h a2 n2 c2 w (by omega) hh)
    clear he hnl
    go_enter Try.func20, Try.ntmps20
    go_wp2_with fail
    refine HA.out.mono ?_
    rintro e w1 ⟨rfl, b1⟩
    clear HA
    go_wp2_with fail
    refine (HC.out w1 (HR2.out.below b1)).mono ?_
    rintro e w2 ⟨v, rfl, hown, b2⟩
    obtain ⟨al, cl, rfl, hrl⟩ := rdK_of_row hown
    have hb2 := Below.next b1 b2
    obtain ⟨m, hm⟩ : ∃ m, (cntS V h).length = m := ⟨_, rfl⟩
    have hml : (valB V h).length = m := by rw [← hm, cntS_len]
    have hmn : m ≤ n2 := by rw [← hml, valB_len, ← HN.out]; exact valV_le _ _
    rw [hm] at hrl ⊢
    have hlc := hrl.le
    have hlm := hrl.max
    unfold maxLen at hlm
    have HPO := Lib.hid (possible_f q V h a n c al m cl w2 (HR.out.below hb2) hrl hml (by omega))
    have HRL := Lib.hid hrl
    have HM := Lib.hid hml
    have HB2 := Lib.hid hb2
    clear HC b1 b2 hown hm hml hrl hb2
    go_wp2_with fail
    refine HPO.out.mono ?_
    rintro e w3 ⟨v, rfl, hown, b3⟩
    obtain ⟨a3, c3, rfl, hr3⟩ := rd_of_row hown
    have HB3 := Lib.hid (Below.next HB2.out b3)
    have HRL3 := Lib.hid (HRL.out.below b3)
    clear HPO hown b3
    rcases pos_cases (posS q V h) with ⟨x, hx⟩ | ⟨hx2, x, y, r, hx⟩ | hx
    · have hE : Hid (recS q V h = (x, 0)) := by show _ = _; rw [hC.out, hx]; rfl
      rw [hx] at hr3 ⊢
      simp only [List.length_singleton, List.map_cons, List.map_nil] at hr3 ⊢
      obtain ⟨b, o, ha, hcell⟩ := hr3.at' (by decide)
      have hc : w3.cell? ⟨b, o, none⟩ = some (.string x) := hcell 0 _ rfl
      have hl3 := hr3.le
      have hm3 := hr3.max
      unfold maxLen at hm3
      subst ha
      clear hcell hr3 hx hC
      go_wp2_with fail
      exact bodyPost_ret (v := V2 (x, 0)) (by simp [results, Try.results20, go_sem, V2]) rfl ⟨by rw [hE.out], HB3.out⟩
    · have hE : Hid (recS q V h = (⟨#[]⟩, 12)) := by show _ = _; rw [hC.out, hx]; rfl
      obtain ⟨t, ht⟩ : ∃ t, (posS q V h).length = t := ⟨_, rfl⟩
      rw [ht] at hx2 hr3 ⊢
      have hl3 := hr3.le
      have hm3 := hr3.max
      unfold maxLen at hm3
      have hm1 : ((t : Int) == 1) = false := by simp; omega
      clear hr3 hx ht hC
      go_wp2_with fail
      exact bodyPost_ret (v := V2 (⟨#[]⟩, 12)) (by simp [results, Try.results20, go_sem, V2]) rfl ⟨by rw [hE.out], HB3.out⟩
    · have hC2 : Hid (recS q V h = recN V h) := by show _ = _; rw [hC.out, hx]; rfl
      rw [hx]
      simp only [List.length_nil]
      clear hx hC hr3
      by_cases h0 : m = 0
      · have hE : Hid (recS q V h = (⟨#[]⟩, 4)) := by show _ = _; rw [hC2.out]; unfold recN; rw [if_pos (by rw [HM.out]; exact h0)]
        subst h0
        go_wp2_with fail
        exact bodyPost_ret (v := V2 (⟨#[]⟩, 4)) (by simp [results, Try.results20, go_sem, V2]) rfl ⟨by rw [hE.out], HB3.out⟩
      · have hm0 : 1 ≤ m := by omega
        have hmb : ((m : Int) == 0) = false := by simp; omega
        obtain ⟨x, hx⟩ : ∃ x, (valB V h)[0]? = some x := ⟨_, List.getElem?_eq_getElem (by rw [HM.out]; omega)⟩
        obtain ⟨b, o, ha, hcell⟩ := RdK.cells HRL3.out balC_len (by omega)
        have c0 : w3.cell? ⟨b, o, none⟩ = some (.string x) := by have := hcell 0 _ (cnt_at hx) 0 (by omega); rw [Nat.zero_mul] at this; exact this
        have c1 : w3.cell? ⟨b, o + 1, none⟩ = some (.int .u16 (U (votS V x))) := by have := hcell 0 _ (cnt_at hx) 1 (by omega); rw [Nat.zero_mul] at this; exact this
        have HB1 := Lib.hid (bsT_one (by rw [HN.out]; omega) hx)
        obtain ⟨s, hs⟩ : ∃ s, votS V x = s := ⟨_, rfl⟩
        rw [hs] at c1
        have HVX : Hid (votS V x = s) := hs
        subst ha
        clear hcell hx hs
        by_cases hm1 : m = 1
        · subst hm1
          have hE : Hid (recS q V h = (x, 0)) := by show _ = _; rw [hC2.out]; unfold recN; rw [if_neg (by rw [HM.out]; decide), HM.out, HB1.out]
          by_cases hcl1 : cl = 1
          · subst hcl1
            go_wp2_with fail
            obtain ⟨B, hB⟩ : ∃ B, w3.heap.size = B := ⟨_, rfl⟩
            obtain ⟨W, hW⟩ : ∃ W, w3.alloc (.cells #[.string x, .int .u16 (U s)] 65) = W := ⟨_, rfl⟩
            have hbW : Below w.heap.size w W := by rw [← hW]; exact HB3.out.alloc HB3.out.size _
            have g0 : W.cell? ⟨B, 0, none⟩ = some (.string x) := by rw [← hW, ← hB]; exact cell_new _ _ _ 0 _ rfl
            rw [hB, hW]
            clear hW hB
            go_loopw [48] (fun i wr => i = .int .i64 0 ∧ wr = W) (fun i _ => 1)
            case atStart => exact ⟨rfl, rfl⟩
            case round =>
              obtain ⟨rfl, rfl⟩ := hrel
              go_wp2_with fail
              exact bodyPost_ret (v := V2 (x, 0)) (by simp [results, Try.results20, go_sem, V2]) rfl ⟨by rw [hE.out], hbW⟩
          · go_wp2_with fail
            obtain ⟨B, hB⟩ : ∃ B, w3.heap.size = B := ⟨_, rfl⟩
            obtain ⟨W, hW⟩ : ∃ W, w3.alloc (.cells #[.string x, .int .u16 (U s)] 65) = W := ⟨_, rfl⟩
            have hbW : Below w.heap.size w W := by rw [← hW]; exact HB3.out.alloc HB3.out.size _
            have g0 : W.cell? ⟨B, 0, none⟩ = some (.string x) := by rw [← hW, ← hB]; exact cell_new _ _ _ 0 _ rfl
            rw [hB, hW]
            clear hW hB
            go_loopw [48] (fun i wr => i = .int .i64 0 ∧ wr = W) (fun i _ => 1)
            case atStart => exact ⟨rfl, rfl⟩
            case round =>
              obtain ⟨rfl, rfl⟩ := hrel
              go_wp2_with fail
              exact bodyPost_ret (v := V2 (x, 0)) (by simp [results, Try.results20, go_sem, V2]) rfl ⟨by rw [hE.out], hbW⟩
        · have hm2 : 2 ≤ m := by omega
          have hcl1 : ¬ cl = 1 := by omega
          have HHB := Lib.hid (HB1.out)
          rw [HVX.out] at HHB
          clear HB1 HVX
          go_wp2_with fail
          obtain ⟨wo, rfl⟩ : ∃ wo, wo = w3 := ⟨_, rfl⟩
          obtain ⟨B, hB⟩ : ∃ B, wo.heap.size = B := ⟨_, rfl⟩
          obtain ⟨W, hW⟩ : ∃ W, wo.alloc (.cells #[.string x, .int .u16 (U s)] 65) = W := ⟨_, rfl⟩
          have hbW : Below wo.heap.size wo W := by rw [← hW]; exact (Below.refl _ wo).alloc (Nat.le_refl _) _
          have g0 : W.heap[B]? = some (.cells #[.string x, .int .u16 (U s)] 65 (0, 0)) := by rw [← hW, ← hB]; exact heap_alloc_new wo _
          rw [hB, hW]
          have HBE := Lib.hid hB
          have HG0 := Lib.hid g0
          have HBW := Lib.hid hbW
          clear hW hB g0 hbW c0 c1
          go_loopw [48] (fun i wr => ∃ k : Nat, k + 1 ≤ m ∧ i = .int .i64 k ∧ (∃ y t, wr.heap[B]? = some (.cells #[.string y, .int .u16 (U t)] 65 (0, 0)) ∧ Hid (bsT V h (k + 1) = (y, cnt (t &&& h)))) ∧ Below wo.heap.size wo wr) (fun i _ => m - (intOf i).toNat)
          case atStart => exact ⟨0, by omega, rfl, ⟨x, s, HG0.out, HHB⟩, HBW.out⟩
          case round =>
            obtain ⟨k, hk, rfl, ⟨y, t, hg, hbt⟩, hb⟩ := hrel
            by_cases hlt : k < m - 1
            · obtain ⟨x2, hx2⟩ : ∃ x2, (valB V h)[k + 1]? = some x2 := ⟨_, List.getElem?_eq_getElem (by rw [HM.out]; omega)⟩
              obtain ⟨b', o', ha', hcell⟩ := RdK.cells (HRL3.out.below hb) balC_len (by omega)
              have eo : o' + (k + 1) * 2 = o' + 2 + k * 2 := by omega
              have c0 : wr.cell? ⟨b', o' + 2 + k * 2, none⟩ = some (.string x2) := by have := hcell (k + 1) _ (cnt_at hx2) 0 (by omega); rw [eo] at this; exact this
              have c1 : wr.cell? ⟨b', o' + 2 + k * 2 + 1, none⟩ = some (.int .u16 (U (votS V x2))) := by have := hcell (k + 1) _ (cnt_at hx2) 1 (by omega); rw [eo] at this; exact this
              have hst := bsT_succ hx2
              rw [hbt.out] at hst
              unfold bsF at hst
              obtain ⟨s2, hs2⟩ : ∃ s2, votS V x2 = s2 := ⟨_, rfl⟩
              rw [hs2] at c1 hst
              cases ha'
              have hbA : Below wr.heap.size wr (wr.alloc (.cells #[.string x2, .int .u16 (U s2)] 65)) := (Below.refl _ wr).alloc (Nat.le_refl _) _
              have gA := heap_alloc_at hg (.cells #[.string x2, .int .u16 (U s2)] 65)
              have gN : (wr.alloc (.cells #[.string x2, .int .u16 (U s2)] 65)).heap[wr.heap.size]? = some (.cells #[.string x2, .int .u16 (U s2)] 65 (0, 0)) := heap_alloc_new wr _
              have hb3 := Below.next hb hbA
              have HHG := Lib.hid hg
              have hne : B ≠ wr.heap.size := by have := (Array.getElem?_eq_some_iff.1 hg).1; omega
              have hst2 := hst
              clear hcell hx2 hs2 hg hbA eo
              go_wp2_with fail
              obtain ⟨wa, hwa⟩ : ∃ wa, wr.alloc (.cells #[.string x2, .int .u16 (U s2)] 65) = wa := ⟨_, rfl⟩
              obtain ⟨B2, hB2⟩ : ∃ B2, wr.heap.size = B2 := ⟨_, rfl⟩
              rw [hwa, hB2] at gN
              rw [hwa] at gA hb3 ⊢
              rw [hB2] at hne ⊢
              have d0 : wa.cell? ⟨B2, 0, none⟩ = some (.string x2) := cell_of_row _ _ 0 _ _ _ gN
              have d1 : wa.cell? ⟨B2, 1, none⟩ = some (.int .u16 (U s2)) := cell_of_row _ _ 1 _ _ _ gN
              have f0 : wa.cell? ⟨B, 0, none⟩ = some (.string y) := cell_of_row _ _ 0 _ _ _ gA
              have f1 : wa.cell? ⟨B, 1, none⟩ = some (.int .u16 (U t)) := cell_of_row _ _ 1 _ _ _ gA
              have z0 : wa.frozen? ⟨B, 0, none⟩ = false := by simp [World.frozen?, gA]
              have z1 : wa.frozen? ⟨B, 1, none⟩ = false := by simp [World.frozen?, gA]
              have G1 := Lib.hid (fun W => count_c (s2 &&& h) _ W rfl)
              have G2 := Lib.hid (fun W => count_c (t &&& h) _ W rfl)
              obtain ⟨u1, hu1⟩ : ∃ u, cnt (s2 &&& h) = u := ⟨_, rfl⟩
              obtain ⟨u2, hu2⟩ : ∃ u, cnt (t &&& h) = u := ⟨_, rfl⟩
              have hu16 : u1 ≤ 16 := by rw [← hu1]; exact cnt_le _
              have hu16b : u2 ≤ 16 := by rw [← hu2]; exact cnt_le _
              rw [hu1] at G1
              rw [hu2] at G2
              rw [hu1, hu2] at hst
              have HU1 := Lib.hid hu1
              have HU2 := Lib.hid hu2
              have HGA := Lib.hid gA
              have HBA := Lib.hid hb3
              clear hwa gN gA hb3 hu1 hu2 hst2 c0 c1
              by_cases hq : u2 < u1
              · rw [if_pos hq] at hst
                have HST := Lib.hid hst
                clear hst
                go_quiet ((go_at_call 47; first | (with_reducible exact Calls.quiet_of (G1.out _)) | (with_reducible exact Calls.quiet_of (G2.out _))))
                go_wp2_with fail
                go_roundw
                case rel =>
                  have hz := heap_set_at (heap_set_at (w := wa.drewN nq) HGA.out 0 (.string x2)) 1 (.int .u16 (U s2))
                  have hy := ((below_drewN (q := nq) HBA.out).setCell (p := ⟨B, 0, none⟩) (by rw [HBE.out]; exact Nat.le_refl _) (.string x2)).setCell (p := ⟨B, 1, none⟩) (by rw [HBE.out]; exact Nat.le_refl _) (.int .u16 (U s2))
                  exact ⟨k + 1, by omega, by go_num, ⟨x2, s2, hz, by show _ = _; rw [HST.out, HU1.out]⟩, hy⟩
                case measure => simp [intOf]; omega
              · rw [if_neg hq] at hst
                have HST := Lib.hid hst
                clear hst
                go_quiet ((go_at_call 47; first | (with_reducible exact Calls.quiet_of (G1.out _)) | (with_reducible exact Calls.quiet_of (G2.out _))))
                go_wp2_with fail
                go_roundw
                case rel => exact ⟨k + 1, by omega, by go_num, ⟨y, t, HGA.out, by show _ = _; rw [HST.out, HU2.out]⟩, below_drewN HBA.out⟩
                case measure => simp [intOf]; omega
            · have hkm : k + 1 = m := by omega
              have hE : Hid (recS q V h = (y, 0)) := by
                show _ = _
                rw [hC2.out]; unfold recN; rw [if_neg (by rw [HM.out]; exact h0), HM.out, ← hkm, hbt.out]
              have z0 : wr.cell? ⟨B, 0, none⟩ = some (.string y) := cell_of_row _ _ 0 _ _ _ hg
              have hbF := Below.next HB3.out hb
              clear hg hbt
              go_wp2_with fail
              exact bodyPost_ret (v := V2 (y, 0)) (by simp [results, Try.results20, go_sem, V2]) rfl ⟨by rw [hE.out], hbF⟩
  · have hE : Hid (recS q V h = (⟨#[]⟩, argS q n2)) := by show _ = _; unfold recS; rw [hnl, if_pos he]
    obtain ⟨v, hv⟩ : ∃ v, argS q n2 = v := ⟨_, rfl⟩
    rw [hv] at HA hE he
    have hv1 : (v != 0) = true := by simpa using he
    clear hv he
    go_enter Try.func20, Try.ntmps20
    go_wp2_with fail
    refine HA.out.mono ?_
    rintro e w1 ⟨rfl, b1⟩
    go_wp2_with fail
    exact bodyPost_ret (v := V2 (⟨#[]⟩, v)) (by simp [results, Try.results20, go_sem, V2]) rfl ⟨by rw [hE.out], b1⟩
end Go.Proofs.Ytopcejcfghdeeaa
