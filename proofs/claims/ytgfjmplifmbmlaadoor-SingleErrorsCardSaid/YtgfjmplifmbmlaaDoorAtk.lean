/- single.Attack. -/
import Derived.Test.YtgfjmplifmbmlaaDoorSin2
import Derived.Test.YtgfjmplifmbmlaaDoorShelf
namespace Go.Proofs.YtgfjmplifmbmlaaDoor
open Go.RowKit Go.Shelf

theorem Tryd.infoEv : (Tryd.prog.info? 48).map (fun i => (i.zero, i.size, i.bytes)) = some (some (.agg #[.int .i64 0, .int .i64 0, .int .i64 0, .string ⟨#[]⟩]), 4, 40) := by kernel_rfl
theorem cat2 (a b : List UInt8) : (⟨a.toArray⟩ : ByteArray) ++ (⟨b.toArray⟩ : ByteArray) = ⟨(a ++ b).toArray⟩ := by
  apply ByteArray.ext
  simp
theorem dec_small (b : Nat) (h : b < 10) : (Lib.decDigits b).length = 1 := by rw [Lib.decDigits_one h]; rfl

set_option maxRecDepth 100000 in
set_option maxHeartbeats 4000000 in
theorem attack_c (read write : List (BitVec 16)) (nn : Int) (a : Option Addr) (n c : Nat) (a2 : Option Addr) (n2 c2 : Nat) (w : World) (h : Rd w a n c (read.map setV2)) (h2 : Rd w a2 n2 c2 (write.map setV2)) (ht : HasTab w) :
    Calls Tryd.prog 23 #[.slice a n c, .slice a2 n2 c2, .int .i64 nn] w fun e w' => ∃ a' c', e = .returned (.tuple #[.slice a' (attS read write nn).1.length c', .int .i64 (attS read write nn).2]) ∧ RdK 4 w' a' (attS read write nn).1.length c' ((attS read write nn).1.flatMap evC) ∧ Below w.heap.size w w' := by
  have hnl : read.length = n := by have := h.len; simp at this; omega
  have HR := Lib.hid h
  have HR2 := Lib.hid h2
  have HN := Lib.hid hnl
  have HT := Lib.hid ht
  have hb0 : Below w.heap.size w (w.alloc (.cells #[.slice a n c, .slice a2 n2 c2] 22)) := (Below.refl _ w).alloc (Nat.le_refl _) _
  have hss : RdSS (w.alloc (.cells #[.slice a n c, .slice a2 n2 c2] 22)) (some ⟨w.heap.size, 0, none⟩) 2 2 [read, write] := by
    refine ⟨[.slice a n c, .slice a2 n2 c2], Rd.lit _ _ _ 2 _ rfl rfl (by decide), rfl, fun i L hi => ?_⟩
    match i, hi with
    | 0, hi => cases hi; exact ⟨a, n, c, rfl, h.below hb0⟩
    | 1, hi => cases hi; exact ⟨a2, n2, c2, rfl, h2.below hb0⟩
    | i + 2, hi => simp at hi
  have HC := Lib.hid (check_c nn [read, write] _ 2 2 _ hss)
  have HB0 := Lib.hid hb0
  clear h h2 hnl ht hss hb0
  by_cases he : chkS nn [read, write] = 0
  · rw [he] at HC
    have HD := Lib.hid (fun w h h2 => disjoint_c read write a n c a2 n2 c2 w h h2)
    cases hd : disS read write with
    | none =>
      have hA : Hid (attS read write nn = ([], 13)) := by show _ = _; unfold attS; rw [if_neg (by rw [he]; decide), hd]
      have hT : disT read write = (0#16, 0#16, 13) := by unfold disT; rw [hd]
      rw [hT] at HD
      clear hT hd he
      go_enter Tryd.func23, Tryd.ntmps23
      go_wp2_with fail
      refine HC.out.mono ?_
      rintro e w1 ⟨rfl, hb1⟩
      have hb2 := Below.next HB0.out (by exact hb1)
      clear hb1
      go_wp2_with fail
      refine (HD.out w1 (HR.out.below hb2) (HR2.out.below hb2)).mono ?_
      rintro e w2 ⟨rfl, rfl⟩
      go_wp2_with fail
      go_ret2
      rw [hA.out]
      exact ⟨_, _, rfl, RdK.none_ _ _, hb2⟩
    | some p =>
      obtain ⟨r, q⟩ := p
      have hA : Hid (attS read write nn = (atkTo (read.getD 0 0#16) r q 2, 0)) := by show _ = _; unfold attS; rw [if_neg (by rw [he]; decide), hd]
      have hT : disT read write = (r, q, 0) := by unfold disT; rw [hd]
      have hn0 : 0 < n := by have := (dis_mem hd).1; have := List.length_pos_of_mem this; have := HN.out; omega
      have hx0 := at_cell (l := read) (k := 0) (by have := HN.out; omega)
      rw [hT] at HD
      obtain ⟨q0, hq0⟩ : ∃ q0, read.getD 0 0#16 = q0 := ⟨_, rfl⟩
      rw [hq0] at hA hx0
      have HX0 := Lib.hid hx0
      clear hT hd he hx0 hq0
      go_enter Tryd.func23, Tryd.ntmps23
      go_wp2_with fail
      refine HC.out.mono ?_
      rintro e w1 ⟨rfl, hb1⟩
      have hb2 := Below.next HB0.out (by exact hb1)
      clear hb1
      go_wp2_with fail
      refine (HD.out w1 (HR.out.below hb2) (HR2.out.below hb2)).mono ?_
      rintro e w2 ⟨rfl, rfl⟩
      obtain ⟨b, o, ha, hcell⟩ := (HR.out.below hb2).at' hn0
      have hc : w2.cell? ⟨b, o, none⟩ = some (.int .u16 (U q0)) := hcell 0 _ HX0.out
      subst ha
      clear hcell HD HC
      go_wp2_with fail
      obtain ⟨W, hW⟩ : ∃ W, w2.alloc (.cells #[.int .u16 (U q0), .int .u16 (U r)] 30) = W := ⟨_, rfl⟩
      obtain ⟨B, hB⟩ : ∃ B, w2.heap.size = B := ⟨_, rfl⟩
      have g0 : W.cell? ⟨B, 0, none⟩ = some (.int .u16 (U q0)) := by rw [← hW, ← hB]; exact cell_new _ _ _ 0 _ rfl
      have g1 : W.cell? ⟨B, 1, none⟩ = some (.int .u16 (U r)) := by rw [← hW, ← hB]; exact cell_new _ _ _ 1 _ rfl
      have hbW : Below w.heap.size w W := by rw [← hW]; exact hb2.alloc hb2.size _
      have G0 := Lib.hid g0
      have G1 := Lib.hid g1
      have HBW := Lib.hid hbW
      rw [hW, hB]
      clear hW hB g0 g1 hbW hc hb2
      go_loopw [12, 43] (fun v i wr => ∃ (k m : Nat), k ≤ 2 ∧ i = .int .i64 k ∧ m ≤ 32 * k ∧ wr.ownsRow W.heap.size 48 4 v m ((atkTo q0 r q k).flatMap evC) ∧ Hid ((atkTo q0 r q k).length = m) ∧ Below W.heap.size W wr) (fun _ i _ => 2 - (intOf i).toNat)
      case atStart => exact ⟨0, 0, by omega, rfl, by omega, World.ownsRow_nil _ _ _ _, rfl, Below.refl _ _⟩
      case round =>
        obtain ⟨k, m, hk, rfl, hm, hown, hml, hb⟩ := hrel
        by_cases hlt : k < 2
        · obtain ⟨x, hx⟩ : ∃ x, (if k = 0 then q0 else r) = x := ⟨_, rfl⟩
          have hc : wr.cell? ⟨B, k, none⟩ = some (.int .u16 (U x)) := by
            rw [← hx]
            match k, hlt with
            | 0, _ => exact (hb.cell (p := ⟨B, 0, none⟩) (cell_lt G0.out)).trans G0.out
            | 1, _ => exact (hb.cell (p := ⟨B, 1, none⟩) (cell_lt G1.out)).trans G1.out
          have hstep := atkTo_succ q0 r q k hlt
          rw [hx] at hstep
          have HST := Lib.hid hstep
          have HTB : Hid (∀ w', Below W.heap.size W w' → HasTab w') := Lib.hid (fun w' h => HT.out.below (Below.next HBW.out h))
          have HM := Lib.hid (members_c x _ wr rfl (HTB.out wr hb))
          have hcx := cnt_le x
          have hcq := cnt_le q
          clear hstep hx
          go_wp2_with fail
          refine HM.out.mono ?_
          rintro e w1 ⟨mv, rfl, hmo, hb1⟩
          obtain ⟨am, cm, rfl, hr⟩ := hmo.rdn (cnt x) (by simp [cnt])
          have hclr := Clear.own (n := cnt x) hmo hown
          have hown1 := rowK_below hown hb1
          have hb3 := Below.next hb hb1
          have hrl := hr.le
          have hrm := hr.max
          unfold maxLen at hrm
          clear hmo hown hb hb1 HM
          go_wp2_with fail
          go_loopw [12, 51] (fun v i wr => ∃ (j : Nat), j ≤ cnt x ∧ i = .int .i64 j ∧ wr.ownsRow W.heap.size 48 4 v (m + j) ((atkTo q0 r q k ++ ((memS x).take j).map (evP (k + 1))).flatMap evC) ∧ Rd wr am (cnt x) cm ((memS x).map intV) ∧ Clear (cnt x) v am ∧ Below W.heap.size W wr) (fun _ i _ => cnt x - (intOf i).toNat)
          case atStart => exact ⟨0, Nat.zero_le _, rfl, by simpa using hown1, hr, hclr, hb3⟩
          case round =>
            clear hown1 hr hclr hb3
            obtain ⟨j, hj, rfl, hown, hr, hclr, hb⟩ := hrel
            by_cases hlt2 : j < cnt x
            · obtain ⟨i, hi⟩ : ∃ i, (memS x)[j]? = some i := ⟨_, List.getElem?_eq_getElem (show j < (memS x).length from hlt2)⟩
              have hi16 := memS_16 _ _ (List.mem_of_getElem? hi)
              obtain ⟨b, o, hab, hcell⟩ := hr.at' (by omega)
              have hci := hcell j (intV i) (by simp [hi])
              unfold intV at hci
              have HTK := Lib.hid (mem_take_succ (f := evP (k + 1)) hi)
              have HRR := Lib.hid hr
              have HCL := Lib.hid hclr
              subst hab
              clear hcell hi hr hclr
              go_wp2_with (at_builtin; go_must (refine wpList_appK2 4 _ _ 40 40 (.agg #[.int .i64 0, .int .i64 0, .int .i64 0, .string ⟨#[]⟩]) (evC (evP (k + 1) i)) _ Tryd.underlying40 Tryd.infoEv rfl (by decide) hown hb (Nat.le_refl _) rfl rfl rfl rfl rfl (by intro u hu; exact ev_one [evP (k + 1) i] u (by simpa using hu)) (by unfold maxLen; omega) (by omega) ?_))
              intro v' w4 hown4 hb4 hg4 hs4 hv4
              clear hown hb hci
              have hr4 := HRR.out.grown hg4 HCL.out
              have hcl4 := HCL.out.step HRR.out hv4
              go_wp2_with fail
              go_roundw
              case rel => exact ⟨j + 1, by omega, by go_num, by rw [HTK.out, ← List.append_assoc, List.flatMap_append, ← Nat.add_assoc]; simpa using hown4, hr4, hcl4, hb4⟩
              case measure => simp [intOf]; omega
            · have hE : Hid ((memS x).take j = memS x) := List.take_of_length_le (by show cnt x ≤ j; omega)
              have hjx : j = cnt x := by omega
              rw [hE.out] at hown
              have HTQ := Lib.hid (HTB.out wr hb)
              have HM := Lib.hid (members_c q _ wr rfl HTQ.out)
              subst hjx
              have hjx2 : m + cnt x ≤ 32 * k + 16 := by omega
              clear hr hclr hE
              go_wp2_with fail
              refine HM.out.mono ?_
              rintro e w5 ⟨mv, rfl, hmo, hb1⟩
              obtain ⟨am2, cm2, rfl, hr⟩ := hmo.rdn (cnt q) (by simp [cnt])
              have hclr := Clear.own (n := cnt q) hmo hown
              have hown1 := rowK_below hown hb1
              have hb3 := Below.next hb hb1
              have hrl2 := hr.le
              have hrm2 := hr.max
              unfold maxLen at hrm2
              clear hmo hown hb hb1 HM
              go_wp2_with fail
              go_loopw [12, 66] (fun v i wr => ∃ (j : Nat), j ≤ cnt q ∧ i = .int .i64 j ∧ wr.ownsRow W.heap.size 48 4 v (m + cnt x + j) ((atkTo q0 r q k ++ (memS x).map (evP (k + 1)) ++ ((memS q).take j).map (evA (k + 1))).flatMap evC) ∧ Rd wr am2 (cnt q) cm2 ((memS q).map intV) ∧ Clear (cnt q) v am2 ∧ Below W.heap.size W wr) (fun _ i _ => cnt q - (intOf i).toNat)
              case atStart => exact ⟨0, Nat.zero_le _, rfl, by simpa using hown1, hr, hclr, hb3⟩
              case round =>
                clear hown1 hr hclr hb3
                obtain ⟨j, hj, rfl, hown, hr, hclr, hb⟩ := hrel
                by_cases hlt3 : j < cnt q
                · obtain ⟨i, hi⟩ : ∃ i, (memS q)[j]? = some i := ⟨_, List.getElem?_eq_getElem (show j < (memS q).length from hlt3)⟩
                  have hi16 := memS_16 _ _ (List.mem_of_getElem? hi)
                  obtain ⟨b, o, hab, hcell⟩ := hr.at' (by omega)
                  have hci := hcell j (intV i) (by simp [hi])
                  unfold intV at hci
                  have HTK := Lib.hid (mem_take_succ (f := evA (k + 1)) hi)
                  have HRR := Lib.hid hr
                  have HCL := Lib.hid hclr
                  have HI := Lib.hid (Tryd.strconv_Itoa_small (k + 1) (by omega))
                  have hdl := dec_small (k + 1) (by omega)
                  have HCAT := Lib.hid (cat2 [118] (Lib.decDigits (k + 1)))
                  have HVB : Hid (valB (k + 1) = (⟨#[118]⟩ : ByteArray) ++ (⟨(Lib.decDigits (k + 1)).toArray⟩ : ByteArray)) := by show _ = _; exact HCAT.out.symm
                  obtain ⟨dd, hdd⟩ : ∃ dd, Lib.decDigits (k + 1) = dd := ⟨_, rfl⟩
                  rw [hdd] at HI hdl HVB
                  subst hab
                  clear hcell hi hr hclr HCAT hdd
                  go_wp2_with fail
                  refine (HI.out _).mono ?_
                  rintro e w6 ⟨rfl, rfl⟩
                  go_wp2_with (at_builtin; go_must (refine wpList_appK2 4 _ _ 40 40 (.agg #[.int .i64 0, .int .i64 0, .int .i64 0, .string ⟨#[]⟩]) [.int .i64 2, .int .i64 i, .int .i64 ((k + 1 : Nat) : Int), .string ((⟨#[118]⟩ : ByteArray) ++ (⟨dd.toArray⟩ : ByteArray))] _ Tryd.underlying40 Tryd.infoEv rfl (by decide) hown hb (Nat.le_refl _) rfl rfl rfl rfl rfl (by intro u hu; simp only [List.mem_cons, List.not_mem_nil, or_false] at hu; rcases hu with rfl | rfl | rfl | rfl <;> rfl) (by unfold maxLen; omega) (by omega) ?_))
                  intro v' w4 hown4 hb4 hg4 hs4 hv4
                  clear hown hb hci
                  have hr4 := HRR.out.grown hg4 HCL.out
                  have hcl4 := HCL.out.step HRR.out hv4
                  go_wp2_with fail
                  go_roundw
                  case rel => exact ⟨j + 1, by omega, by go_num, by rw [HTK.out, ← List.append_assoc, List.flatMap_append, ← Nat.add_assoc]; simpa [evC, evA, HVB.out] using hown4, hr4, hcl4, hb4⟩
                  case measure => simp [intOf]; omega
                · have hE : Hid ((memS q).take j = memS q) := List.take_of_length_le (by show cnt q ≤ j; omega)
                  have hjx : j = cnt q := by omega
                  rw [hE.out] at hown
                  subst hjx
                  have hlen2 : Hid ((atkTo q0 r q (k + 1)).length = m + cnt x + cnt q) := by show _ = _; rw [HST.out, List.length_append, blk_len, hml.out]; omega
                  clear hr hclr hE
                  go_wp2_with fail
                  go_roundw
                  case rel => exact ⟨k + 1, m + cnt x + cnt q, by omega, by go_num, by omega, by rw [HST.out]; unfold blkS; rw [← List.append_assoc]; exact hown, hlen2, hb⟩
                  case measure => simp [intOf]; omega
        · obtain rfl : k = 2 := by omega
          obtain ⟨ar, cr, rfl, hr⟩ := rdK_of_row hown
          have HRR := Lib.hid hr
          clear hown hr
          go_wp2_with fail
          go_ret2
          rw [hA.out]
          show ∃ a' c', _
          exact ⟨ar, cr, by rw [hml.out]; rfl, by show RdK 4 _ _ (atkTo q0 r q 2).length _ _; rw [hml.out]; exact HRR.out, Below.next HBW.out hb⟩
  · have hA : Hid (attS read write nn = ([], chkS nn [read, write])) := by show _ = _; unfold attS; rw [if_pos he]
    obtain ⟨v, hv⟩ : ∃ v, chkS nn [read, write] = v := ⟨_, rfl⟩
    rw [hv] at HC hA he
    have hv1 : (v != 0) = true := by simpa using he
    clear hv he
    go_enter Tryd.func23, Tryd.ntmps23
    go_wp2_with fail
    refine HC.out.mono ?_
    rintro e w1 ⟨rfl, hb1⟩
    have hb2 := Below.next HB0.out (by exact hb1)
    clear hb1
    go_wp2_with fail
    go_ret2
    rw [hA.out]
    exact ⟨_, _, rfl, RdK.none_ _ _, hb2⟩
end Go.Proofs.YtgfjmplifmbmlaaDoor
