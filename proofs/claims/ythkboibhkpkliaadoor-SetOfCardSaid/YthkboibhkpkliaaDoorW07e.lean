/- Laws of layer 7: Rename. -/
import Derived.Test.YthkboibhkpkliaaDoorRen
import Derived.Lib.SliceRun
import Derived.Deep.OwnRows
namespace Go.Proofs.YthkboibhkpkliaaDoor
open Go.RowKit Go.Shelf

set_option maxRecDepth 100000 in
set_option maxHeartbeats 1000000 in
theorem clonei_c (l : List Int) (a : Option Addr) (n c : Nat) (w : World) (h : Rd w a n c (l.map (Value.int .i64))) (hb : n ≤ 1000000) :
    Calls Tryd.prog 26 #[.slice a n c] w fun e w' => ∃ v, e = .returned v ∧ Own w w' 3 v (l.map (Value.int .i64)) ∧ Below w.heap.size w w' := by
  have hlen : (l.map (Value.int .i64)).length = n := h.len.symm
  cases a with
  | none =>
    have hc := h.nil rfl
    have hn : n = 0 := by have := h.le; omega
    subst hc hn
    have hl : l = [] := by simpa using hlen
    subst hl
    clear h hlen hb
    have q : ∀ (w : World) (a : Option Addr) (n c n' c' : Nat), (binOp .eql 44 (.slice a n c) (.slice none n' c')).run Tryd.prog w = .ok (.bool a.isNone) w := fun w a n c n' c' => Lib.run_eql_slice_nil w _ _ a n c n' c' Tryd.underlying44
    go_enter Tryd.func26, Tryd.ntmps26
    go_wp2
    go_ret
    exact ⟨_, rfl, World.ownsRow_nil _ _ _ _, Below.refl _ _⟩
  | some ad =>
    have hh := Lib.hid h
    have hl2 := Lib.hid hlen
    clear h hlen
    have q : ∀ (w : World) (a : Option Addr) (n c n' c' : Nat), (binOp .eql 44 (.slice a n c) (.slice none n' c')).run Tryd.prog w = .ok (.bool a.isNone) w := fun w a n c n' c' => Lib.run_eql_slice_nil w _ _ a n c n' c' Tryd.underlying44
    go_enter Tryd.func26, Tryd.ntmps26
    go_wp2_with (at_builtin; go_must (refine wpList_apps _ _ 44 8 (.int .i64 0) _ _ _ (l.map (Value.int .i64)) Tryd.underlying44 Tryd.infoInt rfl (World.ownsRow_made w #[] 0 (Nat.le_refl _) (Nat.zero_le _) rfl) ((Below.refl _ w).alloc (Nat.le_refl _) _) (Nat.le_refl _) (hh.out.below ((Below.refl _ w).alloc (Nat.le_refl _) _)) (by intro u hu; obtain ⟨_, _, rfl⟩ := List.mem_map.1 hu; rfl) rfl rfl rfl rfl (by unfold maxLen; simp; omega) (by simp; omega) ?_))
    intro v' w1 hown1 hb1 _
    clear hb
    go_wp2
    go_ret
    refine ⟨_, rfl, ?_, hb1⟩
    unfold Own
    rw [hl2.out]
    simpa using hown1

set_option maxRecDepth 100000 in
set_option maxHeartbeats 4000000 in
theorem setRename_w (a : Int) (a1 : Option Addr) (len1 cap1 : Nat) (z1 : List Int) (w : World) (ht : HasTab w) (w0 : (Lit.int .u16 a).wf = true) (w1 : IsInts .i64 w a1 len1 cap1 z1) :
    Calls Tryd.prog 8 #[.int .u16 a, .slice a1 len1 cap1] w fun e w' => e = .returned (.bool true) ∧ Below w.heap.size w w' := by
  obtain ⟨x, rfl⟩ := U_of_wf w0
  clear w0
  have HT := Lib.hid ht
  clear ht
  have HA := Lib.hid (awake_c w HT.out)
  have hz := w1.len
  have hrd := w1.rd
  by_cases hc : (20 : Int) < (len1 : Int)
  · have hd : decide ((20 : Int) < (len1 : Int)) = true := by simpa using hc
    clear hc hz hrd w1
    go_enter Tryd.func8, Tryd.ntmps8
    go_wp2_with fail
    refine HA.out.mono ?_
    rintro e w2 ⟨rfl, hb⟩
    have HA2 := Lib.hid (awake_c w2 (HT.out.below hb))
    go_wp2_with fail
    refine HA2.out.mono ?_
    rintro e w3 ⟨rfl, hb4⟩
    go_wp2_with fail
    go_ret
    exact ⟨rfl, Below.next hb hb4⟩
  · have hd : decide ((20 : Int) < (len1 : Int)) = false := by simpa using hc
    have hl20 : len1 ≤ 1000000 := by omega
    have HL := Lib.hid hl20
    have HR := Lib.hid hrd
    have HZ := Lib.hid hz
    clear hc hz hrd w1 hl20
    obtain ⟨r, f, hrf⟩ : ∃ r f, Hid (renS x z1 = (r, f)) := ⟨_, _, rfl⟩
    go_enter Tryd.func8, Tryd.ntmps8
    go_wp2_with fail
    refine HA.out.mono ?_
    rintro e w2 ⟨rfl, hb⟩
    have HC := Lib.hid (clonei_c z1 _ _ _ w2 (HR.out.below hb) HL.out)
    go_wp2_with fail
    refine HC.out.mono ?_
    rintro e w3 ⟨v, rfl, hown, hb2⟩
    obtain ⟨b, d, rfl, hr2⟩ := hown.rdn len1 (by rw [List.length_map]; exact HZ.out)
    have hb3 := Below.next hb hb2
    clear hb hb2 hown HC
    go_wp2_with fail
    refine (rename_c x _ z1 _ _ _ _ rfl (HT.out.below hb3) hr2).mono ?_
    rintro e w4 ⟨rfl, hb4⟩
    have hb5 := Below.next hb3 hb4
    clear hb3 hb4 hr2
    rw [hrf.out]
    go_wp2_with fail
    refine (rrename_c x _ z1 _ _ _ _ rfl (HR.out.below hb5)).mono ?_
    rintro e w5 ⟨rfl, hb6⟩
    have hb7 := Below.next hb5 hb6
    clear hb5 hb6
    rw [hrf.out]
    by_cases hf : f = 0
    · subst hf
      obtain ⟨ns, n1, n2, n3, n4, n5, n6⟩ := ren_back x r z1 hrf.out
      have N1 := Lib.hid n1
      have N3 := Lib.hid n3
      have N4 := Lib.hid n4
      have N5 := Lib.hid n5
      have N6 := Lib.hid n6
      clear n1 n2 n3 n4 n5 n6
      have hmk : ∀ w, (Instr.makeSlice 44 (.int .i64 12) (.int .i64 12)).run Tryd.prog w = .ok (.slice (some ⟨w.heap.size, 0, none⟩) 12 12) (w.alloc (.cells (madeCells #[.int .i64 0] 12) 3)) :=
        fun w => run_make_row' 44 3 (.int .i64 0) 8 Tryd.underlying44 Tryd.infoInt rfl .i64 .i64 12 (by decide) (by decide) w
      go_wp2_with fail
      obtain ⟨bb, hbb⟩ : ∃ bb, bb = w5.heap.size := ⟨_, rfl⟩
      rw [← hbb]
      obtain ⟨w5a, hw5a⟩ : ∃ w', w' = w5.alloc (.cells (madeCells #[.int .i64 0] 12) 3) := ⟨_, rfl⟩
      have hrow : w5a.ownsRow w.heap.size 3 1 (.slice (some ⟨bb, 0, none⟩) 12 12) 12 ((backTo [] [] (List.replicate 12 0)).map (Value.int .i64)) := by
        rw [hw5a, hbb]
        have := World.ownsRow_lit (base := w.heap.size) (e := 3) (size := 1) w5 (madeCells #[.int .i64 0] 12) 12 hb7.size (by decide) (size_madeCells _ _)
        rw [toList_madeCells_one] at this
        exact this
      have hb8 : Below w.heap.size w w5a := by rw [hw5a]; exact hb7.alloc hb7.size _
      have hsz : bb < w5a.heap.size := by rw [hw5a, hbb]; simp
      have hbw : w.heap.size ≤ bb := by rw [hbb]; exact hb7.size
      clear hb7
      rw [← hw5a]
      clear hw5a hbb
      refine (rmembers_c x _ _ rfl).mono ?_
      rintro e w6 ⟨v, rfl, hown, hb9⟩
      have hown2 : w6.ownsRow w5a.heap.size 3 1 v (cnt x) ((memS x).map intV) := by
        have := hown; unfold Own at this; rwa [show ((memS x).map intV).length = cnt x by rw [List.length_map]; rfl] at this
      obtain ⟨am, cm, rfl, hrm⟩ := rd_of_row hown2
      have hrow2 := row_below hrow hb9
      have hb10 := Below.next hb8 hb9
      have HS := Lib.hid hsz
      have HBW := Lib.hid hbw
      clear hown hb9 hrow hb8 hsz hbw hrm
      have hcl := cnt_le x
      go_wp2_with fail
      go_loopw [59] (fun i wr => ∃ (k : Nat), k ≤ cnt x ∧ i = .int .i64 k ∧ wr.ownsRow w.heap.size 3 1 (.slice (some ⟨bb, 0, none⟩) 12 12) 12 ((backTo (ns.take k) ((memS x).take k) (List.replicate 12 0)).map (Value.int .i64)) ∧
        wr.ownsRow w5a.heap.size 3 1 (.slice am (cnt x) cm) (cnt x) ((memS x).map intV) ∧ Below w.heap.size w wr) (fun i _ => cnt x - (intOf i).toNat)
      case atStart => exact ⟨0, Nat.zero_le _, rfl, by simpa using hrow2, hown2, hb10⟩
      case round =>
        clear hrow2 hown2 hb10
        obtain ⟨k, hk, rfl, hrow, hown, hb⟩ := hrel
        by_cases hlt : k < cnt x
        · have hmk2 : k < (memS x).length := hlt
          obtain ⟨i, hi⟩ : ∃ i, (memS x)[k]? = some i := ⟨_, List.getElem?_eq_getElem hmk2⟩
          obtain ⟨p, hp, hzi⟩ := N4.out k i hi
          have hp12 : p < 12 := N3.out p (List.mem_of_getElem? hp)
          have hil : i < len1 := by have := (List.getElem?_eq_some_iff.1 hzi).1; have := HZ.out; omega
          obtain ⟨tb, t0, ha1, hcells⟩ := ((HR.out.below hb).at') (by omega)
          have hci := hcells i (.int .i64 (natI p)) (by rw [List.getElem?_map, hzi]; rfl)
          obtain ⟨am', cm', hv, hrm⟩ := rd_of_row hown
          cases hv
          obtain ⟨mb, m0, ham, hcm⟩ := hrm.at' (by omega)
          have hck := hcm k (intV i) (by rw [List.getElem?_map, hi]; rfl)
          have hst := hrow.stored p (.int .i64 (natI i))
          have hex := hrow.cellAt p (by omega)
          have hfz := hrow.frozenAt p
          obtain ⟨v0, hv0⟩ : ∃ v0, ((backTo (ns.take k) ((memS x).take k) (List.replicate 12 0)).map (Value.int .i64))[p]? = some v0 :=
            ⟨_, List.getElem?_eq_getElem (by rw [List.length_map, backTo_len]; simpa using hp12)⟩
          rw [hv0] at hex
          have hown3 := ownsRow_setCell_below hown (a := ⟨bb, p, none⟩) HS.out (.int .i64 (natI i))
          have hb3 := hb.grown hst.2 (by exact hb.size) (by intro k hk; cases hk; exact HBW.out)
          have hrow3 : (wr.setCell ⟨bb, p, none⟩ (.int .i64 (natI i))).ownsRow w.heap.size 3 1 (.slice (some ⟨bb, 0, none⟩) 12 12) 12 ((backTo (ns.take (k + 1)) ((memS x).take (k + 1)) (List.replicate 12 0)).map (Value.int .i64)) := by
            rw [backTo_take _ _ _ _ _ _ hp hi, List.map_set]; exact hst.1
          have R1 := Lib.hid hown3
          have R2 := Lib.hid hb3
          have R3 := Lib.hid hrow3
          have hci' : wr.cell? ⟨tb, t0 + i, none⟩ = some (.int .i64 (p : Int)) := hci
          have hck' : wr.cell? ⟨mb, m0 + k, none⟩ = some (.int .i64 (i : Int)) := hck
          subst ha1 ham
          clear hown3 hb3 hrow3 hcells hcm hrm hci hck hst hown hb hrow hi hp hzi hmk2 hv0 hmk
          go_wp2
          go_roundw
          case rel => exact ⟨k + 1, by omega, by go_num, R3.out, R1.out, R2.out⟩
          case measure => simp [intOf]; omega
        · obtain rfl : k = cnt x := by omega
          have e1 : ns.take (cnt x) = ns := List.take_of_length_le (by rw [N1.out]; exact Nat.le_refl _)
          have e2 : (memS x).take (cnt x) = memS x := List.take_of_length_le (Nat.le_refl _)
          rw [e1, e2] at hrow
          clear e1 e2
          obtain ⟨ab, cb, hv, hrb⟩ := rd_of_row hrow
          cases hv
          have HB := Lib.hid hb
          clear hk hlt hown hb hrow hmk hcl
          by_cases h4 : 4096 ≤ U x
          · have hd4 : decide (4096 ≤ U x) = true := by simpa using h4
            clear h4 hrb
            go_wp2_with fail
            refine (count_c r _ _ rfl).mono ?_
            rintro e w7 ⟨rfl, q, rfl⟩
            have hb11 := below_drewN (q := q) HB.out
            clear HB
            rw [N5.out]
            go_wp2_with fail
            refine (rcount_c x _ _ rfl).mono ?_
            rintro e w8 ⟨rfl, hb12⟩
            go_wp2_with fail
            go_ret
            exact ⟨ret_bool (by simp), Below.next hb11 hb12⟩
          · have hd4 : decide (4096 ≤ U x) = false := by simpa using h4
            have H6 := Lib.hid (N6.out (by omega) (List.replicate 12 0) (by simp))
            have HRB := Lib.hid hrb
            clear h4 hrb
            go_wp2_with fail
            refine (rename_c r _ _ _ _ _ _ rfl (HT.out.below HB.out) HRB.out).mono ?_
            rintro e w7 ⟨rfl, hb11⟩
            have hb12 := Below.next HB.out hb11
            clear hb11
            rw [H6.out]
            go_wp2_with fail
            refine (count_c r _ _ rfl).mono ?_
            rintro e w8 ⟨rfl, q, rfl⟩
            have hb13 := below_drewN (q := q) hb12
            clear hb12
            rw [N5.out]
            go_wp2_with fail
            refine (rcount_c x _ _ rfl).mono ?_
            rintro e w9 ⟨rfl, hb14⟩
            go_wp2_with fail
            go_ret
            exact ⟨ret_bool (by simp), Below.next hb13 hb14⟩
    · have h0 : ¬ f = 0 := hf
      clear hf
      go_wp2_with fail
      go_ret
      exact ⟨rfl, hb7⟩
end Go.Proofs.YthkboibhkpkliaaDoor
