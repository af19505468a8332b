/- Texts laid together. The reader of expressions: skip, number. A reader's box with nodes under way: what the memory looks like. Plain lemmas over the model, no program. The reader of expressions: node. expr.Parse. The reference's tests of equality: same, Same of layer 10, Same of layer 8 answer true for equal lists. The reference's Same of layer 10 answers true for equal expressions. Layer 10: awake (printed by aw10.py). -/
import Derived.Test.YtcojmmhclklpoaaGreatDoorGC2
import Derived.Test.YtcojmmhclklpoaaGreatDoorGC3
import Derived.Test.YtcojmmhclklpoaaGreatDoorGC5
import Derived.Test.YtcojmmhclklpoaaGreatDoorGC7
import Derived.Test.YtcojmmhclklpoaaGreatDoorGC8
import Derived.Test.YtcojmmhclklpoaaGreatDoorGC9
import Derived.Lib.AtoiAllCases
import Derived.Deep.QuietTactic
import Derived.BigQuiet
import Derived.Deep.RegionLaw
import Derived.Deep.RegionHeld3
namespace Go.Proofs.YtcojmmhclklpoaaGreatDoor
open Go.RowKit Go.Shelf

def HasRng (w : World) : Prop := ∃ ev, w.cell? ⟨3, 0, none⟩ = some ev ∧ (ev = .nilIface ∨ ∃ te pe, ev = .iface te pe)
theorem HasRng.below {w w' : World} (h : HasRng w) (hb : Below w.heap.size w w') : HasRng w' := by
  obtain ⟨ev, h1, h2⟩ := h
  exact ⟨ev, cell_keep hb h1, h2⟩
def HasSyn (w : World) : Prop := ∃ ev, w.cell? ⟨2, 0, none⟩ = some ev ∧ (ev = .nilIface ∨ ∃ te pe, ev = .iface te pe)
theorem HasSyn.below {w w' : World} (h : HasSyn w) (hb : Below w.heap.size w w') : HasSyn w' := by
  obtain ⟨ev, h1, h2⟩ := h
  exact ⟨ev, cell_keep hb h1, h2⟩
/-- the reader's box -/
def RdB (t : TypeId) (w : World) (RB : Nat) (s : Byts) (bd : Bool) (v : Value) (r : Int) : Prop := w.heap[RB]? = some (.cells #[.string (mkB s), .bool bd, v, .int .i64 r] t (0, 0))
theorem RdB.at {t : TypeId} {w : World} {RB : Nat} {s : Byts} {bd : Bool} {v : Value} {r : Int} (h : RdB t w RB s bd v r) : w.cell? ⟨RB, 0, none⟩ = some (.string (mkB s)) ∧ w.cell? ⟨RB, 1, none⟩ = some (.bool bd) ∧ w.cell? ⟨RB, 2, none⟩ = some v ∧ w.cell? ⟨RB, 3, none⟩ = some (.int .i64 r) :=
  ⟨cell_of_row _ _ 0 _ _ _ h, cell_of_row _ _ 1 _ _ _ h, cell_of_row _ _ 2 _ _ _ h, cell_of_row _ _ 3 _ _ _ h⟩
theorem RdB.frz {t : TypeId} {w : World} {RB : Nat} {s : Byts} {bd : Bool} {v : Value} {r : Int} (h : RdB t w RB s bd v r) (i : Nat) : w.frozen? ⟨RB, i, none⟩ = false := frozen_row h i
theorem RdB.below {t : TypeId} {w w' : World} {RB : Nat} {s : Byts} {bd : Bool} {v : Value} {r : Int} (h : RdB t w RB s bd v r) (hb : Below w.heap.size w w') : RdB t w' RB s bd v r := heap_below hb h
theorem RdB.put {t : TypeId} {w : World} {RB : Nat} {s : Byts} {bd : Bool} {v : Value} {r : Int} (h : RdB t w RB s bd v r) (s' : Byts) : RdB t (w.setCell ⟨RB, 0, none⟩ (.string (mkB s'))) RB s' bd v r := by
  unfold RdB; rw [heap_set_at h]; rfl
theorem RdB.fail {t : TypeId} {w : World} {RB : Nat} {s : Byts} {bd : Bool} {v : Value} {r : Int} (h : RdB t w RB s bd v r) : RdB t (w.setCell ⟨RB, 1, none⟩ (.bool true)) RB s true v r := by
  unfold RdB; rw [heap_set_at h]; rfl

set_option maxRecDepth 100000 in
set_option maxHeartbeats 1000000 in
theorem skip_c (pre s : Byts) (RB : Nat) (bd : Bool) (v : Value) (r : Int) (w : World) (h : RdB 97 w RB s bd v r) :
    Calls Tryz.prog 95 #[.pointer (some ⟨RB, 0, none⟩), .string (mkB pre)] w fun e w' => e = .returned (.bool (!bd && (stripP pre s).isSome)) ∧ w' = if (!bd && (stripP pre s).isSome) = true then w.setCell ⟨RB, 0, none⟩ (.string (mkB ((stripP pre s).getD s))) else w := by
  have HCP := Lib.hid (Tryz.strings_CutPrefix (mkB s) (mkB pre) w)
  obtain ⟨p0, p1, _, _⟩ := h.at
  have z0 := h.frz 0
  clear h
  obtain ⟨b, s', hb, hs', hR⟩ : ∃ b s', Lib.hasPrefix s pre = b ∧ Lib.trimPrefix s pre = s' ∧ Hid ((stripP pre s).isSome = b ∧ (stripP pre s).getD s = s') := by
    cases hq : stripP pre s with
    | none => obtain ⟨h1, h2⟩ := strip_no hq; exact ⟨_, _, h1, h2, Lib.hid ⟨rfl, rfl⟩⟩
    | some r => obtain ⟨h1, h2⟩ := strip_yes hq; exact ⟨_, _, h1, h2, Lib.hid ⟨rfl, rfl⟩⟩
  rw [mkB_list, mkB_list, hb, hs'] at HCP
  rw [hR.out.1, hR.out.2]
  clear hb hs' hR
  cases b <;> cases bd
  all_goals
    go_enter Tryz.func95, Tryz.ntmps95
    go_wp2_with fail
    with_reducible refine HCP.out.mono ?_
    rintro e w1 ⟨rfl, rfl⟩
    go_wp2_with fail
    go_ret
    exact ⟨rfl, rfl⟩
theorem mkB_get (l : Byts) (i : Nat) (h : i < (mkB l).size) : (mkB l)[i] = l[i]'(by rw [mkB_size] at h; exact h) := rfl
theorem tw_go {s : Byts} {k : Nat} {c : UInt8} (hk : k ≤ (s.takeWhile digB).length) (h : s[k]? = some c) (hd : digB c = true) : k + 1 ≤ (s.takeWhile digB).length := by
  induction s generalizing k with
  | nil => simp at h
  | cons a s ih =>
    cases k with
    | zero =>
      simp at h; subst h
      rw [List.takeWhile_cons_of_pos hd]; simp
    | succ k =>
      by_cases ha : digB a = true
      · rw [List.takeWhile_cons_of_pos ha] at hk ⊢
        rw [List.length_cons] at hk ⊢
        have := ih (k := k) (by omega) (by simpa using h)
        omega
      · rw [List.takeWhile_cons_of_neg ha] at hk; simp at hk
theorem tw_stop {s : Byts} {k : Nat} (hk : k ≤ (s.takeWhile digB).length) (h : ∀ c, s[k]? = some c → digB c = false) : k = (s.takeWhile digB).length := by
  induction s generalizing k with
  | nil => simpa using hk
  | cons a s ih =>
    by_cases ha : digB a = true
    · cases k with
      | zero => have := h a rfl; rw [this] at ha; cases ha
      | succ k =>
        rw [List.takeWhile_cons_of_pos ha] at hk ⊢
        rw [List.length_cons] at hk ⊢
        have := ih (k := k) (by omega) (fun c hc => h c (by simpa using hc))
        omega
    · rw [List.takeWhile_cons_of_neg ha] at hk ⊢
      simpa using hk
theorem tw_take (s : Byts) : s.take (s.takeWhile digB).length = s.takeWhile digB ∧ s.drop (s.takeWhile digB).length = s.dropWhile digB := by
  induction s with
  | nil => simp
  | cons a s ih =>
    by_cases ha : digB a = true
    · rw [List.takeWhile_cons_of_pos ha, List.dropWhile_cons_of_pos ha, List.length_cons, List.take_succ_cons, List.drop_succ_cons, ih.1, ih.2]; exact ⟨rfl, rfl⟩
    · rw [List.takeWhile_cons_of_neg ha, List.dropWhile_cons_of_neg ha]; simp

set_option maxRecDepth 100000 in
set_option maxHeartbeats 4000000 in
theorem number_c (s : Byts) (hs : s.length ≤ 100000) (RB : Nat) (v : Value) (r : Int) (w : World) (h : RdB 97 w RB s false v r) (hp : HasPow w) (hr : HasRng w) (hy : HasSyn w) :
    Calls Tryz.prog 96 #[.pointer (some ⟨RB, 0, none⟩)] w fun e w' => ∃ w1, Below w.heap.size w w1 ∧ ((∃ n q, numX s = some (n, q) ∧ e = .returned (.int .i64 n) ∧ w' = w1.setCell ⟨RB, 0, none⟩ (.string (mkB q))) ∨ (numX s = none ∧ e = .returned (.int .i64 0) ∧ w' = w1.setCell ⟨RB, 1, none⟩ (.bool true))) := by
  obtain ⟨p0, p1, _, _⟩ := h.at
  have hsz := mkB_size s
  obtain ⟨B, hB⟩ : ∃ B, mkB s = B := ⟨_, rfl⟩
  rw [hB] at p0 hsz
  have HB := Lib.hid hB
  have HH := Lib.hid h
  have HP := Lib.hid hp
  have HR := Lib.hid hr
  have HY := Lib.hid hy
  clear h hp hr hy hB
  go_enter Tryz.func96, Tryz.ntmps96
  go_wp2_with fail
  go_loopw [3] (fun q wr => ∃ k : Nat, k ≤ (s.takeWhile digB).length ∧ q = .int .i64 k ∧ wr = w) (fun q _ => s.length - (intOf q).toNat)
  case atStart => exact ⟨0, Nat.zero_le _, rfl, rfl⟩
  case round =>
    obtain ⟨k, hk, rfl, rfl⟩ := hrel
    by_cases hgo : ∃ c, s[k]? = some c ∧ digB c = true
    · obtain ⟨c, hc, hd⟩ := hgo
      have hlt : k < s.length := (List.getElem?_eq_some_iff.1 hc).1
      have hgo := tw_go hk hc hd
      have hlt1 : decide (k < B.size) = true := decide_eq_true (by omega)
      have hlt2 : (k : Int) < (B.size : Int) := by omega
      have hcb : ∀ (h : k < B.size), B[k] = c := by
        rw [← HB.out]
        intro h
        rw [mkB_get]
        exact (List.getElem?_eq_some_iff.1 hc).2
      unfold digB at hd
      simp only [Bool.and_eq_true, decide_eq_true_eq] at hd
      have hd1 : (48 : Int) ≤ (c.toNat : Int) := by have := UInt8.le_iff_toNat_le.1 hd.1; simp at this; omega
      have hd2 : (c.toNat : Int) ≤ 57 := by have := UInt8.le_iff_toNat_le.1 hd.2; simp at this; omega
      have hkk : B[k]'(by omega) = c := hcb (by omega)
      rw [← hkk] at hd1 hd2
      clear hc hcb hkk hd
      go_wp2_with fail
      go_roundw
      case rel => exact ⟨k + 1, hgo, by go_num, trivial⟩
      case measure => simp [intOf] <;> omega
    · have hst : k = (s.takeWhile digB).length := tw_stop hk (fun c hc => by
        cases hd : digB c
        · rfl
        · exact absurd ⟨c, hc, hd⟩ hgo)
      have hkl : k ≤ s.length := by rw [hst]; exact (List.takeWhile_prefix digB).length_le
      have hstop : (B.size ≤ k) ∨ (∃ h : k < B.size, (B[k].toNat : Int) < 48) ∨ (∃ h : k < B.size, (48 : Int) ≤ (B[k].toNat : Int) ∧ (57 : Int) < (B[k].toNat : Int)) := by
        by_cases hlt : k < B.size
        · right
          obtain ⟨c, hc⟩ : ∃ c, s[k]? = some c := ⟨_, List.getElem?_eq_getElem (by omega)⟩
          have hcb : B[k] = c := by
            have : ∀ (h : k < B.size), B[k] = c := by
              rw [← HB.out]
              intro h
              rw [mkB_get]
              exact (List.getElem?_eq_some_iff.1 hc).2
            exact this hlt
          have hnd : digB c = false := by
            cases hd : digB c
            · rfl
            · exact absurd ⟨c, hc, hd⟩ hgo
          unfold digB at hnd
          simp only [Bool.and_eq_false_iff, decide_eq_false_iff_not, UInt8.le_iff_toNat_le] at hnd
          simp at hnd
          by_cases h48 : (c.toNat : Int) < 48
          · exact .inl ⟨hlt, by rw [hcb]; exact h48⟩
          · exact .inr ⟨hlt, by rw [hcb]; omega, by rw [hcb]; omega⟩
        · exact .inl (by omega)
      have htk := tw_take s
      rw [← hst] at htk
      have hpx : B.extract 0 k = mkB (s.takeWhile digB) := by rw [← HB.out, mkB_extract, ← htk.1]; simp
      have hpd : B.extract k B.size = mkB (s.dropWhile digB) := by
        rw [← HB.out, mkB_extract, mkB_size, ← htk.2]
        rw [List.take_of_length_le (by rw [List.length_drop]; exact Nat.le_refl _)]
      have hpl : (s.takeWhile digB).length ≤ 100000 := by omega
      obtain ⟨d, hd⟩ : ∃ d, s.takeWhile digB = d := ⟨_, rfl⟩
      have hnx : numX s = match Lib.atoiAll d with
        | .ok v => if v ≤ 100000 ∧ Lib.itoa v = d then some (v.toNat, s.dropWhile digB) else none
        | _ => none := by unfold numX; rw [hd]; rfl
      have hdd : ∀ c ∈ d, digB c = true := by rw [← hd]; exact tw_dig s
      rw [hd] at hpx hpl
      have hkb : k ≤ B.size := by omega
      have hps : (B.extract 0 k).size ≤ 1000000 := by rw [hpx, mkB_size]; omega
      have HPX := Lib.hid hpx
      have HPD2 : Hid (B.extract k s.length = mkB (s.dropWhile digB)) := Lib.hid (by rw [← hsz]; exact hpd)
      have HNX := Lib.hid hnx
      have HDD := Lib.hid hdd
      have HPL := Lib.hid hpl
      have hxl : (B.extract 0 k).data.toList = d := by rw [hpx]; rfl
      have hitl : ∀ z, Lib.atoiAll d = .ok z → -9223372036854775808 ≤ z ∧ z ≤ 9223372036854775807 := fun z hz => Lib.atoiAll_bounds hz
      have hkB : (k : Int) ≤ (B.size : Int) := by omega
      clear hgo hst htk hd hnx hdd hpl hpx hpd hkl hk
      rcases hstop with hs1 | ⟨hs0, hs1⟩ | ⟨hs0, hs1, hs2⟩
      all_goals
        (try have hn1 : decide (k < B.size) = true := decide_eq_true hs0)
        (try have hn1 : decide (k < B.size) = false := decide_eq_false (by omega))
        go_wp2_with fail
        cases ha : Lib.atoiAll d
        · rename_i z
          have hbz := hitl z ha
          have hHA := Tryz.strconv_Atoi_ok (B.extract 0 k) (by omega) z (by rw [hxl]; exact ha) wr
          have HA := Lib.hid hHA
          have HNX2 : Hid (numX s = if z ≤ 100000 ∧ Lib.itoa z = d then some (z.toNat, s.dropWhile digB) else none) := Lib.hid (by rw [HNX.out, ha])
          clear ha hHA hitl
          with_reducible refine HA.out.mono ?_
          rintro e w6 ⟨rfl, hw6⟩
          have hb6 : Below wr.heap.size wr w6 := by
            rcases hw6 with rfl | ⟨t, rfl⟩
            · exact Below.refl _ _
            · exact Lib.bytesWorld_below _ _ _
          have HB6 := Lib.hid hb6
          have g6 := HH.out.below hb6
          have HG6 := Lib.hid g6
          obtain ⟨q0, q1, _, _⟩ := g6.at
          rw [HB.out] at q0
          have y1 := g6.frz 1
          clear hw6 HA g6 p0 p1
          by_cases hz : 100000 < z
          · have HN : Hid (numX s = none) := Lib.hid (by rw [HNX2.out, if_neg (by omega)])
            have d1 : decide ((100000 : Int) < z) = true := decide_eq_true hz
            go_wp2_with fail
            go_quiet (fail)
            go_wp2_with fail
            go_ret
            refine ⟨_, below_drewN HB6.out, .inr ⟨HN.out, rfl, rfl⟩⟩
          · have d1 : decide ((100000 : Int) < z) = false := decide_eq_false hz
            have HIT := Lib.hid (fun (u : World) (hu : HasPow u) => Tryz.strconv_Itoa z hbz.1 hbz.2 u hu)
            obtain ⟨D, hD⟩ : ∃ D : ByteArray, (⟨(Lib.itoa z).toArray⟩ : ByteArray) = D := ⟨_, rfl⟩
            rw [hD] at HIT
            obtain ⟨X, hX⟩ : ∃ X, B.extract 0 k = X := ⟨_, rfl⟩
            have HDX : Hid (Lib.itoa z = d ↔ D = X) := Lib.hid (by
              rw [← hX, HPX.out, ← hD]
              constructor
              · intro e; rw [e]; rfl
              · intro e; exact congrArg (fun b : ByteArray => b.data.toList) e)
            have HXX := Lib.hid hX
            have HP6 := Lib.hid (HP.out.below HB6.out)
            have HHZ := Lib.hid hz
            clear hD hz
            have hcmp : (D = X ∧ (D.toList == (B.extract 0 k).toList) = true) ∨ (D ≠ X ∧ (D.toList == (B.extract 0 k).toList) = false) := by
              by_cases hdx : D = X
              · exact .inl ⟨hdx, by rw [hX, hdx]; exact bs_same _⟩
              · exact .inr ⟨hdx, by rw [hX]; exact bs_diff hdx⟩
            rcases hcmp with ⟨hdx, e1⟩ | ⟨hdx, e1⟩
            · have hde := HDX.out.2 hdx
              have hz0 := itoa_dig hde HDD.out
              have HN : Hid (numX s = some (z.toNat, s.dropWhile digB)) := Lib.hid (by rw [HNX2.out, if_pos ⟨by have := HHZ.out; omega, hde⟩])
              have HZ0 := Lib.hid hz0.1
              clear hdx hde hz0 hX
              go_upto_region 5 with fail
              have HKS := Lib.hid (fun (u : World) (hu : Below w6.heap.size w6 u) => (show u.cell? ⟨RB, 0, none⟩ = some (.string B) by have := ((HG6.out.below hu).at).1; rwa [HB.out] at this))
              refine wp_region_noPanic ?_
              refine wp_region_takes (fun u => Below w6.heap.size w6 u) [0, 1, 2, 3, 4, 5, 6, 7, 9, 10, 11, 12, 13, 14] 3 (by kernel_rfl) (by kernel_rfl) (by kernel_rfl) (fun _ _ _ _ _ h => h) (below_drew (Below.refl _ _)) ?_
              repeat (refine wpTk_cons rfl (fun K hK => ?_); go_simp; apply Exists.intro; refine ⟨fun u hu => ?_, hK _ ?_⟩; (first | exact rfl | (have r0 := HKS.out u hu; go_simp; done) | (have r0 := HKS.out u hu; go_simp; exact rfl)); clear hK K)
              refine wpTk_cons rfl (fun K hK => ?_)
              go_simp
              refine ⟨.string (B.extract 0 k), fun u hu => ?_, hK _ ?_⟩
              · go_simp
                intro hlt
                exact absurd hlt (by omega)
              clear hK K
              refine wpTk_nil ?_
              refine held_ready (rs := [8]) (by kernel_rfl) (by simp) ?_
              refine AllReadyH.cons rfl (fun K hK => ?_) AllReadyH.nil
              go_simp
              with_reducible refine (HIT.out w6.drew (HP6.out.below (below_drew (Below.refl _ _)))).mono ?_
              rintro e w7 ⟨rfl, kk, os, hw7⟩
              have hb7 : Below w6.heap.size w6 w7 := by rw [hw7]; exact below_undrew (Lib.below_grow _ w6.drew (Nat.le_refl _) kk os)
              have HB7 := Lib.hid hb7
              clear hw7
              go_simp
              refine hK.out _ _ HB7.out (fun hh => ?_)
              clear hh hK K; try simp only [Act.put, List.setIfInBounds_toArray, List.set_cons_zero, List.set_cons_succ]
              refine held_takes (f := 0) (by kernel_rfl) (fun _ _ _ _ _ h => h) HB7.out [15, 16] _ _ (by kernel_rfl) ?_
              refine wpTk_cons rfl (fun K hK => ?_)
              go_simp
              apply Exists.intro
              refine ⟨fun y hy => rfl, hK _ ?_⟩
              clear hK K
              refine wpTk_cons rfl (fun K hK => ?_)
              go_simp
              apply Exists.intro
              refine ⟨fun y hy => rfl, hK _ ?_⟩
              clear hK K
              refine wpTk_nil ?_
              refine wpAnyH_done (by kernel_rfl) (NoPanic.normal ?_) _
              have g7 := HG6.out.below hb7
              obtain ⟨s0, s1, _, _⟩ := g7.at
              rw [HB.out] at s0
              have x0 := g7.frz 0
              have x1 := g7.frz 1
              clear hb7 g7 HKS
              go_wp2_with fail
              rw [HPD2.out]
              go_ret
              exact ⟨_, Below.next HB6.out HB7.out, .inl ⟨z.toNat, _, HN.out, by rw [Int.toNat_of_nonneg HZ0.out]; rfl, rfl⟩⟩
            · have HN : Hid (numX s = none) := Lib.hid (by rw [HNX2.out, if_neg (fun h => hdx (HDX.out.1 h.2))])
              clear hdx hX
              go_upto_region 5 with fail
              have HKS := Lib.hid (fun (u : World) (hu : Below w6.heap.size w6 u) => (show u.cell? ⟨RB, 0, none⟩ = some (.string B) by have := ((HG6.out.below hu).at).1; rwa [HB.out] at this))
              refine wp_region_noPanic ?_
              refine wp_region_takes (fun u => Below w6.heap.size w6 u) [0, 1, 2, 3, 4, 5, 6, 7, 9, 10, 11, 12, 13, 14] 3 (by kernel_rfl) (by kernel_rfl) (by kernel_rfl) (fun _ _ _ _ _ h => h) (below_drew (Below.refl _ _)) ?_
              repeat (refine wpTk_cons rfl (fun K hK => ?_); go_simp; apply Exists.intro; refine ⟨fun u hu => ?_, hK _ ?_⟩; (first | exact rfl | (have r0 := HKS.out u hu; go_simp; done) | (have r0 := HKS.out u hu; go_simp; exact rfl)); clear hK K)
              refine wpTk_cons rfl (fun K hK => ?_)
              go_simp
              refine ⟨.string (B.extract 0 k), fun u hu => ?_, hK _ ?_⟩
              · go_simp
                intro hlt
                exact absurd hlt (by omega)
              clear hK K
              refine wpTk_nil ?_
              refine held_ready (rs := [8]) (by kernel_rfl) (by simp) ?_
              refine AllReadyH.cons rfl (fun K hK => ?_) AllReadyH.nil
              go_simp
              with_reducible refine (HIT.out w6.drew (HP6.out.below (below_drew (Below.refl _ _)))).mono ?_
              rintro e w7 ⟨rfl, kk, os, hw7⟩
              have hb7 : Below w6.heap.size w6 w7 := by rw [hw7]; exact below_undrew (Lib.below_grow _ w6.drew (Nat.le_refl _) kk os)
              have HB7 := Lib.hid hb7
              clear hw7
              go_simp
              refine hK.out _ _ HB7.out (fun hh => ?_)
              clear hh hK K; try simp only [Act.put, List.setIfInBounds_toArray, List.set_cons_zero, List.set_cons_succ]
              refine held_takes (f := 0) (by kernel_rfl) (fun _ _ _ _ _ h => h) HB7.out [15, 16] _ _ (by kernel_rfl) ?_
              refine wpTk_cons rfl (fun K hK => ?_)
              go_simp
              apply Exists.intro
              refine ⟨fun y hy => rfl, hK _ ?_⟩
              clear hK K
              refine wpTk_cons rfl (fun K hK => ?_)
              go_simp
              apply Exists.intro
              refine ⟨fun y hy => rfl, hK _ ?_⟩
              clear hK K
              refine wpTk_nil ?_
              refine wpAnyH_done (by kernel_rfl) (NoPanic.normal ?_) _
              have g7 := HG6.out.below hb7
              obtain ⟨s0, s1, _, _⟩ := g7.at
              rw [HB.out] at s0
              have x0 := g7.frz 0
              have x1 := g7.frz 1
              clear hb7 g7 HKS
              go_wp2_with fail
              go_ret
              exact ⟨_, Below.next HB6.out HB7.out, .inr ⟨HN.out, rfl, rfl⟩⟩
        · have HN : Hid (numX s = none) := Lib.hid (by rw [HNX.out, ha])
          obtain ⟨ev, hev1, hev2⟩ := HY.out
          have HA := Lib.hid (Tryz.strconv_Atoi_syntax (B.extract 0 k) (by omega) (by rw [hxl]; exact ha) ev wr hev1 hev2)
          clear ha hev1 hev2 hitl
          with_reducible refine HA.out.mono ?_
          rintro e w6 ⟨N, rfl, _, _, hb6⟩
          have HB6 := Lib.hid hb6
          have g6 := HH.out.below hb6
          obtain ⟨q0, q1, _, _⟩ := g6.at
          rw [HB.out] at q0
          have y1 := g6.frz 1
          clear hb6 HA g6 p0 p1
          go_wp2_with fail
          go_quiet (fail)
          go_wp2_with fail
          go_ret
          exact ⟨_, below_drewN HB6.out, .inr ⟨HN.out, rfl, rfl⟩⟩
        · have HN : Hid (numX s = none) := Lib.hid (by rw [HNX.out, ha])
          obtain ⟨ev, hev1, hev2⟩ := HR.out
          have HA := Lib.hid (Tryz.strconv_Atoi_range (B.extract 0 k) (by omega) (by rw [hxl]; exact ha) ev wr hev1 hev2)
          clear ha hev1 hev2 hitl
          with_reducible refine HA.out.mono ?_
          rintro e w6 ⟨N, rfl, _, _, hb6⟩
          have HB6 := Lib.hid hb6
          have g6 := HH.out.below hb6
          obtain ⟨q0, q1, _, _⟩ := g6.at
          rw [HB.out] at q0
          have y1 := g6.frz 1
          clear hb6 HA g6 p0 p1
          go_wp2_with fail
          go_quiet (fail)
          go_wp2_with fail
          go_ret
          exact ⟨_, below_drewN HB6.out, .inr ⟨HN.out, rfl, rfl⟩⟩
end Go.Proofs.YtcojmmhclklpoaaGreatDoor
namespace Go.Proofs.YtcojmmhclklpoaaGreatDoor
open Go.RowKit

/-- the reader's box and its nodes -/
structure RdI (w0 : World) (T : TypeId) (RB B : Nat) (S : Nat → Prop) (s : Byts) (bd : Bool) (v : Value) (r : Int) (nodes : List Nod) (w : World) : Prop where
  bel : Below w0.heap.size w0 w
  bx : RdB T w RB s bd v r
  xb : XB S B w v 71 nodes
  ob : ¬ S RB
  own : v.ownBlock ≠ some RB
/-- what a call changes -/
def RdX (RB B : Nat) (S : Nat → Prop) (v : Value) (w : World) (S' : Nat → Prop) (v' : Value) (w' : World) : Prop := KB RB B v v' w w' ∧ (∀ g, S g → S' g) ∧ ∀ g, S' g → S g ∨ w.heap.size ≤ g
theorem RdX.refl (RB B : Nat) (S : Nat → Prop) (v : Value) (w : World) : RdX RB B S v w S v w := ⟨KB.refl _ _ _ _, fun _ h => h, fun _ h => .inl h⟩
section
variable {w0 : World} {T : TypeId} {RB B : Nat} {S : Nat → Prop} {s : Byts} {bd : Bool} {v : Value} {r : Int} {nodes : List Nod} {w : World}
theorem RdI.lt (h : RdI w0 T RB B S s bd v r nodes w) : RB < w.heap.size := (Array.getElem?_eq_some_iff.1 h.bx).1
theorem RdI.below (h : RdI w0 T RB B S s bd v r nodes w) {w' : World} (hb : Below w.heap.size w w') : RdI w0 T RB B S s bd v r nodes w' :=
  ⟨h.bel.trans (hb.mono h.bel.size), h.bx.below hb, h.xb.below hb, h.ob, h.own⟩
theorem RdX.below {S' : Nat → Prop} {v' : Value} {w1 w' : World} (h : RdX RB B S v w1 S' v' w') (hB : B ≤ w.heap.size) (hb : Below w.heap.size w w1) : RdX RB B S v w S' v' w' := by
  refine ⟨(KB.of_below v hB hb).trans h.1, h.2.1, fun g hg => ?_⟩
  have := hb.size
  rcases h.2.2 g hg with h1 | h1
  · exact .inl h1
  · exact .inr (by omega)
theorem rdx_box (hB : B ≤ RB) (w : World) (j : Nat) (u : Value) : RdX RB B S v w S v (w.setCell ⟨RB, j, none⟩ u) :=
  ⟨⟨(Below.refl B w).setCell (p := ⟨RB, j, none⟩) hB u, fun k _ ho _ => Below.heap_setCell _ _ _ _ (by exact ho), fun _ e => .inl e⟩, fun _ h => h, fun _ h => .inl h⟩
theorem RdI.setB (h : RdI w0 T RB B S s bd v r nodes w) (hw : w0.heap.size ≤ RB) (j : Nat) (u : Value) {s' : Byts} {b' : Bool} (hb : RdB T (w.setCell ⟨RB, j, none⟩ u) RB s' b' v r) : RdI w0 T RB B S s' b' v r nodes (w.setCell ⟨RB, j, none⟩ u) := by
  have k : ∀ g, g ≠ RB → (w.setCell ⟨RB, j, none⟩ u).heap[g]? = w.heap[g]? := fun g hg => Below.heap_setCell _ _ _ _ (by exact hg)
  refine ⟨h.bel.setCell (p := ⟨RB, j, none⟩) hw u, hb, h.xb.move (fun g hg => k g (fun e => h.ob (e ▸ hg))) (fun g hg => k g (fun e => h.own (e ▸ hg))) (by simp), h.ob, h.own⟩
theorem RdI.put (h : RdI w0 T RB B S s bd v r nodes w) (hw : w0.heap.size ≤ RB) (s' : Byts) : RdI w0 T RB B S s' bd v r nodes (w.setCell ⟨RB, 0, none⟩ (.string (mkB s'))) := h.setB hw 0 _ (h.bx.put s')
theorem RdI.fail (h : RdI w0 T RB B S s bd v r nodes w) (hw : w0.heap.size ≤ RB) : RdI w0 T RB B S s true v r nodes (w.setCell ⟨RB, 1, none⟩ (.bool true)) := h.setB hw 1 _ h.bx.fail
end

theorem RdI.ok {w0 : World} {T : TypeId} {RB B : Nat} {S : Nat → Prop} {s : Byts} {v : Value} {r : Int} {nodes : List Nod} {w : World} (h : RdI w0 T RB B S s false v r nodes w) (hw : w0.heap.size ≤ RB) : RdI w0 T RB B S s false v r nodes (w.setCell ⟨RB, 1, none⟩ (.bool false)) :=
  h.setB hw 1 _ (by unfold RdB; rw [heap_set_at h.bx]; rfl)
def rdM (RB : Nat) (w : World) : Nat := match w.cell? ⟨RB, 0, none⟩, w.cell? ⟨RB, 1, none⟩ with
  | some (.string b), some (.bool false) => b.size + 1
  | _, _ => 0
theorem rdM_eq {T : TypeId} {w : World} {RB : Nat} {s : Byts} {bd : Bool} {v : Value} {r : Int} (h : RdB T w RB s bd v r) : rdM RB w = if bd = true then 0 else s.length + 1 := by
  obtain ⟨h0, h1, _, _⟩ := h.at
  unfold rdM
  rw [h0, h1]
  cases bd
  · simp [mkB_size]
  · rfl

/-- on the way: the node's box N is w's end; rows made since lie behind it -/
structure NdL (w0 w : World) (T : TypeId) (RB B : Nat) (S : Nat → Prop) (v : Value) (k0 k1 k2 wv kv : Value) (ws ks : List Int) (S' : Nat → Prop) (v' : Value) (s : Byts) (bd : Bool) (r : Int) (nodes : List Nod) (wr : World) : Prop where
  i : RdI w0 T RB B S' s bd v' r nodes wr
  kb : KBs w.heap.size RB B v v' w wr
  sub : ∀ g, S g → S' g
  new : ∀ g, S' g → S g ∨ w.heap.size + 1 ≤ g
  nb : wr.heap[w.heap.size]? = some (.cells #[k0, k1, k2, wv, kv] 71 (0, 0))
  own : ∀ g, v'.ownBlock = some g → v.ownBlock = some g ∨ w.heap.size + 1 ≤ g
  rw : wr.ownsRow (w.heap.size + 1) 3 1 wv ws.length (ws.map (Value.int .i64))
  rk : wr.ownsRow (w.heap.size + 1) 3 1 kv ks.length (ks.map (Value.int .i64))
  dw : ∀ g, wv.ownBlock = some g → ¬ S' g ∧ v'.ownBlock ≠ some g ∧ kv.ownBlock ≠ some g
  dk : ∀ g, kv.ownBlock = some g → ¬ S' g ∧ v'.ownBlock ≠ some g ∧ wv.ownBlock ≠ some g
section
variable {w0 w : World} {T : TypeId} {RB B : Nat} {S : Nat → Prop} {v : Value} {k0 k1 k2 wv kv : Value} {ws ks : List Int} {S' : Nat → Prop} {v' : Value} {s : Byts} {bd : Bool} {r : Int} {nodes : List Nod} {wr : World} {s0 : Byts} {b0 : Bool} {n0 : List Nod}
theorem NdL.sz (h : NdL w0 w T RB B S v k0 k1 k2 wv kv ws ks S' v' s bd r nodes wr) : w.heap.size < wr.heap.size := (Array.getElem?_eq_some_iff.1 h.nb).1
theorem NdL.start (h : RdI w0 T RB B S s bd v r nodes w) (hB : B ≤ RB) {W2 : World} (hb : Below w.heap.size w W2) (nb : W2.heap[w.heap.size]? = some (.cells #[k0, k1, k2, .slice none 0 0, .slice none 0 0] 71 (0, 0))) : NdL w0 w T RB B S v k0 k1 k2 (.slice none 0 0) (.slice none 0 0) [] [] S v s bd r nodes W2 :=
  ⟨h.below hb, (KB.of_below v (by have := h.lt; omega) hb).s (Nat.le_refl _), fun _ h => h, fun _ h => .inl h, nb, fun _ h => .inl h, World.ownsRow_nil _ _ _ _, World.ownsRow_nil _ _ _ _, fun g e => by simp [Value.ownBlock] at e, fun g e => by simp [Value.ownBlock] at e⟩
/-- the reader has gone on -/
theorem NdL.step (h : NdL w0 w T RB B S v k0 k1 k2 wv kv ws ks S' v' s bd r nodes wr) (hR : RB < w.heap.size) (h0 : RdI w0 T RB B S s0 b0 v r n0 w) {S2 : Nat → Prop} {v2 : Value} {s2 : Byts} {b2 : Bool} {nodes2 : List Nod} {w2 : World} (hi : RdI w0 T RB B S2 s2 b2 v2 r nodes2 w2) (hX : RdX RB B S' v' wr S2 v2 w2) :
    NdL w0 w T RB B S v k0 k1 k2 wv kv ws ks S2 v2 s2 b2 r nodes2 w2 := by
  obtain ⟨h3, h4, h5⟩ := hX
  have hsz := h.sz
  have hz2 := h3.bel.size
  have hnv : v'.ownBlock ≠ some w.heap.size := fun e => by
    rcases h.own _ e with h6 | h6
    · have := (h0.xb.lt_own _ h6).2; omega
    · omega
  refine ⟨hi, h.kb.trans (h3.s h.kb.bel.size), fun g hg => h4 g (h.sub g hg), fun g hg => ?_, ?_, fun g hg => ?_, rowK_at h.rw (fun g hg => ?_), rowK_at h.rk (fun g hg => ?_), fun g hg => ?_, fun g hg => ?_⟩
  · rcases h5 g hg with h6 | h6
    · exact h.new g h6
    · exact .inr (by omega)
  · rw [h3.blk _ hsz (by omega) hnv]; exact h.nb
  · rcases h3.own g hg with h6 | h6
    · exact h.own g h6
    · exact .inr (by omega)
  · have := h.rw.lt g hg
    exact h3.blk g this.2 (by omega) (h.dw g hg).2.1
  · have := h.rk.lt g hg
    exact h3.blk g this.2 (by omega) (h.dk g hg).2.1
  · obtain ⟨d1, d2, d3⟩ := h.dw g hg
    have := h.rw.lt g hg
    refine ⟨fun hS => ?_, fun e => ?_, d3⟩
    · rcases h5 g hS with h6 | h6
      · exact d1 h6
      · omega
    · rcases h3.own g e with h6 | h6
      · exact d2 h6
      · omega
  · obtain ⟨d1, d2, d3⟩ := h.dk g hg
    have := h.rk.lt g hg
    refine ⟨fun hS => ?_, fun e => ?_, d3⟩
    · rcases h5 g hS with h6 | h6
      · exact d1 h6
      · omega
    · rcases h3.own g e with h6 | h6
      · exact d2 h6
      · omega
theorem NdL.rdx (h : NdL w0 w T RB B S v k0 k1 k2 wv kv ws ks S' v' s bd r nodes wr) : RdX RB B S v w S' v' wr := ⟨h.kb.k, h.sub, fun g hg => (h.new g hg).imp id (fun h1 => by omega)⟩
/-- the node's box is not the nodes' -/
theorem NdL.apart (h : NdL w0 w T RB B S v k0 k1 k2 wv kv ws ks S' v' s bd r nodes wr) (h0 : RdI w0 T RB B S s0 b0 v r n0 w) : v'.ownBlock ≠ some w.heap.size ∧ ¬ S' w.heap.size := by
  refine ⟨fun e => ?_, fun hS => ?_⟩
  · rcases h.own _ e with h6 | h6
    · have := (h0.xb.lt_own _ h6).2; omega
    · omega
  · rcases h.new _ hS with h6 | h6
    · have := h0.xb.lt _ h6; omega
    · omega
/-- the node's box is written over -/
theorem NdL.node (h : NdL w0 w T RB B S v k0 k1 k2 wv kv ws ks S' v' s bd r nodes wr) (h0 : RdI w0 T RB B S s0 b0 v r n0 w) (hB : B ≤ RB) (hw : w0.heap.size ≤ B) {q0 q1 q2 : Value} {wA wB : World} (hA : Below wr.heap.size wr wA) (hg : ∀ g, g ≠ w.heap.size → wB.heap[g]? = wA.heap[g]?) (hb : Below w.heap.size wA wB) (nb : wB.heap[w.heap.size]? = some (.cells #[q0, q1, q2, .slice none 0 0, .slice none 0 0] 71 (0, 0))) :
    NdL w0 w T RB B S v q0 q1 q2 (.slice none 0 0) (.slice none 0 0) [] [] S' v' s bd r nodes wB := by
  have hR := h0.lt
  have hsz := h.sz
  obtain ⟨a1, a2⟩ := h.apart h0
  have hi := h.i.below hA
  have hsA := hA.size
  have hsB := hb.size
  have hBB : Below B wr wB := (hA.mono (by omega)).trans (hb.mono (by omega))
  refine ⟨⟨h.i.bel.trans (hBB.mono hw), ?_, hi.xb.move (fun g hg' => hg g (fun e => a2 (e ▸ hg'))) (fun g hg' => hg g (fun e => a1 (e ▸ hg'))) hsB, hi.ob, hi.own⟩, h.kb.trans ⟨hBB, fun k hk ho hv => ?_, fun _ e => .inl e⟩, h.sub, h.new, nb, h.own, World.ownsRow_nil _ _ _ _, World.ownsRow_nil _ _ _ _, fun g e => by simp [Value.ownBlock] at e, fun g e => by simp [Value.ownBlock] at e⟩
  · exact (hg RB (by omega)).trans hi.bx
  · rw [hg k (by omega)]; exact hA.block k (by omega)
/-- the row of kids grows: the node's box is written -/
theorem NdL.kid (h : NdL w0 w T RB B S v k0 k1 k2 wv kv ws ks S' v' s bd r nodes wr) (h0 : RdI w0 T RB B S s0 b0 v r n0 w) (hB : B ≤ RB) (hw : w0.heap.size ≤ B) {z : Int} {x : World} {u : Value} {y : World} (hb : Below wr.heap.size wr x) (hg : x.grownBy y kv.ownBlock)
    (ho : y.ownsRow (w.heap.size + 1) 3 1 u (ks.length + 1) (ks.map (Value.int .i64) ++ [.int .i64 z])) (hv : ∀ g, u.ownBlock = some g → kv.ownBlock = some g ∨ wr.heap.size ≤ g) (_hsz : x.heap.size ≤ y.heap.size) :
    NdL w0 w T RB B S v k0 k1 k2 wv u ws (ks ++ [z]) S' v' s bd r nodes (y.setCell ⟨w.heap.size, 4, none⟩ u) := by
  have hR := h0.lt
  have hN := h.sz
  have hx := hb.size
  obtain ⟨a1, a2⟩ := h.apart h0
  have hko : ∀ g, kv.ownBlock = some g → w.heap.size + 1 ≤ g ∧ g < wr.heap.size := fun g hg => h.rk.lt g hg
  have hvl := h.i.xb.lt_own
  have blk : ∀ g, g < wr.heap.size → kv.ownBlock ≠ some g → g ≠ w.heap.size → (y.setCell ⟨w.heap.size, 4, none⟩ u).heap[g]? = wr.heap[g]? := fun g g1 g2 g3 => by
    rw [Below.heap_setCell _ _ _ _ (by show g ≠ w.heap.size; exact g3), hg.block g (by omega) (fun e => g2 e.symm)]
    exact hb.block g g1
  have hnb : y.heap[w.heap.size]? = some (.cells #[k0, k1, k2, wv, kv] 71 (0, 0)) := by
    rw [hg.block _ (by omega) (fun e => by have := hko _ e.symm; omega), hb.block _ hN]; exact h.nb
  have hbel : Below B wr (y.setCell ⟨w.heap.size, 4, none⟩ u) := ((hb.mono (by omega)).grown hg (by omega) (fun g hg' => by have := hko g hg'; omega)).setCell (p := ⟨w.heap.size, 4, none⟩) (by show B ≤ w.heap.size; omega) _
  have hrow : (y.setCell ⟨w.heap.size, 4, none⟩ u).ownsRow (w.heap.size + 1) 3 1 u (ks ++ [z]).length ((ks ++ [z]).map (Value.int .i64)) := by
    rw [List.length_append, List.map_append]
    exact rowK_at ho fun g hg' => Below.heap_setCell _ _ _ _ (by have := (ho.lt g hg').1; show g ≠ w.heap.size; omega)
  have hother : (y.setCell ⟨w.heap.size, 4, none⟩ u).ownsRow (w.heap.size + 1) 3 1 wv ws.length (ws.map (Value.int .i64)) := rowK_at h.rw fun g hg' => by
    have := h.rw.lt g hg'
    exact blk g this.2 (h.dw g hg').2.2 (by omega)
  have hvd : ∀ g, u.ownBlock = some g → ¬ S' g ∧ v'.ownBlock ≠ some g ∧ wv.ownBlock ≠ some g := fun g hg' => by
    rcases hv g hg' with h6 | h6
    · exact h.dk g h6
    · exact ⟨fun hS => by have := h.i.xb.lt g hS; omega, fun e => by have := (hvl g e).2; omega, fun e => by have := (h.rw.lt g e).2; omega⟩
  have hod : ∀ g, wv.ownBlock = some g → ¬ S' g ∧ v'.ownBlock ≠ some g ∧ u.ownBlock ≠ some g := fun g hg' => by
    obtain ⟨d1, d2, d3⟩ := h.dw g hg'
    have := h.rw.lt g hg'
    refine ⟨d1, d2, fun e => ?_⟩
    rcases hv g e with h6 | h6
    · exact d3 h6
    · omega
  refine ⟨⟨h.i.bel.trans (hbel.mono hw), ?_, h.i.xb.move (fun g hg' => ?_) (fun g hg' => ?_) hbel.size, h.i.ob, h.i.own⟩, h.kb.trans ⟨hbel, fun g g1 g2 g3 => ?_, fun _ e => .inl e⟩, h.sub, h.new, by rw [heap_set_at hnb]; rfl, h.own, hother, hrow, hod, hvd⟩
  · exact (blk RB (by omega) (fun e => by have := hko _ e; omega) (by omega)).trans h.i.bx
  · exact blk g (h.i.xb.lt g hg') (fun e => (h.dk g e).1 hg') (fun e => a2 (e ▸ hg'))
  · exact blk g (hvl g hg').2 (fun e => (h.dk g e).2.1 hg') (fun e => a1 (e ▸ hg'))
  · exact blk g (by omega) (fun e => by have := hko g e; omega) (by omega)
/-- the row of weights grows: the node's box is written -/
theorem NdL.wgt (h : NdL w0 w T RB B S v k0 k1 k2 wv kv ws ks S' v' s bd r nodes wr) (h0 : RdI w0 T RB B S s0 b0 v r n0 w) (hB : B ≤ RB) (hw : w0.heap.size ≤ B) {z : Int} {x : World} {u : Value} {y : World} (hb : Below wr.heap.size wr x) (hg : x.grownBy y wv.ownBlock)
    (ho : y.ownsRow (w.heap.size + 1) 3 1 u (ws.length + 1) (ws.map (Value.int .i64) ++ [.int .i64 z])) (hv : ∀ g, u.ownBlock = some g → wv.ownBlock = some g ∨ wr.heap.size ≤ g) (_hsz : x.heap.size ≤ y.heap.size) :
    NdL w0 w T RB B S v k0 k1 k2 u kv (ws ++ [z]) ks S' v' s bd r nodes (y.setCell ⟨w.heap.size, 3, none⟩ u) := by
  have hR := h0.lt
  have hN := h.sz
  have hx := hb.size
  obtain ⟨a1, a2⟩ := h.apart h0
  have hko : ∀ g, wv.ownBlock = some g → w.heap.size + 1 ≤ g ∧ g < wr.heap.size := fun g hg => h.rw.lt g hg
  have hvl := h.i.xb.lt_own
  have blk : ∀ g, g < wr.heap.size → wv.ownBlock ≠ some g → g ≠ w.heap.size → (y.setCell ⟨w.heap.size, 3, none⟩ u).heap[g]? = wr.heap[g]? := fun g g1 g2 g3 => by
    rw [Below.heap_setCell _ _ _ _ (by show g ≠ w.heap.size; exact g3), hg.block g (by omega) (fun e => g2 e.symm)]
    exact hb.block g g1
  have hnb : y.heap[w.heap.size]? = some (.cells #[k0, k1, k2, wv, kv] 71 (0, 0)) := by
    rw [hg.block _ (by omega) (fun e => by have := hko _ e.symm; omega), hb.block _ hN]; exact h.nb
  have hbel : Below B wr (y.setCell ⟨w.heap.size, 3, none⟩ u) := ((hb.mono (by omega)).grown hg (by omega) (fun g hg' => by have := hko g hg'; omega)).setCell (p := ⟨w.heap.size, 3, none⟩) (by show B ≤ w.heap.size; omega) _
  have hrow : (y.setCell ⟨w.heap.size, 3, none⟩ u).ownsRow (w.heap.size + 1) 3 1 u (ws ++ [z]).length ((ws ++ [z]).map (Value.int .i64)) := by
    rw [List.length_append, List.map_append]
    exact rowK_at ho fun g hg' => Below.heap_setCell _ _ _ _ (by have := (ho.lt g hg').1; show g ≠ w.heap.size; omega)
  have hother : (y.setCell ⟨w.heap.size, 3, none⟩ u).ownsRow (w.heap.size + 1) 3 1 kv ks.length (ks.map (Value.int .i64)) := rowK_at h.rk fun g hg' => by
    have := h.rk.lt g hg'
    exact blk g this.2 (h.dk g hg').2.2 (by omega)
  have hvd : ∀ g, u.ownBlock = some g → ¬ S' g ∧ v'.ownBlock ≠ some g ∧ kv.ownBlock ≠ some g := fun g hg' => by
    rcases hv g hg' with h6 | h6
    · exact h.dw g h6
    · exact ⟨fun hS => by have := h.i.xb.lt g hS; omega, fun e => by have := (hvl g e).2; omega, fun e => by have := (h.rk.lt g e).2; omega⟩
  have hod : ∀ g, kv.ownBlock = some g → ¬ S' g ∧ v'.ownBlock ≠ some g ∧ u.ownBlock ≠ some g := fun g hg' => by
    obtain ⟨d1, d2, d3⟩ := h.dk g hg'
    have := h.rk.lt g hg'
    refine ⟨d1, d2, fun e => ?_⟩
    rcases hv g e with h6 | h6
    · exact d3 h6
    · omega
  refine ⟨⟨h.i.bel.trans (hbel.mono hw), ?_, h.i.xb.move (fun g hg' => ?_) (fun g hg' => ?_) hbel.size, h.i.ob, h.i.own⟩, h.kb.trans ⟨hbel, fun g g1 g2 g3 => ?_, fun _ e => .inl e⟩, h.sub, h.new, by rw [heap_set_at hnb]; rfl, h.own, hrow, hother, hvd, hod⟩
  · exact (blk RB (by omega) (fun e => by have := hko _ e; omega) (by omega)).trans h.i.bx
  · exact blk g (h.i.xb.lt g hg') (fun e => (h.dw g e).1 hg') (fun e => a2 (e ▸ hg'))
  · exact blk g (hvl g hg').2 (fun e => (h.dw g e).2.1 hg') (fun e => a1 (e ▸ hg'))
  · exact blk g (by omega) (fun e => by have := hko g e; omega) (by omega)
/-- the node is written -/
theorem NdL.fin {k sv nn : Int} (h : NdL w0 w T RB B S v (.int .i64 k) (.int .i64 sv) (.int .i64 nn) wv kv ws ks S' v' s bd r nodes wr) (h0 : RdI w0 T RB B S s0 b0 v r n0 w) (hB : B ≤ RB) (hw : w0.heap.size ≤ B) {V : List NodV} (hV : V.length = nodes.length) (h3 : ∀ (i : Nat) p nd, V[i]? = some p → nodes[i]? = some nd → NodS S' wr p nd)
    {x : World} {u : Value} {y : World} (hb : Below wr.heap.size wr x) (hg : x.grownBy y v'.ownBlock) (ho : y.ownsRow B 71 5 u (nodes.length + 1) (V.flatMap nodVC ++ nodVC (⟨k, sv, nn, wv, kv⟩ : NodV))) (hv : ∀ g, u.ownBlock = some g → v'.ownBlock = some g ∨ wr.heap.size ≤ g) (hsz : x.heap.size ≤ y.heap.size) :
    ∃ S2, RdI w0 T RB B S2 s bd u r (nodes ++ [(⟨k, sv, nn, ws, ks⟩ : Nod)]) (y.setCell ⟨RB, 2, none⟩ u) ∧ RdX RB B S v w S2 u (y.setCell ⟨RB, 2, none⟩ u) := by
  have hR := h0.lt
  have hN := h.sz
  have hx := hb.size
  have hvl := h.i.xb.lt_own
  let Q : Nat → Prop := fun g => S' g ∨ wv.ownBlock = some g ∨ kv.ownBlock = some g
  have hQlt : ∀ g, Q g → g < wr.heap.size := fun g hT => by
    rcases hT with h6 | h6 | h6
    · exact h.i.xb.lt g h6
    · exact (h.rw.lt g h6).2
    · exact (h.rk.lt g h6).2
  have hQv : ∀ g, v'.ownBlock = some g → ¬ Q g := fun g e hT => by
    rcases hT with h6 | h6 | h6
    · exact h.i.xb.own g e h6
    · exact (h.dw g h6).2.1 e
    · exact (h.dk g h6).2.1 e
  have hQo : ¬ Q RB := fun hT => by
    rcases hT with h6 | h6 | h6
    · exact h.i.ob h6
    · have := (h.rw.lt _ h6).1; omega
    · have := (h.rk.lt _ h6).1; omega
  have hgx : wr.grownBy y v'.ownBlock := by
    exact ⟨hg.os.trans hb.os, hg.tape.trans hb.tape, hg.output.trans hb.output, by omega, fun g g1 g2 => (hg.block g (by omega) g2).trans (hb.block g g1)⟩
  have hp : NodS Q wr ⟨k, sv, nn, wv, kv⟩ ⟨k, sv, nn, ws, ks⟩ := fun w2 ha => by
    obtain ⟨a, c, e1, r1⟩ := row_alone h.rw w2 (fun g hg' => ha g (.inr (.inl hg')))
    obtain ⟨a', c', e2, r2⟩ := row_alone h.rk w2 (fun g hg' => ha g (.inr (.inr hg')))
    exact ⟨rfl, rfl, rfl, ⟨a, _, c, e1, r1⟩, ⟨a', _, c', e2, r2⟩⟩
  have hxy : XB Q B y u 71 (nodes ++ [(⟨k, sv, nn, ws, ks⟩ : Nod)]) :=
    XB.push (S := Q) (p := ⟨k, sv, nn, wv, kv⟩) hV (fun i p nd hp hn => (h3 i p nd hp hn).mono fun g hg' => .inl hg') hQlt hQv ho hp hgx hv (by omega)
  have hbox : RdB T y RB s bd v' r := by
    show y.heap[RB]? = _
    rw [hgx.block RB (by omega) (fun e => h.i.own e.symm)]; exact h.i.bx
  have huo : u.ownBlock ≠ some RB := fun e => by
    rcases hv _ e with h6 | h6
    · exact h.i.own h6
    · omega
  have keep : ∀ g, g ≠ RB → (y.setCell ⟨RB, 2, none⟩ u).heap[g]? = y.heap[g]? := fun g hg' => Below.heap_setCell _ ⟨RB, 2, none⟩ _ g (by exact hg')
  have hbel : Below B wr (y.setCell ⟨RB, 2, none⟩ u) := (((hb.mono (by omega)).grown hg (by omega) (fun g hg' => (hvl g hg').1)).setCell (p := ⟨RB, 2, none⟩) hB _)
  refine ⟨Q, ⟨h.i.bel.trans (hbel.mono hw), ?_, hxy.move (fun g hg' => keep g (fun e => hQo (e ▸ hg'))) (fun g hg' => keep g (fun e => huo (e ▸ hg'))) (by simp), hQo, huo⟩, ⟨h.kb.bel.trans hbel, fun g g1 g2 g3 => ?_, fun g e => ?_⟩, fun g hg' => .inl (h.sub g hg'), fun g hT => ?_⟩
  · show (y.setCell ⟨RB, 2, none⟩ u).heap[RB]? = _
    rw [heap_set_at hbox]; rfl
  · rw [keep g g2, hgx.block g (by omega) (fun e => ?_)]
    · exact h.kb.blk g g1 g2 g3
    · rcases h.own g e.symm with h6 | h6
      · exact g3 h6
      · omega
  · rcases hv g e with h6 | h6
    · rcases h.own g h6 with h7 | h7
      · exact .inl h7
      · exact .inr (by omega)
    · exact .inr (by omega)
  · rcases hT with h6 | h6 | h6
    · rcases h.new g h6 with h7 | h7
      · exact .inl h7
      · exact .inr (by omega)
    · exact .inr (by have := (h.rw.lt _ h6).1; omega)
    · exact .inr (by have := (h.rk.lt _ h6).1; omega)
end
end Go.Proofs.YtcojmmhclklpoaaGreatDoor
namespace Go.Proofs.YtcojmmhclklpoaaGreatDoor
open Go.RowKit Go.Shelf

theorem pEL_len (num : Byts → Option (Nat × Byts)) (full : Nat → Bool) (hn : ∀ s r v, num s = some (v, r) → r.length + 1 ≤ s.length) : ∀ f, (∀ s ns q, pE num full f s ns = some q → q.1.length + 1 ≤ s.length) ∧ (∀ s ns v ws ks q, pL num full f s ns v ws ks = some q → q.1.length + 1 ≤ s.length) := by
  intro f
  induction f with
  | zero => exact ⟨fun s ns q h => by simp [pE] at h, fun s ns v ws ks q h => by simp [pL] at h⟩
  | succ f ih =>
    refine ⟨fun s ns q h => ?_, fun s ns v ws ks q h => ?_⟩
    · rw [pE] at h
      split at h
      · rename_i r hr
        have := strip_len hr
        split at h
        · cases h
        · rename_i p hp
          cases h
          have := hn _ _ _ hp
          simp at *; omega
      · split at h
        · cases h
        · rename_i p hp
          split at h
          · cases h
          · rename_i r hr
            have h1 := hn _ _ _ hp
            have h2 := strip_len hr
            have h3 := ih.2 _ _ _ _ _ _ h
            omega
    · rw [pL] at h
      split at h
      · rename_i r hr
        have := strip_len hr
        cases h
        simp at *; omega
      · split at h
        · cases h
        · rename_i s1 hs1
          have hs : s1.length ≤ s.length := by
            split at hs1
            · cases hs1; exact Nat.le_refl _
            · have := strip_len hs1; omega
          split at h
          · cases h
          · split at h
            · cases h
            · rename_i q1 hq
              have h1 := ih.1 _ _ _ hq
              split at h
              · have h2 := ih.2 _ _ _ _ _ _ h; omega
              · rename_i r1 hr1
                have h2 := strip_len hr1
                split at h
                · cases h
                · rename_i p hp
                  have h3 := hn _ _ _ hp
                  have h4 := ih.2 _ _ _ _ _ _ h
                  omega

/-- what the reader's skip does -/
theorem skip_y {w0 : World} {RB B : Nat} {S : Nat → Prop} {s : Byts} {v : Value} {r : Int} {nodes : List Nod} {w : World} (h : RdI w0 97 RB B S s false v r nodes w) (hw : w0.heap.size ≤ B) (hB : B ≤ RB) {pre s2 : Byts} (hs : stripP pre s = some s2) :
    Calls Tryz.prog 95 #[.pointer (some ⟨RB, 0, none⟩), .string (mkB pre)] w fun e w' => e = .returned (.bool true) ∧ RdI w0 97 RB B S s2 false v r nodes w' ∧ RdX RB B S v w S v w' := by
  have h1 := skip_c pre s RB false v r w h.bx
  rw [hs] at h1
  refine h1.mono ?_
  rintro e w' ⟨rfl, rfl⟩
  exact ⟨rfl, h.put (by omega) s2, rdx_box hB _ _ _⟩
theorem skip_n {w0 : World} {RB B : Nat} {S : Nat → Prop} {s : Byts} {bd : Bool} {v : Value} {r : Int} {nodes : List Nod} {w : World} (h : RdI w0 97 RB B S s bd v r nodes w) {pre : Byts} (hs : bd = true ∨ stripP pre s = none) :
    Calls Tryz.prog 95 #[.pointer (some ⟨RB, 0, none⟩), .string (mkB pre)] w fun e w' => e = .returned (.bool false) ∧ w' = w := by
  have h1 := skip_c pre s RB bd v r w h.bx
  have h2 : (!bd && (stripP pre s).isSome) = false := by rcases hs with rfl | hs <;> simp_all
  rw [h2] at h1
  exact h1
theorem number_i {w0 : World} {RB B : Nat} {S : Nat → Prop} {s : Byts} {v : Value} {r : Int} {nodes : List Nod} {w : World} (h : RdI w0 97 RB B S s false v r nodes w) (hw : w0.heap.size ≤ B) (hB : B ≤ RB) (hs : s.length ≤ 100000) (hp : HasPow w0) (hr : HasRng w0) (hy : HasSyn w0) :
    Calls Tryz.prog 96 #[.pointer (some ⟨RB, 0, none⟩)] w fun e w' => ∃ (n : Nat) (s2 : Byts) (b2 : Bool), e = .returned (.int .i64 n) ∧ RdI w0 97 RB B S s2 b2 v r nodes w' ∧ RdX RB B S v w S v w' ∧ ((b2 = false ∧ numX s = some (n, s2)) ∨ (b2 = true ∧ numX s = none)) := by
  refine (number_c s hs RB v r w h.bx (hp.below h.bel) (hr.below h.bel) (hy.below h.bel)).mono ?_
  rintro e w' ⟨w1, hb, h1⟩
  have hi := h.below hb
  have hl := h.lt
  rcases h1 with ⟨n, q, h2, rfl, rfl⟩ | ⟨h2, rfl, rfl⟩
  · exact ⟨n, q, false, rfl, hi.put (by omega) q, (rdx_box hB w1 _ _).below (by omega) hb, .inl ⟨rfl, h2⟩⟩
  · exact ⟨0, s, true, rfl, hi.fail (by omega), (rdx_box hB w1 _ _).below (by omega) hb, .inr ⟨rfl, h2⟩⟩

def fl60 (n : Nat) : Bool := decide (60 ≤ n)
def NdC (w0 : World) (RB B : Nat) (r : Int) (f : Nat) : Prop :=
  ∀ (w : World) (S : Nat → Prop) (v : Value) (nodes : List Nod) (s : Byts), RdI w0 97 RB B S s false v r nodes w → s.length < f → nodes.length ≤ 60 → f ≤ 100000 →
    Calls Tryz.prog 70 #[.pointer (some ⟨RB, 0, none⟩)] w fun e w' => ∃ (S2 : Nat → Prop) (v2 : Value) (s2 : Byts) (b2 : Bool) (nodes2 : List Nod) (z : Int), e = .returned (.int .i64 z) ∧ RdI w0 97 RB B S2 s2 b2 v2 r nodes2 w' ∧ RdX RB B S v w S2 v2 w' ∧ nodes2.length ≤ 60 + f ∧ ((b2 = false ∧ pE numX fl60 f s nodes = some (s2, nodes2) ∧ z = ((nodes2.length - 1 : Nat) : Int)) ∨ (b2 = true ∧ pE numX fl60 f s nodes = none))

def LpP (f : Nat) (s : Byts) (nodes : List Nod) (n : Nat) (ws ks : List Int) (s' : Byts) (bd : Bool) (nodes' : List Nod) : Prop :=
  ws.length ≤ ks.length ∧ ks.length ≤ f + 1 ∧ nodes'.length ≤ 60 + f ∧ ((bd = false ∧ ∃ g, pE numX fl60 (f + 1) s nodes = pL numX fl60 g s' nodes' n ws ks ∧ s'.length + 1 < g ∧ g ≤ f ∧ ks.length + s'.length ≤ f ∧ nodes'.length ≤ 60 + g) ∨ (bd = true ∧ pE numX fl60 (f + 1) s nodes = none))
section
variable {f : Nat} {s : Byts} {nodes : List Nod} {n : Nat} {ws ks : List Int} {s' : Byts} {nodes' : List Nod}
theorem lp_bad (h : LpP f s nodes n ws ks s' true nodes') : pE numX fl60 (f + 1) s nodes = none := by
  rcases h.2.2.2 with ⟨h1, _⟩ | ⟨_, h1⟩
  · cases h1
  · exact h1
theorem lp_end (h : LpP f s nodes n ws ks s' false nodes') {r3 : Byts} (h3 : stripP [41] s' = some r3) : pE numX fl60 (f + 1) s nodes = some (r3, nodes' ++ [⟨2, 0, (n : Int), ws, ks⟩]) := by
  rcases h.2.2.2 with ⟨_, g, h1, h2, _⟩ | ⟨h1, _⟩
  · obtain ⟨g, rfl⟩ : ∃ k, g = k + 1 := ⟨g - 1, by omega⟩
    rw [h1, pL, h3]
  · cases h1
def lpQ (g n : Nat) (ws ks : List Int) : Option (Byts × List Nod) → Option (Byts × List Nod)
  | none => none
  | some q => match stripP [42] q.1 with
    | none => pL numX fl60 g q.1 q.2 n ws (ks ++ [((q.2.length - 1 : Nat) : Int)])
    | some r1 => match numX r1 with
      | none => none
      | some p => pL numX fl60 g p.2 q.2 n (ws ++ [(p.1 : Int)]) (ks ++ [((q.2.length - 1 : Nat) : Int)])
theorem lp_go (h : LpP f s nodes n ws ks s' false nodes') (h3 : stripP [41] s' = none) : ∃ g, g < f ∧ s'.length < g ∧ ks.length + s'.length ≤ f ∧ nodes'.length ≤ 60 + g + 1 ∧ Hid (pE numX fl60 (f + 1) s nodes = match (if ks = [] then some s' else stripP [44, 32] s') with
      | none => none
      | some s1 => if fl60 nodes'.length = true then none else lpQ g n ws ks (pE numX fl60 g s1 nodes')) := by
  rcases h.2.2.2 with ⟨_, g, h1, h2, h4, h5, h6⟩ | ⟨h1, _⟩
  · obtain ⟨g, rfl⟩ : ∃ k, g = k + 1 := ⟨g - 1, by omega⟩
    refine ⟨g, by omega, by omega, h5, by omega, Lib.hid ?_⟩
    rw [h1, pL, h3]
    cases (if ks = [] then some s' else stripP [44, 32] s') with
    | none => rfl
    | some s1 =>
      show (if fl60 nodes'.length = true then none else _) = (if fl60 nodes'.length = true then none else _)
      by_cases hf : fl60 nodes'.length = true
      · rw [if_pos hf, if_pos hf]
      · rw [if_neg hf, if_neg hf]
        cases pE numX fl60 g s1 nodes' with
        | none => rfl
        | some q => rfl
  · cases h1
variable {g : Nat} {s1 s5 s8 r6 : Byts} {b5 b8 : Bool} {nodes5 : List Nod} {z5 : Int} {m8 : Nat}
theorem lp_kid (hwl : ws.length ≤ ks.length) (hks : ks.length + s'.length ≤ f) (hs1 : s1.length ≤ s'.length) (hg : s'.length < g) (hgf : g < f) (hgo : pE numX fl60 (f + 1) s nodes = lpQ g n ws ks (pE numX fl60 g s1 nodes')) (hc : nodes5.length ≤ 60 + g) (hp : (b5 = false ∧ pE numX fl60 g s1 nodes' = some (s5, nodes5) ∧ z5 = ((nodes5.length - 1 : Nat) : Int)) ∨ (b5 = true ∧ pE numX fl60 g s1 nodes' = none)) (h6 : b5 = true ∨ stripP [42] s5 = none) : LpP f s nodes n ws (ks ++ [z5]) s5 b5 nodes5 := by
  have hkl : (ks ++ [z5]).length = ks.length + 1 := by simp
  refine ⟨by omega, by omega, by omega, ?_⟩
  rcases hp with ⟨rfl, h1, h2⟩ | ⟨rfl, h1⟩
  · have hl := (pEL_len numX fl60 (fun _ _ _ => numX_len) g).1 _ _ _ h1
    simp only at hl
    rcases h6 with h6 | h6
    · cases h6
    · refine .inl ⟨rfl, g, ?_, by omega, by omega, by omega, hc⟩
      rw [hgo, h1, h2]
      show (match stripP [42] s5 with | none => _ | some _ => _) = _
      rw [h6]
  · exact .inr ⟨rfl, by rw [hgo, h1]; rfl⟩
theorem lp_wgt (hwl : ws.length ≤ ks.length) (hks : ks.length + s'.length ≤ f) (hs1 : s1.length ≤ s'.length) (hg : s'.length < g) (hgf : g < f) (hgo : pE numX fl60 (f + 1) s nodes = lpQ g n ws ks (pE numX fl60 g s1 nodes')) (hc : nodes5.length ≤ 60 + g) (h1 : pE numX fl60 g s1 nodes' = some (s5, nodes5)) (h2 : z5 = ((nodes5.length - 1 : Nat) : Int)) (h6 : stripP [42] s5 = some r6) (hp : (b8 = false ∧ numX r6 = some (m8, s8)) ∨ (b8 = true ∧ numX r6 = none)) : LpP f s nodes n (ws ++ [(m8 : Int)]) (ks ++ [z5]) s8 b8 nodes5 := by
  have hkl : (ks ++ [z5]).length = ks.length + 1 := by simp
  have hwl2 : (ws ++ [(m8 : Int)]).length = ws.length + 1 := by simp
  have hl := (pEL_len numX fl60 (fun _ _ _ => numX_len) g).1 _ _ _ h1
  simp only at hl
  have hl6 := strip_len h6
  have hgo2 : pE numX fl60 (f + 1) s nodes = match numX r6 with
      | none => none
      | some p => pL numX fl60 g p.2 nodes5 n (ws ++ [(p.1 : Int)]) (ks ++ [((nodes5.length - 1 : Nat) : Int)]) := by
    rw [hgo, h1]
    show (match stripP [42] s5 with | none => _ | some _ => _) = _
    rw [h6]
  refine ⟨by omega, by omega, by omega, ?_⟩
  rcases hp with ⟨rfl, h8⟩ | ⟨rfl, h8⟩
  · have := numX_len h8
    refine .inl ⟨rfl, g, ?_, by omega, by omega, by omega, hc⟩
    rw [hgo2, h8, h2]
  · exact .inr ⟨rfl, by rw [hgo2, h8]⟩
end

theorem world5 {W w6 : World} {N : Nat} {a b c d e a' b' c' d' e' : Value} (h : W.heap[N]? = some (.cells #[a, b, c, d, e] 71 (0, 0))) (hw : ((((W.setCell ⟨N, 0, none⟩ a').setCell ⟨N, 1, none⟩ b').setCell ⟨N, 2, none⟩ c').setCell ⟨N, 3, none⟩ d').setCell ⟨N, 4, none⟩ e' = w6) : w6.heap[N]? = some (.cells #[a', b', c', d', e'] 71 (0, 0)) ∧ (∀ g, g ≠ N → w6.heap[g]? = W.heap[g]?) ∧ Below N W w6 := by
  subst hw
  refine ⟨heap_set_at (heap_set_at (heap_set_at (heap_set_at (heap_set_at h 0 _) 1 _) 2 _) 3 _) 4 _, fun g hg => ?_, ?_⟩
  · rw [Below.heap_setCell _ _ _ _ (by exact hg), Below.heap_setCell _ _ _ _ (by exact hg), Below.heap_setCell _ _ _ _ (by exact hg), Below.heap_setCell _ _ _ _ (by exact hg), Below.heap_setCell _ _ _ _ (by exact hg)]
  · exact (((((Below.refl _ _).setCell (p := ⟨N, 0, none⟩) (Nat.le_refl _) _).setCell (p := ⟨N, 1, none⟩) (Nat.le_refl _) _).setCell (p := ⟨N, 2, none⟩) (Nat.le_refl _) _).setCell (p := ⟨N, 3, none⟩) (Nat.le_refl _) _).setCell (p := ⟨N, 4, none⟩) (Nat.le_refl _) _

set_option maxRecDepth 100000 in
set_option maxHeartbeats 8000000 in
theorem node_step (w0 : World) (RB B : Nat) (hw0 : w0.heap.size ≤ B) (hB : B ≤ RB) (r : Int) (hp : HasPow w0) (hr : HasRng w0) (hy : HasSyn w0) (f : Nat) (ih : ∀ g, g ≤ f → NdC w0 RB B r g) : NdC w0 RB B r (f + 1) := by
  intro w S v nodes s hI hsf hnl hf
  have hrl := hI.lt
  have HI := Lib.hid hI
  have HIH := Lib.hid ih
  have HP := Lib.hid hp
  have HR := Lib.hid hr
  have HY := Lib.hid hy
  clear hI ih hp hr hy
  go_enter Tryz.func70, Tryz.ntmps70
  go_wp2_with fail
  generalize hW2 : w.alloc _ = W2
  have gN : W2.heap[w.heap.size]? = some (.cells #[.int .i64 0, .int .i64 0, .int .i64 0, .slice none 0 0, .slice none 0 0] 71 (0, 0)) := by rw [← hW2]; exact heap_alloc_new _ _
  have hb2 : Below w.heap.size w W2 := by rw [← hW2]; exact (Below.refl _ _).alloc (Nat.le_refl _) _
  have hL0 := NdL.start HI.out hB hb2 gN
  have HL0 := Lib.hid hL0
  clear hW2 gN hb2 hL0
  cases h1 : stripP [115] s with
  | some r1 =>
    have hl1 := strip_len h1
    simp at hl1
    have HS := Lib.hid (skip_y HL0.out.i hw0 hB h1)
    have H1 := Lib.hid h1
    clear h1
    refine HS.out.mono ?_
    rintro e w3 ⟨rfl, hI3, hX3⟩
    have HL3 := Lib.hid (HL0.out.step hrl HI.out hI3 hX3)
    clear hI3 hX3 HS
    go_wp2_with fail
    with_reducible refine (number_i HL3.out.i hw0 hB (by omega) HP.out HR.out HY.out).mono ?_
    rintro e w5 ⟨n, s2, b2, rfl, hI5, hX5, hN5⟩
    have hL5 := HL3.out.step hrl HI.out hI5 hX5
    obtain ⟨n0, n1, n2, n3, n4⟩ := open5 hL5.nb
    obtain ⟨y0, y1, y2, y3, y4⟩ := frz5 hL5.nb
    have HL5 := Lib.hid hL5
    have HN5 := Lib.hid hN5
    clear hI5 hX5 hL5 hN5
    go_wp2_with fail
    clear n0 n1 n2 n3 n4 y0 y1 y2 y3 y4
    generalize hw6 : ((((w5.setCell _ _).setCell _ _).setCell _ _).setCell _ _).setCell _ _ = w6
    obtain ⟨nb6, hk6, hb6⟩ := world5 HL5.out.nb hw6
    have hL6 := HL5.out.node HI.out hB hw0 (Below.refl _ _) hk6 hb6 nb6
    have HL6 := Lib.hid hL6
    clear hL6 nb6 hk6 hb6 hw6
    have hnx : nodes.length ≤ 60 + f := by omega
    obtain ⟨V, hV1, hV2, hV3⟩ := HL6.out.i.xb.row
    obtain ⟨NN, hNN⟩ : ∃ NN, NN = nodes.length := ⟨_, rfl⟩
    rw [← hNN] at hV2
    obtain ⟨av, cv, hav, _⟩ := rdK_of_row hV2
    subst hav
    have hnn : NN ≤ 60 + f := by omega
    have HNN := Lib.hid hNN
    have HV1 := Lib.hid hV1
    have HV3 := Lib.hid hV3
    have HRV := Lib.hid hV2
    have hbx := HL6.out.i.bx
    unfold RdB at hbx
    have q2 := cell_of_row _ _ 2 _ _ _ hbx
    have f2 := frozen_row hbx 2
    obtain ⟨n0, n1, n2, n3, n4⟩ := open5 HL6.out.nb
    have hws := HL6.out.sz
    have hBw : B ≤ w6.heap.size := by omega
    have q2b : (w6.alloc (Obj.cells #[(.int .i64 1), (.int .i64 n), (.int .i64 0), (.slice none 0 0), (.slice none 0 0)] 71)).cell? ⟨RB, 2, none⟩ = some (.slice av NN cv) := cell_of_row _ _ 2 _ _ _ (heap_alloc_at hbx _)
    have hown : ∀ g, (Value.slice av NN cv).ownBlock = some g → g ≠ RB := fun g hg e => HL6.out.i.own (e ▸ hg)
    have HBX := Lib.hid hbx
    have KA : Hid (∀ x y : World, x.grownBy y (Value.slice av NN cv).ownBlock → x.heap[RB]? = w6.heap[RB]? → w6.heap.size ≤ x.heap.size → ∃ s b r, y.heap[RB]? = some (.cells #[.string (mkB s), .bool b, .slice av NN cv, .int .i64 r] 97 (0, 0))) := Lib.hid (fun x y hg hx hsx => ⟨_, _, _, by
      rw [hg.block RB (by omega) (fun e => hown _ e.symm rfl), hx]
      exact HBX.out⟩)
    obtain ⟨i0, hi0, hz0, hz1, hz2⟩ := info_parts Tryz.infoNod
    clear hV1 hV2 hV3 hbx hNN hown
    go_wp2_with fail
    go_region_law (first
      | (refine step_append_lies _ (by rfl) _ _ _ (by rfl) B 71 i0 _ 5 72 Tryz.underlying30 hi0 hz0 hz1 hz2 rfl (by omega) (.slice av NN cv) NN _ (by rfl) ((HRV.out.alloc _).drew) ⟨w6.heap.size, 0, none⟩ 1 1 [(.int .i64 1), (.int .i64 n), (.int .i64 0), (.slice none 0 0), (.slice none 0 0)] (by rfl) (by rfl) (World.news_of_block (cs := #[(.int .i64 1), (.int .i64 n), (.int .i64 0), (.slice none 0 0), (.slice none 0 0)]) (t := 71) (fr := (0, 0)) (heap_alloc_new w6 _)) (by simp [Value.oneCell']) (by omega) (by unfold maxLen; omega) (by omega) (by simp; omega) (w6.heap.size + 1) (by simp) ?_; intro gg cap wA hownA hgrow hat hlt; obtain ⟨sA, bA, rA, hA⟩ := KA.out _ _ hgrow (Below.heap_alloc w6 _ _ (by omega)) (by simp); have pA := cell_of_row _ _ 2 _ _ _ hA; have zA := frozen_row hA 2; have HA := Lib.hid hA; have HOA := Lib.hid hownA; have HGA := Lib.hid hgrow; have HAT := Lib.hid hat; clear hA hownA hgrow hat q2 q2b f2))
    all_goals
      obtain ⟨a5, c5, hv5, _⟩ := rdK_of_row HOA.out
      cases hv5
      obtain ⟨SF, hF1, hF2⟩ := HL6.out.fin HI.out hB hw0 HV1.out HV3.out (x := (w6.alloc _).drew) (u := .slice (some ⟨gg, 0, none⟩) (NN + 1) cap) (y := wA) (below_drew ((Below.refl _ _).alloc (Nat.le_refl _) _)) HGA.out (by rw [← HNN.out]; exact HOA.out) (fun g hg => by
        have e2 : gg = g := by simpa [Value.ownBlock] using hg
        rcases HAT.out with h1 | h1
        · exact .inl (e2 ▸ h1)
        · exact .inr (by omega)) HGA.out.size
      have HF1 := Lib.hid hF1
      have HF2 := Lib.hid hF2
      clear hF1 hF2 HOA HGA HAT HV1 HV3 HRV KA HBX HA
      go_wp2_with fail
      go_ret
      refine ⟨SF, _, _, _, _, (NN : Int), ?_, HF1.out, HF2.out, by rw [List.length_append, ← HNN.out]; simp; omega, ?_⟩
      · show Ending.returned (.int .i64 _) = _
        congr 2
        all_goals omega
      rcases HN5.out with ⟨rfl, hx⟩ | ⟨rfl, hx⟩
      · refine .inl ⟨rfl, by rw [pE, H1.out]; simp only; rw [hx], ?_⟩
        rw [List.length_append, ← HNN.out]; simp
      · exact .inr ⟨rfl, by rw [pE, H1.out]; simp only; rw [hx]⟩
  | none =>
    have HS := Lib.hid (skip_n HL0.out.i (.inr h1))
    have H1 := Lib.hid h1
    clear h1
    refine HS.out.mono ?_
    rintro e w3 ⟨rfl, rfl⟩
    clear HS
    go_wp2_with fail
    with_reducible refine (number_i HL0.out.i hw0 hB (by omega) HP.out HR.out HY.out).mono ?_
    rintro e w5 ⟨n, s2, b2, rfl, hI5, hX5, hN5⟩
    have hL5 := HL0.out.step hrl HI.out hI5 hX5
    obtain ⟨n0, n1, n2, n3, n4⟩ := open5 hL5.nb
    obtain ⟨y0, y1, y2, y3, y4⟩ := frz5 hL5.nb
    have HL5 := Lib.hid hL5
    have HN5 := Lib.hid hN5
    clear hI5 hX5 hL5 hN5
    go_wp2_with fail
    clear n0 n1 n2 n3 n4 y0 y1 y2 y3 y4
    generalize hw6 : ((((w5.setCell _ _).setCell _ _).setCell _ _).setCell _ _).setCell _ _ = w6
    obtain ⟨nb6, hk6, hb6⟩ := world5 HL5.out.nb hw6
    have hL6 := HL5.out.node HI.out hB hw0 (Below.refl _ _) hk6 hb6 nb6
    have HL6 := Lib.hid hL6
    clear hL6 nb6 hk6 hb6 hw6 HL5
    have hcase : (b2 = false ∧ ∃ r2, stripP [40] s2 = some r2 ∧ numX s = some (n, s2)) ∨ ((b2 = true ∨ stripP [40] s2 = none) ∧ pE numX fl60 (f + 1) s nodes = none) := by
      rcases HN5.out with ⟨rfl, hx⟩ | ⟨rfl, hx⟩
      · cases h2 : stripP [40] s2 with
        | none => exact .inr ⟨.inr rfl, by rw [pE, H1.out]; simp only; rw [hx]; simp only; rw [h2]⟩
        | some r2 => exact .inl ⟨rfl, r2, rfl, hx⟩
      · exact .inr ⟨.inl rfl, by rw [pE, H1.out]; simp only; rw [hx]⟩
    rcases hcase with ⟨rfl, r2, h2, hx⟩ | ⟨hh, hN⟩
    · have hl2 := strip_len h2
      have hl3 := numX_len hx
      simp at hl2
      have HS := Lib.hid (skip_y HL6.out.i hw0 hB h2)
      have hpe : pE numX fl60 (f + 1) s nodes = pL numX fl60 f r2 nodes n [] [] := by rw [pE, H1.out]; simp only; rw [hx]; simp only; rw [h2]
      have HPE := Lib.hid hpe
      clear h2 hx hpe HN5
      refine HS.out.mono ?_
      rintro e w7 ⟨rfl, hI7, hX7⟩
      have hL7 := HL6.out.step hrl HI.out hI7 hX7
      have HL7 := Lib.hid hL7
      have p1 := hL7.i.bx.at.2.1
      have y1 := hL7.i.bx.frz 1
      clear hI7 hX7 hL7 HS HL6
      go_wp2_with fail
      have HL8 := Lib.hid (HL7.out.step hrl HI.out (HL7.out.i.ok (by omega)) (rdx_box hB _ 1 (.bool false)))
      clear p1 y1
      generalize w7.setCell _ _ = w8 at HL8 ⊢
      go_loopw [24] (fun _ wr => ∃ (ws ks : List Int) (wv kv : Value) (S' : Nat → Prop) (v' : Value) (s' : Byts) (bd : Bool) (nodes' : List Nod), NdL w0 w 97 RB B S v (.int .i64 2) (.int .i64 0) (.int .i64 n) wv kv ws ks S' v' s' bd r nodes' wr ∧ LpP f s nodes n ws ks s' bd nodes') (fun _ wr => rdM RB wr)
      case atStart => exact ⟨[], [], _, _, S, v, r2, false, nodes, HL8.out, Nat.le_refl _, by simp, by omega, .inl ⟨rfl, f, HPE.out, by omega, Nat.le_refl _, by simp; omega, by omega⟩⟩
      case round =>
        obtain ⟨ws, ks, wv, kv, S', v', s', bd, nodes', hL, hP⟩ := hrel
        clear HL7 HL8 HPE
        have hrw := hL.rw
        have hrk := hL.rk
        obtain ⟨aw2, cw2, rfl, _⟩ := rd_of_row hrw
        obtain ⟨ak2, ck2, rfl, _⟩ := rd_of_row hrk
        have hbx := hL.i.bx
        have HM := Lib.hid (rdM_eq hbx)
        have p1 := hbx.at.2.1
        have y1 := hbx.frz 1
        have hnx := hP.2.2.1
        have hkl := hP.2.1
        have hwl := hP.1
        have HL := Lib.hid hL
        have HLP := Lib.hid hP
        clear hL hP hrw hrk hbx
        cases bd with
        | true =>
          have HN := Lib.hid (lp_bad HLP.out)
          go_wp2_with fail
          clear p1 y1
          obtain ⟨V, hV1, hV2, hV3⟩ := HL.out.i.xb.row
          obtain ⟨NN, hNN⟩ : ∃ NN, NN = nodes'.length := ⟨_, rfl⟩
          rw [← hNN] at hV2
          obtain ⟨av, cv, hav, _⟩ := rdK_of_row hV2
          subst hav
          have hnn : NN ≤ 60 + f := by omega
          have HNN := Lib.hid hNN
          have HV1 := Lib.hid hV1
          have HV3 := Lib.hid hV3
          have HRV := Lib.hid hV2
          have hbx := HL.out.i.bx
          unfold RdB at hbx
          have q2 := cell_of_row _ _ 2 _ _ _ hbx
          have f2 := frozen_row hbx 2
          obtain ⟨n0, n1, n2, n3, n4⟩ := open5 HL.out.nb
          have hws := HL.out.sz
          have hBw : B ≤ wr.heap.size := by omega
          have q2b : (wr.alloc (Obj.cells #[(.int .i64 2), (.int .i64 0), (.int .i64 n), (.slice aw2 ws.length cw2), (.slice ak2 ks.length ck2)] 71)).cell? ⟨RB, 2, none⟩ = some (.slice av NN cv) := cell_of_row _ _ 2 _ _ _ (heap_alloc_at hbx _)
          have hown : ∀ g, (Value.slice av NN cv).ownBlock = some g → g ≠ RB := fun g hg e => HL.out.i.own (e ▸ hg)
          have HBX := Lib.hid hbx
          have KA : Hid (∀ x y : World, x.grownBy y (Value.slice av NN cv).ownBlock → x.heap[RB]? = wr.heap[RB]? → wr.heap.size ≤ x.heap.size → ∃ s b r, y.heap[RB]? = some (.cells #[.string (mkB s), .bool b, .slice av NN cv, .int .i64 r] 97 (0, 0))) := Lib.hid (fun x y hg hx hsx => ⟨_, _, _, by
            rw [hg.block RB (by omega) (fun e => hown _ e.symm rfl), hx]
            exact HBX.out⟩)
          obtain ⟨i0, hi0, hz0, hz1, hz2⟩ := info_parts Tryz.infoNod
          clear hV1 hV2 hV3 hbx hNN hown
          go_wp2_with fail
          go_region_law (first
            | (refine step_append_lies _ (by rfl) _ _ _ (by rfl) B 71 i0 _ 5 72 Tryz.underlying30 hi0 hz0 hz1 hz2 rfl (by omega) (.slice av NN cv) NN _ (by rfl) ((HRV.out.alloc _).drew) ⟨wr.heap.size, 0, none⟩ 1 1 [(.int .i64 2), (.int .i64 0), (.int .i64 n), (.slice aw2 ws.length cw2), (.slice ak2 ks.length ck2)] (by rfl) (by rfl) (World.news_of_block (cs := #[(.int .i64 2), (.int .i64 0), (.int .i64 n), (.slice aw2 ws.length cw2), (.slice ak2 ks.length ck2)]) (t := 71) (fr := (0, 0)) (heap_alloc_new wr _)) (by simp [Value.oneCell']) (by omega) (by unfold maxLen; omega) (by omega) (by simp; omega) (wr.heap.size + 1) (by simp) ?_; intro gg cap wA hownA hgrow hat hlt; obtain ⟨sA, bA, rA, hA⟩ := KA.out _ _ hgrow (Below.heap_alloc wr _ _ (by omega)) (by simp); have pA := cell_of_row _ _ 2 _ _ _ hA; have zA := frozen_row hA 2; have HA := Lib.hid hA; have HOA := Lib.hid hownA; have HGA := Lib.hid hgrow; have HAT := Lib.hid hat; clear hA hownA hgrow hat q2 q2b f2))
          all_goals
            obtain ⟨a5, c5, hv5, _⟩ := rdK_of_row HOA.out
            cases hv5
            obtain ⟨SF, hF1, hF2⟩ := HL.out.fin HI.out hB hw0 HV1.out HV3.out (x := (wr.alloc _).drew) (u := .slice (some ⟨gg, 0, none⟩) (NN + 1) cap) (y := wA) (below_drew ((Below.refl _ _).alloc (Nat.le_refl _) _)) HGA.out (by rw [← HNN.out]; exact HOA.out) (fun g hg => by
              have e2 : gg = g := by simpa [Value.ownBlock] using hg
              rcases HAT.out with h1 | h1
              · exact .inl (e2 ▸ h1)
              · exact .inr (by omega)) HGA.out.size
            have HF1 := Lib.hid hF1
            have HF2 := Lib.hid hF2
            clear hF1 hF2 HOA HGA HAT HV1 HV3 HRV KA HBX HA
            go_wp2_with fail
            go_ret
            refine ⟨SF, _, _, _, _, (NN : Int), ?_, HF1.out, HF2.out, by rw [List.length_append, ← HNN.out]; simp; omega, ?_⟩
            · show Ending.returned (.int .i64 _) = _
              congr 2
              all_goals omega
            exact .inr ⟨rfl, HN.out⟩
        | false =>
          have HM : Hid (rdM RB wr = s'.length + 1) := Lib.hid (by rw [HM.out]; simp)
          cases h3 : stripP [41] s' with
          | some r3 =>
            have HN := Lib.hid (lp_end HLP.out h3)
            have HS := Lib.hid (skip_y HL.out.i hw0 hB h3)
            clear h3
            go_wp2_with fail
            refine HS.out.mono ?_
            rintro e w7 ⟨rfl, hI7, hX7⟩
            have HL7 := Lib.hid (HL.out.step hrl HI.out hI7 hX7)
            clear hI7 hX7 HS HL HM p1 y1
            go_wp2_with fail
            obtain ⟨V, hV1, hV2, hV3⟩ := HL7.out.i.xb.row
            obtain ⟨NN, hNN⟩ : ∃ NN, NN = nodes'.length := ⟨_, rfl⟩
            rw [← hNN] at hV2
            obtain ⟨av, cv, hav, _⟩ := rdK_of_row hV2
            subst hav
            have hnn : NN ≤ 60 + f := by omega
            have HNN := Lib.hid hNN
            have HV1 := Lib.hid hV1
            have HV3 := Lib.hid hV3
            have HRV := Lib.hid hV2
            have hbx := HL7.out.i.bx
            unfold RdB at hbx
            have q2 := cell_of_row _ _ 2 _ _ _ hbx
            have f2 := frozen_row hbx 2
            obtain ⟨n0, n1, n2, n3, n4⟩ := open5 HL7.out.nb
            have hws := HL7.out.sz
            have hBw : B ≤ w7.heap.size := by omega
            have q2b : (w7.alloc (Obj.cells #[(.int .i64 2), (.int .i64 0), (.int .i64 n), (.slice aw2 ws.length cw2), (.slice ak2 ks.length ck2)] 71)).cell? ⟨RB, 2, none⟩ = some (.slice av NN cv) := cell_of_row _ _ 2 _ _ _ (heap_alloc_at hbx _)
            have hown : ∀ g, (Value.slice av NN cv).ownBlock = some g → g ≠ RB := fun g hg e => HL7.out.i.own (e ▸ hg)
            have HBX := Lib.hid hbx
            have KA : Hid (∀ x y : World, x.grownBy y (Value.slice av NN cv).ownBlock → x.heap[RB]? = w7.heap[RB]? → w7.heap.size ≤ x.heap.size → ∃ s b r, y.heap[RB]? = some (.cells #[.string (mkB s), .bool b, .slice av NN cv, .int .i64 r] 97 (0, 0))) := Lib.hid (fun x y hg hx hsx => ⟨_, _, _, by
              rw [hg.block RB (by omega) (fun e => hown _ e.symm rfl), hx]
              exact HBX.out⟩)
            obtain ⟨i0, hi0, hz0, hz1, hz2⟩ := info_parts Tryz.infoNod
            clear hV1 hV2 hV3 hbx hNN hown
            go_wp2_with fail
            go_region_law (first
              | (refine step_append_lies _ (by rfl) _ _ _ (by rfl) B 71 i0 _ 5 72 Tryz.underlying30 hi0 hz0 hz1 hz2 rfl (by omega) (.slice av NN cv) NN _ (by rfl) ((HRV.out.alloc _).drew) ⟨w7.heap.size, 0, none⟩ 1 1 [(.int .i64 2), (.int .i64 0), (.int .i64 n), (.slice aw2 ws.length cw2), (.slice ak2 ks.length ck2)] (by rfl) (by rfl) (World.news_of_block (cs := #[(.int .i64 2), (.int .i64 0), (.int .i64 n), (.slice aw2 ws.length cw2), (.slice ak2 ks.length ck2)]) (t := 71) (fr := (0, 0)) (heap_alloc_new w7 _)) (by simp [Value.oneCell']) (by omega) (by unfold maxLen; omega) (by omega) (by simp; omega) (w7.heap.size + 1) (by simp) ?_; intro gg cap wA hownA hgrow hat hlt; obtain ⟨sA, bA, rA, hA⟩ := KA.out _ _ hgrow (Below.heap_alloc w7 _ _ (by omega)) (by simp); have pA := cell_of_row _ _ 2 _ _ _ hA; have zA := frozen_row hA 2; have HA := Lib.hid hA; have HOA := Lib.hid hownA; have HGA := Lib.hid hgrow; have HAT := Lib.hid hat; clear hA hownA hgrow hat q2 q2b f2))
            all_goals
              obtain ⟨a5, c5, hv5, _⟩ := rdK_of_row HOA.out
              cases hv5
              obtain ⟨SF, hF1, hF2⟩ := HL7.out.fin HI.out hB hw0 HV1.out HV3.out (x := (w7.alloc _).drew) (u := .slice (some ⟨gg, 0, none⟩) (NN + 1) cap) (y := wA) (below_drew ((Below.refl _ _).alloc (Nat.le_refl _) _)) HGA.out (by rw [← HNN.out]; exact HOA.out) (fun g hg => by
                have e2 : gg = g := by simpa [Value.ownBlock] using hg
                rcases HAT.out with h1 | h1
                · exact .inl (e2 ▸ h1)
                · exact .inr (by omega)) HGA.out.size
              have HF1 := Lib.hid hF1
              have HF2 := Lib.hid hF2
              clear hF1 hF2 HOA HGA HAT HV1 HV3 HRV KA HBX HA
              go_wp2_with fail
              go_ret
              refine ⟨SF, _, _, _, _, (NN : Int), ?_, HF1.out, HF2.out, by rw [List.length_append, ← HNN.out]; simp; omega, ?_⟩
              · show Ending.returned (.int .i64 _) = _
                congr 2
                all_goals omega
              exact .inl ⟨rfl, HN.out, by rw [List.length_append, ← HNN.out]; simp⟩
          | none =>
            have HS := Lib.hid (skip_n HL.out.i (.inr h3))
            obtain ⟨g, hgf, hsg, hks, hng, hgo⟩ := lp_go HLP.out h3
            clear h3
            go_wp2_with fail
            refine HS.out.mono ?_
            rintro e w7 ⟨rfl, hw7⟩
            have hw8 := hw7.symm
            clear hw7
            subst hw8
            clear HS
            have n4 := (open5 HL.out.nb).2.2.2.2
            have q2 := HL.out.i.bx.at.2.2.1
            have hnv := HL.out.i.xb.shape
            obtain ⟨av, cv, hav, _⟩ := hnv
            subst hav
            by_cases hk0 : ks = []
            · rw [if_pos hk0] at hgo
              have e1 : decide ((0 : Int) < (ks.length : Int)) = false := decide_eq_false (by rw [hk0]; simp)
              have e4 : decide (0 < ks.length) = false := decide_eq_false (by rw [hk0]; simp)
              have HK0 := Lib.hid hk0
              clear hk0
              by_cases hfull : 60 ≤ nodes'.length
              · have HN : Hid (pE numX fl60 (f + 1) s nodes = none) := Lib.hid (by rw [hgo.out]; exact if_pos (decide_eq_true hfull))
                have e2 : decide ((60 : Int) ≤ (nodes'.length : Int)) = true := decide_eq_true (by omega)
                have e3 : decide (60 ≤ nodes'.length) = true := decide_eq_true (by omega)
                clear hfull hgo
                go_wp2_with fail
                go_ret
                exact ⟨S', _, _, true, nodes', 0, rfl, HL.out.i.fail (by omega), (HL.out.step hrl HI.out (HL.out.i.fail (by omega)) (rdx_box hB _ 1 (.bool true))).rdx, by omega, .inr ⟨rfl, HN.out⟩⟩
              · have HGO : Hid (pE numX fl60 (f + 1) s nodes = lpQ g n ws ks (pE numX fl60 g s' nodes')) := Lib.hid (by rw [hgo.out]; exact if_neg (by simp [fl60]; omega))
                have e2 : decide ((60 : Int) ≤ (nodes'.length : Int)) = false := decide_eq_false (by omega)
                have e3 : decide (60 ≤ nodes'.length) = false := decide_eq_false (by omega)
                clear hgo
                have HIHG := Lib.hid (HIH.out g (by omega))
                have HCALL : Hid (∀ u : World, Below wr.heap.size wr u → Calls Tryz.prog 70 #[.pointer (some ⟨RB, 0, none⟩)] u fun e w' => ∃ (S2 : Nat → Prop) (v2 : Value) (s2 : Byts) (b2 : Bool) (nodes2 : List Nod) (z : Int), e = .returned (.int .i64 z) ∧ NdL w0 w 97 RB B S v (.int .i64 2) (.int .i64 0) (.int .i64 n) (.slice aw2 ws.length cw2) (.slice ak2 ks.length ck2) ws ks S2 v2 s2 b2 r nodes2 w' ∧ nodes2.length ≤ 60 + g ∧ ((b2 = false ∧ pE numX fl60 g s' nodes' = some (s2, nodes2) ∧ z = ((nodes2.length - 1 : Nat) : Int)) ∨ (b2 = true ∧ pE numX fl60 g s' nodes' = none))) := Lib.hid (fun u hu => by
                  have hL1 := HL.out
                  refine (HIHG.out u S' _ nodes' s' (hL1.i.below hu) (by omega) (by omega) (by omega)).mono ?_
                  rintro e w' ⟨S2, v2, s2, b2, nodes2, z, h1, h2, h3, h4, h5⟩
                  exact ⟨S2, v2, s2, b2, nodes2, z, h1, hL1.step hrl HI.out h2 (h3.below (by have := hL1.sz; omega) hu), h4, h5⟩)
                have k4 := (open5 HL.out.nb).2.2.2.2
                have hsz1 := HL.out.sz
                obtain ⟨ii, hi0, hz0, hz1, hz2⟩ := info_parts Tryz.infoInt
                clear HIHG
                go_wp2_with fail
                go_region_law (first
                  | (go_simp; go_at_call 70; (with_reducible refine (HCALL.out wr.drew (below_drew (Below.refl _ _))).mono ?_); rintro e w5 ⟨S5, v5, s5, b5, nodes5, z5, rfl, hL5, hc5, hp5⟩; have p45 := (open5 hL5.nb).2.2.2.2; have p45b : ∀ ob, (w5.alloc ob).cell? ⟨w.heap.size, 4, none⟩ = some (.slice ak2 ks.length ck2) := (fun ob => (World.cell?_alloc_lt _ _ _ (cell_lt p45)).trans p45); have z45 := (frz5 hL5.nb).2.2.2.2; have HROW := Lib.hid hL5.rk; have HL5 := Lib.hid hL5; have HC5 := Lib.hid hc5; have HP5 := Lib.hid hp5; have hs5 := HL5.out.sz; clear hL5 hc5 hp5)
                  | (refine step_append_lies _ (by rfl) _ _ _ (by rfl) (w.heap.size + 1) 3 ii _ 1 8 Tryz.underlying69 hi0 hz0 hz1 hz2 rfl (by omega) (.slice ak2 ks.length ck2) ks.length _ (by rfl) (HROW.out.alloc _) ⟨w5.heap.size, 0, none⟩ 1 1 [.int .i64 z5] (by rfl) (by rfl) (World.news_of_block (cs := #[.int .i64 z5]) (t := 3) (fr := (0, 0)) (heap_alloc_new w5 _)) (by simp [Value.oneCell']) (by omega) (by unfold maxLen; omega) (by omega) (by simp; omega) (w5.heap.size + 1) (by simp) ?_; intro gg cap wA hownA hgrow hat hlt; have hA := (hgrow.block w.heap.size (by simp; omega) (fun e => by have := (HROW.out.lt _ e.symm).1; omega)).trans ((Below.heap_alloc w5 _ w.heap.size (by omega)).trans HL5.out.nb); have pA := (open5 hA).2.2.2.2; have zA := (frz5 hA).2.2.2.2; have HA := Lib.hid hA; have HOA := Lib.hid hownA; have HGA := Lib.hid hgrow; have HAT := Lib.hid hat; clear hA hownA hgrow hat))
                all_goals
                  have hK := HL5.out.kid HI.out hB hw0 (z := z5) (x := w5.alloc (.cells #[.int .i64 z5] 3)) (u := .slice (some ⟨gg, 0, none⟩) (ks.length + 1) cap) (y := wA) ((Below.refl _ _).alloc (Nat.le_refl _) _) HGA.out HOA.out (fun q hq => by
                    have e2 : gg = q := by simpa [Value.ownBlock] using hq
                    rcases HAT.out with h1 | h1
                    · exact .inl (e2 ▸ h1)
                    · exact .inr (by omega)) HGA.out.size
                  have HL6 := Lib.hid hK
                  clear hK HGA HOA HA pA zA HAT HROW p45 p45b z45 HL5 hs5 HCALL HL k4 hsz1 hi0 hz0 hz1 hz2
                  generalize wA.setCell _ _ = w6 at HL6 ⊢
                  have hcs : (b5 = false ∧ ∃ r6, stripP [42] s5 = some r6) ∨ (b5 = true ∨ stripP [42] s5 = none) := by
                    cases b5
                    · cases stripP [42] s5
                      · exact .inr (.inr rfl)
                      · exact .inl ⟨rfl, _, rfl⟩
                    · exact .inr (.inl rfl)
                  rcases hcs with ⟨rfl, r6, h6⟩ | h6
                  · have HS := Lib.hid (skip_y HL6.out.i hw0 hB h6)
                    have hl6 := strip_len h6
                    simp at hl6
                    have H6 := Lib.hid h6
                    clear h6
                    go_wp2_with fail
                    refine HS.out.mono ?_
                    rintro e w7 ⟨rfl, hI7, hX7⟩
                    have HL7 := Lib.hid (HL6.out.step hrl HI.out hI7 hX7)
                    clear hI7 hX7 HS HL6
                    obtain ⟨hq5, hz5⟩ : pE numX fl60 g s' nodes' = some (s5, nodes5) ∧ z5 = ((nodes5.length - 1 : Nat) : Int) := by
                      rcases HP5.out with ⟨_, h1, h2⟩ | ⟨h1, _⟩
                      · exact ⟨h1, h2⟩
                      · cases h1
                    have hql := (pEL_len numX fl60 (fun _ _ _ => numX_len) g).1 _ _ _ hq5
                    simp only at hql
                    have HQ5 := Lib.hid hq5
                    have HZ5 := Lib.hid hz5
                    have HNUM : Hid (∀ u : World, Below w7.heap.size w7 u → Calls Tryz.prog 96 #[.pointer (some ⟨RB, 0, none⟩)] u fun e w' => ∃ (m : Nat) (s2 : Byts) (b2 : Bool), e = .returned (.int .i64 m) ∧ NdL w0 w 97 RB B S v (.int .i64 2) (.int .i64 0) (.int .i64 n) (.slice aw2 ws.length cw2) (.slice (some ⟨gg, 0, none⟩) (ks.length + 1) cap) ws (ks ++ [z5]) S5 v5 s2 b2 r nodes5 w' ∧ ((b2 = false ∧ numX r6 = some (m, s2)) ∨ (b2 = true ∧ numX r6 = none))) := Lib.hid (fun u hu => by
                      have hL7 := HL7.out
                      refine (number_i (hL7.i.below hu) hw0 hB (by omega) HP.out HR.out HY.out).mono ?_
                      rintro e w' ⟨m, s2, b2, h1, h2, h3, h4⟩
                      exact ⟨m, s2, b2, h1, hL7.step hrl HI.out h2 (h3.below (by have := hL7.sz; omega) hu), h4⟩)
                    have k3 := (open5 HL7.out.nb).2.2.2.1
                    have hsz7 := HL7.out.sz
                    obtain ⟨ij, hi0, hz0, hz1, hz2⟩ := info_parts Tryz.infoInt
                    clear hq5 hz5
                    go_wp2_with fail
                    go_region_law (first
                      | (go_simp; go_at_call 96; (with_reducible refine (HNUM.out w7.drew (below_drew (Below.refl _ _))).mono ?_); rintro e w8 ⟨m8, s8, b8, rfl, hL8, hp8⟩; have p38 := (open5 hL8.nb).2.2.2.1; have p38b : ∀ ob, (w8.alloc ob).cell? ⟨w.heap.size, 3, none⟩ = some (.slice aw2 ws.length cw2) := (fun ob => (World.cell?_alloc_lt _ _ _ (cell_lt p38)).trans p38); have z38 := (frz5 hL8.nb).2.2.2.1; have HROW := Lib.hid hL8.rw; have HL9 := Lib.hid hL8; have HP8 := Lib.hid hp8; have hs8 := HL9.out.sz; clear hL8 hp8)
                      | (refine step_append_lies _ (by rfl) _ _ _ (by rfl) (w.heap.size + 1) 3 ij _ 1 8 Tryz.underlying69 hi0 hz0 hz1 hz2 rfl (by omega) (.slice aw2 ws.length cw2) ws.length _ (by rfl) (HROW.out.alloc _) ⟨w8.heap.size, 0, none⟩ 1 1 [.int .i64 (m8 : Int)] (by rfl) (by rfl) (World.news_of_block (cs := #[.int .i64 (m8 : Int)]) (t := 3) (fr := (0, 0)) (heap_alloc_new w8 _)) (by simp [Value.oneCell']) (by omega) (by unfold maxLen; omega) (by omega) (by simp; omega) (w8.heap.size + 1) (by simp) ?_; intro g2 cap2 wA hownA hgrow hat hlt; have hA := (hgrow.block w.heap.size (by simp; omega) (fun e => by have := (HROW.out.lt _ e.symm).1; omega)).trans ((Below.heap_alloc w8 _ w.heap.size (by omega)).trans HL9.out.nb); have pA := (open5 hA).2.2.2.1; have zA := (frz5 hA).2.2.2.1; have HA := Lib.hid hA; have HOA := Lib.hid hownA; have HGA := Lib.hid hgrow; have HAT := Lib.hid hat; clear hA hownA hgrow hat))
                    all_goals
                      have hK := HL9.out.wgt HI.out hB hw0 (z := (m8 : Int)) (x := w8.alloc (.cells #[.int .i64 (m8 : Int)] 3)) (u := .slice (some ⟨g2, 0, none⟩) (ws.length + 1) cap2) (y := wA) ((Below.refl _ _).alloc (Nat.le_refl _) _) HGA.out HOA.out (fun q hq => by
                        have e2 : g2 = q := by simpa [Value.ownBlock] using hq
                        rcases HAT.out with h1 | h1
                        · exact .inl (e2 ▸ h1)
                        · exact .inr (by omega)) HGA.out.size
                      have HL6 := Lib.hid hK
                      clear hK HGA HOA HA pA zA HAT HROW p38 p38b z38 HL9 hs8 HNUM HL7 k3 hsz7
                      go_wp2_with fail
                      go_roundw
                      case rel => exact ⟨ws ++ [(m8 : Int)], ks ++ [z5], _, _, S5, v5, s8, b8, nodes5, HL6.out, lp_wgt hwl hks (by omega) hsg hgf HGO.out HC5.out HQ5.out HZ5.out H6.out HP8.out⟩
                      case measure =>
                        rw [rdM_eq HL6.out.i.bx, HM.out]
                        rcases HP8.out with ⟨rfl, h8⟩ | ⟨rfl, _⟩
                        · have := numX_len h8
                          simp; omega
                        · simp
                  · have HS := Lib.hid (skip_n HL6.out.i h6)
                    have H6 := Lib.hid h6
                    clear h6
                    go_wp2_with fail
                    refine HS.out.mono ?_
                    rintro e w7 ⟨rfl, rfl⟩
                    clear HS
                    go_wp2_with fail
                    go_roundw
                    case rel => exact ⟨ws, ks ++ [z5], _, _, S5, v5, s5, b5, nodes5, HL6.out, lp_kid hwl hks (by omega) hsg hgf HGO.out HC5.out HP5.out H6.out⟩
                    case measure =>
                      rw [rdM_eq HL6.out.i.bx, HM.out]
                      rcases HP5.out with ⟨rfl, h8, _⟩ | ⟨rfl, _⟩
                      · have := (pEL_len numX fl60 (fun _ _ _ => numX_len) g).1 _ _ _ h8
                        simp at this ⊢; omega
                      · simp
            · rw [if_neg hk0] at hgo
              have e1 : decide ((0 : Int) < (ks.length : Int)) = true := decide_eq_true (by have := List.length_pos_iff.2 hk0; omega)
              have e4 : decide (0 < ks.length) = true := decide_eq_true (by have := List.length_pos_iff.2 hk0; omega)
              clear hk0
              go_wp2_with fail
              cases h4 : stripP [44, 32] s' with
              | none =>
                rw [h4] at hgo
                have HN : Hid (pE numX fl60 (f + 1) s nodes = none) := Lib.hid hgo.out
                have HS := Lib.hid (skip_n HL.out.i (.inr h4))
                clear hgo h4
                refine HS.out.mono ?_
                rintro e w7 ⟨rfl, hw7⟩
                have hw8 := hw7.symm
                clear hw7
                subst hw8
                clear HS
                go_wp2_with fail
                go_ret
                exact ⟨S', _, _, true, nodes', 0, rfl, HL.out.i.fail (by omega), (HL.out.step hrl HI.out (HL.out.i.fail (by omega)) (rdx_box hB _ 1 (.bool true))).rdx, by omega, .inr ⟨rfl, HN.out⟩⟩
              | some s1 =>
                rw [h4] at hgo
                have HS := Lib.hid (skip_y HL.out.i hw0 hB h4)
                have hl4 := strip_len h4
                simp at hl4
                clear h4 n4 q2 p1 y1
                refine HS.out.mono ?_
                rintro e w1 ⟨rfl, hI7, hX7⟩
                have HL1 := Lib.hid (HL.out.step hrl HI.out hI7 hX7)
                clear hI7 hX7 HS
                have p1 := HL1.out.i.bx.at.2.1
                have y1 := HL1.out.i.bx.frz 1
                have q2 := HL1.out.i.bx.at.2.2.1
                by_cases hfull : 60 ≤ nodes'.length
                · have HN : Hid (pE numX fl60 (f + 1) s nodes = none) := Lib.hid (by rw [hgo.out]; exact if_pos (decide_eq_true hfull))
                  have e2 : decide ((60 : Int) ≤ (nodes'.length : Int)) = true := decide_eq_true (by omega)
                  have e3 : decide (60 ≤ nodes'.length) = true := decide_eq_true (by omega)
                  clear hfull hgo
                  go_wp2_with fail
                  go_ret
                  exact ⟨S', _, _, true, nodes', 0, rfl, HL1.out.i.fail (by omega), (HL1.out.step hrl HI.out (HL1.out.i.fail (by omega)) (rdx_box hB _ 1 (.bool true))).rdx, by omega, .inr ⟨rfl, HN.out⟩⟩
                · have HGO : Hid (pE numX fl60 (f + 1) s nodes = lpQ g n ws ks (pE numX fl60 g s1 nodes')) := Lib.hid (by rw [hgo.out]; exact if_neg (by simp [fl60]; omega))
                  have e2 : decide ((60 : Int) ≤ (nodes'.length : Int)) = false := decide_eq_false (by omega)
                  have e3 : decide (60 ≤ nodes'.length) = false := decide_eq_false (by omega)
                  clear hgo
                  have HIHG := Lib.hid (HIH.out g (by omega))
                  have HCALL : Hid (∀ u : World, Below w1.heap.size w1 u → Calls Tryz.prog 70 #[.pointer (some ⟨RB, 0, none⟩)] u fun e w' => ∃ (S2 : Nat → Prop) (v2 : Value) (s2 : Byts) (b2 : Bool) (nodes2 : List Nod) (z : Int), e = .returned (.int .i64 z) ∧ NdL w0 w 97 RB B S v (.int .i64 2) (.int .i64 0) (.int .i64 n) (.slice aw2 ws.length cw2) (.slice ak2 ks.length ck2) ws ks S2 v2 s2 b2 r nodes2 w' ∧ nodes2.length ≤ 60 + g ∧ ((b2 = false ∧ pE numX fl60 g s1 nodes' = some (s2, nodes2) ∧ z = ((nodes2.length - 1 : Nat) : Int)) ∨ (b2 = true ∧ pE numX fl60 g s1 nodes' = none))) := Lib.hid (fun u hu => by
                    have hL1 := HL1.out
                    refine (HIHG.out u S' _ nodes' s1 (hL1.i.below hu) (by omega) (by omega) (by omega)).mono ?_
                    rintro e w' ⟨S2, v2, s2, b2, nodes2, z, h1, h2, h3, h4, h5⟩
                    exact ⟨S2, v2, s2, b2, nodes2, z, h1, hL1.step hrl HI.out h2 (h3.below (by have := hL1.sz; omega) hu), h4, h5⟩)
                  have k4 := (open5 HL1.out.nb).2.2.2.2
                  have hsz1 := HL1.out.sz
                  obtain ⟨ii, hi0, hz0, hz1, hz2⟩ := info_parts Tryz.infoInt
                  clear HIHG
                  go_wp2_with fail
                  go_region_law (first
                    | (go_simp; go_at_call 70; (with_reducible refine (HCALL.out w1.drew (below_drew (Below.refl _ _))).mono ?_); rintro e w5 ⟨S5, v5, s5, b5, nodes5, z5, rfl, hL5, hc5, hp5⟩; have p45 := (open5 hL5.nb).2.2.2.2; have p45b : ∀ ob, (w5.alloc ob).cell? ⟨w.heap.size, 4, none⟩ = some (.slice ak2 ks.length ck2) := (fun ob => (World.cell?_alloc_lt _ _ _ (cell_lt p45)).trans p45); have z45 := (frz5 hL5.nb).2.2.2.2; have HROW := Lib.hid hL5.rk; have HL5 := Lib.hid hL5; have HC5 := Lib.hid hc5; have HP5 := Lib.hid hp5; have hs5 := HL5.out.sz; clear hL5 hc5 hp5)
                    | (refine step_append_lies _ (by rfl) _ _ _ (by rfl) (w.heap.size + 1) 3 ii _ 1 8 Tryz.underlying69 hi0 hz0 hz1 hz2 rfl (by omega) (.slice ak2 ks.length ck2) ks.length _ (by rfl) (HROW.out.alloc _) ⟨w5.heap.size, 0, none⟩ 1 1 [.int .i64 z5] (by rfl) (by rfl) (World.news_of_block (cs := #[.int .i64 z5]) (t := 3) (fr := (0, 0)) (heap_alloc_new w5 _)) (by simp [Value.oneCell']) (by omega) (by unfold maxLen; omega) (by omega) (by simp; omega) (w5.heap.size + 1) (by simp) ?_; intro gg cap wA hownA hgrow hat hlt; have hA := (hgrow.block w.heap.size (by simp; omega) (fun e => by have := (HROW.out.lt _ e.symm).1; omega)).trans ((Below.heap_alloc w5 _ w.heap.size (by omega)).trans HL5.out.nb); have pA := (open5 hA).2.2.2.2; have zA := (frz5 hA).2.2.2.2; have HA := Lib.hid hA; have HOA := Lib.hid hownA; have HGA := Lib.hid hgrow; have HAT := Lib.hid hat; clear hA hownA hgrow hat))
                  all_goals
                    have hK := HL5.out.kid HI.out hB hw0 (z := z5) (x := w5.alloc (.cells #[.int .i64 z5] 3)) (u := .slice (some ⟨gg, 0, none⟩) (ks.length + 1) cap) (y := wA) ((Below.refl _ _).alloc (Nat.le_refl _) _) HGA.out HOA.out (fun q hq => by
                      have e2 : gg = q := by simpa [Value.ownBlock] using hq
                      rcases HAT.out with h1 | h1
                      · exact .inl (e2 ▸ h1)
                      · exact .inr (by omega)) HGA.out.size
                    have HL6 := Lib.hid hK
                    clear hK HGA HOA HA pA zA HAT HROW p45 p45b z45 HL5 hs5 HCALL HL1 k4 hsz1 hi0 hz0 hz1 hz2
                    generalize wA.setCell _ _ = w6 at HL6 ⊢
                    have hcs : (b5 = false ∧ ∃ r6, stripP [42] s5 = some r6) ∨ (b5 = true ∨ stripP [42] s5 = none) := by
                      cases b5
                      · cases stripP [42] s5
                        · exact .inr (.inr rfl)
                        · exact .inl ⟨rfl, _, rfl⟩
                      · exact .inr (.inl rfl)
                    rcases hcs with ⟨rfl, r6, h6⟩ | h6
                    · have HS := Lib.hid (skip_y HL6.out.i hw0 hB h6)
                      have hl6 := strip_len h6
                      simp at hl6
                      have H6 := Lib.hid h6
                      clear h6
                      go_wp2_with fail
                      refine HS.out.mono ?_
                      rintro e w7 ⟨rfl, hI7, hX7⟩
                      have HL7 := Lib.hid (HL6.out.step hrl HI.out hI7 hX7)
                      clear hI7 hX7 HS HL6
                      obtain ⟨hq5, hz5⟩ : pE numX fl60 g s1 nodes' = some (s5, nodes5) ∧ z5 = ((nodes5.length - 1 : Nat) : Int) := by
                        rcases HP5.out with ⟨_, h1, h2⟩ | ⟨h1, _⟩
                        · exact ⟨h1, h2⟩
                        · cases h1
                      have hql := (pEL_len numX fl60 (fun _ _ _ => numX_len) g).1 _ _ _ hq5
                      simp only at hql
                      have HQ5 := Lib.hid hq5
                      have HZ5 := Lib.hid hz5
                      have HNUM : Hid (∀ u : World, Below w7.heap.size w7 u → Calls Tryz.prog 96 #[.pointer (some ⟨RB, 0, none⟩)] u fun e w' => ∃ (m : Nat) (s2 : Byts) (b2 : Bool), e = .returned (.int .i64 m) ∧ NdL w0 w 97 RB B S v (.int .i64 2) (.int .i64 0) (.int .i64 n) (.slice aw2 ws.length cw2) (.slice (some ⟨gg, 0, none⟩) (ks.length + 1) cap) ws (ks ++ [z5]) S5 v5 s2 b2 r nodes5 w' ∧ ((b2 = false ∧ numX r6 = some (m, s2)) ∨ (b2 = true ∧ numX r6 = none))) := Lib.hid (fun u hu => by
                        have hL7 := HL7.out
                        refine (number_i (hL7.i.below hu) hw0 hB (by omega) HP.out HR.out HY.out).mono ?_
                        rintro e w' ⟨m, s2, b2, h1, h2, h3, h4⟩
                        exact ⟨m, s2, b2, h1, hL7.step hrl HI.out h2 (h3.below (by have := hL7.sz; omega) hu), h4⟩)
                      have k3 := (open5 HL7.out.nb).2.2.2.1
                      have hsz7 := HL7.out.sz
                      obtain ⟨ij, hi0, hz0, hz1, hz2⟩ := info_parts Tryz.infoInt
                      clear hq5 hz5
                      go_wp2_with fail
                      go_region_law (first
                        | (go_simp; go_at_call 96; (with_reducible refine (HNUM.out w7.drew (below_drew (Below.refl _ _))).mono ?_); rintro e w8 ⟨m8, s8, b8, rfl, hL8, hp8⟩; have p38 := (open5 hL8.nb).2.2.2.1; have p38b : ∀ ob, (w8.alloc ob).cell? ⟨w.heap.size, 3, none⟩ = some (.slice aw2 ws.length cw2) := (fun ob => (World.cell?_alloc_lt _ _ _ (cell_lt p38)).trans p38); have z38 := (frz5 hL8.nb).2.2.2.1; have HROW := Lib.hid hL8.rw; have HL9 := Lib.hid hL8; have HP8 := Lib.hid hp8; have hs8 := HL9.out.sz; clear hL8 hp8)
                        | (refine step_append_lies _ (by rfl) _ _ _ (by rfl) (w.heap.size + 1) 3 ij _ 1 8 Tryz.underlying69 hi0 hz0 hz1 hz2 rfl (by omega) (.slice aw2 ws.length cw2) ws.length _ (by rfl) (HROW.out.alloc _) ⟨w8.heap.size, 0, none⟩ 1 1 [.int .i64 (m8 : Int)] (by rfl) (by rfl) (World.news_of_block (cs := #[.int .i64 (m8 : Int)]) (t := 3) (fr := (0, 0)) (heap_alloc_new w8 _)) (by simp [Value.oneCell']) (by omega) (by unfold maxLen; omega) (by omega) (by simp; omega) (w8.heap.size + 1) (by simp) ?_; intro g2 cap2 wA hownA hgrow hat hlt; have hA := (hgrow.block w.heap.size (by simp; omega) (fun e => by have := (HROW.out.lt _ e.symm).1; omega)).trans ((Below.heap_alloc w8 _ w.heap.size (by omega)).trans HL9.out.nb); have pA := (open5 hA).2.2.2.1; have zA := (frz5 hA).2.2.2.1; have HA := Lib.hid hA; have HOA := Lib.hid hownA; have HGA := Lib.hid hgrow; have HAT := Lib.hid hat; clear hA hownA hgrow hat))
                      all_goals
                        have hK := HL9.out.wgt HI.out hB hw0 (z := (m8 : Int)) (x := w8.alloc (.cells #[.int .i64 (m8 : Int)] 3)) (u := .slice (some ⟨g2, 0, none⟩) (ws.length + 1) cap2) (y := wA) ((Below.refl _ _).alloc (Nat.le_refl _) _) HGA.out HOA.out (fun q hq => by
                          have e2 : g2 = q := by simpa [Value.ownBlock] using hq
                          rcases HAT.out with h1 | h1
                          · exact .inl (e2 ▸ h1)
                          · exact .inr (by omega)) HGA.out.size
                        have HL6 := Lib.hid hK
                        clear hK HGA HOA HA pA zA HAT HROW p38 p38b z38 HL9 hs8 HNUM HL7 k3 hsz7
                        go_wp2_with fail
                        go_roundw
                        case rel => exact ⟨ws ++ [(m8 : Int)], ks ++ [z5], _, _, S5, v5, s8, b8, nodes5, HL6.out, lp_wgt hwl hks (by omega) hsg hgf HGO.out HC5.out HQ5.out HZ5.out H6.out HP8.out⟩
                        case measure =>
                          rw [rdM_eq HL6.out.i.bx, HM.out]
                          rcases HP8.out with ⟨rfl, h8⟩ | ⟨rfl, _⟩
                          · have := numX_len h8
                            simp; omega
                          · simp
                    · have HS := Lib.hid (skip_n HL6.out.i h6)
                      have H6 := Lib.hid h6
                      clear h6
                      go_wp2_with fail
                      refine HS.out.mono ?_
                      rintro e w7 ⟨rfl, rfl⟩
                      clear HS
                      go_wp2_with fail
                      go_roundw
                      case rel => exact ⟨ws, ks ++ [z5], _, _, S5, v5, s5, b5, nodes5, HL6.out, lp_kid hwl hks (by omega) hsg hgf HGO.out HC5.out HP5.out H6.out⟩
                      case measure =>
                        rw [rdM_eq HL6.out.i.bx, HM.out]
                        rcases HP5.out with ⟨rfl, h8, _⟩ | ⟨rfl, _⟩
                        · have := (pEL_len numX fl60 (fun _ _ _ => numX_len) g).1 _ _ _ h8
                          simp at this ⊢; omega
                        · simp
    · have HN := Lib.hid hN
      have HS := Lib.hid (skip_n HL6.out.i hh)
      clear hh hN HN5
      refine HS.out.mono ?_
      rintro e w7 ⟨rfl, rfl⟩
      have p1 := HL6.out.i.bx.at.2.1
      have y1 := HL6.out.i.bx.frz 1
      clear HS
      go_wp2_with fail
      have HL8 := Lib.hid (HL6.out.step hrl HI.out (HL6.out.i.fail (by omega)) (rdx_box hB _ 1 (.bool true)))
      clear p1 y1
      generalize w7.setCell _ _ = w8 at HL8 ⊢
      go_loopw [24] (fun _ wr => wr = w8) (fun _ _ => 0)
      case atStart => rfl
      case round =>
        subst hrel
        have p1 := HL8.out.i.bx.at.2.1
        go_wp2_with fail
        clear p1
        obtain ⟨V, hV1, hV2, hV3⟩ := HL8.out.i.xb.row
        obtain ⟨NN, hNN⟩ : ∃ NN, NN = nodes.length := ⟨_, rfl⟩
        rw [← hNN] at hV2
        obtain ⟨av, cv, hav, _⟩ := rdK_of_row hV2
        subst hav
        have hnn : NN ≤ 60 + f := by omega
        have HNN := Lib.hid hNN
        have HV1 := Lib.hid hV1
        have HV3 := Lib.hid hV3
        have HRV := Lib.hid hV2
        have hbx := HL8.out.i.bx
        unfold RdB at hbx
        have q2 := cell_of_row _ _ 2 _ _ _ hbx
        have f2 := frozen_row hbx 2
        obtain ⟨n0, n1, n2, n3, n4⟩ := open5 HL8.out.nb
        have hws := HL8.out.sz
        have hBw : B ≤ wr.heap.size := by omega
        have q2b : (wr.alloc (Obj.cells #[(.int .i64 2), (.int .i64 0), (.int .i64 n), (.slice none 0 0), (.slice none 0 0)] 71)).cell? ⟨RB, 2, none⟩ = some (.slice av NN cv) := cell_of_row _ _ 2 _ _ _ (heap_alloc_at hbx _)
        have hown : ∀ g, (Value.slice av NN cv).ownBlock = some g → g ≠ RB := fun g hg e => HL8.out.i.own (e ▸ hg)
        have HBX := Lib.hid hbx
        have KA : Hid (∀ x y : World, x.grownBy y (Value.slice av NN cv).ownBlock → x.heap[RB]? = wr.heap[RB]? → wr.heap.size ≤ x.heap.size → ∃ s b r, y.heap[RB]? = some (.cells #[.string (mkB s), .bool b, .slice av NN cv, .int .i64 r] 97 (0, 0))) := Lib.hid (fun x y hg hx hsx => ⟨_, _, _, by
          rw [hg.block RB (by omega) (fun e => hown _ e.symm rfl), hx]
          exact HBX.out⟩)
        obtain ⟨i0, hi0, hz0, hz1, hz2⟩ := info_parts Tryz.infoNod
        clear hV1 hV2 hV3 hbx hNN hown
        go_wp2_with fail
        go_region_law (first
          | (refine step_append_lies _ (by rfl) _ _ _ (by rfl) B 71 i0 _ 5 72 Tryz.underlying30 hi0 hz0 hz1 hz2 rfl (by omega) (.slice av NN cv) NN _ (by rfl) ((HRV.out.alloc _).drew) ⟨wr.heap.size, 0, none⟩ 1 1 [(.int .i64 2), (.int .i64 0), (.int .i64 n), (.slice none 0 0), (.slice none 0 0)] (by rfl) (by rfl) (World.news_of_block (cs := #[(.int .i64 2), (.int .i64 0), (.int .i64 n), (.slice none 0 0), (.slice none 0 0)]) (t := 71) (fr := (0, 0)) (heap_alloc_new wr _)) (by simp [Value.oneCell']) (by omega) (by unfold maxLen; omega) (by omega) (by simp; omega) (wr.heap.size + 1) (by simp) ?_; intro gg cap wA hownA hgrow hat hlt; obtain ⟨sA, bA, rA, hA⟩ := KA.out _ _ hgrow (Below.heap_alloc wr _ _ (by omega)) (by simp); have pA := cell_of_row _ _ 2 _ _ _ hA; have zA := frozen_row hA 2; have HA := Lib.hid hA; have HOA := Lib.hid hownA; have HGA := Lib.hid hgrow; have HAT := Lib.hid hat; clear hA hownA hgrow hat q2 q2b f2))
        all_goals
          obtain ⟨a5, c5, hv5, _⟩ := rdK_of_row HOA.out
          cases hv5
          obtain ⟨SF, hF1, hF2⟩ := HL8.out.fin HI.out hB hw0 HV1.out HV3.out (x := (wr.alloc _).drew) (u := .slice (some ⟨gg, 0, none⟩) (NN + 1) cap) (y := wA) (below_drew ((Below.refl _ _).alloc (Nat.le_refl _) _)) HGA.out (by rw [← HNN.out]; exact HOA.out) (fun g hg => by
            have e2 : gg = g := by simpa [Value.ownBlock] using hg
            rcases HAT.out with h1 | h1
            · exact .inl (e2 ▸ h1)
            · exact .inr (by omega)) HGA.out.size
          have HF1 := Lib.hid hF1
          have HF2 := Lib.hid hF2
          clear hF1 hF2 HOA HGA HAT HV1 HV3 HRV KA HBX HA
          go_wp2_with fail
          go_ret
          refine ⟨SF, _, _, _, _, (NN : Int), ?_, HF1.out, HF2.out, by rw [List.length_append, ← HNN.out]; simp; omega, ?_⟩
          · show Ending.returned (.int .i64 _) = _
            congr 2
            all_goals omega
          exact .inr ⟨rfl, HN.out⟩
end Go.Proofs.YtcojmmhclklpoaaGreatDoor
namespace Go.Proofs.YtcojmmhclklpoaaGreatDoor
open Go.RowKit Go.Shelf

theorem node_c (w0 : World) (RB B : Nat) (hw0 : w0.heap.size ≤ B) (hB : B ≤ RB) (r : Int) (hp : HasPow w0) (hr : HasRng w0) (hy : HasSyn w0) (f : Nat) : NdC w0 RB B r f := by
  induction f using Nat.strongRecOn with
  | _ f ih =>
    cases f with
    | zero => intro w S v nodes s _ h; omega
    | succ f => exact node_step w0 RB B hw0 hB r hp hr hy f (fun g hg => ih g (by omega))
def parX (s : Byts) : Xpr × Int := if 3840 < s.length then (⟨[], 0⟩, 2) else
  match pE numX fl60 (s.length + 1) s [] with
  | none => (⟨[], 0⟩, 2)
  | some q => if q.1 = [] ∧ xprE ⟨q.2, ((q.2.length - 1 : Nat) : Int)⟩ = 0 then (⟨q.2, ((q.2.length - 1 : Nat) : Int)⟩, 0) else (⟨[], 0⟩, 2)

theorem par_none {s : Byts} (hl : ¬ 3840 < s.length) (h : pE numX fl60 (s.length + 1) s [] = none) : parX s = (⟨[], 0⟩, 2) := by
  unfold parX; rw [if_neg hl, h]
theorem par_bad {s : Byts} (hl : ¬ 3840 < s.length) {q : Byts × List Nod} (h : pE numX fl60 (s.length + 1) s [] = some q) (hb : ¬ (q.1 = [] ∧ xprE ⟨q.2, ((q.2.length - 1 : Nat) : Int)⟩ = 0)) : parX s = (⟨[], 0⟩, 2) := by
  unfold parX; rw [if_neg hl, h]; exact if_neg hb
theorem par_ok {s : Byts} (hl : ¬ 3840 < s.length) {q : Byts × List Nod} (h : pE numX fl60 (s.length + 1) s [] = some q) (hb : q.1 = [] ∧ xprE ⟨q.2, ((q.2.length - 1 : Nat) : Int)⟩ = 0) : parX s = (⟨q.2, ((q.2.length - 1 : Nat) : Int)⟩, 0) := by
  unfold parX; rw [if_neg hl, h]; exact if_pos hb

set_option maxRecDepth 100000 in
set_option maxHeartbeats 4000000 in
theorem parse_c (s : Byts) (w : World) (hp : HasPow w) (hr : HasRng w) (hy : HasSyn w) :
    Calls Tryz.prog 31 #[.string (mkB s)] w fun e w' => RetX (parX s).1 (parX s).2 w e w' := by
  have hsz := mkB_size s
  obtain ⟨D, hD⟩ : ∃ D, mkB s = D := ⟨_, rfl⟩
  have HD := Lib.hid hD
  rw [hD] at hsz ⊢
  clear hD
  by_cases hl : 3840 < s.length
  · have hR : parX s = (⟨[], 0⟩, 2) := by unfold parX; rw [if_pos hl]
    rw [hR]
    have e1 : decide (3840 < D.size) = true := decide_eq_true (by omega)
    have e2 : decide (3840 < s.length) = true := decide_eq_true hl
    have e3 : decide ((3840 : Int) < (s.length : Int)) = true := decide_eq_true (by omega)
    clear hR hl HD hp hr hy
    go_enter Tryz.func31, Tryz.ntmps31
    go_wp2_with fail
    generalize hWF : w.alloc _ = WF
    have gF : WF.heap[w.heap.size]? = some (.cells #[.slice none 0 0, .int .i64 0] 32 (0, 0)) := by rw [← hWF]; exact heap_alloc_new _ _
    have hbf : Below w.heap.size w WF := by rw [← hWF]; exact (Below.refl _ _).alloc (Nat.le_refl _) _
    have HBF := Lib.hid hbf
    obtain ⟨⟨f0, f1⟩, _⟩ := open2 gF
    clear hWF gF hbf
    refine bodyPost_ret (v := .tuple #[.agg #[.slice none 0 0, .int .i64 0], .int .i64 2]) ?_ rfl (RetX.none_ rfl HBF.out)
    rw [results_cell_tmp rfl]
    go_simp
  · have HPN : Hid (pE numX fl60 (s.length + 1) s [] = none → parX s = (⟨[], 0⟩, 2)) := Lib.hid (par_none hl)
    have HPB : Hid (∀ q, pE numX fl60 (s.length + 1) s [] = some q → ¬ (q.1 = [] ∧ xprE ⟨q.2, ((q.2.length - 1 : Nat) : Int)⟩ = 0) → parX s = (⟨[], 0⟩, 2)) := Lib.hid (fun q => par_bad hl)
    have HPK : Hid (∀ q, pE numX fl60 (s.length + 1) s [] = some q → (q.1 = [] ∧ xprE ⟨q.2, ((q.2.length - 1 : Nat) : Int)⟩ = 0) → parX s = (⟨q.2, ((q.2.length - 1 : Nat) : Int)⟩, 0)) := Lib.hid (fun q => par_ok hl)
    obtain ⟨R, hR⟩ : ∃ R, parX s = R := ⟨_, rfl⟩
    rw [hR] at HPN HPB HPK ⊢
    have e1 : decide (3840 < D.size) = false := decide_eq_false (by omega)
    have e2 : decide (3840 < s.length) = false := decide_eq_false hl
    have e3 : decide ((3840 : Int) < (s.length : Int)) = false := decide_eq_false (by omega)
    have HP := Lib.hid hp
    have HR := Lib.hid hr
    have HY := Lib.hid hy
    clear hR hp hr hy
    go_enter Tryz.func31, Tryz.ntmps31
    go_wp2_with fail
    generalize hW2 : (w.alloc _).alloc _ = W2
    obtain ⟨gX, gR, hb2, hs2⟩ := box2' hW2
    have GX := Lib.hid gX
    have HS2 := Lib.hid hs2
    have hlt2 : w.heap.size + 1 < W2.heap.size := by omega
    have hI2 : RdI w 97 (w.heap.size + 1) (w.heap.size + 1) (fun _ => False) s false (.slice none 0 0) 0 [] W2 := by
      refine ⟨hb2, ?_, XB.nil _ _ _ _ (fun _ h => h.elim), fun h => h, by simp [Value.ownBlock]⟩
      unfold RdB
      rw [HD.out]; exact gR
    have HN := Lib.hid (node_c w (w.heap.size + 1) (w.heap.size + 1) (Nat.le_succ _) (Nat.le_refl _) 0 HP.out HR.out HY.out (s.length + 1) W2 _ _ [] s hI2 (by omega) (by simp) (by omega))
    clear hW2 gX gR hb2 hs2 hI2 HP HR HY
    with_reducible refine HN.out.mono ?_
    rintro e w3 ⟨S3, v3, s3, b3, n3, z, rfl, hI3, hX3, hc3, hp3⟩
    have h3X : w3.heap[w.heap.size]? = some (.cells #[.slice none 0 0, .int .i64 0] 32 (0, 0)) := by
      rw [hX3.1.blk _ (by omega) (by omega) (by simp [Value.ownBlock])]; exact GX.out
    have hxl : ∀ g, S3 g → w.heap.size + 2 ≤ g := fun g hg => by
      rcases hX3.2.2 g hg with h | h
      · exact h.elim
      · have := HS2.out; omega
    have hvl : ∀ g, v3.ownBlock = some g → w.heap.size + 2 ≤ g := fun g hg => by
      rcases hX3.1.own g hg with h | h
      · simp [Value.ownBlock] at h
      · have := HS2.out; omega
    obtain ⟨x0, x1⟩ := (open2 h3X).1
    obtain ⟨y0, y1⟩ := (open2 h3X).2
    have H3X := Lib.hid h3X
    obtain ⟨p0, p1, p2, p3⟩ := hI3.bx.at
    have z3 := hI3.bx.frz 3
    obtain ⟨a3, c3, hv3, _⟩ := hI3.xb.shape
    subst hv3
    have hbw := hI3.bel
    have H3 := Lib.hid hI3
    have HX3 := Lib.hid hX3.1.bel.size
    have HP3 := Lib.hid hp3
    have HXL := Lib.hid hxl
    have HVL := Lib.hid hvl
    have HB3 := Lib.hid hbw
    clear hI3 hX3 h3X hc3 hp3 hxl hvl hbw HN GX
    have HX4 : Hid ((w3.setCell ⟨w.heap.size + 1, 3, none⟩ (.int .i64 z)).heap[w.heap.size]? = some (.cells #[.slice none 0 0, .int .i64 0] 32 (0, 0))) := Lib.hid (by
      rw [Below.heap_setCell _ _ _ _ (by show w.heap.size ≠ w.heap.size + 1; omega)]; exact H3X.out)
    have HB4 : Hid (Below w.heap.size w (w3.setCell ⟨w.heap.size + 1, 3, none⟩ (.int .i64 z))) := Lib.hid (HB3.out.setCell (p := ⟨w.heap.size + 1, 3, none⟩) (Nat.le_succ _) _)
    rcases HP3.out with ⟨rfl, hq, hz⟩ | ⟨rfl, hq⟩
    · have HQ := Lib.hid hq
      have HZ := Lib.hid hz
      clear hq hz
      by_cases hs0 : s3 = []
      · have e5 : (mkB s3).toList.isEmpty = true := by rw [ByteArray.toList_eq, mkB_list, hs0]; rfl
        have HS0 := Lib.hid hs0
        clear hs0
        have hXB := H3.out.xb.move (w' := w3.setCell ⟨w.heap.size + 1, 3, none⟩ (.int .i64 z)) (fun g hg => Below.heap_setCell _ _ _ _ (by have := HXL.out g hg; show g ≠ w.heap.size + 1; omega)) (fun g hg => Below.heap_setCell _ _ _ _ (by have := HVL.out g hg; show g ≠ w.heap.size + 1; omega)) (by simp)
        obtain ⟨a4, c4, e4, hxm⟩ := hXB.shape
        cases e4
        have HV := Lib.hid (xpr_c ⟨n3, z⟩ a3 n3.length c3 _ hxm)
        have HXB := Lib.hid hXB
        clear hXB hxm
        go_wp2_with fail
        with_reducible refine HV.out.mono ?_
        rintro e w5 ⟨rfl, hb5⟩
        have hx5 := heap_below hb5 HX4.out
        obtain ⟨x0, x1⟩ := (open2 hx5).1
        obtain ⟨y0, y1⟩ := (open2 hx5).2
        have hb5' := Below.next HB4.out hb5
        have HXB5 := Lib.hid (HXB.out.below hb5)
        have hr5 := (H3.out.bx)
        have t2 : w5.cell? ⟨w.heap.size + 1, 2, none⟩ = some (.slice a3 n3.length c3) := cell_keep hb5 (by go_simp)
        have t3 : w5.cell? ⟨w.heap.size + 1, 3, none⟩ = some (.int .i64 z) := cell_keep hb5 (by go_simp)
        have HX5 := Lib.hid hx5
        have HB5 := Lib.hid hb5'
        obtain ⟨E, hE⟩ : ∃ E, xprE ⟨n3, z⟩ = E := ⟨_, rfl⟩
        rw [hE]
        have HE := Lib.hid hE
        clear hx5 hb5 hb5' hr5 hE HV HXB p0 p1 p2 p3 z3
        by_cases hE0 : E = 0
        · subst hE0
          have HQ2 : Hid (R = (⟨n3, z⟩, 0)) := Lib.hid (by
            have := HPK.out _ HQ.out ⟨HS0.out, by have h1 := HE.out; rw [HZ.out] at h1; exact h1⟩
            rw [this, HZ.out])
          go_wp2_with fail
          generalize hWF : (w5.setCell _ _).setCell _ _ = WF
          obtain ⟨e9, hbf⟩ := fin_box HX5.out (Nat.le_refl _) HB5.out hWF
          have hkeep : ∀ g, g ≠ w.heap.size → WF.heap[g]? = w5.heap[g]? := fun g hg => by
            rw [← hWF, Below.heap_setCell _ ⟨w.heap.size, 1, none⟩ _ g hg, Below.heap_setCell _ ⟨w.heap.size, 0, none⟩ _ g hg]
          have hsF : WF.heap.size = w5.heap.size := by rw [← hWF]; simp
          have hxb := HXB5.out.move (w' := WF) (fun g hg => hkeep g (by have := HXL.out g hg; omega)) (fun g hg => hkeep g (by have := HVL.out g hg; omega)) (by omega)
          obtain ⟨a4, c4, e4, hxmr⟩ := hxb.xmr (lo := w.heap.size) (fun g hg => by have := HXL.out g hg; omega) (by omega)
          cases e4
          have HXM := Lib.hid hxmr
          have HBF := Lib.hid hbf
          obtain ⟨⟨f0, f1⟩, _⟩ := open2 e9
          clear hWF e9 hbf hkeep hsF hxb hxmr x0 x1 y0 y1
          refine bodyPost_ret (v := .tuple #[.agg #[.slice a3 n3.length c3, .int .i64 z], .int .i64 0]) ?_ rfl (by rw [HQ2.out]; exact ⟨a3, c3, rfl, HXM.out, HBF.out⟩)
          rw [results_cell_tmp rfl]
          go_simp
        · have hne : (E != 0) = true := by simpa using hE0
          have HQ2 : Hid (R = (⟨[], 0⟩, 2)) := Lib.hid (HPB.out _ HQ.out (fun h => hE0 (by rw [← HE.out, HZ.out]; exact h.2)))
          clear hE0
          go_wp2_with fail
          generalize hWF : (w5.setCell _ _).setCell _ _ = WF
          obtain ⟨e9, hbf⟩ := fin_box HX5.out (Nat.le_refl _) HB5.out hWF
          have HBF := Lib.hid hbf
          obtain ⟨⟨f0, f1⟩, _⟩ := open2 e9
          clear hWF e9 hbf x0 x1 y0 y1
          refine bodyPost_ret (v := .tuple #[.agg #[.slice none 0 0, .int .i64 0], .int .i64 2]) ?_ rfl (by rw [HQ2.out]; exact RetX.none_ rfl HBF.out)
          rw [results_cell_tmp rfl]
          go_simp
      · have e5 : (mkB s3).toList.isEmpty = false := by
          rw [ByteArray.toList_eq, mkB_list]
          cases s3 with
          | nil => exact absurd rfl hs0
          | cons c r => rfl
        have HQ2 : Hid (R = (⟨[], 0⟩, 2)) := Lib.hid (HPB.out _ HQ.out (fun h => hs0 h.1))
        clear hs0
        go_wp2_with fail
        generalize hWF : ((w3.setCell _ _).setCell _ _).setCell _ _ = WF
        obtain ⟨e9, hbf⟩ := fin_box HX4.out (Nat.le_refl _) HB4.out hWF
        have HBF := Lib.hid hbf
        obtain ⟨⟨f0, f1⟩, _⟩ := open2 e9
        clear hWF e9 hbf x0 x1 y0 y1 p0 p1 p2 p3 z3
        refine bodyPost_ret (v := .tuple #[.agg #[.slice none 0 0, .int .i64 0], .int .i64 2]) ?_ rfl (by rw [HQ2.out]; exact RetX.none_ rfl HBF.out)
        rw [results_cell_tmp rfl]
        go_simp
    · have HQ := Lib.hid (HPN.out hq)
      clear hq
      go_wp2_with fail
      generalize hWF : ((w3.setCell _ _).setCell _ _).setCell _ _ = WF
      obtain ⟨e9, hbf⟩ := fin_box HX4.out (Nat.le_refl _) HB4.out hWF
      have HBF := Lib.hid hbf
      obtain ⟨⟨f0, f1⟩, _⟩ := open2 e9
      clear hWF e9 hbf x0 x1 y0 y1 p0 p1 p2 p3 z3
      refine bodyPost_ret (v := .tuple #[.agg #[.slice none 0 0, .int .i64 0], .int .i64 2]) ?_ rfl (by rw [HQ.out]; exact RetX.none_ rfl HBF.out)
      rw [results_cell_tmp rfl]
      go_simp
end Go.Proofs.YtcojmmhclklpoaaGreatDoor
namespace Go.Proofs.YtcojmmhclklpoaaGreatDoor
open Go.RowKit Go.Shelf

set_option maxRecDepth 100000 in
set_option maxHeartbeats 2000000 in
theorem same_c (l : List Int) (a : Option Addr) (n c : Nat) (a2 : Option Addr) (n2 c2 : Nat) (w : World) (h : Rd w a n c (l.map (Value.int .i64))) (h2 : Rd w a2 n2 c2 (l.map (Value.int .i64))) :
    Calls Tryz.prog 52 #[.slice a n c, .slice a2 n2 c2] w fun e w' => e = .returned (.bool true) ∧ Below w.heap.size w w' := by
  have hnl := h.len
  have hnl2 := h2.len
  rw [List.length_map] at hnl hnl2
  have e : n2 = n := by omega
  subst e
  have hm := h.max
  have hle := h.le
  unfold maxLen at hm
  have HN := Lib.hid hnl
  have H1 := Lib.hid h
  have H2 := Lib.hid h2
  clear h h2 hnl hnl2
  go_enter Tryz.func52, Tryz.ntmps52
  go_wp2_with fail
  go_loopw [5] (fun i wr => ∃ k : Nat, k ≤ n2 ∧ i = .int .i64 ((k : Nat) : Int) ∧ Below w.heap.size w wr) (fun i _ => n2 - (intOf i).toNat)
  case atStart => exact ⟨0, Nat.zero_le _, rfl, Below.refl _ _⟩
  case round =>
    obtain ⟨k, hk, rfl, hb⟩ := hrel
    by_cases hlt : k < n2
    · obtain ⟨z, hz⟩ : ∃ z, l[k]? = some z := ⟨_, List.getElem?_eq_getElem (by have := HN.out; omega)⟩
      obtain ⟨b, o, ha, hat⟩ := (H1.out.below hb).at' (by omega)
      obtain ⟨b', o', ha', hat'⟩ := (H2.out.below hb).at' (by omega)
      have m0 := hat k (.int .i64 z) (by rw [List.getElem?_map, hz]; rfl)
      have p0 := hat' k (.int .i64 z) (by rw [List.getElem?_map, hz]; rfl)
      have hk1 : (k : Int) < n2 := by omega
      have hk2 : (0 : Int) ≤ k := by omega
      have HB := Lib.hid hb
      subst ha ha'
      clear hat hat' hz hb
      go_wp2_with fail
      go_quiet (fail)
      go_wp2_with fail
      go_roundw
      case rel => exact ⟨k + 1, by omega, by go_num, below_drewN HB.out⟩
      case measure => simp [intOf]; omega
    · obtain rfl : k = n2 := by omega
      go_wp2_with fail
      go_ret
      exact ⟨rfl, hb⟩

set_option maxRecDepth 100000 in
set_option maxHeartbeats 2000000 in
theorem same8_c (l : List (BitVec 16)) (a : Option Addr) (n c : Nat) (a2 : Option Addr) (n2 c2 : Nat) (w : World) (h : Rd w a n c (l.map setV2)) (h2 : Rd w a2 n2 c2 (l.map setV2)) :
    Calls Tryz.prog 17 #[.slice a n c, .slice a2 n2 c2] w fun e w' => e = .returned (.bool true) ∧ Below w.heap.size w w' := by
  have hnl := h.len
  have hnl2 := h2.len
  rw [List.length_map] at hnl hnl2
  have e : n2 = n := by omega
  subst e
  have hm := h.max
  have hle := h.le
  unfold maxLen at hm
  have HN := Lib.hid hnl
  have H1 := Lib.hid h
  have H2 := Lib.hid h2
  clear h h2 hnl hnl2
  go_enter Tryz.func17, Tryz.ntmps17
  go_wp2_with fail
  go_loopw [5] (fun i wr => ∃ k : Nat, k ≤ n2 ∧ i = .int .i64 ((k : Nat) : Int) ∧ Below w.heap.size w wr) (fun i _ => n2 - (intOf i).toNat)
  case atStart => exact ⟨0, Nat.zero_le _, rfl, Below.refl _ _⟩
  case round =>
    obtain ⟨k, hk, rfl, hb⟩ := hrel
    by_cases hlt : k < n2
    · obtain ⟨z, hz⟩ : ∃ z, l[k]? = some z := ⟨_, List.getElem?_eq_getElem (by have := HN.out; omega)⟩
      obtain ⟨b, o, ha, hat⟩ := (H1.out.below hb).at' (by omega)
      obtain ⟨b', o', ha', hat'⟩ := (H2.out.below hb).at' (by omega)
      have m0 : wr.cell? ⟨b, o + k, none⟩ = some (.int .u16 (U z)) := hat k (setV2 z) (by rw [List.getElem?_map, hz]; rfl)
      have p0 : wr.cell? ⟨b', o' + k, none⟩ = some (.int .u16 (U z)) := hat' k (setV2 z) (by rw [List.getElem?_map, hz]; rfl)
      have hk1 : (k : Int) < n2 := by omega
      have hk2 : (0 : Int) ≤ k := by omega
      have HB := Lib.hid hb
      subst ha ha'
      clear hat hat' hz hb
      go_wp2_with fail
      go_quiet (fail)
      go_wp2_with fail
      go_roundw
      case rel => exact ⟨k + 1, by omega, by go_num, below_drewN HB.out⟩
      case measure => simp [intOf]; omega
    · obtain rfl : k = n2 := by omega
      go_wp2_with fail
      go_ret
      exact ⟨rfl, hb⟩
end Go.Proofs.YtcojmmhclklpoaaGreatDoor
namespace Go.Proofs.YtcojmmhclklpoaaGreatDoor
open Go.RowKit Go.Shelf

set_option maxRecDepth 100000 in
set_option maxHeartbeats 4000000 in
theorem same10_c (x : Xpr) (a : Option Addr) (n c : Nat) (a2 : Option Addr) (n2 c2 : Nat) (w : World) (h : XM w a n c x.nodes) (h2 : XM w a2 n2 c2 x.nodes) :
    Calls Tryz.prog 20 #[.agg #[.slice a n c, .int .i64 x.root], .agg #[.slice a2 n2 c2, .int .i64 x.root]] w fun e w' => e = .returned (.bool true) ∧ Below w.heap.size w w' := by
  have hnl := h.len
  have hnl2 := h2.len
  have e : n2 = n := by omega
  subst e
  have hm := h.max
  have hle := h.le
  unfold maxLen at hm
  obtain ⟨W2, hW2⟩ : ∃ W2, W2 = (w.alloc (.cells #[.slice a n2 c, .int .i64 x.root] 32)).alloc (.cells #[.slice a2 n2 c2, .int .i64 x.root] 32) := ⟨_, rfl⟩
  obtain ⟨hb2, hc⟩ := args22 w _ _ _ _ _ _ hW2
  have HB2 := Lib.hid hb2
  have HC := Lib.hid hc
  have H1 := Lib.hid (h.below hb2)
  have H2 := Lib.hid (h2.below hb2)
  have HN := Lib.hid hnl
  clear h h2 hb2 hc hnl hnl2
  go_enter Tryz.func20, Tryz.ntmps20
  go_wp2_with fail
  rw [← hW2]
  clear hW2
  go_loopw [5] (fun i wr => ∃ k : Nat, k ≤ n2 ∧ i = .int .i64 ((k : Nat) : Int) ∧ Below W2.heap.size W2 wr) (fun i _ => n2 - (intOf i).toNat)
  case atStart => exact ⟨0, Nat.zero_le _, rfl, Below.refl _ _⟩
  case round =>
    obtain ⟨k, hk, rfl, hb⟩ := hrel
    obtain ⟨⟨q0, q1⟩, q2, q3⟩ := HC.out wr hb
    by_cases hlt : k < n2
    · obtain ⟨nd, hx⟩ : ∃ nd, x.nodes[k]? = some nd := ⟨_, List.getElem?_eq_getElem (by have := HN.out; omega)⟩
      obtain ⟨b, o, ha, hat⟩ := (H1.out.below hb).at' (by omega)
      obtain ⟨b', o', ha', hat'⟩ := (H2.out.below hb).at' (by omega)
      have hM := hat k nd hx
      have hP := hat' k nd hx
      obtain ⟨a3, n3, c3, m3, r3⟩ := hM.ws
      obtain ⟨a4, n4, c4, m4, r4⟩ := hM.ks
      obtain ⟨a5, n5, c5, p3, s3⟩ := hP.ws
      obtain ⟨a6, n6, c6, p4, s4⟩ := hP.ks
      have m0 := hM.c0
      have m1 := hM.c1
      have m2 := hM.c2
      have p0 := hP.c0
      have p1 := hP.c1
      have p2 := hP.c2
      have hk1 : (k : Int) < n2 := by omega
      have hk2 : (0 : Int) ≤ k := by omega
      have HB := Lib.hid hb
      have R3 := Lib.hid r3
      have R4 := Lib.hid r4
      have S3 := Lib.hid s3
      have S4 := Lib.hid s4
      obtain ⟨kind, server, need, ws, ks⟩ := nd
      simp only at m0 m1 m2 p0 p1 p2
      subst ha ha'
      clear hat hat' hx hb hM hP r3 r4 s3 s4
      have KS : Hid (∀ u : World, Below wr.heap.size wr u → u.cell? ⟨w.heap.size, 0, none⟩ = some (.slice (some ⟨b, o, none⟩) n2 c) ∧ u.cell? ⟨w.heap.size + 1, 0, none⟩ = some (.slice (some ⟨b', o', none⟩) n2 c2)) := Lib.hid (fun u hu => ⟨cell_keep hu q0, cell_keep hu q2⟩)
      have KM : Hid (∀ u : World, Below wr.heap.size wr u → u.cell? ⟨b, o + k * 5, none⟩ = some (.int .i64 kind) ∧ u.cell? ⟨b, o + k * 5 + 1, none⟩ = some (.int .i64 server) ∧ u.cell? ⟨b, o + k * 5 + 2, none⟩ = some (.int .i64 need) ∧ u.cell? ⟨b, o + k * 5 + 3, none⟩ = some (.slice a3 n3 c3) ∧ u.cell? ⟨b, o + k * 5 + 4, none⟩ = some (.slice a4 n4 c4)) := Lib.hid (fun u hu => ⟨cell_keep hu m0, cell_keep hu m1, cell_keep hu m2, cell_keep hu m3, cell_keep hu m4⟩)
      have KP : Hid (∀ u : World, Below wr.heap.size wr u → u.cell? ⟨b', o' + k * 5, none⟩ = some (.int .i64 kind) ∧ u.cell? ⟨b', o' + k * 5 + 1, none⟩ = some (.int .i64 server) ∧ u.cell? ⟨b', o' + k * 5 + 2, none⟩ = some (.int .i64 need) ∧ u.cell? ⟨b', o' + k * 5 + 3, none⟩ = some (.slice a5 n5 c5) ∧ u.cell? ⟨b', o' + k * 5 + 4, none⟩ = some (.slice a6 n6 c6)) := Lib.hid (fun u hu => ⟨cell_keep hu p0, cell_keep hu p1, cell_keep hu p2, cell_keep hu p3, cell_keep hu p4⟩)
      go_wp2_with fail
      clear q0 q1 q2 q3 m0 m1 m2 m3 m4 p0 p1 p2 p3 p4
      refine wp_region_noPanic ?_
      refine wp_region_takes (fun u => Below wr.heap.size wr u) [0, 1, 2, 3, 4, 5, 6, 7, 8, 9] 4 (by kernel_rfl) (by kernel_rfl) (by kernel_rfl) (fun _ _ _ _ _ h => h) (below_drew (Below.refl _ _)) ?_
      repeat (refine wpTk_cons rfl (fun K hK => ?_); go_simp; apply Exists.intro; refine ⟨fun u hu => ?_, hK _ ?_⟩; (first | exact rfl | (obtain ⟨q0, q2⟩ := KS.out u hu; obtain ⟨m0, m1, m2, m3, m4⟩ := KM.out u hu; obtain ⟨p0, p1, p2, p3, p4⟩ := KP.out u hu; go_simp; first | done | exact rfl)); clear hK K)
      refine wpTk_nil ?_
      have HY1 : Hid (Below wr.heap.size wr (wr.drew.alloc (.cells #[.int .i64 0, .int .i64 0, .int .i64 0, .slice none 0 0, .slice none 0 0] 71))) := Lib.hid ((below_drew (Below.refl _ _)).alloc (Nat.le_refl _) _)
      have HY2 : Hid (∀ ob, Below wr.heap.size wr ((wr.drew.alloc (.cells #[.int .i64 0, .int .i64 0, .int .i64 0, .slice none 0 0, .slice none 0 0] 71)).alloc ob)) := Lib.hid (fun ob => HY1.out.alloc HY1.out.size _)
      have HY3 : Hid (∀ o1 o2, Below wr.heap.size wr ((wr.alloc o1).alloc o2).drew) := Lib.hid (fun o1 o2 => below_drew (((Below.refl _ _).alloc (Nat.le_refl _) _).alloc (by simp) _))
      refine held_ready (rs := [10, 11]) (by kernel_rfl) (by simp) ?_
      refine AllReadyH.cons rfl (fun K hK => ?_) (AllReadyH.cons rfl (fun K hK => ?_) AllReadyH.nil)
      · go_simp
        refine hK.out _ _ HY1.out (fun hh => ?_)
        clear hh hK K; try simp only [Act.put, List.setIfInBounds_toArray, List.set_cons_zero, List.set_cons_succ]
        refine held_ready (rs := [11]) (by kernel_rfl) (by simp) ?_
        refine AllReadyH.cons rfl (fun K hK => ?_) AllReadyH.nil
        go_simp
        refine hK.out _ _ (HY2.out _) (fun hh => ?_)
        clear hh hK K; try simp only [Act.put, List.setIfInBounds_toArray, List.set_cons_zero, List.set_cons_succ]
        refine held_ready (rs := [12]) (by kernel_rfl) (by simp) ?_
        refine AllReadyH.cons rfl (fun K hK => ?_) AllReadyH.nil
        go_simp
        refine hK.out _ _ (HY3.out _ _) (fun hh => ?_)
        clear hh hK K; try simp only [Act.put, List.setIfInBounds_toArray, List.set_cons_zero, List.set_cons_succ]
        refine held_ready (rs := [13]) (by kernel_rfl) (by simp) ?_
        refine AllReadyH.cons rfl (fun K hK => ?_) AllReadyH.nil
        go_simp
        refine hK.out _ _ (HY3.out _ _) (fun hh => ?_)
        clear hh hK K; try simp only [Act.put, List.setIfInBounds_toArray, List.set_cons_zero, List.set_cons_succ]
        refine wpAnyH_done (by kernel_rfl) (NoPanic.normal ?_) _
        generalize hW3 : World.drew _ = W3
        have g1 : W3.heap[wr.heap.size]? = some (.cells #[.int .i64 kind, .int .i64 server, .int .i64 need, .slice a3 n3 c3, .slice a4 n4 c4] 71 (0, 0)) := by rw [← hW3]; exact heap_alloc_at (heap_alloc_new _ _) _
        have g2 : W3.heap[wr.heap.size + 1]? = some (.cells #[.int .i64 kind, .int .i64 server, .int .i64 need, .slice a5 n5 c5, .slice a6 n6 c6] 71 (0, 0)) := by
          rw [← hW3]
          have := heap_alloc_new (wr.alloc (.cells #[.int .i64 kind, .int .i64 server, .int .i64 need, .slice a3 n3 c3, .slice a4 n4 c4] 71)) (.cells #[.int .i64 kind, .int .i64 server, .int .i64 need, .slice a5 n5 c5, .slice a6 n6 c6] 71)
          rw [World.size_alloc] at this; exact this
        have hb3 : Below wr.heap.size wr W3 := by rw [← hW3]; exact HY3.out _ _
        have G1 := Lib.hid g1
        have G2 := Lib.hid g2
        have HB3 := Lib.hid hb3
        have HS3 := Lib.hid (same_c ws a3 n3 c3 a5 n5 c5 W3 (R3.out.below hb3) (S3.out.below hb3))
        have HS4 := Lib.hid (fun u (hu : Below W3.heap.size W3 u) => same_c ks a4 n4 c4 a6 n6 c6 u (R4.out.below (Below.next hb3 hu)) (S4.out.below (Below.next hb3 hu)))
        have i0 := cell_of_row _ _ 0 _ _ _ g1
        have i1 := cell_of_row _ _ 1 _ _ _ g1
        have i2 := cell_of_row _ _ 2 _ _ _ g1
        have i3 := cell_of_row _ _ 3 _ _ _ g1
        have j0 := cell_of_row _ _ 0 _ _ _ g2
        have j1 := cell_of_row _ _ 1 _ _ _ g2
        have j2 := cell_of_row _ _ 2 _ _ _ g2
        have j3 := cell_of_row _ _ 3 _ _ _ g2
        have t0 : (kind != kind) = false := by simp
        have t1 : (server != server) = false := by simp
        have t2 : (need != need) = false := by simp
        clear hW3 g1 g2 hb3 HY1 HY2 HY3 KS KM KP
        go_wp2_with fail
        with_reducible refine HS3.out.mono ?_
        rintro e w5 ⟨rfl, hb5⟩
        have l4 := cell_of_row _ _ 4 _ _ _ (heap_below hb5 G1.out)
        have k4 := cell_of_row _ _ 4 _ _ _ (heap_below hb5 G2.out)
        have HS5 := Lib.hid (HS4.out w5 hb5)
        have HB5 := Lib.hid (Below.next HB.out (Below.next HB3.out hb5))
        clear i0 i1 i2 i3 j0 j1 j2 j3 hb5
        go_wp2_with fail
        with_reducible refine HS5.out.mono ?_
        rintro e w6 ⟨rfl, hb6⟩
        have HB6 := Lib.hid (Below.next HB5.out hb6)
        clear hb6 l4 k4
        go_wp2_with fail
        go_roundw
        case rel => exact ⟨k + 1, by omega, by go_num, HB6.out⟩
        case measure => simp [intOf] <;> omega
      · go_simp
        refine hK.out _ _ HY1.out (fun hh => ?_)
        clear hh hK K; try simp only [Act.put, List.setIfInBounds_toArray, List.set_cons_zero, List.set_cons_succ]
        refine held_ready (rs := [10]) (by kernel_rfl) (by simp) ?_
        refine AllReadyH.cons rfl (fun K hK => ?_) AllReadyH.nil
        go_simp
        refine hK.out _ _ (HY2.out _) (fun hh => ?_)
        clear hh hK K; try simp only [Act.put, List.setIfInBounds_toArray, List.set_cons_zero, List.set_cons_succ]
        refine held_ready (rs := [12]) (by kernel_rfl) (by simp) ?_
        refine AllReadyH.cons rfl (fun K hK => ?_) AllReadyH.nil
        go_simp
        refine hK.out _ _ (HY3.out _ _) (fun hh => ?_)
        clear hh hK K; try simp only [Act.put, List.setIfInBounds_toArray, List.set_cons_zero, List.set_cons_succ]
        refine held_ready (rs := [13]) (by kernel_rfl) (by simp) ?_
        refine AllReadyH.cons rfl (fun K hK => ?_) AllReadyH.nil
        go_simp
        refine hK.out _ _ (HY3.out _ _) (fun hh => ?_)
        clear hh hK K; try simp only [Act.put, List.setIfInBounds_toArray, List.set_cons_zero, List.set_cons_succ]
        refine wpAnyH_done (by kernel_rfl) (NoPanic.normal ?_) _
        generalize hW3 : World.drew _ = W3
        have g1 : W3.heap[wr.heap.size]? = some (.cells #[.int .i64 kind, .int .i64 server, .int .i64 need, .slice a5 n5 c5, .slice a6 n6 c6] 71 (0, 0)) := by rw [← hW3]; exact heap_alloc_at (heap_alloc_new _ _) _
        have g2 : W3.heap[wr.heap.size + 1]? = some (.cells #[.int .i64 kind, .int .i64 server, .int .i64 need, .slice a3 n3 c3, .slice a4 n4 c4] 71 (0, 0)) := by
          rw [← hW3]
          have := heap_alloc_new (wr.alloc (.cells #[.int .i64 kind, .int .i64 server, .int .i64 need, .slice a5 n5 c5, .slice a6 n6 c6] 71)) (.cells #[.int .i64 kind, .int .i64 server, .int .i64 need, .slice a3 n3 c3, .slice a4 n4 c4] 71)
          rw [World.size_alloc] at this; exact this
        have hb3 : Below wr.heap.size wr W3 := by rw [← hW3]; exact HY3.out _ _
        have G1 := Lib.hid g1
        have G2 := Lib.hid g2
        have HB3 := Lib.hid hb3
        have HS3 := Lib.hid (same_c ws a3 n3 c3 a5 n5 c5 W3 (R3.out.below hb3) (S3.out.below hb3))
        have HS4 := Lib.hid (fun u (hu : Below W3.heap.size W3 u) => same_c ks a4 n4 c4 a6 n6 c6 u (R4.out.below (Below.next hb3 hu)) (S4.out.below (Below.next hb3 hu)))
        have i0 := cell_of_row _ _ 0 _ _ _ g1
        have i1 := cell_of_row _ _ 1 _ _ _ g1
        have i2 := cell_of_row _ _ 2 _ _ _ g1
        have i3 := cell_of_row _ _ 3 _ _ _ g1
        have j0 := cell_of_row _ _ 0 _ _ _ g2
        have j1 := cell_of_row _ _ 1 _ _ _ g2
        have j2 := cell_of_row _ _ 2 _ _ _ g2
        have j3 := cell_of_row _ _ 3 _ _ _ g2
        have t0 : (kind != kind) = false := by simp
        have t1 : (server != server) = false := by simp
        have t2 : (need != need) = false := by simp
        clear hW3 g1 g2 hb3 HY1 HY2 HY3 KS KM KP
        go_wp2_with fail
        with_reducible refine HS3.out.mono ?_
        rintro e w5 ⟨rfl, hb5⟩
        have l4 := cell_of_row _ _ 4 _ _ _ (heap_below hb5 G1.out)
        have k4 := cell_of_row _ _ 4 _ _ _ (heap_below hb5 G2.out)
        have HS5 := Lib.hid (HS4.out w5 hb5)
        have HB5 := Lib.hid (Below.next HB.out (Below.next HB3.out hb5))
        clear i0 i1 i2 i3 j0 j1 j2 j3 hb5
        go_wp2_with fail
        with_reducible refine HS5.out.mono ?_
        rintro e w6 ⟨rfl, hb6⟩
        have HB6 := Lib.hid (Below.next HB5.out hb6)
        clear hb6 l4 k4
        go_wp2_with fail
        go_roundw
        case rel => exact ⟨k + 1, by omega, by go_num, HB6.out⟩
        case measure => simp [intOf] <;> omega
    · obtain rfl : k = n2 := by omega
      go_wp2_with fail
      go_ret
      exact ⟨rfl, Below.next HB2.out hb⟩
end Go.Proofs.YtcojmmhclklpoaaGreatDoor
namespace Go.Proofs.YtcojmmhclklpoaaGreatDoor
open Go.RowKit Go.Shelf

def awT1 : Byts := [50, 40, 115, 48, 44, 32, 115, 49, 44, 32, 50, 40, 115, 50, 42, 50, 44, 32, 115, 51, 42, 49, 41, 41]
def awT2 : Byts := [49, 40, 115, 48, 44, 32, 49, 40, 115, 49, 44, 32, 115, 50, 41, 44, 32, 48, 40, 41, 41]
def awT3 : Byts := [51, 40, 115, 48, 42, 51, 44, 32, 115, 49, 42, 52, 41]
def awX1 : Xpr := (parX awT1).1
def awX2 : Xpr := (parX awT2).1
def awX3 : Xpr := (parX awT3).1
def awY2 : Xpr := (smpS awX2).1
def awY3 : Xpr := (smpS awX3).1
def awO : Xpr := (ofE [1#16, 6#16]).1
def nks (x : Xpr) : Nat × Int := (x.nodes.length, x.root)
theorem aw_e : (parX awT1).2 = 0 ∧ (parX awT2).2 = 0 ∧ (parX awT3).2 = 0 ∧ (smpS awX2).2 = 0 ∧ (smpS awX3).2 = 0 ∧ (ofE [1#16, 6#16]).2 = 0 := by decide +kernel
theorem aw_n : nks awX1 = (6, 5) ∧ nks awX2 = (6, 5) ∧ nks awX3 = (3, 2) ∧ nks awY2 = (1, 0) ∧ nks awY3 = (3, 2) ∧ nks awO = (5, 4) := by decide +kernel
theorem aw_fam : famE awX1 = ([3#16, 5#16, 6#16], 0) := by decide +kernel
theorem aw_dual : dualS awX1 = (awX1, 0) := by kernel_rfl
theorem aw_fmt : fmtX awY2 = ([48, 40, 41], 0) ∧ fmtX awY3 = ([49, 40, 115, 48, 44, 32, 115, 49, 41], 0) ∧ fmtX awO = ([49, 40, 115, 48, 44, 32, 50, 40, 115, 49, 44, 32, 115, 50, 41, 41], 0) := by decide +kernel
theorem aw_ok : xprE awX1 = 0 := by decide +kernel
theorem aw_few : XprFew awX1 := fun k nd hk => by
  have h : ∀ nd ∈ awX1.nodes, nd.kids.length ≤ 1000 := by decide +kernel
  exact h nd (List.mem_of_getElem? hk)

theorem aw_ret {x : Xpr} {er : Int} {n : Nat} {r : Int} (hn : nks x = (n, r)) {w : World} {e : Ending} {w' : World} (h : RetX x er w e w') : ∃ a c, e = .returned (.tuple #[.agg #[.slice a n c, .int .i64 r], .int .i64 er]) ∧ XM w' a n c x.nodes ∧ Below w.heap.size w w' := by
  obtain ⟨a, c, h1, h2, h3⟩ := h
  have e1 : x.nodes.length = n := congrArg Prod.fst hn
  have e2 : x.root = r := congrArg Prod.snd hn
  rw [e1, e2] at h1
  rw [e1] at h2
  exact ⟨a, c, h1, h2.xm, h3⟩
theorem aw_p1 (u : World) (hp : HasPow u) (hr : HasRng u) (hy : HasSyn u) : Calls Tryz.prog 31 #[.string ⟨#[50, 40, 115, 48, 44, 32, 115, 49, 44, 32, 50, 40, 115, 50, 42, 50, 44, 32, 115, 51, 42, 49, 41, 41]⟩] u fun e w' => ∃ a c, e = .returned (.tuple #[.agg #[.slice a 6 c, .int .i64 5], .int .i64 0]) ∧ XM w' a 6 c awX1.nodes ∧ Below u.heap.size u w' := by
  have h := parse_c awT1 u hp hr hy
  rw [aw_e.1] at h
  exact h.mono fun e w' hh => aw_ret (x := awX1) aw_n.1 hh
theorem aw_p2 (u : World) (hp : HasPow u) (hr : HasRng u) (hy : HasSyn u) : Calls Tryz.prog 31 #[.string ⟨#[49, 40, 115, 48, 44, 32, 49, 40, 115, 49, 44, 32, 115, 50, 41, 44, 32, 48, 40, 41, 41]⟩] u fun e w' => ∃ a c, e = .returned (.tuple #[.agg #[.slice a 6 c, .int .i64 5], .int .i64 0]) ∧ XM w' a 6 c awX2.nodes ∧ Below u.heap.size u w' := by
  have h := parse_c awT2 u hp hr hy
  rw [aw_e.2.1] at h
  exact h.mono fun e w' hh => aw_ret (x := awX2) aw_n.2.1 hh
theorem aw_p3 (u : World) (hp : HasPow u) (hr : HasRng u) (hy : HasSyn u) : Calls Tryz.prog 31 #[.string ⟨#[51, 40, 115, 48, 42, 51, 44, 32, 115, 49, 42, 52, 41]⟩] u fun e w' => ∃ a c, e = .returned (.tuple #[.agg #[.slice a 3 c, .int .i64 2], .int .i64 0]) ∧ XM w' a 3 c awX3.nodes ∧ Below u.heap.size u w' := by
  have h := parse_c awT3 u hp hr hy
  rw [aw_e.2.2.1] at h
  exact h.mono fun e w' hh => aw_ret (x := awX3) aw_n.2.2.1 hh
theorem aw_s2 (u : World) (a : Option Addr) (c : Nat) (h : XM u a 6 c awX2.nodes) : Calls Tryz.prog 35 #[.agg #[.slice a 6 c, .int .i64 5]] u fun e w' => ∃ a c, e = .returned (.tuple #[.agg #[.slice a 1 c, .int .i64 0], .int .i64 0]) ∧ XM w' a 1 c awY2.nodes ∧ Below u.heap.size u w' := by
  have h := simplify_c awX2 a 6 c u h
  rw [aw_e.2.2.2.1, show awX2.root = 5 from congrArg Prod.snd aw_n.2.1] at h
  exact h.mono fun e w' hh => aw_ret (x := awY2) aw_n.2.2.2.1 hh
theorem aw_s3 (u : World) (a : Option Addr) (c : Nat) (h : XM u a 3 c awX3.nodes) : Calls Tryz.prog 35 #[.agg #[.slice a 3 c, .int .i64 2]] u fun e w' => ∃ a c, e = .returned (.tuple #[.agg #[.slice a 3 c, .int .i64 2], .int .i64 0]) ∧ XM w' a 3 c awY3.nodes ∧ Below u.heap.size u w' := by
  have h := simplify_c awX3 a 3 c u h
  rw [aw_e.2.2.2.2.1, show awX3.root = 2 from congrArg Prod.snd aw_n.2.2.1] at h
  exact h.mono fun e w' hh => aw_ret (x := awY3) aw_n.2.2.2.2.1 hh
theorem aw_o (u : World) (ht : HasTab u) (a : Option Addr) (c : Nat) (h : Rd u a 2 c [.int .u16 1, .int .u16 6]) : Calls Tryz.prog 24 #[.slice a 2 c] u fun e w' => ∃ a c, e = .returned (.tuple #[.agg #[.slice a 5 c, .int .i64 4], .int .i64 0]) ∧ XM w' a 5 c awO.nodes ∧ Below u.heap.size u w' := by
  have h := xof_c [1#16, 6#16] a 2 c u ht h
  rw [aw_e.2.2.2.2.2] at h
  exact h.mono fun e w' hh => aw_ret (x := awO) aw_n.2.2.2.2.2 hh
theorem aw_d (u : World) (a : Option Addr) (c : Nat) (h : XM u a 6 c awX1.nodes) : Calls Tryz.prog 18 #[.agg #[.slice a 6 c, .int .i64 5]] u fun e w' => ∃ a c, e = .returned (.tuple #[.agg #[.slice a 6 c, .int .i64 5], .int .i64 0]) ∧ XM w' a 6 c awX1.nodes ∧ Below u.heap.size u w' := by
  have h := dual_c awX1 aw_few a 6 c u h
  rw [aw_dual, show awX1.root = 5 from congrArg Prod.snd aw_n.1] at h
  exact h.mono fun e w' hh => aw_ret (x := awX1) aw_n.1 hh
theorem aw_f (u : World) (ht : HasTab u) (a : Option Addr) (c : Nat) (h : XM u a 6 c awX1.nodes) : Calls Tryz.prog 14 #[.agg #[.slice a 6 c, .int .i64 5]] u fun e w' => ∃ a c, e = .returned (.tuple #[.slice a 3 c, .int .i64 0]) ∧ Rd w' a 3 c [.int .u16 3, .int .u16 5, .int .u16 6] ∧ Below u.heap.size u w' := by
  have h := family_x awX1 aw_ok aw_few a 6 c u ht h
  unfold FamR at h
  rw [aw_fam, show awX1.root = 5 from congrArg Prod.snd aw_n.1] at h
  exact h
theorem aw_8 (u : World) (a : Option Addr) (c : Nat) (a2 : Option Addr) (h : Rd u a 3 c [.int .u16 3, .int .u16 5, .int .u16 6]) (h2 : Rd u a2 3 3 [.int .u16 3, .int .u16 5, .int .u16 6]) : Calls Tryz.prog 17 #[.slice a 3 c, .slice a2 3 3] u fun e w' => e = .returned (.bool true) ∧ Below u.heap.size u w' := same8_c [3#16, 5#16, 6#16] a 3 c a2 3 3 u h h2
theorem aw_10 (u : World) (a : Option Addr) (c : Nat) (a2 : Option Addr) (c2 : Nat) (h : XM u a 6 c awX1.nodes) (h2 : XM u a2 6 c2 awX1.nodes) : Calls Tryz.prog 20 #[.agg #[.slice a 6 c, .int .i64 5], .agg #[.slice a2 6 c2, .int .i64 5]] u fun e w' => e = .returned (.bool true) ∧ Below u.heap.size u w' := by
  have h := same10_c awX1 a 6 c a2 6 c2 u h h2
  rw [show awX1.root = 5 from congrArg Prod.snd aw_n.1] at h
  exact h
theorem aw_t2 (u : World) (hp : HasPow u) (a : Option Addr) (c : Nat) (h : XM u a 1 c awY2.nodes) : Calls Tryz.prog 29 #[.agg #[.slice a 1 c, .int .i64 0]] u fun e w' => e = .returned (.tuple #[.string ⟨#[48, 40, 41]⟩, .int .i64 0]) ∧ Below u.heap.size u w' := by
  have h := formatx_c awY2 a 1 c u hp h
  rw [aw_fmt.1, show awY2.root = 0 from congrArg Prod.snd aw_n.2.2.2.1] at h
  exact h
theorem aw_t3 (u : World) (hp : HasPow u) (a : Option Addr) (c : Nat) (h : XM u a 3 c awY3.nodes) : Calls Tryz.prog 29 #[.agg #[.slice a 3 c, .int .i64 2]] u fun e w' => e = .returned (.tuple #[.string ⟨#[49, 40, 115, 48, 44, 32, 115, 49, 41]⟩, .int .i64 0]) ∧ Below u.heap.size u w' := by
  have h := formatx_c awY3 a 3 c u hp h
  rw [aw_fmt.2.1, show awY3.root = 2 from congrArg Prod.snd aw_n.2.2.2.2.1] at h
  exact h
theorem aw_to (u : World) (hp : HasPow u) (a : Option Addr) (c : Nat) (h : XM u a 5 c awO.nodes) : Calls Tryz.prog 29 #[.agg #[.slice a 5 c, .int .i64 4]] u fun e w' => e = .returned (.tuple #[.string ⟨#[49, 40, 115, 48, 44, 32, 50, 40, 115, 49, 44, 32, 115, 50, 41, 41]⟩, .int .i64 0]) ∧ Below u.heap.size u w' := by
  have h := formatx_c awO a 5 c u hp h
  rw [aw_fmt.2.2, show awO.root = 4 from congrArg Prod.snd aw_n.2.2.2.2.2] at h
  exact h

set_option maxRecDepth 100000 in
set_option maxHeartbeats 4000000 in
theorem awake10_c (w : World) (ht : HasTab w) (hp : HasPow w) (hr : HasRng w) (hy : HasSyn w) :
    Calls Tryz.prog 13 #[] w fun e w' => e = .returned (.bool true) ∧ Below w.heap.size w w' := by
  have HT := Lib.hid (fun u (hb : Below w.heap.size w u) => ht.below hb)
  have HP := Lib.hid (fun u (hb : Below w.heap.size w u) => hp.below hb)
  have HR := Lib.hid (fun u (hb : Below w.heap.size w u) => hr.below hb)
  have HY := Lib.hid (fun u (hb : Below w.heap.size w u) => hy.below hb)
  have HB0 := Lib.hid (Below.refl w.heap.size w)
  clear ht hp hr hy
  go_enter Tryz.func13, Tryz.ntmps13
  go_wp2_with fail
  with_reducible refine (aw_p1 w (HP.out _ HB0.out) (HR.out _ HB0.out) (HY.out _ HB0.out)).mono ?_
  rintro e w1 ⟨a1, c1, rfl, h1, hb1⟩
  have HB1 := Lib.hid (Below.next HB0.out hb1)
  have X1 := Lib.hid h1
  clear h1
  clear hb1 HB0
  go_wp2_with fail
  obtain ⟨w2, hW2⟩ : ∃ u, u = w1.alloc (.cells #[.slice a1 6 c1, .int .i64 5] 32) := ⟨_, rfl⟩
  rw [← hW2]
  have hb2 : Below w1.heap.size w1 w2 := by rw [hW2]; exact (Below.refl _ _).alloc (Nat.le_refl _) _
  have G1 := Lib.hid (show w2.heap[w1.heap.size]? = some (.cells #[.slice a1 6 c1, .int .i64 5] 32 (0, 0)) by rw [hW2]; exact heap_alloc_new _ _)
  have HB2 := Lib.hid (Below.next HB1.out hb2)
  have X1' := Lib.hid (X1.out.below hb2)
  clear X1
  have X1 := X1'
  clear X1'
  clear hb2 HB1 hW2
  with_reducible refine (aw_f w2 (HT.out _ HB2.out) a1 c1 X1.out).mono ?_
  rintro e w3 ⟨a3, c3, rfl, h3, hb3⟩
  have HB3 := Lib.hid (Below.next HB2.out hb3)
  have X1' := Lib.hid (X1.out.below hb3)
  clear X1
  have X1 := X1'
  clear X1'
  have G1' := Lib.hid (heap_below hb3 G1.out)
  clear G1
  have G1 := G1'
  clear G1'
  have F3 := Lib.hid h3
  clear h3
  clear hb3 HB2
  obtain ⟨⟨rG10, rG11⟩, _⟩ := open2 G1.out
  go_wp2_with fail
  clear rG10 rG11
  with_reducible refine (aw_d w3 a1 c1 X1.out).mono ?_
  rintro e w4 ⟨a4, c4, rfl, h4, hb4⟩
  have HB4 := Lib.hid (Below.next HB3.out hb4)
  have X1' := Lib.hid (X1.out.below hb4)
  clear X1
  have X1 := X1'
  clear X1'
  have G1' := Lib.hid (heap_below hb4 G1.out)
  clear G1
  have G1 := G1'
  clear G1'
  have F3' := Lib.hid (F3.out.below hb4)
  clear F3
  have F3 := F3'
  clear F3'
  have X4 := Lib.hid h4
  clear h4
  clear hb4 HB3
  go_wp2_with fail
  obtain ⟨w5, hW5⟩ : ∃ u, u = w4.alloc (.cells #[.slice a4 6 c4, .int .i64 5] 32) := ⟨_, rfl⟩
  rw [← hW5]
  have hb5 : Below w4.heap.size w4 w5 := by rw [hW5]; exact (Below.refl _ _).alloc (Nat.le_refl _) _
  have G4 := Lib.hid (show w5.heap[w4.heap.size]? = some (.cells #[.slice a4 6 c4, .int .i64 5] 32 (0, 0)) by rw [hW5]; exact heap_alloc_new _ _)
  have HB5 := Lib.hid (Below.next HB4.out hb5)
  have X1' := Lib.hid (X1.out.below hb5)
  clear X1
  have X1 := X1'
  clear X1'
  have G1' := Lib.hid (heap_below hb5 G1.out)
  clear G1
  have G1 := G1'
  clear G1'
  have F3' := Lib.hid (F3.out.below hb5)
  clear F3
  have F3 := F3'
  clear F3'
  have X4' := Lib.hid (X4.out.below hb5)
  clear X4
  have X4 := X4'
  clear X4'
  clear hb5 HB4 hW5
  with_reducible refine (aw_p2 w5 (HP.out _ HB5.out) (HR.out _ HB5.out) (HY.out _ HB5.out)).mono ?_
  rintro e w6 ⟨a6, c6, rfl, h6, hb6⟩
  have HB6 := Lib.hid (Below.next HB5.out hb6)
  have X1' := Lib.hid (X1.out.below hb6)
  clear X1
  have X1 := X1'
  clear X1'
  have G1' := Lib.hid (heap_below hb6 G1.out)
  clear G1
  have G1 := G1'
  clear G1'
  have F3' := Lib.hid (F3.out.below hb6)
  clear F3
  have F3 := F3'
  clear F3'
  have X4' := Lib.hid (X4.out.below hb6)
  clear X4
  have X4 := X4'
  clear X4'
  have G4' := Lib.hid (heap_below hb6 G4.out)
  clear G4
  have G4 := G4'
  clear G4'
  have X6 := Lib.hid h6
  clear h6
  clear hb6 HB5
  go_wp2_with fail
  obtain ⟨w7, hW7⟩ : ∃ u, u = w6.alloc (.cells #[.slice a6 6 c6, .int .i64 5] 32) := ⟨_, rfl⟩
  rw [← hW7]
  have hb7 : Below w6.heap.size w6 w7 := by rw [hW7]; exact (Below.refl _ _).alloc (Nat.le_refl _) _
  have G6 := Lib.hid (show w7.heap[w6.heap.size]? = some (.cells #[.slice a6 6 c6, .int .i64 5] 32 (0, 0)) by rw [hW7]; exact heap_alloc_new _ _)
  have HB7 := Lib.hid (Below.next HB6.out hb7)
  have X1' := Lib.hid (X1.out.below hb7)
  clear X1
  have X1 := X1'
  clear X1'
  have G1' := Lib.hid (heap_below hb7 G1.out)
  clear G1
  have G1 := G1'
  clear G1'
  have F3' := Lib.hid (F3.out.below hb7)
  clear F3
  have F3 := F3'
  clear F3'
  have X4' := Lib.hid (X4.out.below hb7)
  clear X4
  have X4 := X4'
  clear X4'
  have G4' := Lib.hid (heap_below hb7 G4.out)
  clear G4
  have G4 := G4'
  clear G4'
  have X6' := Lib.hid (X6.out.below hb7)
  clear X6
  have X6 := X6'
  clear X6'
  clear hb7 HB6 hW7
  with_reducible refine (aw_s2 w7 a6 c6 X6.out).mono ?_
  rintro e w8 ⟨a8, c8, rfl, h8, hb8⟩
  have HB8 := Lib.hid (Below.next HB7.out hb8)
  have X1' := Lib.hid (X1.out.below hb8)
  clear X1
  have X1 := X1'
  clear X1'
  have G1' := Lib.hid (heap_below hb8 G1.out)
  clear G1
  have G1 := G1'
  clear G1'
  have F3' := Lib.hid (F3.out.below hb8)
  clear F3
  have F3 := F3'
  clear F3'
  have X4' := Lib.hid (X4.out.below hb8)
  clear X4
  have X4 := X4'
  clear X4'
  have G4' := Lib.hid (heap_below hb8 G4.out)
  clear G4
  have G4 := G4'
  clear G4'
  have X6' := Lib.hid (X6.out.below hb8)
  clear X6
  have X6 := X6'
  clear X6'
  have G6' := Lib.hid (heap_below hb8 G6.out)
  clear G6
  have G6 := G6'
  clear G6'
  have X8 := Lib.hid h8
  clear h8
  clear hb8 HB7
  go_wp2_with fail
  obtain ⟨w9, hW9⟩ : ∃ u, u = w8.alloc (.cells #[.slice a8 1 c8, .int .i64 0] 32) := ⟨_, rfl⟩
  rw [← hW9]
  have hb9 : Below w8.heap.size w8 w9 := by rw [hW9]; exact (Below.refl _ _).alloc (Nat.le_refl _) _
  have G8 := Lib.hid (show w9.heap[w8.heap.size]? = some (.cells #[.slice a8 1 c8, .int .i64 0] 32 (0, 0)) by rw [hW9]; exact heap_alloc_new _ _)
  have HB9 := Lib.hid (Below.next HB8.out hb9)
  have X1' := Lib.hid (X1.out.below hb9)
  clear X1
  have X1 := X1'
  clear X1'
  have G1' := Lib.hid (heap_below hb9 G1.out)
  clear G1
  have G1 := G1'
  clear G1'
  have F3' := Lib.hid (F3.out.below hb9)
  clear F3
  have F3 := F3'
  clear F3'
  have X4' := Lib.hid (X4.out.below hb9)
  clear X4
  have X4 := X4'
  clear X4'
  have G4' := Lib.hid (heap_below hb9 G4.out)
  clear G4
  have G4 := G4'
  clear G4'
  have X6' := Lib.hid (X6.out.below hb9)
  clear X6
  have X6 := X6'
  clear X6'
  have G6' := Lib.hid (heap_below hb9 G6.out)
  clear G6
  have G6 := G6'
  clear G6'
  have X8' := Lib.hid (X8.out.below hb9)
  clear X8
  have X8 := X8'
  clear X8'
  clear hb9 HB8 hW9
  with_reducible refine (aw_p3 w9 (HP.out _ HB9.out) (HR.out _ HB9.out) (HY.out _ HB9.out)).mono ?_
  rintro e w10 ⟨a10, c10, rfl, h10, hb10⟩
  have HB10 := Lib.hid (Below.next HB9.out hb10)
  have X1' := Lib.hid (X1.out.below hb10)
  clear X1
  have X1 := X1'
  clear X1'
  have G1' := Lib.hid (heap_below hb10 G1.out)
  clear G1
  have G1 := G1'
  clear G1'
  have F3' := Lib.hid (F3.out.below hb10)
  clear F3
  have F3 := F3'
  clear F3'
  have X4' := Lib.hid (X4.out.below hb10)
  clear X4
  have X4 := X4'
  clear X4'
  have G4' := Lib.hid (heap_below hb10 G4.out)
  clear G4
  have G4 := G4'
  clear G4'
  have X6' := Lib.hid (X6.out.below hb10)
  clear X6
  have X6 := X6'
  clear X6'
  have G6' := Lib.hid (heap_below hb10 G6.out)
  clear G6
  have G6 := G6'
  clear G6'
  have X8' := Lib.hid (X8.out.below hb10)
  clear X8
  have X8 := X8'
  clear X8'
  have G8' := Lib.hid (heap_below hb10 G8.out)
  clear G8
  have G8 := G8'
  clear G8'
  have X10 := Lib.hid h10
  clear h10
  clear hb10 HB9
  go_wp2_with fail
  obtain ⟨w11, hW11⟩ : ∃ u, u = w10.alloc (.cells #[.slice a10 3 c10, .int .i64 2] 32) := ⟨_, rfl⟩
  rw [← hW11]
  have hb11 : Below w10.heap.size w10 w11 := by rw [hW11]; exact (Below.refl _ _).alloc (Nat.le_refl _) _
  have G10 := Lib.hid (show w11.heap[w10.heap.size]? = some (.cells #[.slice a10 3 c10, .int .i64 2] 32 (0, 0)) by rw [hW11]; exact heap_alloc_new _ _)
  have HB11 := Lib.hid (Below.next HB10.out hb11)
  have X1' := Lib.hid (X1.out.below hb11)
  clear X1
  have X1 := X1'
  clear X1'
  have G1' := Lib.hid (heap_below hb11 G1.out)
  clear G1
  have G1 := G1'
  clear G1'
  have F3' := Lib.hid (F3.out.below hb11)
  clear F3
  have F3 := F3'
  clear F3'
  have X4' := Lib.hid (X4.out.below hb11)
  clear X4
  have X4 := X4'
  clear X4'
  have G4' := Lib.hid (heap_below hb11 G4.out)
  clear G4
  have G4 := G4'
  clear G4'
  have X6' := Lib.hid (X6.out.below hb11)
  clear X6
  have X6 := X6'
  clear X6'
  have G6' := Lib.hid (heap_below hb11 G6.out)
  clear G6
  have G6 := G6'
  clear G6'
  have X8' := Lib.hid (X8.out.below hb11)
  clear X8
  have X8 := X8'
  clear X8'
  have G8' := Lib.hid (heap_below hb11 G8.out)
  clear G8
  have G8 := G8'
  clear G8'
  have X10' := Lib.hid (X10.out.below hb11)
  clear X10
  have X10 := X10'
  clear X10'
  clear hb11 HB10 hW11
  with_reducible refine (aw_s3 w11 a10 c10 X10.out).mono ?_
  rintro e w12 ⟨a12, c12, rfl, h12, hb12⟩
  have HB12 := Lib.hid (Below.next HB11.out hb12)
  have X1' := Lib.hid (X1.out.below hb12)
  clear X1
  have X1 := X1'
  clear X1'
  have G1' := Lib.hid (heap_below hb12 G1.out)
  clear G1
  have G1 := G1'
  clear G1'
  have F3' := Lib.hid (F3.out.below hb12)
  clear F3
  have F3 := F3'
  clear F3'
  have X4' := Lib.hid (X4.out.below hb12)
  clear X4
  have X4 := X4'
  clear X4'
  have G4' := Lib.hid (heap_below hb12 G4.out)
  clear G4
  have G4 := G4'
  clear G4'
  have X6' := Lib.hid (X6.out.below hb12)
  clear X6
  have X6 := X6'
  clear X6'
  have G6' := Lib.hid (heap_below hb12 G6.out)
  clear G6
  have G6 := G6'
  clear G6'
  have X8' := Lib.hid (X8.out.below hb12)
  clear X8
  have X8 := X8'
  clear X8'
  have G8' := Lib.hid (heap_below hb12 G8.out)
  clear G8
  have G8 := G8'
  clear G8'
  have X10' := Lib.hid (X10.out.below hb12)
  clear X10
  have X10 := X10'
  clear X10'
  have G10' := Lib.hid (heap_below hb12 G10.out)
  clear G10
  have G10 := G10'
  clear G10'
  have X12 := Lib.hid h12
  clear h12
  clear hb12 HB11
  go_wp2_with fail
  obtain ⟨V1, hV1⟩ : ∃ u, u = w12.alloc (.cells #[.slice a12 3 c12, .int .i64 2] 32) := ⟨_, rfl⟩
  rw [← hV1]
  obtain ⟨V2, hV2⟩ : ∃ u, u = V1.alloc (.cells #[.int .u16 1, .int .u16 6] 37) := ⟨_, rfl⟩
  rw [← hV2]
  have hs1 : V1.heap.size = w12.heap.size + 1 := by rw [hV1]; simp
  rw [← hs1]
  have hv1 : Below w12.heap.size w12 V1 := by rw [hV1]; exact (Below.refl _ _).alloc (Nat.le_refl _) _
  have hv2 : Below V1.heap.size V1 V2 := by rw [hV2]; exact (Below.refl _ _).alloc (Nat.le_refl _) _
  have hbv : Below w12.heap.size w12 V2 := Below.next hv1 hv2
  have HRD := Lib.hid (show Rd V2 (some ⟨V1.heap.size, 0, none⟩) 2 2 [.int .u16 1, .int .u16 6] by rw [hV2]; exact Rd.lit' V1 _ _ 2 _ rfl rfl (by decide) rfl)
  have G12 := Lib.hid (show V2.heap[w12.heap.size]? = some (.cells #[.slice a12 3 c12, .int .i64 2] 32 (0, 0)) from heap_below hv2 (by rw [hV1]; exact heap_alloc_new _ _))
  have HB13 := Lib.hid (Below.next HB12.out hbv)
  have X1' := Lib.hid (X1.out.below hbv)
  clear X1
  have X1 := X1'
  clear X1'
  have G1' := Lib.hid (heap_below hbv G1.out)
  clear G1
  have G1 := G1'
  clear G1'
  have F3' := Lib.hid (F3.out.below hbv)
  clear F3
  have F3 := F3'
  clear F3'
  have X4' := Lib.hid (X4.out.below hbv)
  clear X4
  have X4 := X4'
  clear X4'
  have G4' := Lib.hid (heap_below hbv G4.out)
  clear G4
  have G4 := G4'
  clear G4'
  have X6' := Lib.hid (X6.out.below hbv)
  clear X6
  have X6 := X6'
  clear X6'
  have G6' := Lib.hid (heap_below hbv G6.out)
  clear G6
  have G6 := G6'
  clear G6'
  have X8' := Lib.hid (X8.out.below hbv)
  clear X8
  have X8 := X8'
  clear X8'
  have G8' := Lib.hid (heap_below hbv G8.out)
  clear G8
  have G8 := G8'
  clear G8'
  have X10' := Lib.hid (X10.out.below hbv)
  clear X10
  have X10 := X10'
  clear X10'
  have G10' := Lib.hid (heap_below hbv G10.out)
  clear G10
  have G10 := G10'
  clear G10'
  have X12' := Lib.hid (X12.out.below hbv)
  clear X12
  have X12 := X12'
  clear X12'
  clear hv1 hv2 hbv HB12 hV2 hV1
  with_reducible refine (aw_o V2 (HT.out _ HB13.out) _ _ HRD.out).mono ?_
  rintro e w14 ⟨a14, c14, rfl, h14, hb14⟩
  have HB14 := Lib.hid (Below.next HB13.out hb14)
  have X1' := Lib.hid (X1.out.below hb14)
  clear X1
  have X1 := X1'
  clear X1'
  have G1' := Lib.hid (heap_below hb14 G1.out)
  clear G1
  have G1 := G1'
  clear G1'
  have F3' := Lib.hid (F3.out.below hb14)
  clear F3
  have F3 := F3'
  clear F3'
  have X4' := Lib.hid (X4.out.below hb14)
  clear X4
  have X4 := X4'
  clear X4'
  have G4' := Lib.hid (heap_below hb14 G4.out)
  clear G4
  have G4 := G4'
  clear G4'
  have X6' := Lib.hid (X6.out.below hb14)
  clear X6
  have X6 := X6'
  clear X6'
  have G6' := Lib.hid (heap_below hb14 G6.out)
  clear G6
  have G6 := G6'
  clear G6'
  have X8' := Lib.hid (X8.out.below hb14)
  clear X8
  have X8 := X8'
  clear X8'
  have G8' := Lib.hid (heap_below hb14 G8.out)
  clear G8
  have G8 := G8'
  clear G8'
  have X10' := Lib.hid (X10.out.below hb14)
  clear X10
  have X10 := X10'
  clear X10'
  have G10' := Lib.hid (heap_below hb14 G10.out)
  clear G10
  have G10 := G10'
  clear G10'
  have X12' := Lib.hid (X12.out.below hb14)
  clear X12
  have X12 := X12'
  clear X12'
  have G12' := Lib.hid (heap_below hb14 G12.out)
  clear G12
  have G12 := G12'
  clear G12'
  have X14 := Lib.hid h14
  clear h14
  clear hb14 HB13
  clear HRD hs1
  have rG80 : ∀ ob, (w14.alloc ob).cell? _ = _ := fun ob => (World.cell?_alloc_lt _ _ _ (cell_lt (open2 G8.out).1.1)).trans (open2 G8.out).1.1
  have rG81 : ∀ ob, (w14.alloc ob).cell? _ = _ := fun ob => (World.cell?_alloc_lt _ _ _ (cell_lt (open2 G8.out).1.2)).trans (open2 G8.out).1.2
  go_wp2_with fail
  clear rG80 rG81
  obtain ⟨w15, hW15⟩ : ∃ u, u = w14.alloc (.cells #[.slice a14 5 c14, .int .i64 4] 32) := ⟨_, rfl⟩
  rw [← hW15]
  have hb15 : Below w14.heap.size w14 w15 := by rw [hW15]; exact (Below.refl _ _).alloc (Nat.le_refl _) _
  have G14 := Lib.hid (show w15.heap[w14.heap.size]? = some (.cells #[.slice a14 5 c14, .int .i64 4] 32 (0, 0)) by rw [hW15]; exact heap_alloc_new _ _)
  have HB15 := Lib.hid (Below.next HB14.out hb15)
  have X1' := Lib.hid (X1.out.below hb15)
  clear X1
  have X1 := X1'
  clear X1'
  have G1' := Lib.hid (heap_below hb15 G1.out)
  clear G1
  have G1 := G1'
  clear G1'
  have F3' := Lib.hid (F3.out.below hb15)
  clear F3
  have F3 := F3'
  clear F3'
  have X4' := Lib.hid (X4.out.below hb15)
  clear X4
  have X4 := X4'
  clear X4'
  have G4' := Lib.hid (heap_below hb15 G4.out)
  clear G4
  have G4 := G4'
  clear G4'
  have X6' := Lib.hid (X6.out.below hb15)
  clear X6
  have X6 := X6'
  clear X6'
  have G6' := Lib.hid (heap_below hb15 G6.out)
  clear G6
  have G6 := G6'
  clear G6'
  have X8' := Lib.hid (X8.out.below hb15)
  clear X8
  have X8 := X8'
  clear X8'
  have G8' := Lib.hid (heap_below hb15 G8.out)
  clear G8
  have G8 := G8'
  clear G8'
  have X10' := Lib.hid (X10.out.below hb15)
  clear X10
  have X10 := X10'
  clear X10'
  have G10' := Lib.hid (heap_below hb15 G10.out)
  clear G10
  have G10 := G10'
  clear G10'
  have X12' := Lib.hid (X12.out.below hb15)
  clear X12
  have X12 := X12'
  clear X12'
  have G12' := Lib.hid (heap_below hb15 G12.out)
  clear G12
  have G12 := G12'
  clear G12'
  have X14' := Lib.hid (X14.out.below hb15)
  clear X14
  have X14 := X14'
  clear X14'
  clear hb15 HB14 hW15
  with_reducible refine (aw_t2 w15 (HP.out _ HB15.out) a8 c8 X8.out).mono ?_
  rintro e w16 ⟨rfl, hb16⟩
  have HB16 := Lib.hid (Below.next HB15.out hb16)
  have X1' := Lib.hid (X1.out.below hb16)
  clear X1
  have X1 := X1'
  clear X1'
  have G1' := Lib.hid (heap_below hb16 G1.out)
  clear G1
  have G1 := G1'
  clear G1'
  have F3' := Lib.hid (F3.out.below hb16)
  clear F3
  have F3 := F3'
  clear F3'
  have X4' := Lib.hid (X4.out.below hb16)
  clear X4
  have X4 := X4'
  clear X4'
  have G4' := Lib.hid (heap_below hb16 G4.out)
  clear G4
  have G4 := G4'
  clear G4'
  have X6' := Lib.hid (X6.out.below hb16)
  clear X6
  have X6 := X6'
  clear X6'
  have G6' := Lib.hid (heap_below hb16 G6.out)
  clear G6
  have G6 := G6'
  clear G6'
  have X8' := Lib.hid (X8.out.below hb16)
  clear X8
  have X8 := X8'
  clear X8'
  have G8' := Lib.hid (heap_below hb16 G8.out)
  clear G8
  have G8 := G8'
  clear G8'
  have X10' := Lib.hid (X10.out.below hb16)
  clear X10
  have X10 := X10'
  clear X10'
  have G10' := Lib.hid (heap_below hb16 G10.out)
  clear G10
  have G10 := G10'
  clear G10'
  have X12' := Lib.hid (X12.out.below hb16)
  clear X12
  have X12 := X12'
  clear X12'
  have G12' := Lib.hid (heap_below hb16 G12.out)
  clear G12
  have G12 := G12'
  clear G12'
  have X14' := Lib.hid (X14.out.below hb16)
  clear X14
  have X14 := X14'
  clear X14'
  have G14' := Lib.hid (heap_below hb16 G14.out)
  clear G14
  have G14 := G14'
  clear G14'
  clear hb16 HB15
  obtain ⟨⟨rG120, rG121⟩, _⟩ := open2 G12.out
  go_wp2_with fail
  clear rG120 rG121
  with_reducible refine (aw_t3 w16 (HP.out _ HB16.out) a12 c12 X12.out).mono ?_
  rintro e w17 ⟨rfl, hb17⟩
  have HB17 := Lib.hid (Below.next HB16.out hb17)
  have X1' := Lib.hid (X1.out.below hb17)
  clear X1
  have X1 := X1'
  clear X1'
  have G1' := Lib.hid (heap_below hb17 G1.out)
  clear G1
  have G1 := G1'
  clear G1'
  have F3' := Lib.hid (F3.out.below hb17)
  clear F3
  have F3 := F3'
  clear F3'
  have X4' := Lib.hid (X4.out.below hb17)
  clear X4
  have X4 := X4'
  clear X4'
  have G4' := Lib.hid (heap_below hb17 G4.out)
  clear G4
  have G4 := G4'
  clear G4'
  have X6' := Lib.hid (X6.out.below hb17)
  clear X6
  have X6 := X6'
  clear X6'
  have G6' := Lib.hid (heap_below hb17 G6.out)
  clear G6
  have G6 := G6'
  clear G6'
  have X8' := Lib.hid (X8.out.below hb17)
  clear X8
  have X8 := X8'
  clear X8'
  have G8' := Lib.hid (heap_below hb17 G8.out)
  clear G8
  have G8 := G8'
  clear G8'
  have X10' := Lib.hid (X10.out.below hb17)
  clear X10
  have X10 := X10'
  clear X10'
  have G10' := Lib.hid (heap_below hb17 G10.out)
  clear G10
  have G10 := G10'
  clear G10'
  have X12' := Lib.hid (X12.out.below hb17)
  clear X12
  have X12 := X12'
  clear X12'
  have G12' := Lib.hid (heap_below hb17 G12.out)
  clear G12
  have G12 := G12'
  clear G12'
  have X14' := Lib.hid (X14.out.below hb17)
  clear X14
  have X14 := X14'
  clear X14'
  have G14' := Lib.hid (heap_below hb17 G14.out)
  clear G14
  have G14 := G14'
  clear G14'
  clear hb17 HB16
  obtain ⟨⟨rG140, rG141⟩, _⟩ := open2 G14.out
  go_wp2_with fail
  clear rG140 rG141
  with_reducible refine (aw_to w17 (HP.out _ HB17.out) a14 c14 X14.out).mono ?_
  rintro e w18 ⟨rfl, hb18⟩
  have HB18 := Lib.hid (Below.next HB17.out hb18)
  have X1' := Lib.hid (X1.out.below hb18)
  clear X1
  have X1 := X1'
  clear X1'
  have G1' := Lib.hid (heap_below hb18 G1.out)
  clear G1
  have G1 := G1'
  clear G1'
  have F3' := Lib.hid (F3.out.below hb18)
  clear F3
  have F3 := F3'
  clear F3'
  have X4' := Lib.hid (X4.out.below hb18)
  clear X4
  have X4 := X4'
  clear X4'
  have G4' := Lib.hid (heap_below hb18 G4.out)
  clear G4
  have G4 := G4'
  clear G4'
  have X6' := Lib.hid (X6.out.below hb18)
  clear X6
  have X6 := X6'
  clear X6'
  have G6' := Lib.hid (heap_below hb18 G6.out)
  clear G6
  have G6 := G6'
  clear G6'
  have X8' := Lib.hid (X8.out.below hb18)
  clear X8
  have X8 := X8'
  clear X8'
  have G8' := Lib.hid (heap_below hb18 G8.out)
  clear G8
  have G8 := G8'
  clear G8'
  have X10' := Lib.hid (X10.out.below hb18)
  clear X10
  have X10 := X10'
  clear X10'
  have G10' := Lib.hid (heap_below hb18 G10.out)
  clear G10
  have G10 := G10'
  clear G10'
  have X12' := Lib.hid (X12.out.below hb18)
  clear X12
  have X12 := X12'
  clear X12'
  have G12' := Lib.hid (heap_below hb18 G12.out)
  clear G12
  have G12 := G12'
  clear G12'
  have X14' := Lib.hid (X14.out.below hb18)
  clear X14
  have X14 := X14'
  clear X14'
  have G14' := Lib.hid (heap_below hb18 G14.out)
  clear G14
  have G14 := G14'
  clear G14'
  clear hb18 HB17
  go_wp2_with fail
  obtain ⟨V3, hV3⟩ : ∃ u, u = w18.alloc (.cells #[.int .i64 0, .int .i64 0, .int .i64 0, .int .i64 0, .int .i64 0, .int .i64 0, .int .i64 0, .int .i64 0, .int .i64 0, .int .i64 0, .int .i64 0] 27) := ⟨_, rfl⟩
  rw [← hV3]
  have hv3 : Below w18.heap.size w18 V3 := by rw [hV3]; exact (Below.refl _ _).alloc (Nat.le_refl _) _
  have g3 : V3.heap[w18.heap.size]? = some (.cells #[.int .i64 0, .int .i64 0, .int .i64 0, .int .i64 0, .int .i64 0, .int .i64 0, .int .i64 0, .int .i64 0, .int .i64 0, .int .i64 0, .int .i64 0] 27 (0, 0)) := by rw [hV3]; exact heap_alloc_new _ _
  have H11 : Hid (∀ k : Nat, k < 11 → V3.cell? ⟨w18.heap.size, k, none⟩ = some (.int .i64 0)) := Lib.hid (fun k hk => (cell_of_row _ _ k _ _ _ g3).trans (match k, hk with
    | 0, _ => rfl | 1, _ => rfl | 2, _ => rfl | 3, _ => rfl | 4, _ => rfl | 5, _ => rfl | 6, _ => rfl | 7, _ => rfl | 8, _ => rfl | 9, _ => rfl | 10, _ => rfl
    | q + 11, h => absurd h (by omega)))
  have HB19 := Lib.hid (Below.next HB18.out hv3)
  have X1' := Lib.hid (X1.out.below hv3)
  clear X1
  have X1 := X1'
  clear X1'
  have G1' := Lib.hid (heap_below hv3 G1.out)
  clear G1
  have G1 := G1'
  clear G1'
  have F3' := Lib.hid (F3.out.below hv3)
  clear F3
  have F3 := F3'
  clear F3'
  have X4' := Lib.hid (X4.out.below hv3)
  clear X4
  have X4 := X4'
  clear X4'
  have G4' := Lib.hid (heap_below hv3 G4.out)
  clear G4
  have G4 := G4'
  clear G4'
  have X6' := Lib.hid (X6.out.below hv3)
  clear X6
  have X6 := X6'
  clear X6'
  have G6' := Lib.hid (heap_below hv3 G6.out)
  clear G6
  have G6 := G6'
  clear G6'
  have X8' := Lib.hid (X8.out.below hv3)
  clear X8
  have X8 := X8'
  clear X8'
  have G8' := Lib.hid (heap_below hv3 G8.out)
  clear G8
  have G8 := G8'
  clear G8'
  have X10' := Lib.hid (X10.out.below hv3)
  clear X10
  have X10 := X10'
  clear X10'
  have G10' := Lib.hid (heap_below hv3 G10.out)
  clear G10
  have G10 := G10'
  clear G10'
  have X12' := Lib.hid (X12.out.below hv3)
  clear X12
  have X12 := X12'
  clear X12'
  have G12' := Lib.hid (heap_below hv3 G12.out)
  clear G12
  have G12 := G12'
  clear G12'
  have X14' := Lib.hid (X14.out.below hv3)
  clear X14
  have X14 := X14'
  clear X14'
  have G14' := Lib.hid (heap_below hv3 G14.out)
  clear G14
  have G14 := G14'
  clear G14'
  clear hv3 g3 HB18 hV3
  go_loopw [90] (fun q wr => ∃ k : Nat, k ≤ 11 ∧ q = .int .i64 k ∧ wr = V3) (fun q _ => 11 - (intOf q).toNat)
  case atStart => exact ⟨0, by omega, rfl, rfl⟩
  case round =>
    obtain ⟨k, hk, rfl, hwr⟩ := hrel
    subst hwr
    by_cases hlt : k < 11
    · have c0 := H11.out k hlt
      go_wp2_with fail
      go_roundw
      case rel => exact ⟨k + 1, by omega, by go_num, trivial⟩
      case measure => simp [intOf] <;> omega
    · go_wp2_with fail
      obtain ⟨V4, hV4⟩ : ∃ u, u = wr.alloc (.cells #[.int .u16 3, .int .u16 5, .int .u16 6] 37) := ⟨_, rfl⟩
      rw [← hV4]
      have hb4 : Below wr.heap.size wr V4 := by rw [hV4]; exact (Below.refl _ _).alloc (Nat.le_refl _) _
      have HRD := Lib.hid (show Rd V4 (some ⟨wr.heap.size, 0, none⟩) 3 3 [.int .u16 3, .int .u16 5, .int .u16 6] by rw [hV4]; exact Rd.lit' wr _ _ 3 _ rfl rfl (by decide) rfl)
      clear hV4
      with_reducible refine (aw_8 V4 a3 c3 _ (F3.out.below hb4) HRD.out).mono ?_
      rintro e w20 ⟨rfl, hb20⟩
      have hb := Below.next hb4 hb20
      have g4 := heap_below hb G4.out
      have g1 := heap_below hb G1.out
      obtain ⟨⟨r40, r41⟩, _⟩ := open2 g4
      obtain ⟨⟨r10, r11⟩, _⟩ := open2 g1
      have HB20 := Lib.hid (Below.next HB19.out hb)
      have X4' := Lib.hid (X4.out.below hb)
      have X1' := Lib.hid (X1.out.below hb)
      clear hb hb4 hb20 g4 g1 HRD
      go_wp2_with fail
      clear r40 r41 r10 r11
      with_reducible refine (aw_10 w20 a4 c4 a1 c1 X4'.out X1'.out).mono ?_
      rintro e w21 ⟨rfl, hb21⟩
      have HB21 := Lib.hid (Below.next HB20.out hb21)
      clear hb21
      go_wp2_with fail
      go_ret
      exact ⟨rfl, HB21.out⟩
end Go.Proofs.YtcojmmhclklpoaaGreatDoor
