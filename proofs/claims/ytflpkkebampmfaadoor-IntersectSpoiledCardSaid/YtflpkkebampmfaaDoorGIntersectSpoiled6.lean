/- Texts laid together. intersect's parser: node, the number's way. intersect.Parse, Size. intersect.formed. intersect.Check. -/
import Derived.Test.YtflpkkebampmfaaDoorGIntersectSpoiled4
import Derived.Test.YtflpkkebampmfaaDoorGIntersectSpoiled5
import Derived.Deep.OwnRows
import Derived.Laws.MakeOwn
import Derived.Laws.EntriesVeiled
namespace Go.Proofs.YtflpkkebampmfaaDoor
open Go.RowKit Go.Shelf

theorem idx_cases (s : Byts) : Lib.indexByte s 40 = -1 ∨ ∃ k : Nat, Lib.indexByte s 40 = (k : Int) := by
  have h := Lib.indexByte_ge s 40
  by_cases h1 : Lib.indexByte s 40 = -1
  · exact .inl h1
  · exact .inr ⟨(Lib.indexByte s 40).toNat, by omega⟩

set_option maxRecDepth 100000 in
set_option maxHeartbeats 4000000 in
theorem node_p (B : Nat) (W0 : World) (HE : ∀ u : World, Below B W0 u → HasRng u ∧ HasSyn u) :
    ∀ (f : Nat) (s : Byts) (ns : List Cho) (v : Value) (W : World), s.length < f → ns.length + s.length ≤ 100000 → Below B W0 W → PN W B s v ns →
    Calls Tryd.prog 40 #[.pointer (some ⟨B, 0, none⟩)] W fun e w' => Read f s ns B v W e w' := by
  have HEE := Lib.hid HE
  clear HE
  intro f
  induction f with
  | zero => intro s ns v W h; omega
  | succ f ih =>
    intro s ns v W hsf hsz hbw h
    cases h0 : stripP [120] s with
    | some r => exact node_x f s r ns B v W (by omega) h h0
    | none =>
      cases h1 : stripP [121] s with
      | some r => exact node_y f s r ns B v W (by omega) h h0 h1
      | none =>
        have HIH := Lib.hid ih
        have HX := Lib.hid h0
        have HY := Lib.hid h1
        obtain ⟨av, cv, rfl, _⟩ := rdK_of_row h.row
        obtain ⟨W1, hW1⟩ : ∃ W1, W1 = W.alloc (.cells #[.int .i64 (-1), .int .i64 0, .int .i64 0] 39) := ⟨_, rfl⟩
        have hb1 : Below W.heap.size W W1 := by rw [hW1]; exact (Below.refl _ W).alloc (Nat.le_refl _) _
        have hp1 := h.below hb1
        have hBW := h.lt
        have hc1 : W1.heap[W.heap.size]? = some (.cells #[.int .i64 (-1), .int .i64 0, .int .i64 0] 39 (0, 0)) := by rw [hW1]; exact heap_alloc_new _ _
        have hown : (Value.slice av ns.length cv).ownBlock ≠ some W.heap.size := fun e => by have := (h.row.lt _ e).2; omega
        have HOWN := Lib.hid hown
        have HK1 := Lib.hid (KeepP.of_below (v := Value.slice av ns.length cv) (Nat.le_of_lt hBW) hb1)
        have HP1 := Lib.hid hp1
        have HC1 := Lib.hid hc1
        have HBW := Lib.hid hBW
        have HB0 := Lib.hid hbw
        have HT1 : Hid (Calls Tryd.prog 62 #[.pointer (some ⟨B, 0, none⟩), .string ⟨#[120]⟩] W1 fun e w' => e = .returned (.bool false) ∧ PN w' B s (.slice av ns.length cv) ns ∧ KeepP B (.slice av ns.length cv) (.slice av ns.length cv) W1 w') := Lib.hid (by
          have := take_p [120] s B _ ns W1 hp1
          rw [h0] at this
          exact this)
        have HT2 : Hid (∀ u : World, PN u B s (.slice av ns.length cv) ns → Calls Tryd.prog 62 #[.pointer (some ⟨B, 0, none⟩), .string ⟨#[121]⟩] u fun e w' => e = .returned (.bool false) ∧ PN w' B s (.slice av ns.length cv) ns ∧ KeepP B (.slice av ns.length cv) (.slice av ns.length cv) u w') := Lib.hid (fun u hu => by
          have := take_p [121] s B _ ns u hu
          rw [h1] at this
          exact this)
        have HTC : Hid (∀ (t : Byts) (u : World) (v : Value) (ms : List Cho), PN u B t v ms → Calls Tryd.prog 62 #[.pointer (some ⟨B, 0, none⟩), .string ⟨#[44, 32]⟩] u fun e w' => e = .returned (.bool (stripP [44, 32] t).isSome) ∧ PN w' B ((stripP [44, 32] t).getD t) v ms ∧ KeepP B v v u w') := Lib.hid (fun t u v ms hu => take_p [44, 32] t B v ms u hu)
        have HTE : Hid (∀ (t : Byts) (u : World) (v : Value) (ms : List Cho), PN u B t v ms → Calls Tryd.prog 62 #[.pointer (some ⟨B, 0, none⟩), .string ⟨#[41]⟩] u fun e w' => e = .returned (.bool (stripP [41] t).isSome) ∧ PN w' B ((stripP [41] t).getD t) v ms ∧ KeepP B v v u w') := Lib.hid (fun t u v ms hu => take_p [41] t B v ms u hu)
        have HIX : Hid (∀ u : World, Calls Tryd.prog 63 #[.string (mkB s), .int .u8 40] u fun e w' => e = .returned (.int .i64 (Lib.indexByte s 40)) ∧ w' = u) := Lib.hid (fun u => Tryd.strings_IndexByte (mkB s) 40 u)
        obtain ⟨i0, hi0, hz0, hz1, hz2⟩ := info_parts Tryd.infoCho
        clear h h0 h1 hb1 hp1 hc1 hown hBW ih hbw
        go_enter Tryd.func40, Tryd.ntmps40
        go_wp2_with fail
        rw [← hW1]
        with_reducible refine HT1.out.mono ?_
        rintro e w2 ⟨rfl, hp2, hk2⟩
        have hc2 := heap_keepP hk2 HC1.out (by have := HBW.out; omega) HOWN.out
        have q0 := cell_of_row _ _ 0 _ _ _ hc2
        have q1 := frozen_row hc2 0
        have HP2 := Lib.hid hp2
        have HC2 := Lib.hid hc2
        have HK2 := Lib.hid (HK1.out.trans hk2)
        clear hp2 hk2 hc2
        go_wp2_with fail
        clear q0 q1
        obtain ⟨w3, hw3⟩ : ∃ w3, w2.setCell ⟨W.heap.size, 0, none⟩ (.int .i64 (-2)) = w3 := ⟨_, rfl⟩
        have hb3 : Below (B + 1) w2 w3 := by rw [← hw3]; exact (Below.refl _ _).setCell (p := ⟨W.heap.size, 0, none⟩) (by show B + 1 ≤ W.heap.size; exact HBW.out) _
        have hp3 : PN w3 B s (.slice av ns.length cv) ns := by
          rw [← hw3]
          exact ⟨heap_set_other (by have := HBW.out; omega) _ _ HP2.out.blk, rowK_at HP2.out.row fun g hg => Below.heap_setCell _ _ _ _ (by show g ≠ W.heap.size; exact fun e => HOWN.out (e ▸ hg))⟩
        have hc3 : w3.heap[W.heap.size]? = some (.cells #[.int .i64 (-2), .int .i64 0, .int .i64 0] 39 (0, 0)) := by rw [← hw3, heap_set_at HC2.out]; rfl
        have hk3 : KeepP B (.slice av ns.length cv) (.slice av ns.length cv) W w3 := by
          refine ⟨HK2.out.bel.trans (hb3.mono (by omega)), fun k hk hkB hv => ?_, fun g hg => .inl hg⟩
          rw [← hw3, Below.heap_setCell _ _ _ _ (by show k ≠ W.heap.size; omega)]
          exact HK2.out.blk k hk hkB hv
        have HT3 := Lib.hid (HT2.out w3 hp3)
        have HC3 := Lib.hid hc3
        have HK3 := Lib.hid hk3
        rw [hw3]
        clear hb3 hp3 hc3 hk3 hw3 HT1 HT2
        with_reducible refine HT3.out.mono ?_
        rintro e w4 ⟨rfl, hp4, hk4⟩
        have HC4 := Lib.hid (heap_keepP hk4 HC3.out (by have := HBW.out; omega) HOWN.out)
        have HP4 := Lib.hid hp4
        have HK4 := Lib.hid (HK3.out.trans hk4)
        have p0 := cell_of_row _ _ 0 _ _ _ hp4.blk
        obtain ⟨S, hS⟩ : ∃ S, mkB s = S := ⟨_, rfl⟩
        rw [hS] at p0 HIX
        have HS := Lib.hid hS
        clear hp4 hk4 HT3 hS
        go_wp2_with fail
        with_reducible refine (HIX.out w4).mono ?_
        rintro e w5 ⟨rfl, rfl⟩
        rcases idx_cases s with hi | ⟨k, hi⟩
        · have HN := Lib.hid (pn_0 (f := f) (ns := ns) HX.out HY.out (num_nobr hi))
          rw [hi]
          clear hi
          go_wp2_with fail
          go_ret2
          exact ⟨s, _, ns, HK4.out, HP4.out, .inr ⟨HN.out, rfl⟩⟩
        · rw [hi]
          have HI := Lib.hid hi
          have hks := (idx_split hi).1
          have d0 : decide ((k : Int) < 0) = false := decide_eq_false (by omega)
          have hkm : k ≤ S.size := by rw [← HS.out, mkB_size]; omega
          clear hi hks
          go_wp2_with fail
          have HIDX := Lib.hid (idx_split HI.out)
          have hpx : S.extract 0 k = mkB (s.take k) := by rw [← HS.out, mkB_extract]; simp
          have hpd : S.extract (k + 1) S.size = mkB (s.drop (k + 1)) := by
            rw [← HS.out, mkB_extract, mkB_size]
            rw [List.take_of_length_le (by rw [List.length_drop]; omega)]
          have hps : (S.extract 0 k).size ≤ 1000000 := by rw [hpx, mkB_size, List.length_take]; omega
          have HPX := Lib.hid hpx
          have HPD := Lib.hid hpd
          have hbe := HB0.out.trans HK4.out.bel
          obtain ⟨hrng, hsyn⟩ := HEE.out _ hbe
          cases ha : Lib.atoiAll (s.take k)
          · rename_i z
            have HA := Lib.hid (Tryd.strconv_Atoi_ok (S.extract 0 k) (by omega) z (by rw [hpx, mkB_list]; exact ha) w5)
            have HZ := Lib.hid ha
            clear ha hrng hsyn hbe hpx hpd
            with_reducible refine HA.out.mono ?_
            rintro e w6 ⟨rfl, hw6⟩
            have hb6 : Below w5.heap.size w5 w6 := by
              rcases hw6 with rfl | ⟨t, rfl⟩
              · exact Below.refl _ _
              · exact Lib.bytesWorld_below _ _ _
            have HP6 := Lib.hid (HP4.out.below hb6)
            have HK6 := Lib.hid (HK4.out.trans (KeepP.of_below (Nat.le_of_lt HP4.out.lt) hb6))
            have HC6 := Lib.hid (heap_below hb6 HC4.out)
            have p0 := cell_of_row _ _ 0 _ _ _ HP6.out.blk
            have z0 := frozen_row HP6.out.blk 0
            rw [HS.out] at p0
            clear hb6 HA hw6 HP4 HK4 HC4
            by_cases hz0' : z < 0
            · have HN := Lib.hid (pn_0 (f := f) (ns := ns) HX.out HY.out (num_out HI.out HZ.out (.inl hz0')))
              have d1 : decide (z < 0) = true := decide_eq_true hz0'
              clear hz0'
              go_wp2_with fail
              go_quiet (fail)
              go_wp2_with fail
              go_ret2
              exact ⟨s, _, ns, HK6.out.trans (KeepP.of_below (Nat.le_of_lt HP6.out.lt) (below_drewN (Below.refl _ _))), HP6.out.below (below_drewN (Below.refl _ _)), .inr ⟨HN.out, rfl⟩⟩
            have d1 : decide (z < 0) = false := decide_eq_false hz0'
            by_cases hz12 : 12 ≤ z
            · have HN := Lib.hid (pn_0 (f := f) (ns := ns) HX.out HY.out (num_out HI.out HZ.out (.inr hz12)))
              have d2 : decide ((12 : Int) ≤ z) = true := decide_eq_true hz12
              clear hz0' hz12
              go_wp2_with fail
              go_quiet (fail)
              go_wp2_with fail
              go_ret2
              exact ⟨s, _, ns, HK6.out.trans (KeepP.of_below (Nat.le_of_lt HP6.out.lt) (below_drewN (Below.refl _ _))), HP6.out.below (below_drewN (Below.refl _ _)), .inr ⟨HN.out, rfl⟩⟩
            have d2 : decide ((12 : Int) ≤ z) = false := decide_eq_false hz12
            obtain ⟨n, rfl⟩ := Int.eq_ofNat_of_zero_le (show 0 ≤ z by omega)
            have HN12 : Hid (n < 12) := Lib.hid (by omega)
            have HIT := Lib.hid (fun u => Tryd.strconv_Itoa_small n (by omega) u)
            obtain ⟨D, hD⟩ : ∃ D : ByteArray, (⟨(Lib.decDigits n).toArray⟩ : ByteArray) = D := ⟨_, rfl⟩
            rw [hD] at HIT
            obtain ⟨X, hX⟩ : ∃ X, S.extract 0 k = X := ⟨_, rfl⟩
            have HDX : Hid (Lib.decDigits n = s.take k ↔ D = X) := Lib.hid (by
              rw [← hX, HPX.out, ← hD]
              constructor
              · intro e; rw [e]; rfl
              · intro e; exact congrArg (fun b : ByteArray => b.data.toList) e)
            have HXX := Lib.hid hX
            clear hz0' hz12 hD
            by_cases hdx : D = X
            · have HNP := Lib.hid (num_yes HI.out HN12.out (HDX.out.2 hdx))
              have e1 : (D.toList == (S.extract 0 k).toList) = true := by rw [hX, hdx]; exact bs_same _
              have hwr : wrap64 ((k : Int) + 1) = (k : Int) + 1 := by have := HIDX.out.1; unfold wrap64; omega
              have hkm1 : (k : Int) + 1 ≤ (S.size : Int) := by have := HIDX.out.1; rw [← HS.out, mkB_size]; omega
              have hkm0 : (0 : Int) ≤ (k : Int) + 1 := by omega
              clear hdx hX
              go_wp2_with fail
              go_quiet ((go_at_call 55; exact Calls.quiet_of_same (HIT.out _)))
              go_wp2_with fail
              rw [HPD.out]
              generalize hw7 : (w6.drewN _).setCell _ _ = w7
              have hp7 : PN w7 B (s.drop (k + 1)) (.slice av ns.length cv) ns := by
                rw [← hw7]; exact (HP6.out.below (below_drewN (Below.refl _ _))).put _
              have hk7 : KeepP B (.slice av ns.length cv) (.slice av ns.length cv) W w7 := by
                rw [← hw7]
                exact (HK6.out.trans (KeepP.of_below (Nat.le_of_lt HP6.out.lt) (below_drewN (Below.refl _ _)))).trans (KeepP.put _ _ _)
              have hrl : (s.drop (k + 1)).length + 2 ≤ s.length := num_len HNP.out
              have HI1 := Lib.hid (HIH.out (s.drop (k + 1)) ns _ w7 (by omega) (by omega) (HB0.out.trans hk7.bel) hp7)
              have HC7 : Hid (w7.heap[W.heap.size]? = some (.cells #[.int .i64 (-2), .int .i64 0, .int .i64 0] 39 (0, 0))) := Lib.hid (by
                rw [← hw7]; exact heap_set_other (by have := HBW.out; omega) _ _ (heap_below (below_drewN (Below.refl _ _)) HC6.out))
              have HK7 := Lib.hid hk7
              have HRL := Lib.hid hrl
              obtain ⟨r1, hr1⟩ : ∃ r, s.drop (k + 1) = r := ⟨_, rfl⟩
              rw [hr1] at HI1 HRL
              rw [hr1] at HNP
              clear hw7 hp7 hk7 hr1 HC6 HP6 HK6 e1 hwr hkm1 hkm0 hrl p0 z0
              with_reducible refine HI1.out.mono ?_
              rintro e w8 ⟨r2, v2, n2, hk8, hp8, hres⟩
              have HC8 := Lib.hid (heap_keepP hk8 HC7.out (by have := HBW.out; omega) HOWN.out)
              have hk9 := HK7.out.trans hk8
              have hown2 : v2.ownBlock ≠ some W.heap.size := fun e => by
                rcases hk8.own _ e with h1 | h1
                · exact HOWN.out h1
                · have := (Array.getElem?_eq_some_iff.1 HC7.out).1; omega
              have HP8 := Lib.hid hp8
              have HK9 := Lib.hid hk9
              have HOWN2 := Lib.hid hown2
              clear hk8 hp8 hk9 hown2 HC7 HK7
              rcases hres with ⟨hpn, rfl⟩ | ⟨hpn, rfl⟩
              · have hpl := pn_len _ _ _ _ _ hpn
                have HPN1 := Lib.hid hpn
                have HPL1 := Lib.hid hpl
                have HTC1 := Lib.hid (HTC.out r2 w8 v2 n2 HP8.out)
                clear hpn hpl
                cases hq4 : stripP [44, 32] r2 with
                | none =>
                  have HN := Lib.hid (pn_2 (f := f) (ns := ns) HX.out HY.out HNP.out HPN1.out hq4)
                  rw [hq4] at HTC1
                  have HTC2 : Hid (Calls Tryd.prog 62 #[.pointer (some ⟨B, 0, none⟩), .string ⟨#[44, 32]⟩] w8 fun e w' => e = .returned (.bool false) ∧ PN w' B r2 v2 n2 ∧ KeepP B v2 v2 w8 w') := HTC1
                  clear hq4 HTC1
                  go_wp2_with fail
                  with_reducible refine HTC2.out.mono ?_
                  rintro e w9 ⟨rfl, hp9, hk9⟩
                  have HP9 := Lib.hid hp9
                  have HK10 := Lib.hid (HK9.out.trans hk9)
                  clear hp9 hk9
                  go_wp2_with fail
                  go_ret2
                  exact ⟨r2, v2, n2, HK10.out, HP9.out, .inr ⟨HN.out, rfl⟩⟩
                | some r3 =>
                  rw [hq4] at HTC1
                  have HTC2 : Hid (Calls Tryd.prog 62 #[.pointer (some ⟨B, 0, none⟩), .string ⟨#[44, 32]⟩] w8 fun e w' => e = .returned (.bool true) ∧ PN w' B r3 v2 n2 ∧ KeepP B v2 v2 w8 w') := HTC1
                  have HQ4 := Lib.hid hq4
                  have hl3 := strip_len hq4
                  have HL3 := Lib.hid hl3
                  clear hq4 HTC1 hl3
                  go_wp2_with fail
                  with_reducible refine HTC2.out.mono ?_
                  rintro e w9 ⟨rfl, hp9, hk9⟩
                  have HI2 := Lib.hid (HIH.out r3 n2 v2 w9 (by have h1 := HL3.out; have h2 := HPL1.out; have h3 := HRL.out; simp at h1; omega) (by have h1 := HL3.out; have h2 := HPL1.out; have h3 := HRL.out; simp at h1; omega) (HB0.out.trans (HK9.out.trans hk9).bel) hp9)
                  have HC9 := Lib.hid (heap_keepP hk9 HC8.out (by have := HBW.out; omega) HOWN2.out)
                  have HK10 := Lib.hid (HK9.out.trans hk9)
                  clear hp9 hk9 HC8 HK9 HP8
                  go_wp2_with fail
                  with_reducible refine HI2.out.mono ?_
                  rintro e w12 ⟨r4, v4, n4, hk12, hp12, hres⟩
                  have HC12 := Lib.hid (heap_keepP hk12 HC9.out (by have := HBW.out; omega) HOWN2.out)
                  have hown4 : v4.ownBlock ≠ some W.heap.size := fun e => by
                    rcases hk12.own _ e with h1 | h1
                    · exact HOWN2.out h1
                    · have := (Array.getElem?_eq_some_iff.1 HC9.out).1; omega
                  have HP12 := Lib.hid hp12
                  have HK12 := Lib.hid (HK10.out.trans hk12)
                  have HOWN4 := Lib.hid hown4
                  clear hk12 hp12 hown4 HC9 HK10
                  rcases hres with ⟨hpn, rfl⟩ | ⟨hpn, rfl⟩
                  · have hpl := pn_len _ _ _ _ _ hpn
                    have HPN2 := Lib.hid hpn
                    have HPL2 := Lib.hid hpl
                    have HTE1 := Lib.hid (HTE.out r4 w12 v4 n4 HP12.out)
                    clear hpn hpl
                    cases hq6 : stripP [41] r4 with
                    | none =>
                      have HN := Lib.hid (pn_4 (f := f) (ns := ns) HX.out HY.out HNP.out HPN1.out HQ4.out HPN2.out hq6)
                      rw [hq6] at HTE1
                      have HTE2 : Hid (Calls Tryd.prog 62 #[.pointer (some ⟨B, 0, none⟩), .string ⟨#[41]⟩] w12 fun e w' => e = .returned (.bool false) ∧ PN w' B r4 v4 n4 ∧ KeepP B v4 v4 w12 w') := HTE1
                      clear hq6 HTE1
                      go_wp2_with fail
                      with_reducible refine HTE2.out.mono ?_
                      rintro e w9 ⟨rfl, hp9, hk9⟩
                      have HP9 := Lib.hid hp9
                      have HK10 := Lib.hid (HK12.out.trans hk9)
                      clear hp9 hk9
                      go_wp2_with fail
                      go_ret2
                      exact ⟨r4, v4, n4, HK10.out, HP9.out, .inr ⟨HN.out, rfl⟩⟩
                    | some r5 =>
                      have HR := Lib.hid (pn_5 (f := f) (ns := ns) HX.out HY.out HNP.out HPN1.out HQ4.out HPN2.out hq6)
                      rw [hq6] at HTE1
                      have HTE2 : Hid (Calls Tryd.prog 62 #[.pointer (some ⟨B, 0, none⟩), .string ⟨#[41]⟩] w12 fun e w' => e = .returned (.bool true) ∧ PN w' B r5 v4 n4 ∧ KeepP B v4 v4 w12 w') := HTE1
                      have hn4 : n4.length ≤ 100000 := by have h1 := HL3.out; have h2 := HPL1.out; have h3 := HPL2.out; have h4 := HRL.out; simp at h1; omega
                      clear hq6 HTE1
                      go_wp2_with fail
                      with_reducible refine HTE2.out.mono ?_
                      rintro e w14 ⟨rfl, hp14, hk14⟩
                      have HC14 := Lib.hid (heap_keepP hk14 HC12.out (by have := HBW.out; omega) HOWN4.out)
                      have HP14 := Lib.hid hp14
                      have HK14 := Lib.hid (HK12.out.trans hk14)
                      clear hp14 hk14 HC12 HK12
                      have q0 := cell_of_row _ _ 0 _ _ _ HC14.out
                      have q1 := cell_of_row _ _ 1 _ _ _ HC14.out
                      have q2 := cell_of_row _ _ 2 _ _ _ HC14.out
                      have y0 := frozen_row HC14.out 0
                      have y1 := frozen_row HC14.out 1
                      have y2 := frozen_row HC14.out 2
                      obtain ⟨a4, c4, rfl, _⟩ := rdK_of_row HP14.out.row
                      go_wp2_with fail
                      clear q0 q1 q2 y0 y1 y2
                      generalize hw16 : ((w14.setCell _ _).setCell _ _).setCell _ _ = w16
                      have HC : Hid (w16.heap[W.heap.size]? = some (.cells #[.int .i64 n, .int .i64 ((n2.length - 1 : Nat) : Int), .int .i64 ((n4.length - 1 : Nat) : Int)] 39 (0, 0))) := Lib.hid (by
                        rw [← hw16]; exact heap_set_at (heap_set_at (heap_set_at HC14.out 0 _) 1 _) 2 _)
                      have HP : Hid (PN w16 B r5 (.slice a4 n4.length c4) n4) := Lib.hid (by
                        rw [← hw16]
                        refine ⟨heap_set_other (by have := HBW.out; omega) _ _ (heap_set_other (by have := HBW.out; omega) _ _ (heap_set_other (by have := HBW.out; omega) _ _ HP14.out.blk)), rowK_at HP14.out.row fun g hg => ?_⟩
                        have hgw : g ≠ W.heap.size := fun e => HOWN4.out (e ▸ hg)
                        rw [Below.heap_setCell _ _ _ _ (by exact hgw), Below.heap_setCell _ _ _ _ (by exact hgw), Below.heap_setCell _ _ _ _ (by exact hgw)])
                      have HK : Hid (KeepP B (.slice av ns.length cv) (.slice a4 n4.length c4) W w16) := Lib.hid (by
                        have hk := HK14.out
                        refine ⟨?_, fun k hk2 hkB hv => ?_, hk.own⟩
                        · rw [← hw16]
                          exact ((hk.bel.setCell (p := ⟨W.heap.size, 0, none⟩) (by have := HBW.out; show B ≤ W.heap.size; omega) _).setCell (p := ⟨W.heap.size, 1, none⟩) (by have := HBW.out; show B ≤ W.heap.size; omega) _).setCell (p := ⟨W.heap.size, 2, none⟩) (by have := HBW.out; show B ≤ W.heap.size; omega) _
                        · rw [← hw16, Below.heap_setCell _ _ _ _ (by show k ≠ W.heap.size; omega), Below.heap_setCell _ _ _ _ (by show k ≠ W.heap.size; omega), Below.heap_setCell _ _ _ _ (by show k ≠ W.heap.size; omega)]
                          exact hk.blk k hk2 hkB hv)
                      clear hw16
                      have p1 := cell_of_row _ _ 1 _ _ _ HP.out.blk
                      have z1 := frozen_row HP.out.blk 1
                      have a0 := cell_of_row _ _ 0 _ _ _ HC.out
                      have a1 := cell_of_row _ _ 1 _ _ _ HC.out
                      have a2 := cell_of_row _ _ 2 _ _ _ HC.out
                      have p1b : (w16.alloc (Obj.cells #[.int .i64 n, .int .i64 ((n2.length - 1 : Nat) : Int), .int .i64 ((n4.length - 1 : Nat) : Int)] 39)).cell? ⟨B, 1, none⟩ = some (.slice a4 n4.length c4) := cell_of_row _ _ 1 _ _ _ (heap_alloc_at HP.out.blk _)
                      have hBs := HP.out.lt
                      have KA : Hid (∀ x y : World, x.grownBy y (Value.slice a4 n4.length c4).ownBlock → x.heap[B]? = w16.heap[B]? → w16.heap.size ≤ x.heap.size → y.heap[B]? = some (.cells #[.string (mkB r5), .slice a4 n4.length c4] 77 (0, 0))) := Lib.hid (fun x y hg hx hsx => by
                        rw [hg.block B (by have := HP.out.lt; omega) (fun e => by have := (HP.out.row.lt B e.symm).1; omega), hx]
                        exact HP.out.blk)
                      go_region_law (first
                        | (refine step_append_lies _ (by rfl) _ _ _ (by rfl) (B + 1) 39 i0 _ 3 24 Tryd.underlying31 hi0 hz0 hz1 hz2 rfl (by omega) (.slice a4 n4.length c4) n4.length _ (by rfl) ((HP.out.row.alloc _).drew) ⟨w16.heap.size, 0, none⟩ 1 1 [.int .i64 n, .int .i64 ((n2.length - 1 : Nat) : Int), .int .i64 ((n4.length - 1 : Nat) : Int)] (by rfl) (by rfl) (World.news_of_block (cs := #[.int .i64 n, .int .i64 ((n2.length - 1 : Nat) : Int), .int .i64 ((n4.length - 1 : Nat) : Int)]) (t := 39) (fr := (0, 0)) (heap_alloc_new w16 _)) (by simp [Value.oneCell']) (by omega) (by unfold maxLen; omega) (by omega) (by simp; omega) (w16.heap.size + 1) (by simp) ?_; intro gg cap wA hownA hgrow hat hlt; have hA := KA.out _ _ hgrow (Below.heap_alloc w16 _ B (by omega)) (by simp); have pA := cell_of_row _ _ 1 _ _ _ hA; have zA := frozen_row hA 1; have HA := Lib.hid hA; have HOA := Lib.hid hownA; have HGA := Lib.hid hgrow; have HAT := Lib.hid hat; clear hA hownA hgrow hat))
                      all_goals
                        go_wp2_with fail
                        go_ret2
                        refine ⟨r5, .slice (some ⟨gg, 0, none⟩) (n4.length + 1) cap, n4 ++ [⟨n, ((n2.length - 1 : Nat) : Int), ((n4.length - 1 : Nat) : Int)⟩], HK.out.trans (KeepP.app (by omega) HGA.out HP.out.row HAT.out _), ⟨?_, ?_⟩, .inl ⟨HR.out, ?_⟩⟩
                        · rw [heap_set_at HA.out]; rfl
                        · have hrow := HOA.out
                          rw [show (n4 ++ [(⟨n, ((n2.length - 1 : Nat) : Int), ((n4.length - 1 : Nat) : Int)⟩ : Cho)]).length = n4.length + 1 by simp, show (n4 ++ [(⟨n, ((n2.length - 1 : Nat) : Int), ((n4.length - 1 : Nat) : Int)⟩ : Cho)]).flatMap choC = (n4).flatMap choC ++ [.int .i64 n, .int .i64 ((n2.length - 1 : Nat) : Int), .int .i64 ((n4.length - 1 : Nat) : Int)] by rw [List.flatMap_append]; rfl]
                          exact rowK_at hrow fun g hg => Below.heap_setCell _ _ _ _ (by have := (hrow.lt g hg).1; show g ≠ B; omega)
                        · congr 1; simp
                  · have HN := Lib.hid (pn_3 (f := f) (ns := ns) HX.out HY.out HNP.out HPN1.out HQ4.out hpn)
                    clear hpn
                    go_wp2_with fail
                    go_ret2
                    exact ⟨r4, v4, n4, HK12.out, HP12.out, .inr ⟨HN.out, rfl⟩⟩
              · have HN := Lib.hid (pn_1 (f := f) (ns := ns) HX.out HY.out HNP.out hpn)
                clear hpn
                go_wp2_with fail
                go_ret2
                exact ⟨r2, v2, n2, HK9.out, HP8.out, .inr ⟨HN.out, rfl⟩⟩
            · have HN := Lib.hid (pn_0 (f := f) (ns := ns) HX.out HY.out (num_other HI.out HZ.out (fun e => hdx (HDX.out.1 e))))
              have e1 : (D.toList == (S.extract 0 k).toList) = false := by rw [hX]; exact bs_diff hdx
              clear hdx hX
              go_wp2_with fail
              go_quiet ((go_at_call 55; exact Calls.quiet_of_same (HIT.out _)))
              go_wp2_with fail
              go_ret2
              exact ⟨s, _, ns, HK6.out.trans (KeepP.of_below (Nat.le_of_lt HP6.out.lt) (below_drewN (Below.refl _ _))), HP6.out.below (below_drewN (Below.refl _ _)), .inr ⟨HN.out, rfl⟩⟩
          · have HN := Lib.hid (pn_0 (f := f) (ns := ns) HX.out HY.out (num_err HI.out (fun v e => by rw [ha] at e; cases e)))
            obtain ⟨ev, hev1, hev2⟩ := hsyn
            have HA := Lib.hid (Tryd.strconv_Atoi_syntax (S.extract 0 k) (by omega) (by rw [hpx, mkB_list]; exact ha) ev w5 hev1 hev2)
            clear ha hev1 hev2 hrng hbe hpx hpd
            with_reducible refine HA.out.mono ?_
            rintro e w6 ⟨N, rfl, _, _, hb6⟩
            have HB6 := Lib.hid hb6
            clear hb6 HA p0
            go_wp2_with fail
            go_quiet (fail)
            go_wp2_with fail
            go_ret2
            exact ⟨s, _, ns, HK4.out.trans (KeepP.of_below (Nat.le_of_lt HP4.out.lt) (below_drewN HB6.out)), HP4.out.below (below_drewN HB6.out), .inr ⟨HN.out, rfl⟩⟩
          · have HN := Lib.hid (pn_0 (f := f) (ns := ns) HX.out HY.out (num_err HI.out (fun v e => by rw [ha] at e; cases e)))
            obtain ⟨ev, hev1, hev2⟩ := hrng
            have HA := Lib.hid (Tryd.strconv_Atoi_range (S.extract 0 k) (by omega) (by rw [hpx, mkB_list]; exact ha) ev w5 hev1 hev2)
            clear ha hev1 hev2 hsyn hbe hpx hpd
            with_reducible refine HA.out.mono ?_
            rintro e w6 ⟨N, rfl, _, _, hb6⟩
            have HB6 := Lib.hid hb6
            clear hb6 HA p0
            go_wp2_with fail
            go_quiet (fail)
            go_wp2_with fail
            go_ret2
            exact ⟨s, _, ns, HK4.out.trans (KeepP.of_below (Nat.le_of_lt HP4.out.lt) (below_drewN HB6.out)), HP4.out.below (below_drewN HB6.out), .inr ⟨HN.out, rfl⟩⟩
end Go.Proofs.YtflpkkebampmfaaDoor
namespace Go.Proofs.YtflpkkebampmfaaDoor
open Go.RowKit Go.Shelf

theorem parC_hit {s : Byts} {ns : List Cho} (h : pnode (s.length + 1) s [] = some ([], ns)) (hl : ns.length ≤ 8191) : parC s = (⟨ns, ((ns.length - 1 : Nat) : Int)⟩, 0) := by unfold parC; rw [h]; simp only; rw [if_pos hl]
theorem parC_rest {s r : Byts} {ns : List Cho} (h : pnode (s.length + 1) s [] = some (r, ns)) (hr : r ≠ []) : parC s = (⟨[], 0⟩, 2) := by
  unfold parC; rw [h]
  cases r with
  | nil => exact absurd rfl hr
  | cons c r => rfl
theorem parC_none {s : Byts} (h : pnode (s.length + 1) s [] = none) : parC s = (⟨[], 0⟩, 2) := by unfold parC; rw [h]

set_option maxRecDepth 100000 in
set_option maxHeartbeats 4000000 in
theorem parse_c (s : Byts) (hs : s.length ≤ 1000) (w : World) (hr : HasRng w) (hy : HasSyn w) :
    Calls Tryd.prog 16 #[.string (mkB s)] w fun e w' => ∃ a c, e = .returned (.tuple #[treV a (parC s).1.nodes.length c (parC s).1.root, .int .i64 (parC s).2]) ∧ TM w' a (parC s).1.nodes.length c (parC s).1.nodes ∧ Below w.heap.size w w' := by
  obtain ⟨R, hR⟩ : ∃ R, parC s = R := ⟨_, rfl⟩
  rw [hR]
  have HR := Lib.hid hR
  clear hR
  obtain ⟨W3, hW3⟩ : ∃ W3, W3 = w.alloc (.cells #[.slice none 0 0, .int .i64 0] 33) := ⟨_, rfl⟩
  obtain ⟨S, hS⟩ : ∃ S, mkB s = S := ⟨_, rfl⟩
  obtain ⟨W4, hW4⟩ : ∃ W4, W4 = W3.alloc (.cells #[.string S, .slice none 0 0] 77) := ⟨_, rfl⟩
  have hs3 : W3.heap.size = w.heap.size + 1 := by rw [hW3]; simp
  have hb3 : Below w.heap.size w W3 := by rw [hW3]; exact (Below.refl _ w).alloc (Nat.le_refl _) _
  have hb4 : Below W3.heap.size W3 W4 := by rw [hW4]; exact (Below.refl _ _).alloc (Nat.le_refl _) _
  have g3 : W3.heap[w.heap.size]? = some (.cells #[.slice none 0 0, .int .i64 0] 33 (0, 0)) := by rw [hW3]; exact heap_alloc_new _ _
  have g4 := heap_below hb4 g3
  have hpn : PN W4 (w.heap.size + 1) s (.slice none 0 0) [] := ⟨by rw [hW4, ← hs3, hS]; exact heap_alloc_new _ _, World.ownsRow_nil _ _ _ _⟩
  have hbw := Below.next hb3 hb4
  have hnode := node_p (w.heap.size + 1) W4 (fun u hu => by
    have hb : Below w.heap.size w u := hbw.trans (hu.mono (by omega))
    exact ⟨hr.below hb, hy.below hb⟩) (s.length + 1) s [] (.slice none 0 0) W4 (by omega) (by simp; omega) (Below.refl _ _) hpn
  have HND := Lib.hid hnode
  have HG4 := Lib.hid g4
  have HBW := Lib.hid hbw
  clear hnode hpn hbw g4 g3 hb4 hb3 hr hy
  rw [hS]
  go_enter Tryd.func16, Tryd.ntmps16
  go_wp2_with fail
  rw [← hW3, ← hW4]
  with_reducible refine HND.out.mono ?_
  rintro e w6 ⟨r, v6, ns6, hk6, hp6, hres⟩
  have hg6 : w6.heap[w.heap.size]? = some (.cells #[.slice none 0 0, .int .i64 0] 33 (0, 0)) := (hk6.bel.block _ (by omega)).trans HG4.out
  have HG6 := Lib.hid hg6
  have t0 := cell_of_row _ _ 0 _ _ _ hg6
  have t1 := cell_of_row _ _ 1 _ _ _ hg6
  have z0 := frozen_row hg6 0
  have z1 := frozen_row hg6 1
  have HB6 := Lib.hid (HBW.out.trans (hk6.bel.mono (by omega)))
  have q0 := cell_of_row _ _ 0 _ _ _ hp6.blk
  have q1 := cell_of_row _ _ 1 _ _ _ hp6.blk
  have HP6 := Lib.hid hp6
  clear hk6 hg6 hp6 HND hW3 hW4 HG4
  rcases hres with ⟨hpq, rfl⟩ | ⟨hpq, rfl⟩
  · obtain ⟨a6, c6, rfl, hr6⟩ := rdK_of_row HP6.out.row
    have hpl := pn_len _ _ _ _ _ hpq
    have hln : ns6.length ≤ 1000 := by have := hpl.2.1; simp at this; omega
    have d1 : decide ((8191 : Int) < (ns6.length : Int)) = false := decide_eq_false (by omega)
    by_cases hr0 : r = []
    · subst hr0
      have HPV : Hid (R = (⟨ns6, ((ns6.length - 1 : Nat) : Int)⟩, 0)) := HR.out.symm.trans (parC_hit hpq (by omega))
      have e1 : (mkB []).toList.isEmpty = true := by rw [ByteArray.toList_eq]; rfl
      obtain ⟨X, hX⟩ : ∃ X, mkB [] = X := ⟨_, rfl⟩
      rw [hX] at e1 q0
      have HR6 := Lib.hid hr6
      obtain ⟨rt, hrt⟩ : ∃ rt : Int, ((ns6.length - 1 : Nat) : Int) = rt := ⟨_, rfl⟩
      rw [hrt] at HPV ⊢
      obtain ⟨m6, hm6⟩ : ∃ m, ns6.length = m := ⟨_, rfl⟩
      have HM := Lib.hid hm6
      rw [hm6] at q1 d1
      clear hpq hpl hr6 hX hrt hm6
      go_wp2_with fail
      clear t0 t1 z0 z1
      generalize hWF : (w6.setCell _ _).setCell _ _ = WF
      have e1 : WF.heap[w.heap.size]? = some (.cells #[.slice a6 m6 c6, .int .i64 rt] 33 (0, 0)) := by
        rw [← hWF]; exact heap_set_at (heap_set_at HG6.out 0 _) 1 _
      have HBF : Hid (Below w.heap.size w WF) := Lib.hid (by
        rw [← hWF]
        exact (HB6.out.setCell (p := ⟨w.heap.size, 0, none⟩) (Nat.le_refl _) _).setCell (p := ⟨w.heap.size, 1, none⟩) (Nat.le_refl _) _)
      have hrow : WF.ownsRow (w.heap.size + 1 + 1) 39 3 (.slice a6 ns6.length c6) ns6.length (ns6.flatMap choC) := by
        rw [← hWF]
        refine rowK_at HP6.out.row fun g hg => ?_
        have hgl := (HP6.out.row.lt g hg).1
        rw [Below.heap_setCell _ _ _ _ (by show g ≠ w.heap.size; omega), Below.heap_setCell _ _ _ _ (by show g ≠ w.heap.size; omega)]
      obtain ⟨a', c', hv, hr'⟩ := rdK_of_row hrow
      cases hv
      have f0 := cell_of_row _ _ 0 _ _ _ e1
      have f1 := cell_of_row _ _ 1 _ _ _ e1
      have hR2 := HPV.out
      have hm := HM.out
      clear hWF e1 hrow
      subst hR2
      subst hm
      refine bodyPost_ret (v := .tuple #[.agg #[.slice a6 ns6.length c6, .int .i64 rt], .int .i64 0]) ?_ rfl ⟨a6, c6, rfl, hr', HBF.out⟩
      rw [results_cell_tmp rfl]
      go_simp
    · have HPV : Hid (R = (⟨[], 0⟩, 2)) := HR.out.symm.trans (parC_rest hpq hr0)
      have e1 : (mkB r).toList.isEmpty = false := by rw [ByteArray.toList_eq, mkB_list, List.isEmpty_eq_false_iff]; exact hr0
      obtain ⟨X, hX⟩ : ∃ X, mkB r = X := ⟨_, rfl⟩
      rw [hX] at e1 q0
      clear hpq hpl hr6 hX hr0 d1
      go_wp2_with fail
      clear t0 t1 z0 z1
      generalize hWF : (w6.setCell _ _).setCell _ _ = WF
      have e1 : WF.heap[w.heap.size]? = some (.cells #[.slice none 0 0, .int .i64 0] 33 (0, 0)) := by
        rw [← hWF]; exact heap_set_at (heap_set_at HG6.out 0 _) 1 _
      have HBF : Hid (Below w.heap.size w WF) := Lib.hid (by
        rw [← hWF]
        exact (HB6.out.setCell (p := ⟨w.heap.size, 0, none⟩) (Nat.le_refl _) _).setCell (p := ⟨w.heap.size, 1, none⟩) (Nat.le_refl _) _)
      have f0 := cell_of_row _ _ 0 _ _ _ e1
      have f1 := cell_of_row _ _ 1 _ _ _ e1
      have hR2 := HPV.out
      clear hWF e1
      subst hR2
      refine bodyPost_ret (v := .tuple #[.agg #[.slice none 0 0, .int .i64 0], .int .i64 2]) ?_ rfl ⟨none, 0, rfl, RdK.none_ 3 _, HBF.out⟩
      rw [results_cell_tmp rfl]
      go_simp
  · have HPV : Hid (R = (⟨[], 0⟩, 2)) := HR.out.symm.trans (parC_none hpq)
    clear hpq q0 q1
    go_wp2_with fail
    clear t0 t1 z0 z1
    generalize hWF : (w6.setCell _ _).setCell _ _ = WF
    have e1 : WF.heap[w.heap.size]? = some (.cells #[.slice none 0 0, .int .i64 0] 33 (0, 0)) := by
      rw [← hWF]; exact heap_set_at (heap_set_at HG6.out 0 _) 1 _
    have HBF : Hid (Below w.heap.size w WF) := Lib.hid (by
      rw [← hWF]
      exact (HB6.out.setCell (p := ⟨w.heap.size, 0, none⟩) (Nat.le_refl _) _).setCell (p := ⟨w.heap.size, 1, none⟩) (Nat.le_refl _) _)
    have f0 := cell_of_row _ _ 0 _ _ _ e1
    have f1 := cell_of_row _ _ 1 _ _ _ e1
    have hR2 := HPV.out
    clear hWF e1
    subst hR2
    refine bodyPost_ret (v := .tuple #[.agg #[.slice none 0 0, .int .i64 0], .int .i64 2]) ?_ rfl ⟨none, 0, rfl, RdK.none_ 3 _, HBF.out⟩
    rw [results_cell_tmp rfl]
    go_simp

set_option maxHeartbeats 1000000 in
theorem size_c (a : Option Addr) (n c : Nat) (r : Int) (w : World) :
    Calls Tryd.prog 32 #[.agg #[.slice a n c, .int .i64 r]] w fun e w' => e = .returned (.int .i64 n) ∧ Below w.heap.size w w' := by
  go_enter Tryd.func32, Tryd.ntmps32
  go_wp2_with fail
  go_ret
  exact ⟨rfl, (Below.refl _ w).alloc (Nat.le_refl _) _⟩
end Go.Proofs.YtflpkkebampmfaaDoor
namespace Go.Proofs.YtflpkkebampmfaaDoor
open Go.RowKit Go.Shelf

/-! plain -/
theorem bump_le (ps : List Int) (a : Int) (j : Nat) : (bumpS ps a).getD j 0 ≤ ps.getD j 0 + 1 := by
  unfold bumpS
  by_cases h : a.toNat < ps.length
  · rw [getD_set h]
    split
    · rename_i e; subst e; exact Int.le_refl _
    · omega
  · rw [List.set_eq_of_length_le (by omega)]; omega
theorem parTo_le (nodes : List Cho) (k j : Nat) : (parTo nodes k).getD j 0 ≤ 2 * k := by
  induction k with
  | zero =>
    unfold parTo
    rw [List.take_zero, List.foldl_nil, List.getD_eq_getElem?_getD, List.getElem?_replicate]; split <;> decide
  | succ k ih =>
    cases hc : nodes[k]? with
    | none => unfold parTo at ih ⊢; rw [List.take_add_one, hc]; simp at ih ⊢; omega
    | some c =>
      rw [parTo_succ hc]; unfold parStep
      split
      · omega
      · have h1 := bump_le (bumpS (parTo nodes k) c.first) c.second j
        have h2 := bump_le (parTo nodes k) c.first j
        omega
/-- the kids' parents, counted one after another -/
def bmpTo (ps el : List Int) (j : Nat) : List Int := (el.take j).foldl bumpS ps
theorem bmpTo_succ {ps el : List Int} {j : Nat} {z : Int} (h : el[j]? = some z) : bmpTo ps el (j + 1) = bumpS (bmpTo ps el j) z := by
  unfold bmpTo; rw [List.take_add_one, h]; simp
theorem bmpTo_len (ps el : List Int) (j : Nat) : (bmpTo ps el j).length = ps.length := by
  have : ∀ (l : List Int) (o : List Int), (l.foldl bumpS o).length = o.length := by
    intro l
    induction l with
    | nil => intro o; rfl
    | cons c l ih => intro o; rw [List.foldl_cons, ih, bump_len]
  unfold bmpTo; rw [this]
theorem bmpTo_rng (ps el : List Int) (i : Nat) : ∀ j, ps.getD i 0 ≤ (bmpTo ps el j).getD i 0 ∧ (bmpTo ps el j).getD i 0 ≤ ps.getD i 0 + j := by
  intro j
  induction j with
  | zero => unfold bmpTo; simp
  | succ j ih =>
    cases hz : el[j]? with
    | none => unfold bmpTo at ih ⊢; rw [List.take_add_one, hz]; simp at ih ⊢; omega
    | some z =>
      rw [bmpTo_succ hz]
      have h1 := bump_le (bmpTo ps el j) z i
      have h2 := bump_ge (bmpTo ps el j) z i
      omega
theorem nodsC_bad {nodes : List Cho} {i : Nat} {c : Cho} (h : nodes[i]? = some c) (hb : nodC c i = false) : nodsC nodes = false := by
  rw [Bool.eq_false_iff]
  intro hc
  have := nodsC_at hc (List.getElem?_eq_some_iff.1 h).1
  rw [List.getD_eq_getElem?_getD, h] at this
  rw [show (some c).getD cho0 = c from rfl, hb] at this; cases this
theorem formC_bad {t : Tre} {i : Nat} {c : Cho} (h : t.nodes[i]? = some c) (hb : nodC c i = false) : formC t = false := by
  unfold formC; rw [nodsC_bad h hb]; simp
theorem formC_size {t : Tre} (h : sizeC t = false) : formC t = false := by unfold formC; rw [h]; rfl
theorem nodsC_all {nodes : List Cho} (h : ∀ (i : Nat) c, nodes[i]? = some c → nodC c i = true) : nodsC nodes = true := by
  refine List.all_eq_true.2 fun i hi => ?_
  have hl := List.mem_range.1 hi
  have e : nodes[i]? = some nodes[i] := List.getElem?_eq_getElem hl
  rw [List.getD_eq_getElem?_getD, e]
  exact h i _ e
theorem formC_par {t : Tre} {i : Nat} (hi : i < t.nodes.length) (hb : parB t.root (parTo t.nodes t.nodes.length) i = false) : formC t = false := by
  have : parsB t = false := by
    rw [Bool.eq_false_iff]
    intro hc
    have := List.all_eq_true.1 hc i (List.mem_range.2 hi)
    rw [hb] at this; cases this
  unfold formC; rw [this]; simp
theorem formC_ok {t : Tre} (h1 : sizeC t = true) (h2 : nodsC t.nodes = true) (h3 : ∀ i, i < t.nodes.length → parB t.root (parTo t.nodes t.nodes.length) i = true) : formC t = true := by
  have : parsB t = true := List.all_eq_true.2 fun i hi => h3 i (List.mem_range.1 hi)
  unfold formC; rw [h1, h2, this]; rfl
theorem parStep_two {ps : List Int} {c : Cho} (h : leafC c = false) : parStep ps c = bmpTo ps [c.first, c.second] 2 := by
  unfold parStep; rw [if_neg (by rw [h]; decide)]; rfl
theorem parStep_leaf {ps : List Int} {c : Cho} (h : leafC c = true) : parStep ps c = ps := by unfold parStep; rw [if_pos h]
theorem nodC_two {c : Cho} {i : Nat} (h : leafC c = false) (h0 : 0 ≤ c.server) (h1 : c.server < 12) (hk : ∀ (j : Nat) z, [c.first, c.second][j]? = some z → 0 ≤ z ∧ z < (i : Int)) : nodC c i = true := by
  have a1 := hk 0 c.first rfl
  have a2 := hk 1 c.second rfl
  unfold nodC
  rw [if_neg (by rw [h]; decide)]
  simp [h0, h1, a1.1, a1.2, a2.1, a2.2]
theorem nodC_srv {c : Cho} {i : Nat} (h : leafC c = false) (hs : c.server < 0 ∨ 12 ≤ c.server) : nodC c i = false := by
  unfold nodC
  rw [if_neg (by rw [h]; decide)]
  rcases hs with hs | hs
  · rw [decide_eq_false (show ¬ (0 ≤ c.server) by omega)]; simp
  · rw [decide_eq_false (show ¬ (c.server < 12) by omega)]; simp
theorem nodC_kid {c : Cho} {i : Nat} (h : leafC c = false) {j : Nat} {z : Int} (hz : [c.first, c.second][j]? = some z) (hb : z < 0 ∨ (i : Int) ≤ z) : nodC c i = false := by
  unfold nodC
  rw [if_neg (by rw [h]; decide)]
  have key : c.first = z ∨ c.second = z := by
    match j, hz with
    | 0, hz => cases hz; exact .inl rfl
    | 1, hz => cases hz; exact .inr rfl
  rcases key with rfl | rfl
  · have e : (decide (0 ≤ c.first) && decide (c.first < (i : Int))) = false := by rw [Bool.eq_false_iff]; simp; omega
    rw [e]; simp
  · have e : (decide (0 ≤ c.second) && decide (c.second < (i : Int))) = false := by rw [Bool.eq_false_iff]; simp; omega
    rw [e]; simp
theorem nodC_lf {c : Cho} {i : Nat} (h : leafC c = true) : nodC c i = (decide (c.first = 0) && decide (c.second = 0)) := by unfold nodC; rw [if_pos h]

/-! numbers in a block -/
theorem make_int (m : Nat) (hm : m ≤ 1000000) : ∀ w, (Instr.makeSlice 62 (.int .i64 m) (.int .i64 m)).run Tryd.prog w = .ok (.slice (some ⟨w.heap.size, 0, none⟩) m m) (w.alloc (.cells (madeCells #[.int .i64 0] m) 3)) :=
  fun w => run_make_row' 62 3 (.int .i64 0) 8 Tryd.underlying62 Tryd.infoInt rfl .i64 .i64 m (by omega) (by omega) w
def psA (ps : List Int) : Array Value := (ps.map (Value.int .i64)).toArray
theorem psA_made (n : Nat) : madeCells #[.int .i64 0] n = psA (List.replicate n 0) := by
  apply Array.toList_inj.1
  rw [toList_madeCells_one]; unfold psA; simp
theorem psA_at {ps : List Int} {i : Nat} (h : i < ps.length) : (psA ps)[i]? = some (.int .i64 (ps.getD i 0)) := by
  unfold psA
  rw [List.getElem?_toArray, List.getElem?_map, List.getD_eq_getElem?_getD, List.getElem?_eq_getElem h]; rfl
theorem psA_bump (ps : List Int) (p : Nat) : (psA ps).setIfInBounds p (.int .i64 (ps.getD p 0 + 1)) = psA (bumpS ps (p : Int)) := by
  unfold psA bumpS
  rw [List.setIfInBounds_toArray, Int.toNat_natCast, List.map_set]

/-- what a walk over a tree holds: the tree's own box, the numbers of parents -/
structure FrW (w wr : World) (a : Option Addr) (n c : Nat) (root : Int) (ps : List Int) : Prop where
  box : wr.heap[w.heap.size]? = some (.cells #[.slice a n c, .int .i64 root] 33 (0, 0))
  row : wr.heap[w.heap.size + 1]? = some (.cells (psA ps) 3 (0, 0))
  bel : Below w.heap.size w wr
theorem FrW.alloc {w wr : World} {a : Option Addr} {n c : Nat} {root : Int} {ps : List Int} (h : FrW w wr a n c root ps) (o : Obj) : FrW w (wr.alloc o) a n c root ps :=
  ⟨heap_alloc_at h.box _, heap_alloc_at h.row _, h.bel.alloc h.bel.size _⟩
theorem FrW.set {w wr : World} {a : Option Addr} {n c : Nat} {root : Int} {ps : List Int} (h : FrW w wr a n c root ps) (p : Nat) : FrW w (wr.setCell ⟨w.heap.size + 1, p, none⟩ (.int .i64 (ps.getD p 0 + 1))) a n c root (bumpS ps (p : Int)) :=
  ⟨heap_set_other (by omega) _ _ h.box, by rw [heap_set_at h.row, psA_bump], h.bel.setCell (p := ⟨w.heap.size + 1, p, none⟩) (by show w.heap.size ≤ w.heap.size + 1; omega) _⟩
theorem FrW.drewN {w wr : World} {a : Option Addr} {n c : Nat} {root : Int} {ps : List Int} (h : FrW w wr a n c root ps) (q : Nat) : FrW w (wr.drewN q) a n c root ps := ⟨h.box, h.row, below_drewN h.bel⟩

set_option maxRecDepth 100000 in
set_option maxHeartbeats 4000000 in
theorem formed_c (t : Tre) (a : Option Addr) (n c : Nat) (w : World) (h : TM w a n c t.nodes) :
    Calls Tryd.prog 37 #[.agg #[.slice a n c, .int .i64 t.root]] w fun e w' => e = .returned (.bool (formC t)) ∧ Below w.heap.size w w' := by
  obtain ⟨nodes, root⟩ := t
  have hnl := TM.len h
  simp only at h hnl ⊢
  have hm := RdK.max h
  have hle := RdK.le h
  unfold maxLen at hm
  obtain ⟨V, hV⟩ : ∃ V, formC ⟨nodes, root⟩ = V := ⟨_, rfl⟩
  rw [hV]
  have HV := Lib.hid hV
  have HN := Lib.hid hnl
  have HM := Lib.hid h
  obtain ⟨W2, hW2⟩ : ∃ W2, W2 = w.alloc (.cells #[.slice a n c, .int .i64 root] 33) := ⟨_, rfl⟩
  have hb2 : Below w.heap.size w W2 := by rw [hW2]; exact (Below.refl _ w).alloc (Nat.le_refl _) _
  have HB2 := Lib.hid hb2
  clear hV hnl h hb2
  by_cases c1 : n < 1
  · have d1 : decide ((n : Int) < 1) = true := decide_eq_true (by omega)
    have HF : Hid (V = false) := Lib.hid (HV.out.symm.trans (formC_size (by unfold sizeC; simp only; rw [HN.out, decide_eq_false (show ¬ 1 ≤ n by omega)]; rfl)))
    clear c1
    go_enter Tryd.func37, Tryd.ntmps37
    go_wp2_with fail
    go_ret
    exact ⟨ret_bool HF.out.symm, by rw [← hW2]; exact HB2.out⟩
  have d1 : decide ((n : Int) < 1) = false := decide_eq_false (by omega)
  by_cases c2 : 8191 < n
  · have d2 : decide ((8191 : Int) < (n : Int)) = true := decide_eq_true (by omega)
    have HF : Hid (V = false) := Lib.hid (HV.out.symm.trans (formC_size (by unfold sizeC; simp only; rw [HN.out, decide_eq_false (show ¬ n ≤ 8191 by omega)]; simp)))
    clear c1 c2
    go_enter Tryd.func37, Tryd.ntmps37
    go_wp2_with fail
    go_ret
    exact ⟨ret_bool HF.out.symm, by rw [← hW2]; exact HB2.out⟩
  have d2 : decide ((8191 : Int) < (n : Int)) = false := decide_eq_false (by omega)
  by_cases c3 : root < 0
  · have d3 : decide (root < 0) = true := decide_eq_true (by omega)
    have HF : Hid (V = false) := Lib.hid (HV.out.symm.trans (formC_size (by unfold sizeC; simp only; rw [HN.out, decide_eq_false (show ¬ 0 ≤ root by omega)]; simp)))
    clear c1 c2 c3
    go_enter Tryd.func37, Tryd.ntmps37
    go_wp2_with fail
    go_ret
    exact ⟨ret_bool HF.out.symm, by rw [← hW2]; exact HB2.out⟩
  have d3 : decide (root < 0) = false := decide_eq_false (by omega)
  by_cases c4 : (n : Int) ≤ root
  · have d4 : decide ((n : Int) ≤ root) = true := decide_eq_true (by omega)
    have HF : Hid (V = false) := Lib.hid (HV.out.symm.trans (formC_size (by unfold sizeC; simp only; rw [HN.out, decide_eq_false (show ¬ root < (n : Int) by omega)]; simp)))
    clear c1 c2 c3 c4
    go_enter Tryd.func37, Tryd.ntmps37
    go_wp2_with fail
    go_ret
    exact ⟨ret_bool HF.out.symm, by rw [← hW2]; exact HB2.out⟩
  have d4 : decide ((n : Int) ≤ root) = false := decide_eq_false (by omega)
  have HSZ : Hid (sizeC ⟨nodes, root⟩ = true) := Lib.hid (by
    unfold sizeC; simp only; rw [HN.out]; simp; omega)
  have hmk := make_int n (by omega)
  go_enter Tryd.func37, Tryd.ntmps37
  go_wp2_with fail
  rw [← hW2]
  obtain ⟨W3, hW3⟩ : ∃ W3, W3 = W2.alloc (.cells (madeCells #[.int .i64 0] n) 3) := ⟨_, rfl⟩
  have hs2 : W2.heap.size = w.heap.size + 1 := by rw [hW2]; simp
  have hF0 : FrW w W3 a n c root (parTo nodes 0) := by
    refine ⟨by rw [hW3, hW2]; exact heap_alloc_at (heap_alloc_new _ _) _, ?_, by rw [hW3]; exact HB2.out.alloc HB2.out.size _⟩
    rw [← hs2, hW3, psA_made]
    unfold parTo
    rw [List.take_zero, List.foldl_nil, HN.out]
    exact heap_alloc_new _ _
  have HF0 := Lib.hid hF0
  rw [← hW3]
  clear hW3 hW2 hs2 hF0 hmk
  go_loopw [36] (fun i wr => ∃ k : Nat, k ≤ n ∧ i = .int .i64 k ∧ Hid (∀ (i : Nat) c, i < k → nodes[i]? = some c → nodC c i = true) ∧ FrW w wr a n c root (parTo nodes k)) (fun i _ => n - (intOf i).toNat)
  case atStart => exact ⟨0, Nat.zero_le _, rfl, Lib.hid (fun i c hi => by omega), HF0.out⟩
  case round =>
    obtain ⟨k, hk, rfl, hall, hfr⟩ := hrel
    by_cases hlt : k < n
    · obtain ⟨x, hx⟩ : ∃ x, nodes[k]? = some x := ⟨_, List.getElem?_eq_getElem (by have := HN.out; omega)⟩
      obtain ⟨b, o, ha, hat⟩ := TM.at3 (RdK.below HM.out hfr.bel) (by omega)
      obtain ⟨m0, m1, m2⟩ := hat k x hx
      subst ha
      have hps := parTo_succ hx
      have hbad : ∀ (hb : nodC x k = false), V = false := fun hb => HV.out.symm.trans (formC_bad (t := ⟨nodes, root⟩) hx hb)
      have hgood : ∀ (hb : nodC x k = true), ∀ (i : Nat) c, i < k + 1 → nodes[i]? = some c → nodC c i = true := fun hb i c hi hc => by
        by_cases h1 : i < k
        · exact hall.out i c h1 hc
        · obtain rfl : i = k := by omega
          rw [hx] at hc; cases hc; exact hb
      have HBAD := Lib.hid hbad
      have HGOOD := Lib.hid hgood
      have HLE := Lib.hid (parTo_le nodes k)
      have HGE := Lib.hid (parTo_nonneg nodes k)
      have HPL : Hid ((parTo nodes k).length = n) := Lib.hid (by rw [parTo_len]; exact HN.out)
      obtain ⟨ps, hpp⟩ : ∃ ps, parTo nodes k = ps := ⟨_, rfl⟩
      rw [hpp] at hfr hps HLE HGE HPL
      have HPS := Lib.hid hps
      obtain ⟨sv, fi, se⟩ := x
      simp only at m0 m1 m2
      have hfa := hfr.alloc (.cells #[.int .i64 sv, .int .i64 fi, .int .i64 se] 39)
      have HFA := Lib.hid hfa
      clear hbad hgood hps hpp hx hat hall
      by_cases hl : leafC ⟨sv, fi, se⟩ = true
      · have hnc := nodC_lf (i := k) hl
        have hsv : sv = -1 ∨ sv = -2 := by
          unfold leafC at hl; simpa using hl
        have HPE : Hid (parTo nodes (k + 1) = ps) := Lib.hid (by rw [HPS.out, parStep_leaf hl])
        simp only at hnc
        by_cases e1 : fi = 0
        · by_cases e2 : se = 0
          · subst e1 e2
            have HG := Lib.hid (HGOOD.out (by rw [hnc]; rfl))
            clear hnc hl
            rcases hsv with rfl | rfl
            · go_wp2_with fail
              go_roundw
              case rel => exact ⟨k + 1, by omega, by go_num, HG, by rw [HPE.out]; exact HFA.out⟩
              case measure => simp [intOf]; omega
            · go_wp2_with fail
              go_roundw
              case rel => exact ⟨k + 1, by omega, by go_num, HG, by rw [HPE.out]; exact HFA.out⟩
              case measure => simp [intOf]; omega
          · subst e1
            have HF := Lib.hid (HBAD.out (by rw [hnc, decide_eq_false e2]; simp))
            have de : (se != 0) = true := by simpa using e2
            clear hnc hl e2
            rcases hsv with rfl | rfl
            · go_wp2_with fail
              go_ret
              exact ⟨ret_bool HF.out.symm, HFA.out.bel⟩
            · go_wp2_with fail
              go_ret
              exact ⟨ret_bool HF.out.symm, HFA.out.bel⟩
        · have HF := Lib.hid (HBAD.out (by rw [hnc, decide_eq_false e1]; simp))
          have de : (fi != 0) = true := by simpa using e1
          clear hnc hl e1
          rcases hsv with rfl | rfl
          · go_wp2_with fail
            go_ret
            exact ⟨ret_bool HF.out.symm, HFA.out.bel⟩
          · go_wp2_with fail
            go_ret
            exact ⟨ret_bool HF.out.symm, HFA.out.bel⟩
      · have hl' : leafC ⟨sv, fi, se⟩ = false := by simpa using hl
        have hs1 : (sv == -1) = false := by unfold leafC at hl'; simp at hl'; simpa using hl'.1
        have hs2 : (sv == -2) = false := by unfold leafC at hl'; simp at hl'; simpa using hl'.2
        have HL := Lib.hid hl'
        clear hl hl'
        by_cases g1 : sv < 0
        · have e1 : decide (sv < 0) = true := decide_eq_true g1
          have HF := Lib.hid (HBAD.out (nodC_srv HL.out (.inl g1)))
          clear g1
          go_wp2_with fail
          go_ret
          exact ⟨ret_bool HF.out.symm, HFA.out.bel⟩
        have e1 : decide (sv < 0) = false := decide_eq_false g1
        by_cases g2 : 12 ≤ sv
        · have e2 : decide ((12 : Int) ≤ sv) = true := decide_eq_true g2
          have HF := Lib.hid (HBAD.out (nodC_srv HL.out (.inr g2)))
          clear g1 g2
          go_wp2_with fail
          go_ret
          exact ⟨ret_bool HF.out.symm, HFA.out.bel⟩
        have e2 : decide ((12 : Int) ≤ sv) = false := decide_eq_false g2
        have HNT := Lib.hid (fun hk => nodC_two (i := k) HL.out (show (0 : Int) ≤ sv by omega) (show sv < 12 by omega) hk)
        have HPE : Hid (parTo nodes (k + 1) = bmpTo ps [fi, se] 2) := Lib.hid (by rw [HPS.out, parStep_two HL.out])
        have HKB := Lib.hid (fun (j : Nat) (z : Int) => nodC_kid (i := k) (j := j) (z := z) HL.out)
        simp only at HNT HKB
        clear g1 g2
        go_wp2_with fail
        generalize hWB : (wr.alloc _).alloc _ = WB
        have hFB : FrW w WB (some ⟨b, o, none⟩) n c root ps := by rw [← hWB]; exact HFA.out.alloc _
        have hLit : WB.heap[wr.heap.size + 1]? = some (.cells #[.int .i64 fi, .int .i64 se] 3 (0, 0)) := by
          rw [← hWB]
          have := heap_alloc_new (wr.alloc (Obj.cells #[.int .i64 sv, .int .i64 fi, .int .i64 se] 39)) (.cells #[.int .i64 fi, .int .i64 se] 3)
          rw [World.size_alloc] at this; exact this
        have HSZ0 := Lib.hid (Array.getElem?_eq_some_iff.1 hfr.row).1
        have HFB := Lib.hid hFB
        have HLIT := Lib.hid hLit
        clear hWB hFB hLit hfr hfa
        obtain ⟨W0, hW0⟩ : ∃ W0, W0 = wr := ⟨_, rfl⟩
        subst hW0
        go_loopw [73] (fun i wq => ∃ j : Nat, j ≤ 2 ∧ i = .int .i64 j ∧ Hid (∀ (i : Nat) z, i < j → [fi, se][i]? = some z → 0 ≤ z ∧ z < (k : Int)) ∧ FrW w wq (some ⟨b, o, none⟩) n c root (bmpTo ps [fi, se] j) ∧ wq.heap[W0.heap.size + 1]? = some (.cells #[.int .i64 fi, .int .i64 se] 3 (0, 0))) (fun i _ => 2 - (intOf i).toNat)
        case atStart => exact ⟨0, Nat.zero_le _, rfl, Lib.hid (fun i z hi => by omega), HFB.out, HLIT.out⟩
        case round =>
          obtain ⟨j, hj, rfl, hkid, hfj, hlit⟩ := hrel
          by_cases hltj : j < 2
          · obtain ⟨z, hz⟩ : ∃ z, [fi, se][j]? = some z := ⟨_, List.getElem?_eq_getElem (by simpa using hltj)⟩
            have hel : (#[.int .i64 fi, .int .i64 se] : Array Value)[j]? = some (.int .i64 z) := by
              match j, hltj, hz with
              | 0, _, hz => cases hz; rfl
              | 1, _, hz => cases hz; rfl
            have hcl := (cell_of_row _ _ j _ _ _ hlit).trans hel
            have HBJ := Lib.hid (fun hb => HBAD.out (HKB.out j z hz hb))
            have HBS := Lib.hid (bmpTo_succ (ps := ps) hz)
            have hkid' : 0 ≤ z → z < (k : Int) → ∀ (i : Nat) y, i < j + 1 → [fi, se][i]? = some y → 0 ≤ y ∧ y < (k : Int) := fun h0 h1 i y hi hy => by
              by_cases h2 : i < j
              · exact hkid.out i y h2 hy
              · obtain rfl : i = j := by omega
                rw [hz] at hy; cases hy; exact ⟨h0, h1⟩
            have HKID := Lib.hid hkid'
            have HRG := Lib.hid (fun i => bmpTo_rng ps [fi, se] i j)
            have HBL := Lib.hid (bmpTo_len ps [fi, se] j)
            obtain ⟨qs, hqq⟩ : ∃ qs, bmpTo ps [fi, se] j = qs := ⟨_, rfl⟩
            rw [hqq] at hfj HRG HBL HBS
            clear hel hz hkid hkid' hqq
            by_cases z0 : z < 0
            · have e3 : decide (z < 0) = true := decide_eq_true z0
              have HF := Lib.hid (HBJ.out (.inl z0))
              clear z0
              go_wp2_with fail
              go_ret
              exact ⟨ret_bool HF.out.symm, hfj.bel⟩
            have e3 : decide (z < 0) = false := decide_eq_false z0
            by_cases z1 : (k : Int) ≤ z
            · have e4 : decide ((k : Int) ≤ z) = true := decide_eq_true z1
              have HF := Lib.hid (HBJ.out (.inr z1))
              clear z0 z1
              go_wp2_with fail
              go_ret
              exact ⟨ret_bool HF.out.symm, hfj.bel⟩
            have e4 : decide ((k : Int) ≤ z) = false := decide_eq_false z1
            have HK2 := Lib.hid (HKID.out (by omega) (by omega))
            obtain ⟨p, rfl⟩ := Int.eq_ofNat_of_zero_le (show 0 ≤ z by omega)
            have hpk : p < k := by omega
            have hps := (cell_of_row _ _ p _ _ _ hfj.row).trans (psA_at (by have h1 := HBL.out; have h2 := HPL.out; omega))
            have hfz := frozen_row hfj.row p
            have hset := hfj.set p
            have hrg := HRG.out p
            have hle1 := HLE.out p
            have hge1 := HGE.out p
            obtain ⟨X, hX⟩ : ∃ X, qs.getD p 0 = X := ⟨_, rfl⟩
            rw [hX] at hps hset hrg
            have hwr : wrap64 (X + 1) = X + 1 := by unfold wrap64; omega
            have HSET := Lib.hid hset
            have HLI := Lib.hid hlit
            clear z0 z1 hset hlit hrg hle1 hge1 hX
            go_wp2_with fail
            go_roundw
            case rel => exact ⟨j + 1, by omega, by go_num, HK2, by rw [HBS.out]; exact HSET.out, heap_set_other (by have := HSZ0.out; omega) _ _ HLI.out⟩
            case measure => simp [intOf]; omega
          · obtain rfl : j = 2 := by omega
            have HG := Lib.hid (HGOOD.out (HNT.out (fun j z hz => hkid.out j z (by have := (List.getElem?_eq_some_iff.1 hz).1; simpa using this) hz)))
            clear hkid hlit
            go_wp2_with fail
            go_roundw
            case rel => exact ⟨k + 1, by omega, by go_num, HG, by rw [HPE.out]; exact hfj⟩
            case measure => simp [intOf]; omega
    · obtain rfl : k = n := by omega
      have HND : Hid (nodsC nodes = true) := Lib.hid (nodsC_all fun i c hc => hall.out i c (by have := (List.getElem?_eq_some_iff.1 hc).1; have := HN.out; omega) hc)
      have HFR := Lib.hid hfr
      clear hall hfr
      go_wp2_with fail
      have HFP : Hid (∀ i, i < k → parB root (parTo nodes k) i = false → V = false) := Lib.hid (fun i hi hb => HV.out.symm.trans (formC_par (t := ⟨nodes, root⟩) (i := i) (by have := HN.out; simp only; omega) (by simp only; rw [HN.out]; exact hb)))
      have HOK : Hid ((∀ i, i < k → parB root (parTo nodes k) i = true) → V = true) := Lib.hid (fun h => HV.out.symm.trans (formC_ok (t := ⟨nodes, root⟩) HSZ.out HND.out (fun i hi => by simp only at hi ⊢; rw [HN.out] at hi ⊢; exact h i hi)))
      have HPN := Lib.hid (parTo_nonneg nodes k)
      have HPL : Hid ((parTo nodes k).length = k) := Lib.hid (by rw [parTo_len]; exact HN.out)
      obtain ⟨ps, hpp⟩ : ∃ ps, parTo nodes k = ps := ⟨_, rfl⟩
      rw [hpp] at HFR HFP HOK HPN HPL
      clear hpp
      go_loopw [94] (fun i wr => ∃ j : Nat, j ≤ k ∧ i = .int .i64 j ∧ Hid (∀ i, i < j → parB root ps i = true) ∧ FrW w wr a k c root ps) (fun i _ => k - (intOf i).toNat)
      case atStart => exact ⟨0, Nat.zero_le _, rfl, Lib.hid (fun i hi => by omega), HFR.out⟩
      case round =>
        obtain ⟨j, hj, rfl, hpar, hfj⟩ := hrel
        by_cases hltj : j < k
        · have q1 := cell_of_row _ _ 1 _ _ _ hfj.box
          have hps := (cell_of_row _ _ j _ _ _ hfj.row).trans (psA_at (by have h2 := HPL.out; omega))
          have hX0 := HPN.out j
          have hB := HFP.out j hltj
          have hG : parB root ps j = true → ∀ i, i < j + 1 → parB root ps i = true := fun hb i hi => by
            by_cases h1 : i < j
            · exact hpar.out i h1
            · obtain rfl : i = j := by omega
              exact hb
          unfold parB at hB
          obtain ⟨X, hX⟩ : ∃ X, ps.getD j 0 = X := ⟨_, rfl⟩
          have hPB : parB root ps j = if (j : Int) = root then X == 0 else X == 1 := by unfold parB; rw [hX]
          rw [hX] at hps hX0 hB
          have HG := Lib.hid hG
          have HB := Lib.hid hB
          have HPB := Lib.hid hPB
          have HFJ := Lib.hid hfj
          clear hB hG hPB hX hpar hfj
          by_cases hr : (j : Int) = root
          · have t1 : ((j : Int) == root) = true := by simpa using hr
            by_cases x0 : X = 0
            · subst x0
              have HG2 := Lib.hid (HG.out (by rw [HPB.out, if_pos hr]; rfl))
              have t3 : (((j : Int) == root) == ((0 : Int) == 0)) = true := by rw [t1]; rfl
              clear hr
              go_wp2_with fail
              go_roundw
              case rel => exact ⟨j + 1, by omega, by go_num, HG2, HFJ.out⟩
              case measure => simp [intOf]; omega
            · have t2 : (X == 0) = false := by simpa using x0
              have t3 : (((j : Int) == root) == (X == 0)) = false := by rw [t1, t2]; rfl
              have HF := Lib.hid (HB.out (by rw [if_pos hr]; exact t2))
              clear hr x0
              go_wp2_with fail
              go_ret
              exact ⟨ret_bool HF.out.symm, HFJ.out.bel⟩
          · have t1 : ((j : Int) == root) = false := by simpa using hr
            by_cases x0 : X = 0
            · subst x0
              have HF := Lib.hid (HB.out (by rw [if_neg hr]; rfl))
              have t3 : (((j : Int) == root) == ((0 : Int) == 0)) = false := by rw [t1]; rfl
              clear hr
              go_wp2_with fail
              go_ret
              exact ⟨ret_bool HF.out.symm, HFJ.out.bel⟩
            · have t2 : (X == 0) = false := by simpa using x0
              have t3 : (((j : Int) == root) == (X == 0)) = true := by rw [t1, t2]; rfl
              by_cases x1 : 1 < X
              · have t4 : decide (1 < X) = true := decide_eq_true x1
                have HF := Lib.hid (HB.out (by rw [if_neg hr]; simp; omega))
                clear hr x0 x1
                go_wp2_with fail
                go_ret
                exact ⟨ret_bool HF.out.symm, HFJ.out.bel⟩
              · have t4 : decide (1 < X) = false := decide_eq_false x1
                have HG2 := Lib.hid (HG.out (by rw [HPB.out, if_neg hr]; simp; omega))
                clear hr x0 x1
                go_wp2_with fail
                go_roundw
                case rel => exact ⟨j + 1, by omega, by go_num, HG2, HFJ.out⟩
                case measure => simp [intOf]; omega
        · obtain rfl : j = k := by omega
          have HT := Lib.hid (HOK.out hpar.out)
          clear hpar
          go_wp2_with fail
          go_ret
          exact ⟨ret_bool HT.out.symm, hfj.bel⟩
end Go.Proofs.YtflpkkebampmfaaDoor
namespace Go.Proofs.YtflpkkebampmfaaDoor
open Go.RowKit Go.Shelf

theorem eg_chk : ∀ args w, (callFunc 38 args).run Tryd.prog w = .ok (.enter 38 args) w := enters_of Tryd.func38 (by kernel_rfl) rfl

/-- what a walk over a certificate leans on -/
structure CkW (x y : Xpr) (b : BitVec 16) (w0 : World) (a1 : Option Addr) (n1 c1 : Nat) (a2 : Option Addr) (n2 c2 : Nat) (a : Option Addr) (n c : Nat) (nodes : List Cho) (b4 b5 b6 b7 b9 : Nat) : Prop where
  c4 : w0.cell? ⟨b4, 0, none⟩ = some (.slice a1 n1 c1) ∧ w0.cell? ⟨b4, 1, none⟩ = some (.int .i64 x.root)
  c5 : w0.cell? ⟨b5, 0, none⟩ = some (.slice a2 n2 c2) ∧ w0.cell? ⟨b5, 1, none⟩ = some (.int .i64 y.root)
  c6 : w0.cell? ⟨b6, 0, none⟩ = some (.int .u16 (U b))
  c7 : w0.cell? ⟨b7, 0, none⟩ = some (.slice a n c)
  c9 : w0.cell? ⟨b9, 0, none⟩ = some (.func (.func 38) #[] #[.pointer (some ⟨b7, 0, none⟩), .pointer (some ⟨b4, 0, none⟩), .pointer (some ⟨b5, 0, none⟩), .pointer (some ⟨b6, 0, none⟩), .pointer (some ⟨b9, 0, none⟩)])
  tm : TM w0 a n c nodes
  sx : ∀ (z : BitVec 16) (u : World), Below w0.heap.size w0 u → Calls Tryd.prog 39 #[.agg #[.slice a1 n1 c1, .int .i64 x.root], .int .u16 (U (4095#16 &&& ~~~z))] u fun e w' => e = .returned (.bool (holdX x (4095#16 &&& ~~~z))) ∧ Below u.heap.size u w'
  sy : ∀ (z : BitVec 16) (u : World), Below w0.heap.size w0 u → Calls Tryd.prog 39 #[.agg #[.slice a2 n2 c2, .int .i64 y.root], .int .u16 (U (4095#16 &&& ~~~z))] u fun e w' => e = .returned (.bool (holdX y (4095#16 &&& ~~~z))) ∧ Below u.heap.size u w'

theorem rightF_x {x y : Xpr} {b : BitVec 16} {nodes : List Cho} {f i : Nat} {c : Cho} {p q : BitVec 16} (h : nodes[i]? = some c) (h1 : c.server = -1) : rightF x y b nodes (f + 1) (i : Int) p q = !holdX x (4095#16 &&& ~~~q) := by
  have e : nodes.getD (i : Int).toNat cho0 = c := by rw [Int.toNat_natCast, List.getD_eq_getElem?_getD, h]; rfl
  rw [rightF, e, if_pos h1]; rfl
theorem rightF_y {x y : Xpr} {b : BitVec 16} {nodes : List Cho} {f i : Nat} {c : Cho} {p q : BitVec 16} (h : nodes[i]? = some c) (h1 : c.server = -2) : rightF x y b nodes (f + 1) (i : Int) p q = !holdX y (4095#16 &&& ~~~p) := by
  have e : nodes.getD (i : Int).toNat cho0 = c := by rw [Int.toNat_natCast, List.getD_eq_getElem?_getD, h]; rfl
  rw [rightF, e, if_neg (by rw [h1]; decide), if_pos h1]; rfl
theorem rightF_n {x y : Xpr} {b : BitVec 16} {nodes : List Cho} {f i : Nat} {c : Cho} {p q : BitVec 16} {s : Nat} (h : nodes[i]? = some c) (hs : c.server = (s : Int)) :
    rightF x y b nodes (f + 1) (i : Int) p q = if ((bitS s &&& (b ||| p ||| q)) == 0#16) = true then rightF x y b nodes f c.first (p ||| bitS s) q && rightF x y b nodes f c.second p (q ||| bitS s) else false := by
  have e : nodes.getD (i : Int).toNat cho0 = c := by rw [Int.toNat_natCast, List.getD_eq_getElem?_getD, h]; rfl
  rw [rightF, e, if_neg (by rw [hs]; omega), if_neg (by rw [hs]; omega), hs, Int.toNat_natCast]

set_option maxRecDepth 100000 in
set_option maxHeartbeats 4000000 in
theorem check1_p {x y : Xpr} {b : BitVec 16} {w0 : World} {a1 : Option Addr} {n1 c1 : Nat} {a2 : Option Addr} {n2 c2 : Nat} {a : Option Addr} {n c : Nat} {nodes : List Cho} {b4 b5 b6 b7 b9 : Nat} (C : CkW x y b w0 a1 n1 c1 a2 n2 c2 a n c nodes b4 b5 b6 b7 b9) (hn : nodsC nodes = true) :
    ∀ (f i : Nat) (p q : BitVec 16) (u : World), i < n → i < f → Below w0.heap.size w0 u →
    Calls Tryd.prog 38 #[.int .i64 i, .int .u16 (U p), .int .u16 (U q), .pointer (some ⟨b7, 0, none⟩), .pointer (some ⟨b4, 0, none⟩), .pointer (some ⟨b5, 0, none⟩), .pointer (some ⟨b6, 0, none⟩), .pointer (some ⟨b9, 0, none⟩)] u fun e w' => e = .returned (.bool (rightF x y b nodes f i p q)) ∧ Below u.heap.size u w' := by
  have HC := Lib.hid C
  have HNO := Lib.hid hn
  have hle := RdK.le C.tm
  have hm := RdK.max C.tm
  unfold maxLen at hm
  have HNL := Lib.hid (TM.len C.tm)
  clear C hn
  intro f
  induction f with
  | zero => intro i p q u _ h; omega
  | succ f ih =>
    intro i p q u hin hif hb
    have HIH := Lib.hid ih
    clear ih
    obtain ⟨nd, hnd⟩ : ∃ nd, nodes[i]? = some nd := ⟨_, List.getElem?_eq_getElem (by have := HNL.out; omega)⟩
    obtain ⟨bb, oo, ha, hat⟩ := TM.at3 (RdK.below HC.out.tm hb) (by omega)
    obtain ⟨m0, m1, m2⟩ := hat i nd hnd
    have q70 := cell_keep hb HC.out.c7
    subst ha
    have hnc := nodsC_at HNO.out (i := i) (by have := HNL.out; omega)
    rw [List.getD_eq_getElem?_getD, hnd] at hnc
    have hnc : nodC nd i = true := hnc
    have HRX := Lib.hid (rightF_x (x := x) (y := y) (b := b) (f := f) (p := p) (q := q) hnd)
    have HRY := Lib.hid (rightF_y (x := x) (y := y) (b := b) (f := f) (p := p) (q := q) hnd)
    have HRN := Lib.hid (fun s => rightF_n (x := x) (y := y) (b := b) (f := f) (p := p) (q := q) (s := s) hnd)
    obtain ⟨sv, fi, se⟩ := nd
    simp only at m0 m1 m2 HRX HRY HRN
    obtain ⟨U1, hU1⟩ : ∃ U1, U1 = u.alloc (.cells #[.int .i64 sv, .int .i64 fi, .int .i64 se] 39) := ⟨_, rfl⟩
    have hb1 : Below u.heap.size u U1 := by rw [hU1]; exact (Below.refl _ u).alloc (Nat.le_refl _) _
    have hb2 : Below w0.heap.size w0 U1 := Below.next hb hb1
    obtain ⟨g40, g41⟩ := HC.out.c4
    obtain ⟨g50, g51⟩ := HC.out.c5
    have g40 := cell_keep hb2 g40
    have g41 := cell_keep hb2 g41
    have g50 := cell_keep hb2 g50
    have g51 := cell_keep hb2 g51
    have g6 := cell_keep hb2 HC.out.c6
    have g9 := cell_keep hb2 HC.out.c9
    have HB1 := Lib.hid hb1
    have HB2 := Lib.hid hb2
    clear hat hb1 hb2 hb
    by_cases s1 : sv = -1
    · have HR := Lib.hid (HRX.out s1)
      have HS := Lib.hid (HC.out.sx q U1 HB2.out)
      subst s1
      clear hnc
      obtain ⟨V, hV⟩ : ∃ V, holdX x (4095#16 &&& ~~~q) = V := ⟨_, rfl⟩
      rw [hV] at HS HR
      clear hV
      rw [hU1] at g40 g41 HS
      go_enter Tryd.func38, Tryd.ntmps38
      go_wp2_with fail
      with_reducible refine HS.out.mono ?_
      rintro e w1 ⟨rfl, hb1⟩
      rw [← hU1] at hb1
      go_wp2_with fail
      go_ret
      exact ⟨ret_bool (by rw [HR.out]), Below.next HB1.out hb1⟩
    by_cases s2 : sv = -2
    · have HR := Lib.hid (HRY.out s2)
      have HS := Lib.hid (HC.out.sy p U1 HB2.out)
      subst s2
      clear hnc s1
      obtain ⟨V, hV⟩ : ∃ V, holdX y (4095#16 &&& ~~~p) = V := ⟨_, rfl⟩
      rw [hV] at HS HR
      clear hV
      rw [hU1] at g50 g51 HS
      go_enter Tryd.func38, Tryd.ntmps38
      go_wp2_with fail
      with_reducible refine HS.out.mono ?_
      rintro e w1 ⟨rfl, hb1⟩
      rw [← hU1] at hb1
      go_wp2_with fail
      go_ret
      exact ⟨ret_bool (by rw [HR.out]), Below.next HB1.out hb1⟩
    have hlf : leafC ⟨sv, fi, se⟩ = false := by unfold leafC; rw [decide_eq_false s1, decide_eq_false s2]; rfl
    obtain ⟨⟨hs0, hs12⟩, ⟨hf0, hfk⟩, hse0, hsek⟩ := nodC_leaf hnc hlf
    simp only at hs0 hs12 hf0 hfk hse0 hsek
    have t1 : (sv == -1) = false := by simpa using s1
    have t2 : (sv == -2) = false := by simpa using s2
    obtain ⟨s, rfl⟩ := Int.eq_ofNat_of_zero_le hs0
    obtain ⟨fk, rfl⟩ := Int.eq_ofNat_of_zero_le hf0
    obtain ⟨sk, rfl⟩ := Int.eq_ofNat_of_zero_le hse0
    have HR := Lib.hid (HRN.out s rfl)
    clear hnc hlf s1 s2 hs0 hf0 hse0
    have hs16 : min s 16 = s := by omega
    cases hz : (bitS s &&& (b ||| p ||| q)) == 0#16
    · rw [hz] at HR
      rw [hU1] at g6
      have HZ := Lib.hid hz
      go_enter Tryd.func38, Tryd.ntmps38
      go_wp2_with fail
      go_ret
      exact ⟨ret_bool (by rw [HR.out]; rfl), by rw [← hU1]; exact HB1.out⟩
    · rw [hz, if_pos rfl] at HR
      have hfn : fk < n := by omega
      have hsn : sk < n := by omega
      have hff : fk < f := by omega
      have hsf : sk < f := by omega
      have HI1 := Lib.hid (HIH.out fk (p ||| bitS s) q U1 hfn hff HB2.out)
      have HI2 := Lib.hid (fun (v : World) (hv : Below U1.heap.size U1 v) => HIH.out sk p (q ||| bitS s) v hsn hsf (Below.next HB2.out hv))
      have HK : Hid (∀ v : World, Below U1.heap.size U1 v → v.cell? ⟨u.heap.size, 2, none⟩ = some (.int .i64 sk) ∧ v.cell? ⟨b9, 0, none⟩ = some (.func (.func 38) #[] #[.pointer (some ⟨b7, 0, none⟩), .pointer (some ⟨b4, 0, none⟩), .pointer (some ⟨b5, 0, none⟩), .pointer (some ⟨b6, 0, none⟩), .pointer (some ⟨b9, 0, none⟩)])) :=
        Lib.hid (fun v hv => ⟨cell_keep hv (by rw [hU1]; exact cell_of_row _ _ 2 _ _ _ (heap_alloc_new _ _)), cell_keep hv g9⟩)
      obtain ⟨r1, hr1⟩ : ∃ r, rightF x y b nodes f fk (p ||| bitS s) q = r := ⟨_, rfl⟩
      obtain ⟨r2, hr2⟩ : ∃ r, rightF x y b nodes f sk p (q ||| bitS s) = r := ⟨_, rfl⟩
      rw [hr1] at HI1 HR
      rw [hr2] at HI2 HR
      clear hr1 hr2
      rw [hU1] at g6 g9 HI1
      have heg := eg_chk
      cases r1
      · go_enter Tryd.func38, Tryd.ntmps38
        go_wp2_with fail
        with_reducible refine HI1.out.mono ?_
        rintro e w1 ⟨rfl, hb1⟩
        rw [← hU1] at hb1
        go_wp2_with fail
        go_ret
        exact ⟨ret_bool (by rw [HR.out]; rfl), Below.next HB1.out hb1⟩
      · go_enter Tryd.func38, Tryd.ntmps38
        go_wp2_with fail
        with_reducible refine HI1.out.mono ?_
        rintro e w1 ⟨rfl, hb1⟩
        rw [← hU1] at hb1
        obtain ⟨k2, k9⟩ := HK.out w1 hb1
        go_wp2_with fail
        with_reducible refine (HI2.out w1 hb1).mono ?_
        rintro e w2 ⟨rfl, hb2⟩
        go_wp2_with fail
        go_ret
        exact ⟨ret_bool (by rw [HR.out]; rfl), Below.next HB1.out (Below.next hb1 hb2)⟩

/-- four arguments laid: two expressions, a set, a tree -/
theorem args4 (w : World) (u0 u1 v0 v1 z t0 t1 : Value) (e f g : TypeId) {W : World} (hW : W = (((w.alloc (.cells #[u0, u1] e)).alloc (.cells #[v0, v1] e)).alloc (.cells #[z] f)).alloc (.cells #[t0, t1] g)) :
    Below w.heap.size w W ∧ W.heap.size = w.heap.size + 4 ∧ ∀ y, Below W.heap.size W y → (y.cell? ⟨w.heap.size, 0, none⟩ = some u0 ∧ y.cell? ⟨w.heap.size, 1, none⟩ = some u1) ∧ (y.cell? ⟨w.heap.size + 1, 0, none⟩ = some v0 ∧ y.cell? ⟨w.heap.size + 1, 1, none⟩ = some v1) ∧ y.cell? ⟨w.heap.size + 1 + 1, 0, none⟩ = some z ∧ y.cell? ⟨w.heap.size + 1 + 1 + 1, 0, none⟩ = some t0 ∧ y.cell? ⟨w.heap.size + 1 + 1 + 1, 1, none⟩ = some t1 := by
  refine ⟨by rw [hW]; exact ((((Below.refl _ w).alloc (Nat.le_refl _) _).alloc (by simp) _).alloc (by simp; omega) _).alloc (by simp; omega) _, by rw [hW]; simp, fun y hy => ?_⟩
  have g0 : W.heap[w.heap.size]? = some (.cells #[u0, u1] e (0, 0)) := by rw [hW]; exact heap_alloc_at (heap_alloc_at (heap_alloc_at (heap_alloc_new _ _) _) _) _
  have g1 : W.heap[w.heap.size + 1]? = some (.cells #[v0, v1] e (0, 0)) := by
    rw [hW]
    have := heap_alloc_new (w.alloc (.cells #[u0, u1] e)) (.cells #[v0, v1] e)
    rw [World.size_alloc] at this
    exact heap_alloc_at (heap_alloc_at this _) _
  have g2 : W.heap[w.heap.size + 1 + 1]? = some (.cells #[z] f (0, 0)) := by
    rw [hW]
    have := heap_alloc_new ((w.alloc (.cells #[u0, u1] e)).alloc (.cells #[v0, v1] e)) (.cells #[z] f)
    rw [World.size_alloc, World.size_alloc] at this
    exact heap_alloc_at this _
  have g3 : W.heap[w.heap.size + 1 + 1 + 1]? = some (.cells #[t0, t1] g (0, 0)) := by
    rw [hW]
    have := heap_alloc_new (((w.alloc (.cells #[u0, u1] e)).alloc (.cells #[v0, v1] e)).alloc (.cells #[z] f)) (.cells #[t0, t1] g)
    rw [World.size_alloc, World.size_alloc, World.size_alloc] at this
    exact this
  have e0 := heap_below hy g0
  have e1 := heap_below hy g1
  have e2 := heap_below hy g2
  have e3 := heap_below hy g3
  exact ⟨⟨cell_of_row _ _ 0 _ _ _ e0, cell_of_row _ _ 1 _ _ _ e0⟩, ⟨cell_of_row _ _ 0 _ _ _ e1, cell_of_row _ _ 1 _ _ _ e1⟩, cell_of_row _ _ 0 _ _ _ e2, cell_of_row _ _ 0 _ _ _ e3, cell_of_row _ _ 1 _ _ _ e3⟩

set_option maxRecDepth 100000 in
set_option maxHeartbeats 4000000 in
theorem check_err (x y : Xpr) (b : BitVec 16) (E : Int) (hE : (if xprE x ≠ 0 then xprE x else xprE y) = E) (h0 : E ≠ 0) (a1 : Option Addr) (n1 c1 : Nat) (a2 : Option Addr) (n2 c2 : Nat) (tv : Value) (rt : Int) (w : World) (h1 : XM w a1 n1 c1 x.nodes) (h2 : XM w a2 n2 c2 y.nodes) :
    Calls Tryd.prog 15 #[.agg #[.slice a1 n1 c1, .int .i64 x.root], .agg #[.slice a2 n2 c2, .int .i64 y.root], .int .u16 (U b), .agg #[tv, .int .i64 rt]] w fun e w' => e = .returned (.bool false) ∧ Below w.heap.size w w' := by
  have H1 := Lib.hid (fun (u : World) (hb : Below w.heap.size w u) => two_c x y a1 n1 c1 a2 n2 c2 u (h1.below hb) (h2.below hb))
  rw [hE] at H1
  have hne : (E != 0) = true := by simpa using h0
  clear h1 h2 hE h0
  obtain ⟨W4, hW4⟩ : ∃ W4, W4 = (((w.alloc (.cells #[.slice a1 n1 c1, .int .i64 x.root] 24)).alloc (.cells #[.slice a2 n2 c2, .int .i64 y.root] 24)).alloc (.cells #[.int .u16 (U b)] 26)).alloc (.cells #[tv, .int .i64 rt] 33) := ⟨_, rfl⟩
  obtain ⟨hb4, hs4, hc⟩ := args4 w _ _ _ _ _ _ _ _ _ _ hW4
  obtain ⟨⟨q0, q1⟩, ⟨q2, q3⟩, q4, q5, q6⟩ := hc W4 (Below.refl _ _)
  have HB4 := Lib.hid hb4
  clear hb4 hc
  go_enter Tryd.func15, Tryd.ntmps15
  go_wp2_with fail
  rw [← hW4]
  with_reducible refine (H1.out W4 HB4.out).mono ?_
  rintro e w1 ⟨rfl, hb1⟩
  go_wp2_with fail
  go_ret
  exact ⟨rfl, Below.next HB4.out hb1⟩

set_option maxRecDepth 100000 in
set_option maxHeartbeats 4000000 in
theorem check_c (x y : Xpr) (b : BitVec 16) (hx : xprE x = 0) (hy : xprE y = 0) (hfx : XprFew x) (hfy : XprFew y) (t : Tre) (a1 : Option Addr) (n1 c1 : Nat) (a2 : Option Addr) (n2 c2 : Nat) (a : Option Addr) (n c : Nat) (w : World) (h1 : XM w a1 n1 c1 x.nodes) (h2 : XM w a2 n2 c2 y.nodes) (h : TM w a n c t.nodes) :
    Calls Tryd.prog 15 #[.agg #[.slice a1 n1 c1, .int .i64 x.root], .agg #[.slice a2 n2 c2, .int .i64 y.root], .int .u16 (U b), .agg #[.slice a n c, .int .i64 t.root]] w fun e w' => e = .returned (.bool (certC x y b t)) ∧ Below w.heap.size w w' := by
  have H1 := Lib.hid (fun (u : World) (hb : Below w.heap.size w u) => two_c x y a1 n1 c1 a2 n2 c2 u (h1.below hb) (h2.below hb))
  rw [hx, hy] at H1
  have H2 := Lib.hid (fun (u : World) (hb : Below w.heap.size w u) => formed_c t a n c u (RdK.below h hb))
  have HSX := Lib.hid (fun (z : BitVec 16) (u : World) (hb : Below w.heap.size w u) => satisfied_c x hx hfx (4095#16 &&& ~~~z) (all_lt z) a1 n1 c1 u (h1.below hb))
  have HSY := Lib.hid (fun (z : BitVec 16) (u : World) (hb : Below w.heap.size w u) => satisfied_c y hy hfy (4095#16 &&& ~~~z) (all_lt z) a2 n2 c2 u (h2.below hb))
  have HTM := Lib.hid (fun (u : World) (hb : Below w.heap.size w u) => RdK.below h hb)
  have HNL := Lib.hid (TM.len h)
  clear h1 h2 h hx hy hfx hfy
  obtain ⟨W4, hW4⟩ : ∃ W4, W4 = (((w.alloc (.cells #[.slice a1 n1 c1, .int .i64 x.root] 24)).alloc (.cells #[.slice a2 n2 c2, .int .i64 y.root] 24)).alloc (.cells #[.int .u16 (U b)] 26)).alloc (.cells #[.slice a n c, .int .i64 t.root] 33) := ⟨_, rfl⟩
  obtain ⟨hb4, hs4, hc⟩ := args4 w _ _ _ _ _ _ _ _ _ _ hW4
  obtain ⟨⟨q0, q1⟩, ⟨q2, q3⟩, q4, q5, q6⟩ := hc W4 (Below.refl _ _)
  have HB4 := Lib.hid hb4
  have HC := Lib.hid hc
  have hif : (if (0 : Int) ≠ 0 then (0 : Int) else 0) = 0 := by decide
  rw [hif] at H1
  clear hb4 hc hif
  obtain ⟨F, hF⟩ : ∃ F, formC t = F := ⟨_, rfl⟩
  rw [hF] at H2
  cases F
  · have HV : Hid (certC x y b t = false) := by show _ = _; unfold certC; rw [hF]; rfl
    clear hF
    go_enter Tryd.func15, Tryd.ntmps15
    go_wp2_with fail
    rw [← hW4]
    with_reducible refine (H1.out W4 HB4.out).mono ?_
    rintro e w1 ⟨rfl, hb1⟩
    obtain ⟨_, _, _, q5, q6⟩ := HC.out w1 hb1
    go_wp2_with fail
    with_reducible refine (H2.out w1 (Below.next HB4.out hb1)).mono ?_
    rintro e w2 ⟨rfl, hb2⟩
    go_wp2_with fail
    go_ret
    exact ⟨ret_bool HV.out.symm, Below.next HB4.out (Below.next hb1 hb2)⟩
  · obtain ⟨⟨_, _, hr0, hrn⟩, hnods, _⟩ := formC_parts hF
    have HV : Hid (certC x y b t = rightF x y b t.nodes t.nodes.length t.root 0#16 0#16) := by show _ = _; unfold certC; rw [hF]; rfl
    have HND := Lib.hid hnods
    obtain ⟨r, hr⟩ := Int.eq_ofNat_of_zero_le hr0
    have hrn' : r < n := by have := HNL.out; omega
    rw [hr] at HV hW4 q6 HC H2
    rw [hr]
    rw [HNL.out] at HV
    clear hF hr0 hrn hnods hr
    have hmf : ∀ (fn : Fn) (first cap : Array Value) (w : World), (Instr.makeFunc fn first cap).run Tryd.prog w = .ok (.func fn first cap) w := fun _ _ _ _ => rfl
    have heg := eg_chk
    go_enter Tryd.func15, Tryd.ntmps15
    go_wp2_with fail
    rw [← hW4]
    with_reducible refine (H1.out W4 HB4.out).mono ?_
    rintro e w1 ⟨rfl, hb1⟩
    obtain ⟨_, _, _, q5, q6⟩ := HC.out w1 hb1
    go_wp2_with fail
    with_reducible refine (H2.out w1 (Below.next HB4.out hb1)).mono ?_
    rintro e w2 ⟨rfl, hb2⟩
    have HBW := Lib.hid (Below.next HB4.out (Below.next hb1 hb2))
    obtain ⟨⟨t0, t1⟩, ⟨t2, t3⟩, t4, t5, t6⟩ := HC.out w2 (Below.next hb1 hb2)
    obtain ⟨WF, hWF⟩ : ∃ WF, WF = w2.alloc (.cells #[(.func (.func 38) #[] #[.pointer (some ⟨w.heap.size + 1 + 1 + 1, 0, none⟩), .pointer (some ⟨w.heap.size, 0, none⟩), .pointer (some ⟨w.heap.size + 1, 0, none⟩), .pointer (some ⟨w.heap.size + 1 + 1, 0, none⟩), .pointer (some ⟨w2.heap.size, 0, none⟩)])] 73) := ⟨_, rfl⟩
    have hbF : Below w2.heap.size w2 WF := by rw [hWF]; exact (Below.refl _ _).alloc (Nat.le_refl _) _
    have z6 := cell_keep hbF t6
    rw [hWF] at z6
    clear hW4 q0 q1 q2 q3 q4 q5 q6 hb1 hb2
    go_wp2_with fail
    rw [← hWF]
    clear z6
    have hc9 : WF.cell? ⟨w2.heap.size, 0, none⟩ = some (.func (.func 38) #[] #[.pointer (some ⟨w.heap.size + 1 + 1 + 1, 0, none⟩), .pointer (some ⟨w.heap.size, 0, none⟩), .pointer (some ⟨w.heap.size + 1, 0, none⟩), .pointer (some ⟨w.heap.size + 1 + 1, 0, none⟩), .pointer (some ⟨w2.heap.size, 0, none⟩)]) := by
      rw [hWF]
      exact (cell_of_row _ _ 0 _ _ _ (heap_alloc_new _ _)).trans rfl
    have hbw := Below.next HBW.out hbF
    have C : CkW x y b WF a1 n1 c1 a2 n2 c2 a n c t.nodes w.heap.size (w.heap.size + 1) (w.heap.size + 1 + 1) (w.heap.size + 1 + 1 + 1) w2.heap.size :=
      { c4 := ⟨cell_keep hbF t0, cell_keep hbF t1⟩
        c5 := ⟨cell_keep hbF t2, cell_keep hbF t3⟩
        c6 := cell_keep hbF t4
        c7 := cell_keep hbF t5
        c9 := hc9
        tm := HTM.out WF hbw
        sx := fun z u hu => HSX.out z u (Below.next hbw hu)
        sy := fun z u hu => HSY.out z u (Below.next hbw hu) }
    have HP := Lib.hid (check1_p C HND.out n r 0#16 0#16 WF hrn' hrn' (Below.refl _ _))
    rw [← HV.out, U_zero] at HP
    have HBF := Lib.hid hbw
    clear C hc9 hbF hWF hbw
    with_reducible refine HP.out.mono ?_
    rintro e w5 ⟨rfl, hb5⟩
    go_wp2_with fail
    go_ret
    exact ⟨rfl, Below.next HBF.out hb5⟩
end Go.Proofs.YtflpkkebampmfaaDoor
