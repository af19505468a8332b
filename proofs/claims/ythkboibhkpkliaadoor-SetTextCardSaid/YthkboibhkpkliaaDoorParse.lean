/- set.Parse. -/
import Derived.Test.YthkboibhkpkliaaDoorRFmt
import Derived.Test.YthkboibhkpkliaaDoorShelf2
import Derived.Lib.AtoiErrMem
namespace Go.Proofs.YthkboibhkpkliaaDoor
open Go.RowKit Go.Shelf

/-- what strconv.ErrRange reads as: some interface value -/
def HasRng (w : World) : Prop := ∃ ev, w.cell? ⟨2, 0, none⟩ = some ev ∧ (ev = .nilIface ∨ ∃ te pe, ev = .iface te pe)
theorem HasRng.below {w w' : World} (h : HasRng w) (hb : Below w.heap.size w w') : HasRng w' := by
  obtain ⟨ev, h1, h2⟩ := h
  exact ⟨ev, (hb.cell (p := ⟨2, 0, none⟩) (cell_lt h1)).trans h1, h2⟩

theorem notDig_at (w : World) : PredAt Tryd.prog 55 #[] encR notDig w := fun W r _ => by
  unfold FnGives
  by_cases h1 : r < 48 <;> by_cases h2 : 57 < r
  all_goals
    have z1 : (r : Int) < 48 ↔ r < 48 := by omega
    have z2 : 57 < (r : Int) ↔ 57 < r := by omega
    go_enter Tryd.func55, Tryd.ntmps55
    go_wp2
    all_goals first | (exfalso; omega) | (go_ret; exact ⟨by simp [notDig, h1, h2], 0, rfl⟩)

theorem piece_size (p : Nat → Bool) (s x : ByteArray) (h : x ∈ Lib.goFieldsP p s) : x.size ≤ s.size := by
  unfold Lib.goFieldsP at h
  obtain ⟨y, _, rfl⟩ := List.mem_map.1 h
  rw [ByteArray.size_extract]; omega

set_option maxRecDepth 100000 in
set_option maxHeartbeats 4000000 in
theorem parse_c (s : ByteArray) (w : World) (hs : s.size ≤ 1000000) (ht : HasTab w) (hr : HasRng w) :
    Calls Tryd.prog 34 #[.string s] w fun e w' => e = .returned (.tuple #[.int .u16 (U (parseS s).1), .int .i64 (parseS s).2]) ∧ Below w.heap.size w w' := by
  have HT := Lib.hid ht
  have HR := Lib.hid hr
  clear ht hr
  have hC := Tryd.strings_FieldsFunc 55 #[] (enters_of Tryd.func55 (by kernel_rfl) rfl) notDig s w (by omega) (notDig_at w)
  obtain ⟨ws, hws⟩ : ∃ ws, Lib.goFieldsP notDig s = ws := ⟨_, rfl⟩
  have HW : Hid (ws.map (fun w => w.data.toList) = wordsL [] s.data.toList) := by show _ = _; rw [← hws]; exact fields_words s
  have HZ : Hid (∀ x ∈ ws, x.size ≤ s.size) := Lib.hid (fun x hx => piece_size notDig s x (hws ▸ hx))
  have HD : Hid (∀ x ∈ ws, x.data.toList ≠ [] ∧ ∀ c ∈ x.data.toList, dig c = true) := Lib.hid (fun x hx => words_dig s.data.toList [] (fun c hc => by cases hc) _ (by rw [← HW.out]; exact List.mem_map_of_mem hx))
  rw [hws] at hC
  obtain ⟨n, hn⟩ : ∃ n, ws.length = n := ⟨_, rfl⟩
  rw [hn] at hC
  have HN := Lib.hid hn
  have HC := Lib.hid hC
  clear hC hws hn
  go_enter Tryd.func34, Tryd.ntmps34
  go_wp2_with fail
  refine HC.out.mono ?_
  rintro e w1 ⟨A, rfl, hA, hown, hb⟩
  obtain ⟨pa, pc, hv, hr⟩ := rd_of_row hown
  cases hv
  have hrl := hr.le
  have hrm := hr.max
  unfold maxLen at hrm
  clear hown HC hA
  go_wp2_with fail
  go_loopw [4, 12] (fun o i wr => ∃ (k : Nat) (x : BitVec 16), k ≤ n ∧ i = .int .i64 k ∧ o = .int .u16 (U x) ∧ Hid (parW 0#16 (wordsL [] s.data.toList) = parW x ((ws.map (fun w => w.data.toList)).drop k)) ∧ Below w1.heap.size w1 wr) (fun _ i _ => n - (intOf i).toNat)
  case atStart => exact ⟨0, 0#16, Nat.zero_le _, rfl, rfl, by show _ = _; rw [← HW.out]; rfl, Below.refl _ _⟩
  case round =>
    obtain ⟨k, x, hk, rfl, rfl, hp, hbr⟩ := hrel
    have hb2 := Below.next hb hbr
    by_cases hlt : k < n
    · obtain ⟨u, hu⟩ : ∃ u, ws[k]? = some u := ⟨_, List.getElem?_eq_getElem (show k < ws.length by rw [HN.out]; exact hlt)⟩
      have hmem := List.mem_of_getElem? hu
      have husz := HZ.out u hmem
      have hstep : Hid (parW 0#16 (wordsL [] s.data.toList) = parW x (u.data.toList :: (ws.map (fun w => w.data.toList)).drop (k + 1))) := by
        show _ = _
        rw [hp.out]
        congr 1
        have h2 : (ws.map (fun w => w.data.toList))[k]? = some u.data.toList := by rw [List.getElem?_map, hu]; rfl
        obtain ⟨hk2, e⟩ := List.getElem?_eq_some_iff.1 h2
        rw [List.drop_eq_getElem_cons hk2, e]
      have hrw := hr.below hbr
      obtain ⟨b, o, hao, hcell⟩ := hrw.at' (by omega)
      cases hao
      have hc := hcell k (.string u) (by rw [List.getElem?_map, hu]; rfl)
      rw [Nat.zero_add] at hc
      rcases words_ok _ (HD.out u hmem).1 (HD.out u hmem).2 with ⟨v, hv⟩ | hv
      · have HA := Lib.hid (Tryd.strconv_Atoi_ok u (by omega) v hv)
        by_cases h12 : v < 12
        · have hq : Hid (parW 0#16 (wordsL [] s.data.toList) = parW (x ||| bitS v) ((ws.map (fun w => w.data.toList)).drop (k + 1))) := by
            show _ = _
            rw [hstep.out, parW, hv]
            simp only [if_pos (show (v : Int) < 12 by omega), Int.toNat_natCast]
          clear hv hstep hp hcell hrw hmem husz hu hr hb
          go_wp2_with fail
          refine (HA.out _).mono ?_
          rintro e w2 ⟨rfl, hw2⟩
          have hb3 : Below wr.heap.size wr w2 := by
            rcases hw2 with rfl | ⟨t, rfl⟩
            · exact Below.refl _ _
            · exact Lib.bytesWorld_below _ _ _
          have hb4 := Below.next hbr hb3
          clear hw2 hb3 hbr hb2
          go_wp2_with fail
          go_roundw
          case rel => exact ⟨k + 1, x ||| bitS v, by omega, by go_num, rfl, hq, hb4⟩
          case measure => simp [intOf]; omega
        · have hP : Hid (parseS s = (0#16, 2)) := by
            show _ = _
            unfold parseS
            rw [hstep.out, parW, hv]
            simp only [if_neg (show ¬ (v : Int) < 12 by omega)]
          clear hv hstep hp hcell hrw hmem husz hu hr hb
          go_wp2_with fail
          refine (HA.out _).mono ?_
          rintro e w2 ⟨rfl, hw2⟩
          have hb3 : Below wr.heap.size wr w2 := by
            rcases hw2 with rfl | ⟨t, rfl⟩
            · exact Below.refl _ _
            · exact Lib.bytesWorld_below _ _ _
          have hb4 := Below.next hb2 hb3
          clear hw2 hb3 hbr hb2
          go_wp2_with fail
          go_ret2
          exact ⟨by rw [hP.out]; rfl, hb4⟩
      · obtain ⟨ev, hev1, hev2⟩ := HR.out.below hb2
        have HA := Lib.hid (Tryd.strconv_Atoi_range u (by omega) hv ev wr hev1 hev2)
        have hP : Hid (parseS s = (0#16, 2)) := by
          show _ = _
          unfold parseS
          rw [hstep.out, parW, hv]
        clear hv hstep hp hcell hrw hmem husz hu hr hb hev1 hev2
        go_wp2_with fail
        refine HA.out.mono ?_
        rintro e w2 ⟨N, rfl, _, _, hb3⟩
        have hb4 := Below.next hb2 hb3
        clear hb3 hbr hb2
        go_wp2_with fail
        go_ret2
        exact ⟨by rw [hP.out]; rfl, hb4⟩
    · have hkn : k = n := by omega
      have hp2 : Hid (parW 0#16 (wordsL [] s.data.toList) = some x) := by
        show _ = _
        rw [hp.out, List.drop_of_length_le (by rw [List.length_map, HN.out]; omega)]; rfl
      clear hr hb hbr hp hkn
      have HF := Lib.hid (format_c x _ wr rfl (HT.out.below hb2))
      by_cases he : fmtB x = s
      · have hP : Hid (parseS s = (x, 0)) := by
          show _ = _
          unfold parseS
          rw [hp2.out]; simp [he]
        rw [he] at HF
        clear he
        go_wp2_with fail
        refine HF.out.mono ?_
        rintro e w2 ⟨rfl, hb3⟩
        have hb4 := Below.next hb2 hb3
        clear hb3 hb2
        go_wp2_with fail
        go_ret2
        exact ⟨by rw [hP.out]; rfl, hb4⟩
      · have hP : Hid (parseS s = (0#16, 2)) := by
          show _ = _
          unfold parseS
          rw [hp2.out]; simp [he]
        obtain ⟨u, hu⟩ : ∃ u, fmtB x = u := ⟨_, rfl⟩
        rw [hu] at HF he
        have he1 := str_ne he
        clear he hu
        go_wp2_with fail
        refine HF.out.mono ?_
        rintro e w2 ⟨rfl, hb3⟩
        have hb4 := Below.next hb2 hb3
        clear hb3 hb2
        go_wp2_with fail
        go_ret2
        exact ⟨by rw [hP.out]; rfl, hb4⟩
end Go.Proofs.YthkboibhkpkliaaDoor
