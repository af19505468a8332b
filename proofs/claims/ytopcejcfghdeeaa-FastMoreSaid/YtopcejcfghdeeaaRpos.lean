/- Layer 38: the reference's Possible. -/
import Derived.Test.YtopcejcfghdeeaaPos
namespace Go.Proofs.Ytopcejcfghdeeaa
open Go.RowKit Go.Shelf Go.Sort

set_option maxRecDepth 100000 in
set_option maxHeartbeats 4000000 in
theorem rpossible_c (q : List (BitVec 16)) (V : List ByteArray) (h : BitVec 16) (a : Option Addr) (n c : Nat) (a2 : Option Addr) (n2 c2 : Nat) (w : World) (hr : Rd w a n c (q.map setV2)) (hr2 : Rd w a2 n2 c2 (V.map Value.string)) (hn : n2 ≤ 100) :
    Calls Try.prog 19 #[.slice a n c, .int .u16 (U h), .slice a2 n2 c2] w fun e w' => ∃ a3 c3, e = .returned (.tuple #[.slice a3 (pssS q V h).1.length c3, .int .i64 (pssS q V h).2]) ∧ Rd w' a3 (pssS q V h).1.length c3 ((pssS q V h).1.map Value.string) ∧ Below w.heap.size w w' := by
  have hnl : V.length = n2 := by have := hr2.len; simp at this; omega
  have hnq : q.length = n := by have := hr.len; simp at this; omega
  have hqm := hr.max
  have hqe := hr.le
  unfold maxLen at hqm
  have HR := Lib.hid hr
  have HR2 := Lib.hid hr2
  have HA := Lib.hid (rargs_c q a n c a2 n2 c2 w hr hn)
  have HNQ := Lib.hid hnq
  clear hr hr2 hnq
  by_cases he : argS q n2 = 0
  · have hC : Hid (pssS q V h = (posS q V h, 0)) := by show _ = _; unfold pssS; rw [hnl, he]; rfl
    have hn12 := args_zero he
    have HN := Lib.hid hnl
    rw [he] at HA
    clear he hnl
    have HC := Lib.hid (fun w hh => rvalues_c V h a2 n2 c2 w (by omega) hh)
    go_enter Try.func19, Try.ntmps19
    go_wp2_with fail
    refine HA.out.mono ?_
    rintro e w1 ⟨rfl, b1⟩
    clear HA
    go_wp2_with fail
    refine (HC.out w1 (HR2.out.below b1)).mono ?_
    rintro e w2 ⟨v, rfl, hown, b2⟩
    obtain ⟨al, cl, rfl, hrl⟩ := rd_of_row hown
    have hb2 := Below.next b1 b2
    obtain ⟨m, hml⟩ : ∃ m, (valB V h).length = m := ⟨_, rfl⟩
    have hmn : m ≤ n2 := by rw [← hml, valB_len, ← HN.out]; exact valV_le _ _
    rw [hml] at hrl ⊢
    have hlc := hrl.le
    have hlm := hrl.max
    unfold maxLen at hlm
    have HRL := Lib.hid hrl
    have HM := Lib.hid hml
    have HB2 := Lib.hid hb2
    clear HC b1 b2 hown hml hrl hb2
    go_wp2_with fail
    go_loopw [9, 11] (fun v i wr => ∃ k : Nat, k ≤ m ∧ i = .int .i64 k ∧ wr.ownsRow w2.heap.size 9 1 v (posT q V h k).length ((posT q V h k).map Value.string) ∧ Below w2.heap.size w2 wr) (fun _ i _ => m - (intOf i).toNat)
    case atStart => exact ⟨0, Nat.zero_le _, rfl, World.ownsRow_nil _ _ _ _, Below.refl _ _⟩
    case round =>
      obtain ⟨k, hk, rfl, hown, hb⟩ := hrel
      by_cases hlt : k < m
      · obtain ⟨x, hx⟩ : ∃ x, (valB V h)[k]? = some x := ⟨_, List.getElem?_eq_getElem (by rw [HM.out]; exact hlt)⟩
        obtain ⟨b, o, ha, hcell⟩ := (HRL.out.below hb).at' (by omega)
        have c0 := hcell k (.string x) (by rw [List.getElem?_map, hx]; rfl)
        have HVO := Lib.hid (rvoters_c V x a2 n2 c2 wr (by omega) (HR2.out.below (Below.next HB2.out hb)))
        have hst := posT_succ (q := q) hx
        have hpl := posT_le q V h k
        obtain ⟨s, hs⟩ : ∃ s, votS V x = s := ⟨_, rfl⟩
        rw [hs] at HVO hst
        have HST := Lib.hid hst
        have HC0 := Lib.hid c0
        have HO := Lib.hid hown
        have HB := Lib.hid hb
        subst ha
        clear hcell hx hs hst hown hb
        go_wp2_with fail
        refine HVO.out.mono ?_
        rintro e w3 ⟨rfl, b3⟩
        have hc3 := (b3.cell (p := ⟨b, o + k, none⟩) (cell_lt HC0.out)).trans HC0.out
        have HC3 := Lib.hid hc3
        have HO3 := Lib.hid (rowK_below HO.out b3)
        have HB3 := Lib.hid (Below.next HB.out b3)
        clear HVO b3 c0 hc3 HC0 HO HB
        go_wp2_with fail
        obtain ⟨vo, hvo⟩ : ∃ vo, vo = u9 := ⟨_, rfl⟩
        subst hvo
        go_loop [9, 13] (fun v i => v = vo ∧ ∃ j : Nat, j ≤ n ∧ i = .int .i64 j ∧ Hid (∀ t, t < j → posP h s (q.getD t 0#16) = false)) (fun _ i => n - (intOf i).toNat)
        case atStart => exact ⟨rfl, 0, Nat.zero_le _, rfl, Lib.hid (fun t ht => by omega)⟩
        case round =>
          obtain ⟨rfl, j, hj, rfl, hno⟩ := hrel
          by_cases hlt2 : j < n
          · have hjl : j < q.length := by have := HNQ.out; omega
            obtain ⟨b4, o4, ha4, hcell4⟩ := (HR.out.below (Below.next HB2.out HB3.out)).at' (by omega)
            have hc4 := hcell4 j _ (at_cell hjl)
            obtain ⟨f, hf⟩ : ∃ f, q.getD j 0#16 = f := ⟨_, rfl⟩
            rw [hf] at hc4
            subst ha4
            cases hq1 : (f &&& h != 0#16)
            · have hno2 : Hid (∀ t, t < j + 1 → posP h s (q.getD t 0#16) = false) := Lib.hid (fun t ht => by
                by_cases h1 : t < j
                · exact hno.out t h1
                · obtain rfl : t = j := by omega
                  rw [hf]; unfold posP; rw [hq1]; rfl)
              clear hcell4 hf hno hjl
              go_wp2_with fail
              go_round
              case rel => exact ⟨rfl, j + 1, by omega, by go_num, hno2⟩
              case measure => simp [intOf]; omega
            · cases hq2 : (f &&& h &&& ~~~s == 0#16)
              · have hno2 : Hid (∀ t, t < j + 1 → posP h s (q.getD t 0#16) = false) := Lib.hid (fun t ht => by
                  by_cases h1 : t < j
                  · exact hno.out t h1
                  · obtain rfl : t = j := by omega
                    rw [hf]; unfold posP; rw [hq1, hq2]; rfl)
                clear hcell4 hf hno hjl
                go_wp2_with fail
                go_round
                case rel => exact ⟨rfl, j + 1, by omega, by go_num, hno2⟩
                case measure => simp [intOf]; omega
              · have hp : posB q h s = true := any_hit hjl (by rw [hf]; unfold posP; rw [hq1, hq2]; rfl)
                have hst := HST.out
                rw [hp] at hst
                have HS : Hid ((posT q V h (k + 1)).map Value.string = (posT q V h k).map Value.string ++ [.string x]) := by show _ = _; rw [hst]; simp
                have HL : Hid ((posT q V h (k + 1)).length = (posT q V h k).length + 1) := by show _ = _; rw [hst]; simp
                have hc3 := HC3.out
                have ho3 := HO3.out
                have hb3 := HB3.out
                clear hcell4 hf hno hjl hp hst HO3 HB3
                go_wp2_with (at_builtin; go_must (refine wpList_app _ _ 31 16 (.string ⟨#[]⟩) (.string x) _ Try.underlying31 Try.infoStr rfl ho3 hb3 (Nat.le_refl _) rfl rfl rfl rfl rfl (by unfold maxLen; omega) (by omega) ?_))
                intro v' w4 hown4 hb4 _ _
                clear ho3 hb3 hc3 hc4
                go_wp2_with fail
                go_roundw
                case rel => exact ⟨k + 1, by omega, by go_num, by rw [HS.out, HL.out]; exact hown4, hb4⟩
                case measure => simp [intOf]; omega
          · have hp : posB q h s = false := any_none (fun t ht => hno.out t (by have := HNQ.out; omega))
            have hst := HST.out
            rw [hp] at hst
            have HS : Hid (posT q V h (k + 1) = posT q V h k) := by show _ = _; rw [hst]; simp
            clear hno hp hst
            go_wp2_with fail
            go_roundw
            case rel => exact ⟨k + 1, by omega, by go_num, by rw [HS.out]; exact HO3.out, HB3.out⟩
            case measure => simp [intOf]; omega
      · obtain rfl : k = m := by omega
        rw [posT_all HM.out] at hown
        obtain ⟨a4, c4, rfl, hr4⟩ := rd_of_row hown
        have HR4 := Lib.hid hr4
        have HBW := Lib.hid (Below.next HB2.out hb)
        clear hown hb hr4
        go_wp2_with fail
        go_ret2
        rw [hC.out]
        exact ⟨_, _, rfl, HR4.out, HBW.out⟩
  · have hE : Hid (pssS q V h = ([], argS q n2)) := by show _ = _; unfold pssS; rw [hnl, if_pos he]
    obtain ⟨v, hv⟩ : ∃ v, argS q n2 = v := ⟨_, rfl⟩
    rw [hv] at HA hE he
    have hv1 : (v != 0) = true := by simpa using he
    clear hv he
    go_enter Try.func19, Try.ntmps19
    go_wp2_with fail
    refine HA.out.mono ?_
    rintro e w1 ⟨rfl, b1⟩
    go_wp2_with fail
    go_ret2
    rw [hE.out]
    exact ⟨none, 0, rfl, Rd.none_ _, b1⟩
end Go.Proofs.Ytopcejcfghdeeaa
