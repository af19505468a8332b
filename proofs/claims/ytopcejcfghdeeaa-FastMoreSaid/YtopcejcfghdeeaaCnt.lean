/- Layer 38: fast.count. -/
import Derived.Test.YtopcejcfghdeeaaStr
import Derived.Test.YtopcejcfghdeeaaShelf
import Derived.Test.YtopcejcfghdeeaaFam3
import Derived.Sort.OwnSorted
import Derived.Deep.RegionHeld3
namespace Go.Proofs.Ytopcejcfghdeeaa
open Go.RowKit Go.Shelf Go.Sort

theorem Try.infoStr : (Try.prog.info? 9).map (fun i => (i.zero, i.size, i.bytes)) = some (some (.string ⟨#[]⟩), 1, 16) := by kernel_rfl
theorem Try.infoBal : (Try.prog.info? 65).map (fun i => (i.zero, i.size, i.bytes)) = some (some (.agg #[.string ⟨#[]⟩, .int .u16 0]), 2, 24) := by kernel_rfl

theorem sortT_c (B : Nat) (v : Value) (zs : List Str) (w : World) (h : w.ownsRow B 9 1 v zs.length (zs.map encStr)) (hsz : zs.length ≤ 1000) :
    Calls Try.prog 62 #[v] w fun e w' => e = .returned (.tuple #[]) ∧ w'.ownsRow B 9 1 v zs.length ((zs.mergeSort fun x y => decide (x ≤ y)).map encStr) ∧ w.grownBy w' v.ownBlock := by
  have hl : (zs.mergeSort fun x y => decide (x ≤ y)).length = zs.length := List.length_mergeSort _
  rcases h.2 with ⟨rfl, h0⟩ | ⟨g, cap, cur, rfl, hbase, hb, h1, h2, h3, h4⟩
  · have hz : zs = [] := List.eq_nil_of_length_eq_zero h0
    subst hz
    refine (Try.slices_Sort_string_none none 0 w).mono ?_
    rintro e w' ⟨rfl, rfl⟩
    exact ⟨rfl, by simpa using World.ownsRow_nil _ _ _ _, World.grownBy.refl _ _⟩
  · refine (Try.slices_Sort_string g 0 cap zs w (holds_of_block hb (by simpa using h4)) (Array.getElem?_eq_some_iff.1 hb).1 (by omega)).mono ?_
    rintro e w' ⟨rfl, n, os, rfl⟩
    exact ⟨rfl, ownsRow_sorted hl hbase hb h1 h2 h3, grownBy_sorted _⟩

theorem compact_len (zs : List Str) : (Lib.compact zs).length ≤ zs.length := by
  unfold Lib.compact Lib.compactUpTo
  rw [List.length_map]
  exact Nat.le_trans (List.length_filter_le _ _) (by simp)
theorem compactT_c (B : Nat) (v : Value) (zs : List Str) (w : World) (h : w.ownsRow B 9 1 v zs.length (zs.map encStr)) (hsz : zs.length ≤ 1000) :
    Calls Try.prog 63 #[v] w fun e w' => ∃ a c, e = .returned (.slice a (Lib.compact zs).length c) ∧ Rd w' a (Lib.compact zs).length c ((Lib.compact zs).map encStr) ∧ w.grownBy w' v.ownBlock := by
  rcases h.2 with ⟨rfl, h0⟩ | ⟨g, cap, cur, rfl, hbase, hb, h1, h2, h3, h4⟩
  · have hz : zs = [] := List.eq_nil_of_length_eq_zero h0
    subst hz
    refine (Try.slices_Compact_string_empty none 0 w).mono ?_
    rintro e w' ⟨rfl, rfl⟩
    exact ⟨none, 0, rfl, Rd.none_ _, World.grownBy.refl _ _⟩
  · refine (Try.slices_Compact_string g 0 cap zs w (holds_of_block hb (by simpa using h4)) (by omega) h1).mono ?_
    rintro e w' ⟨rfl, q, rfl⟩
    have hcl := compact_len zs
    have hl : (Lib.compact zs ++ List.replicate (zs.length - (Lib.compact zs).length) []).length = zs.length := by rw [List.length_append, List.length_replicate]; omega
    have ho := ownsRow_sorted (n := q) (os := #[]) hl hbase hb h1 h2 h3
    have hg := grownBy_sorted (w := w) (g := g) (n := q) (os := #[]) (Lib.compact zs ++ List.replicate (zs.length - (Lib.compact zs).length) []).toArray
    rw [grow_empty] at ho hg
    obtain ⟨a, c, hv, hr⟩ := rd_of_row ho
    injection hv with hv1 hv2 hv3
    subst hv1 hv3
    have hr2 := hr.take (Lib.compact zs).length hcl
    rw [List.map_append, List.take_append_of_le_length (by simp), List.take_of_length_le (by simp)] at hr2
    exact ⟨_, _, rfl, hr2, hg⟩

def balC (b : ByteArray × BitVec 16) : List Value := [.string b.1, .int .u16 (U b.2)]
theorem balC_len (b : ByteArray × BitVec 16) : (balC b).length = 2 := rfl
theorem bal_one (l : List (ByteArray × BitVec 16)) : ∀ u ∈ l.flatMap balC, u.oneCell' = true := by
  intro u hu
  obtain ⟨p, _, hp⟩ := List.mem_flatMap.1 hu
  simp only [balC, List.mem_cons, List.not_mem_nil, or_false] at hp
  rcases hp with rfl | rfl <;> rfl
theorem cnt_take {V : List ByteArray} {h : BitVec 16} {k : Nat} {x : ByteArray} (hx : (valB V h)[k]? = some x) : (cntS V h).take (k + 1) = (cntS V h).take k ++ [(x, votS V x)] := by
  unfold cntS
  rw [List.take_add_one, List.getElem?_map, hx]; rfl
theorem votTo_c {V : List ByteArray} {n : Nat} (h : V.length = n) (x : ByteArray) : votTo V x n = votS V x := by unfold votS; rw [h]
theorem heaV_map (V : List ByteArray) (h : BitVec 16) (k : Nat) : (heaTo V h k).map Value.string = ((heaTo V h k).map ByteArray.toList).map encStr := by
  rw [List.map_map]
  refine List.map_congr_left fun b _ => ?_
  simp only [Function.comp_apply, encStr, bs_mk]
theorem valB_map (V : List ByteArray) (h : BitVec 16) : (valV V h).map encStr = (valB V h).map Value.string := by
  unfold valB; rw [List.map_map]; rfl

set_option maxRecDepth 100000 in
set_option maxHeartbeats 4000000 in
theorem count_f (V : List ByteArray) (h : BitVec 16) (a : Option Addr) (n c : Nat) (w : World) (hn : n ≤ 16) (hr : Rd w a n c (V.map Value.string)) :
    Calls Try.prog 40 #[.slice a n c, .int .u16 (U h)] w fun e w' => ∃ v, e = .returned v ∧ w'.ownsRow w.heap.size 65 2 v (cntS V h).length ((cntS V h).flatMap balC) ∧ Below w.heap.size w w' := by
  have hnl : V.length = n := by have := hr.len; simp at this; omega
  have hm := hr.max
  have hle := hr.le
  unfold maxLen at hm
  have HR := Lib.hid hr
  have HN := Lib.hid hnl
  clear hr hnl
  go_enter Try.func40, Try.ntmps40
  go_wp2_with fail
  go_loopw [5, 16] (fun v i wr => ∃ k : Nat, k ≤ n ∧ i = .int .i64 k ∧ wr.ownsRow w.heap.size 9 1 v (heaTo V h k).length ((heaTo V h k).map Value.string) ∧ Below w.heap.size w wr) (fun _ i _ => n - (intOf i).toNat)
  case atStart => exact ⟨0, Nat.zero_le _, rfl, World.ownsRow_nil _ _ _ _, Below.refl _ _⟩
  case round =>
    obtain ⟨k, hk, rfl, hown, hb⟩ := hrel
    by_cases hlt : k < n
    · obtain ⟨b, o, ha, hcell⟩ := (HR.out.below hb).at' (by omega)
      have hc := hcell k _ (st_cell (by have := HN.out; omega))
      have hst := heaTo_succ V h k
      have hml := heaTo_le V h k
      obtain ⟨y, hy⟩ : ∃ y, V.getD k ⟨#[]⟩ = y := ⟨_, rfl⟩
      rw [hy] at hc hst
      subst ha
      cases hq : (y.toList == [])
      · cases hh : hasB h k
        · rw [hq, hh] at hst
          have HS : Hid (heaTo V h (k + 1) = heaTo V h k) := by show _ = _; rw [hst]; simp
          clear hcell hy hst
          go_wp2_with fail
          go_roundw
          case rel => exact ⟨k + 1, by omega, by go_num, by rw [HS.out]; exact hown, hb⟩
          case measure => simp [intOf]; omega
        · rw [hq, hh] at hst
          have HS : Hid ((heaTo V h (k + 1)).map Value.string = (heaTo V h k).map Value.string ++ [.string y]) := by show _ = _; rw [hst]; simp
          have HL : Hid ((heaTo V h (k + 1)).length = (heaTo V h k).length + 1) := by show _ = _; rw [hst]; simp
          clear hcell hy hst
          go_wp2_with (at_builtin; go_must (refine wpList_app _ _ 31 16 (.string ⟨#[]⟩) (.string y) _ Try.underlying31 Try.infoStr rfl hown hb (Nat.le_refl _) rfl rfl rfl rfl rfl (by unfold maxLen; omega) (by omega) ?_))
          intro v' w1 hown1 hb1 _ _
          clear hown hb hc
          go_wp2_with fail
          go_roundw
          case rel => exact ⟨k + 1, by omega, by go_num, by rw [HS.out, HL.out]; exact hown1, hb1⟩
          case measure => simp [intOf]; omega
      · rw [hq] at hst
        have HS : Hid (heaTo V h (k + 1) = heaTo V h k) := by show _ = _; rw [hst]; simp
        clear hcell hy hst
        go_wp2_with fail
        go_roundw
        case rel => exact ⟨k + 1, by omega, by go_num, by rw [HS.out]; exact hown, hb⟩
        case measure => simp [intOf]; omega
    · obtain rfl : k = n := by omega
      rw [heaV_map] at hown
      have hsz : ((heaTo V h k).map ByteArray.toList).length ≤ k := by rw [List.length_map]; exact heaTo_le _ _ _
      have hown' : wr.ownsRow w.heap.size 9 1 u5 ((heaTo V h k).map ByteArray.toList).length (((heaTo V h k).map ByteArray.toList).map encStr) := by rw [List.length_map]; exact hown
      have HSO := Lib.hid (sortT_c _ _ _ wr hown' (by omega))
      have HOL := Lib.hid hown'.lt
      have hVV : Lib.compact (((heaTo V h k).map ByteArray.toList).mergeSort fun x y => decide (x ≤ y)) = valV V h := by unfold valV; rw [HN.out]
      have HVV := Lib.hid hVV
      have hsl : (((heaTo V h k).map ByteArray.toList).mergeSort fun x y => decide (x ≤ y)).length = ((heaTo V h k).map ByteArray.toList).length := List.length_mergeSort _
      have HSL := Lib.hid hsl
      have HSZ := Lib.hid hsz
      clear hown hown' hVV hsl hsz hlt
      go_wp2_with fail
      refine HSO.out.mono ?_
      rintro e w1 ⟨rfl, hown1, hg1⟩
      have hb1 := hb.grown hg1 hb.size (fun k hk => (HOL.out k hk).1)
      rw [← HSL.out] at hown1
      have HCO := Lib.hid (compactT_c _ _ _ w1 hown1 (by rw [HSL.out]; exact Nat.le_trans HSZ.out (by omega)))
      have HOL1 := Lib.hid hown1.lt
      rw [HVV.out] at HCO
      clear hb hown1 hg1 HSO HOL HVV HSL HSZ
      go_wp2_with fail
      refine HCO.out.mono ?_
      rintro e w2 ⟨a2, c2, rfl, hr2, hg2⟩
      have hb2 := hb1.grown hg2 hb1.size (fun k hk => (HOL1.out k hk).1)
      have hvl := valV_le V h
      rw [HN.out] at hvl
      obtain ⟨m, hm2⟩ : ∃ m, (valV V h).length = m := ⟨_, rfl⟩
      rw [valB_map] at hr2
      rw [hm2] at hr2 hvl
      have HM := Lib.hid hm2
      have HR2 := Lib.hid hr2
      have hle2 := hr2.le
      have hmx2 := hr2.max
      unfold maxLen at hmx2
      rw [hm2]
      have HB2 := Lib.hid hb2
      clear hb1 hg2 hr2 hm2 HCO HOL1 hb2
      go_wp2_with fail
      go_loopw [8, 40] (fun v i wr => ∃ j : Nat, j ≤ m ∧ i = .int .i64 j ∧ wr.ownsRow w2.heap.size 65 2 v j (((cntS V h).take j).flatMap balC) ∧ Below w2.heap.size w2 wr) (fun _ i _ => m - (intOf i).toNat)
      case atStart => exact ⟨0, Nat.zero_le _, rfl, by simpa using World.ownsRow_nil _ _ _ _, Below.refl _ _⟩
      case round =>
        obtain ⟨j, hj, rfl, hown, hb⟩ := hrel
        have hbw := Below.next HB2.out hb
        by_cases hlt : j < m
        · obtain ⟨x, hx⟩ : ∃ x, (valB V h)[j]? = some x := ⟨_, List.getElem?_eq_getElem (by rw [valB_len, HM.out]; exact hlt)⟩
          obtain ⟨b, o, ha, hcell⟩ := (HR2.out.below hb).at' (by omega)
          have hc := hcell j (.string x) (by rw [List.getElem?_map, hx]; rfl)
          have HST := Lib.hid (cnt_take hx)
          subst ha
          clear hcell hx
          go_wp2_with fail
          obtain ⟨wo, rfl⟩ : ∃ wo, wo = wr := ⟨_, rfl⟩
          obtain ⟨B, hB⟩ : ∃ B, wo.heap.size = B := ⟨_, rfl⟩
          have g0 : (wo.alloc (.cells #[.string x, .int .u16 (U 0#16)] 65)).heap[B]? = some (.cells #[.string x, .int .u16 (U 0#16)] 65 (0, 0)) := by rw [← hB]; exact heap_alloc_new wo _
          obtain ⟨W, hW⟩ : ∃ W, wo.alloc (.cells #[.string x, .int .u16 (U 0#16)] 65) = W := ⟨_, rfl⟩
          have hbW : Below wo.heap.size wo W := by rw [← hW]; exact (Below.refl _ wo).alloc (Nat.le_refl _) _
          rw [hW] at g0
          have hW' : wo.alloc (.cells #[.string x, .int .u16 0] 65) = W := hW
          rw [hB, hW']
          have hBW : B < W.heap.size := (Array.getElem?_eq_some_iff.1 g0).1
          have HBW := Lib.hid hbW
          have HO := Lib.hid hown
          have HBB := Lib.hid hb
          have HBw := Lib.hid hbw
          have HG0 := Lib.hid g0
          have HBE := Lib.hid hB
          clear hW hW' hbW hc g0 hown hb hbw hB
          go_loopw [48] (fun i wr => ∃ q : Nat, q ≤ k ∧ i = .int .i64 q ∧ wr.heap[B]? = some (.cells #[.string x, .int .u16 (U (votTo V x q))] 65 (0, 0)) ∧ Below wo.heap.size wo wr) (fun i _ => k - (intOf i).toNat)
          case atStart => exact ⟨0, Nat.zero_le _, rfl, HG0.out, HBW.out⟩
          case round =>
            obtain ⟨q, hq, rfl, hg, hb3⟩ := hrel
            by_cases hlt2 : q < k
            · obtain ⟨b2, o2, ha2, hcell⟩ := (HR.out.below (Below.next HBw.out hb3)).at' (by omega)
              have hc := hcell q _ (st_cell (by have := HN.out; omega))
              have hst := votTo_succ V x q
              obtain ⟨y, hy⟩ : ∃ y, V.getD q ⟨#[]⟩ = y := ⟨_, rfl⟩
              rw [hy] at hc hst
              subst ha2
              cases hq2 : (y.toList == x.toList)
              · rw [hq2] at hst
                have HS : Hid (votTo V x (q + 1) = votTo V x q) := hst
                clear hcell hy hst
                go_wp2_with fail
                go_roundw
                case rel => exact ⟨q + 1, by omega, by go_num, by rw [HS.out]; exact hg, hb3⟩
                case measure => simp [intOf]; omega
              · rw [hq2] at hst
                obtain ⟨s, hs⟩ : ∃ s, votTo V x q = s := ⟨_, rfl⟩
                rw [hs] at hst hg
                have HS : Hid (votTo V x (q + 1) = s ||| bitS q) := hst
                have z0 : wr.cell? ⟨B, 0, none⟩ = some (.string x) := cell_of_row _ _ 0 _ _ _ hg
                have z1 : wr.cell? ⟨B, 1, none⟩ = some (.int .u16 (U s)) := cell_of_row _ _ 1 _ _ _ hg
                have z2 : wr.frozen? ⟨B, 1, none⟩ = false := by simp [World.frozen?, hg]
                have hg2 := heap_set_at hg 1 (.int .u16 (U (s ||| bitS q)))
                have hb4 := hb3.setCell (p := ⟨B, 1, none⟩) (by rw [HBE.out]; exact Nat.le_refl _) (.int .u16 (U (s ||| bitS q)))
                have HG2 := Lib.hid hg2
                have HB4 := Lib.hid hb4
                clear hcell hy hst hs hg hg2 hb4
                go_wp2_with fail
                go_region
                go_wp2_with fail
                go_roundw
                case rel => exact ⟨q + 1, by omega, by go_num, by rw [HS.out]; exact HG2.out, below_drew HB4.out⟩
                case measure => simp [intOf]; omega
            · obtain rfl : q = k := by omega
              rw [votTo_c HN.out] at hg
              obtain ⟨s, hs⟩ : ∃ s, votS V x = s := ⟨_, rfl⟩
              rw [hs] at hg
              have HST2 := HST.out
              rw [hs] at HST2
              have HST3 := Lib.hid HST2
              have z0 : wr.cell? ⟨B, 0, none⟩ = some (.string x) := cell_of_row _ _ 0 _ _ _ hg
              have z1 : wr.cell? ⟨B, 1, none⟩ = some (.int .u16 (U s)) := cell_of_row _ _ 1 _ _ _ hg
              have hown := rowK_below HO.out hb3
              have hb5 := Below.next HBB.out hb3
              clear hs hg HST HST2 hb3
              go_wp2_with (at_builtin; go_must (refine wpList_appK 2 _ _ 62 24 (.agg #[.string ⟨#[]⟩, .int .u16 0]) (balC (x, s)) _ Try.underlying62 Try.infoBal rfl (by decide) hown hb5 (Nat.le_refl _) rfl rfl rfl rfl rfl (by intro u hu; exact bal_one [(x, s)] u (by simpa using hu)) (by unfold maxLen; omega) (by omega) ?_))
              intro v' w4 hown4 hb4 hg4 hs4
              clear hown hb5 z0 z1
              go_wp2_with fail
              go_roundw
              case rel => exact ⟨j + 1, by omega, by go_num, by rw [HST3.out, List.flatMap_append]; simpa using hown4, hb4⟩
              case measure => simp [intOf]; omega
        · obtain rfl : j = m := by omega
          have hcl : (cntS V h).length = j := by unfold cntS; rw [List.length_map, valB_len, HM.out]
          rw [List.take_of_length_le (by omega)] at hown
          have HCL := Lib.hid hcl
          have HO := Lib.hid (rowK_mono hown HB2.out.size)
          have HBW := Lib.hid hbw
          clear hown hb hbw hcl
          go_wp2_with fail
          go_ret
          exact ⟨_, rfl, by rw [HCL.out]; exact HO.out, HBW.out⟩
end Go.Proofs.Ytopcejcfghdeeaa
