/- Laws of layer 7: sequences left early. -/
import Derived.Test.YthkboibhkpkliaaDoorRf
namespace Go.Proofs.YthkboibhkpkliaaDoor
open Go.RowKit Go.Shelf
attribute [local go_sem] Oper.semAt_some
theorem wide_fn (f : FuncId) : Fence.wide.fn f = True := rfl
attribute [local simp] wide_fn

theorem conv_u8 (N : Nat) (h : N ≤ 255) : IntKind.i64.wrap (N : Int) = N := by rw [IntKind.wrap_i64]; omega

set_option maxRecDepth 100000 in
set_option maxHeartbeats 4000000 in
theorem setEarly_in (x : BitVec 16) (k : Int) (N : Nat) (hN : N ≤ 255) (w : World) (ht : HasTab w) (hd : decide ((8 : Int) < (cnt x : Int)) = false) :
    CallsIn Fence.wide 5 Tryd.prog 6 #[.int .u16 (U x), .int .i64 k, .int .u8 (N : Int)] w fun e w' => e = .returned (.bool true) ∧ Below w.heap.size w w' := by
  have HT := Lib.hid ht
  clear ht
  obtain ⟨i0, hi0, hz0, hz1, hz2⟩ := info_parts Tryd.infoSet
  have hb0 : Below w.heap.size w (w.alloc (.cells #[.int .u8 N] 5)) := (Below.refl _ _).alloc (Nat.le_refl _) _
  have HA := Lib.hid (awake_c _ (HT.out.below hb0))
  refine callsIn_of_wp_marks Tryd.func6 rfl trivial ?_ rfl
  simp only [Tryd.ntmps6, List.size_toArray, List.length_cons, List.length_nil, Nat.reduceAdd, Nat.reduceSub, Array.replicate_succ, Array.replicate_zero, List.push_toArray, List.append_toArray, List.nil_append, List.cons_append]
  gi_wp2_with fail
  refine (callsIn_wide.2 HA.out).mono ?_
  rintro e w3 ⟨rfl, hb⟩
  have hn3 : w3.cell? ⟨w.heap.size, 0, none⟩ = some (.int .u8 N) := (hb.cell (p := ⟨w.heap.size, 0, none⟩) (by simp)).trans (cell_new _ _ _ 0 _ rfl)
  have hb1 := Below.next hb0 hb
  have HN3 := Lib.hid hn3
  clear hb0 hb hn3
  gi_wp2_with fail
  refine (callsIn_wide.2 (rcount_c x _ _ rfl)).mono ?_
  rintro e w4 ⟨rfl, hb2⟩
  have hb3 := Below.next hb1 hb2
  have hn4 := (hb2.cell (p := ⟨w.heap.size, 0, none⟩) (cell_lt HN3.out)).trans HN3.out
  have HN4 := Lib.hid hn4
  clear hb1 hb2 HN3 hn4
  gi_wp2_with fail
  refine (callsIn_wide.2 (subsets_c x _ _ rfl)).mono ?_
  rintro e w5 ⟨rfl, hw5'⟩
  have HW5 := Lib.hid hw5'
  clear hw5'
  gi_wp2_with fail
  refine (callsIn_wide.2 (choosem_c x _ k _ rfl)).mono ?_
  rintro e w6 ⟨rfl, hw6⟩
  have hw5 := HW5.out
  clear HW5
  obtain ⟨b1, hb1⟩ : ∃ b1, b1 = w4.heap.size := ⟨_, rfl⟩
  have F0 : Below w4.heap.size w4 w6 := by
    rw [hw6, hw5]
    exact (((Below.refl _ _).alloc (Nat.le_refl _) _).alloc (by simp) _).alloc (by simp; omega) _
  have F1 : w6.cell? ⟨b1, 0, none⟩ = some (.int .u16 (U x)) := by
    rw [hw6, hb1]
    rw [(((Below.refl w5.heap.size w5).alloc (Nat.le_refl _) _).alloc (by simp) _).cell (p := ⟨w4.heap.size, 0, none⟩) (by rw [hw5]; simp), hw5]
    exact cell_new _ _ _ 0 _ rfl
  have e5 : w5.heap.size = b1 + 1 := by rw [hw5, hb1]; simp
  have F2 : w6.cell? ⟨b1 + 1, 0, none⟩ = some (.int .u16 (U x)) := by
    rw [hw6]
    rw [((Below.refl (w5.alloc (.cells #[.int .u16 (U x)] 23)).heap.size (w5.alloc (.cells #[.int .u16 (U x)] 23))).alloc (Nat.le_refl _) _).cell (p := ⟨b1 + 1, 0, none⟩) (by simp [e5])]
    exact cell_new' _ _ _ 0 _ rfl e5.symm
  have F3 : w6.cell? ⟨b1 + 1 + 1, 0, none⟩ = some (.int .i64 k) := by rw [hw6]; exact cell_new' _ _ _ 0 _ rfl (by simp [e5])
  have F4 : w6.cell? ⟨w.heap.size, 0, none⟩ = some (.int .u8 N) := (F0.cell (p := ⟨w.heap.size, 0, none⟩) (cell_lt HN4.out)).trans HN4.out
  have F5 : Below w.heap.size w w6 := Below.next hb3 F0
  have F6 : HasTab w6 := HT.out.below F5
  have G0 : w6.heap.size = b1 + 3 := by rw [hw6]; simp [e5]
  have HF1 := Lib.hid F1
  have HF2 := Lib.hid F2
  have HF3 := Lib.hid F3
  have HF4 := Lib.hid F4
  have HF5 := Lib.hid F5
  have HF6 := Lib.hid F6
  clear F1 F2 F3 F4 F5 F6 G0 F0 HN4 HA HT hb3
  rw [← hb1, e5]
  have e6 : w5.heap.size = b1 + 1 := e5
  clear hw5 hw6 e5 e6 hb1
  gi_wp2_with fail
  refine wpIn_loop (fun a W => ∃ (i : Nat) (z : Int) (u9 u10 u11 u12 u13 u14 u29 u30 u31 u32 u33 u34 u35 u36 u37 u38 u39 u40 u41 u42 u43 u44 u45 u46 u47 u48 u49 u50 u51 u52 u53 u54 u55 u56 u57 u58 u59 u60 u61 u62 u63 u64 u65 u66 u67 u68 u69 u70 u71 u72 u73 u74 u75 u76 u77 u78 u79 : Value) (Ds : List Nat), z = (i : Int) ∧ i ≤ 2 ∧ a = { tmps := #[.int .u16 (U x), .int .i64 k, .int .u8 (N : Int), undef, undef, .pointer (some ⟨w.heap.size, 0, none⟩), .bool false, .func (.func 44) #[] #[.pointer (some ⟨b1, 0, none⟩)], .func (.func 46) #[] #[.pointer (some ⟨b1 + 1, 0, none⟩), .pointer (some ⟨b1 + 1 + 1, 0, none⟩)], u9, u10, u11, u12, u13, u14, .bool true, .bool false, .bool false, .int .u16 (U x), .int .i64 (cnt x), .bool false, .bool false, undef, .int .u16 (U x), .func (.func 44) #[] #[.pointer (some ⟨b1, 0, none⟩)], .int .u16 (U x), .int .i64 k, .func (.func 46) #[] #[.pointer (some ⟨b1 + 1, 0, none⟩), .pointer (some ⟨b1 + 1 + 1, 0, none⟩)], .int .i64 z, u29, u30, u31, u32, u33, u34, u35, u36, u37, u38, u39, u40, u41, u42, u43, u44, u45, u46, u47, u48, u49, u50, u51, u52, u53, u54, u55, u56, u57, u58, u59, u60, u61, u62, u63, u64, u65, u66, u67, u68, u69, u70, u71, u72, u73, u74, u75, u76, u77, u78, u79], defers := Ds.map markD } ∧ Ds.Nodup ∧ (∀ D ∈ Ds, w6.heap.size ≤ D ∧ W.heap[D]? = some (.deferred (some []))) ∧ Below w6.heap.size w6 W) (fun a _ => 2 - (intOf (a.tmps.getD 28 undef)).toNat) ⟨0, 0, _, _, _, _, _, _, _, _, _, _, _, _, _, _, _, _, _, _, _, _, _, _, _, _, _, _, _, _, _, _, _, _, _, _, _, _, _, _, _, _, _, _, _, _, _, _, _, _, _, _, _, _, _, _, _, _, _, [], rfl, by omega, rfl, List.nodup_nil, fun D hD => (by cases hD), Below.refl _ _⟩ ?_
  rintro a W ⟨i, z, u9, u10, u11, u12, u13, u14, u29, u30, u31, u32, u33, u34, u35, u36, u37, u38, u39, u40, u41, u42, u43, u44, u45, u46, u47, u48, u49, u50, u51, u52, u53, u54, u55, u56, u57, u58, u59, u60, u61, u62, u63, u64, u65, u66, u67, u68, u69, u70, u71, u72, u73, u74, u75, u76, u77, u78, u79, Ds, rfl, hi, rfl, hnd, hds, hbW⟩
  have HND := Lib.hid hnd
  have HDS := Lib.hid hds
  have HBW := Lib.hid hbW
  clear hnd hds hbW
  by_cases hlt : i < 2
  · have HNn : Hid (N ≤ 255) := hN
    gi_wp2_with fail
    obtain ⟨Ba, hBa⟩ : ∃ Ba, Ba = W.heap.size := ⟨_, rfl⟩
    obtain ⟨W1, hW1⟩ : ∃ W1, W1 = (W.alloc (.cells #[.slice none 0 0] 28)).alloc (.cells #[.slice none 0 0] 28) := ⟨_, rfl⟩
    have E1 : Below W.heap.size W W1 := by rw [hW1]; exact ((Below.refl _ _).alloc (Nat.le_refl _) _).alloc (by simp) _
    have E2 : Fills W1.heap.size Ba W1 [] := by
      refine ⟨.slice none 0 0, ?_, World.ownsRow_nil _ _ _ _, trivial⟩
      rw [hW1, hBa]; exact (Boxed.new _ _ _).alloc _
    have E3 : Old W1.heap.size (Ba + 1) (.slice none 0 0) [] W1 := by
      refine ⟨.slice none 0 0, ?_, World.ownsRow_nil _ _ _ _, rfl, fun g h => by cases h⟩
      rw [hW1, hBa]
      have := Boxed.new (W.alloc (.cells #[.slice none 0 0] 28)) 28 (.slice none 0 0)
      rwa [World.size_alloc] at this
    have E4 : Below w6.heap.size w6 W1 := Below.next HBW.out E1
    have E5 : Ba ≤ W1.heap.size := by rw [hW1, hBa]; simp; omega
    have E6 : w6.heap.size ≤ Ba := by rw [hBa]; exact HBW.out.size
    rw [← hBa] at E1
    rw [← hBa, ← hW1]
    have H1 := Lib.hid E1
    have H2 := Lib.hid E2
    have H3 := Lib.hid E3
    have H4 := Lib.hid E4
    have H5 := Lib.hid E5
    have H6 := Lib.hid E6
    have HW := Lib.hid hBa
    clear E1 E2 E3 E4 E5 E6 hW1 hBa hN
    have hseq := subsets1_stops 4 b1 (CCol Ba) (fun k => .inr ⟨by decide, by decide⟩) (fun t => .inl (Nat.lt_of_lt_of_le (cell_lt (HF6.out 0 (by decide))) H6.out)) (fun t => .inl (Nat.lt_of_lt_of_le (cell_lt HF1.out) H6.out)) x W1 (HF6.out.below H4.out) ((H4.out.cell (p := ⟨b1, 0, none⟩) (cell_lt HF1.out)).trans HF1.out)
    have HSq := Lib.hid hseq
    clear hseq
    refine wpIn_mid 2 (fun D Wr => Fills W1.heap.size Ba Wr ((subsS x).take N) ∧ Old W1.heap.size (Ba + 1) (.slice none 0 0) [] Wr ∧ Bel Ba W W1.heap.size Wr ∧ W1.heap.size ≤ D ∧ Wr.heap[D]? = some (.deferred (some []))) (fun _ _ h => h) ?_ ?_
    · refine rangeFunc_ex rfl (by decide) rfl trivial (enters_of Tryd.func44 (by kernel_rfl) rfl) HSq.out KeepC.trans kT_b (Below.refl _ _) (fun _ => rfl)
        (fun pre Wr => (Fills W1.heap.size Ba Wr pre ∧ Old W1.heap.size (Ba + 1) (.slice none 0 0) [] Wr) ∧ pre.length ≤ N ∧ Bel Ba W W1.heap.size Wr)
        (fun c ys Wr => c = .exit 2 ∧ ((Fills W1.heap.size Ba Wr ys.dropLast ∧ Old W1.heap.size (Ba + 1) (.slice none 0 0) [] Wr) ∧ (ys.dropLast.length = N ∧ ys ≠ []) ∧ Bel Ba W W1.heap.size Wr))
        ?hI ?hIx ?h0 ?done ?stop ?A
      case hI => exact OwnFrom.and (OwnFrom.and (fills_own _ _ _) (old_own _ _ _ _ _)) (OwnFrom.and (pure_own _) (bel_own (by rw [← HW.out]; exact Nat.le_refl _) H5.out))
      case hIx =>
        intro c
        refine OwnFrom.and (pure_own (p := fun _ => c = .exit 2) _) (OwnFrom.and (OwnFrom.and (fun s W W' row h hg hr => fills_own _ _ _ s.dropLast W W' row h hg hr) (old_own _ _ _ _ _)) (OwnFrom.and (pure_own (p := fun ys => ys.dropLast.length = N ∧ ys ≠ []) _) (bel_own (by rw [← HW.out]; exact Nat.le_refl _) H5.out)))
      case h0 => exact ⟨⟨H2.out, H3.out⟩, Nat.zero_le _, H1.out, Nat.le_refl _⟩
      case done =>
        rintro D ys Wr hD rfl ⟨⟨f1, f2⟩, hl, hb⟩ hK
        exact ⟨D, .inl rfl, rfl, by rw [List.take_of_length_le hl]; exact f1, f2, hb, hD, hK⟩
      case stop =>
        rintro D c ys Wr hD hp ⟨rfl, ⟨f1, f2⟩, ⟨hl, hne⟩, hb⟩ hK
        have hq : ys.dropLast = (subsS x).take N := by
          have h1 : ys.dropLast <+: (subsS x) := (List.dropLast_prefix ys).trans hp
          rw [← hl]; exact List.prefix_iff_eq_take.1 h1
        rw [hq] at f1
        gi_wp2_with fail
        all_goals exact ⟨D, .inr rfl, rfl, f1, f2, hb, hD, hK⟩
      case A =>
        refine ⟨fun y => { tmps := #[.int .u16 (U x), .int .i64 k, .int .u8 (N : Int), undef, undef, .pointer (some ⟨w.heap.size, 0, none⟩), .bool false, .func (.func 44) #[] #[.pointer (some ⟨b1, 0, none⟩)], .func (.func 46) #[] #[.pointer (some ⟨b1 + 1, 0, none⟩), .pointer (some ⟨b1 + 1 + 1, 0, none⟩)], .pointer (some ⟨Ba, 0, none⟩), .pointer (some ⟨Ba + 1, 0, none⟩), .int .u16 (U y), u12, u13, u14, .bool true, .bool false, .bool false, .int .u16 (U x), .int .i64 (cnt x), .bool false, .bool false, undef, .int .u16 (U x), .func (.func 44) #[] #[.pointer (some ⟨b1, 0, none⟩)], .int .u16 (U x), .int .i64 k, .func (.func 46) #[] #[.pointer (some ⟨b1 + 1, 0, none⟩), .pointer (some ⟨b1 + 1 + 1, 0, none⟩)], .int .i64 (i : Int), .bool true, .func (.func 44) #[] #[.pointer (some ⟨b1, 0, none⟩)], .int .u16 (U y), u32, u33, u34, u35, u36, u37, u38, u39, u40, u41, u42, u43, u44, u45, u46, u47, u48, u49, u50, u51, u52, u53, u54, u55, u56, u57, u58, u59, u60, u61, u62, u63, u64, u65, u66, u67, u68, u69, u70, u71, u72, u73, u74, u75, u76, u77, u78, u79], defers := [] }, ?_, ?_⟩
        · intro l y Wr K hK
          gi_wp2_with fail
          exact hK
        · rintro l pre y Wr ⟨⟨⟨v, hv, hrow, _⟩, hf2⟩, hl, hb⟩ hlt2
          have hnc : Wr.cell? ⟨w.heap.size, 0, none⟩ = some (.int .u8 N) := by
            rw [hb.1.cell (p := ⟨w.heap.size, 0, none⟩) (Nat.lt_of_lt_of_le (cell_lt HF4.out) H6.out), HBW.out.cell (p := ⟨w.heap.size, 0, none⟩) (cell_lt HF4.out)]
            exact HF4.out
          obtain ⟨m, hm⟩ : ∃ m, pre.length = m := ⟨_, rfl⟩
          obtain ⟨av, cv, rfl, _⟩ := rd_of_row hrow
          have hc := hv.cell
          have HB := Lib.hid hb
          have HF := Lib.hid hf2
          have hN' := HNn.out
          have hszr : Hid (W1.heap.size ≤ Wr.heap.size) := hb.2
          clear hb hf2 hlt2
          by_cases hmn : m = N
          · have h1 : ((pre.length : Int) == (N : Int)) = true := by rw [hm, hmn]; simp
            have h2 : (pre ++ [y]).dropLast = pre := by simp
            have h3 : Hid (pre.length = N) := hm.trans hmn
            have H2' := Lib.hid h2
            clear hm hmn h2
            gi_wp2_with fail
            exact ⟨KeepsFrom.refl _ _, rfl, ⟨by rw [H2'.out]; exact ⟨_, hv, hrow, trivial⟩, HF.out⟩, ⟨by rw [H2'.out]; exact h3.out, by simp⟩, HB.out⟩
          · have h1 : ((pre.length : Int) == (N : Int)) = false := by rw [hm, beq_eq_false_iff_ne]; omega
            have h4 : pre.length + 1 ≤ N := by omega
            have h5 : Hid ((pre ++ [y]).length ≤ N) := by show (pre ++ [y]).length ≤ N; rw [List.length_append]; exact h4
            clear hm hmn
            gi_wp2_with (gi_at_builtin; refine wpListIn_append_own _ rfl _ _ 28 rfl W1.heap.size 23 i0 (.int .u16 0) 1 2 Tryd.underlying28 hi0 hz0 hz1 hz2 rfl (by decide) _ _ _ rfl (hrow.alloc _) ⟨Wr.heap.size, 0, none⟩ 1 1 [.int .u16 (U y)] rfl rfl (cell_one_new _ _ _) (by simp [Value.oneCell']) (by unfold maxLen; omega) (by omega) (by have := hszr.out; simp; omega) ?_; intro v' w1 hown' hgrow _; obtain ⟨g', cap', rfl⟩ := ownsRow_succ hown'; obtain ⟨hv1, hv2, hr2, hk2, hb2⟩ := hv.appended (by decide) (row_mono hrow H5.out) (Nat.le_trans H5.out hszr.out) (by omega) (row_mono hown' H5.out) hgrow; have hkk := keepC_append (v' := .slice (some ⟨g', 0, none⟩) (pre.length + 1) cap') (by omega) hv (row_mono hrow H5.out) hgrow hv1; have hold := HF.out.keep (v' := .slice (some ⟨g', 0, none⟩) (pre.length + 1) cap') hrow hgrow (by omega) hv1; have hr3 := hown'.kept (grownBy_setCell' w1 Ba (.slice (some ⟨g', 0, none⟩) (pre.length + 1) cap')) (.inr (hv1.not_row (by decide) hown').symm); have hc1 := hv1.cell; have hf1 := hv1.frozen)
            exact ⟨hk2.from _, hkk, ⟨⟨_, hv2, by simpa [setV] using hr3, trivial⟩, hold⟩, h5.out, HB.out.1.trans hb2, Nat.le_trans HB.out.2 hb2.size⟩
    · rintro D W2 ⟨f1, f2, hb, hD, hK⟩
      obtain ⟨va, g1⟩ := f1.old
      have g2 : Fills W2.heap.size (Ba + 1) W2 [] := f2.fills
      have g3 : D < W2.heap.size := (Array.getElem?_eq_some_iff.1 hK).1
      have g4 : Ba ≤ W2.heap.size := Nat.le_trans H5.out hb.2
      have g5 : HasTab W2 := fun j hj => by
        have h1 := HF6.out.below HBW.out j hj
        rw [hb.1.cell (p := ⟨0, j, none⟩) (by rw [HW.out]; exact cell_lt h1)]; exact h1
      have g6 : W2.cell? ⟨b1 + 1, 0, none⟩ = some (.int .u16 (U x)) := by
        rw [hb.1.cell (p := ⟨b1 + 1, 0, none⟩) (Nat.lt_of_lt_of_le (cell_lt HF2.out) H6.out), HBW.out.cell (p := ⟨b1 + 1, 0, none⟩) (cell_lt HF2.out)]; exact HF2.out
      have g7 : W2.cell? ⟨b1 + 1 + 1, 0, none⟩ = some (.int .i64 k) := by
        rw [hb.1.cell (p := ⟨b1 + 1 + 1, 0, none⟩) (Nat.lt_of_lt_of_le (cell_lt HF3.out) H6.out), HBW.out.cell (p := ⟨b1 + 1 + 1, 0, none⟩) (cell_lt HF3.out)]; exact HF3.out
      have hseq := choose1_stops 4 (b1 + 1) (b1 + 1 + 1) (CCol Ba) (fun k => .inr ⟨by decide, by decide⟩) (fun t => .inl (Nat.lt_of_lt_of_le (cell_lt (HF6.out 0 (by decide))) H6.out)) (fun t => .inl (Nat.lt_of_lt_of_le (cell_lt HF2.out) H6.out)) (fun t => .inl (Nat.lt_of_lt_of_le (cell_lt HF3.out) H6.out)) x k W2 g5 g6 g7
      have K1 := Lib.hid hb.1
      have K2 := Lib.hid g2
      have K3 : Hid (Old W2.heap.size Ba va ((subsS x).take N) W2 ∧ Mark D W2) := ⟨g1, hK⟩
      have K5 := Lib.hid g4
      have JD := Lib.hid g3
      have J4 := Lib.hid hD
      have KSq := Lib.hid hseq
      clear f1 f2 hb hD hK g1 g2 g3 g4 g5 g6 g7 hseq HSq
      gi_wp2_with fail
      refine wpIn_mid 4 (fun D2 Wr => Fills W2.heap.size (Ba + 1) Wr ((chooseS x k).take N) ∧ (Old W2.heap.size Ba va ((subsS x).take N) Wr ∧ Mark D Wr) ∧ Bel Ba W W2.heap.size Wr ∧ W2.heap.size ≤ D2 ∧ Wr.heap[D2]? = some (.deferred (some []))) (fun _ _ h => h) ?_ ?_
      · refine rangeFunc_ex rfl (by decide) rfl trivial (enters_of Tryd.func46 (by kernel_rfl) rfl) KSq.out KeepC.trans kT_b (Below.refl _ _) (fun _ => rfl)
          (fun pre Wr => (Fills W2.heap.size (Ba + 1) Wr pre ∧ (Old W2.heap.size Ba va ((subsS x).take N) Wr ∧ Mark D Wr)) ∧ pre.length ≤ N ∧ Bel Ba W W2.heap.size Wr)
          (fun c ys Wr => c = .exit 4 ∧ ((Fills W2.heap.size (Ba + 1) Wr ys.dropLast ∧ (Old W2.heap.size Ba va ((subsS x).take N) Wr ∧ Mark D Wr)) ∧ (ys.dropLast.length = N ∧ ys ≠ []) ∧ Bel Ba W W2.heap.size Wr))
          ?hI ?hIx ?h0 ?done ?stop ?A
        case hI => exact OwnFrom.and (OwnFrom.and (fills_own _ _ _) (OwnFrom.and (old_own _ _ _ _ _) (mark_own JD.out))) (OwnFrom.and (pure_own _) (bel_own (by rw [← HW.out]; exact Nat.le_refl _) K5.out))
        case hIx =>
          intro c
          refine OwnFrom.and (pure_own (p := fun _ => c = .exit 4) _) (OwnFrom.and (OwnFrom.and (fun s W W' row h hg hr => fills_own _ _ _ s.dropLast W W' row h hg hr) (OwnFrom.and (old_own _ _ _ _ _) (mark_own JD.out))) (OwnFrom.and (pure_own (p := fun ys => ys.dropLast.length = N ∧ ys ≠ []) _) (bel_own (by rw [← HW.out]; exact Nat.le_refl _) K5.out)))
        case h0 => exact ⟨⟨K2.out, K3.out⟩, Nat.zero_le _, K1.out, Nat.le_refl _⟩
        case done =>
          rintro D2 ys Wr hD rfl ⟨⟨f1, f2⟩, hl, hb⟩ hK
          exact ⟨D2, .inl rfl, rfl, by rw [List.take_of_length_le hl]; exact f1, f2, hb, hD, hK⟩
        case stop =>
          rintro D2 c ys Wr hD hp ⟨rfl, ⟨f1, f2⟩, ⟨hl, hne⟩, hb⟩ hK
          have hq : ys.dropLast = (chooseS x k).take N := by
            have h1 : ys.dropLast <+: (chooseS x k) := (List.dropLast_prefix ys).trans hp
            rw [← hl]; exact List.prefix_iff_eq_take.1 h1
          rw [hq] at f1
          gi_wp2_with fail
          all_goals exact ⟨D2, .inr rfl, rfl, f1, f2, hb, hD, hK⟩
        case A =>
          refine ⟨fun y => { tmps := #[.int .u16 (U x), .int .i64 k, .int .u8 (N : Int), undef, undef, .pointer (some ⟨w.heap.size, 0, none⟩), .bool false, .func (.func 44) #[] #[.pointer (some ⟨b1, 0, none⟩)], .func (.func 46) #[] #[.pointer (some ⟨b1 + 1, 0, none⟩), .pointer (some ⟨b1 + 1 + 1, 0, none⟩)], .pointer (some ⟨Ba, 0, none⟩), .pointer (some ⟨Ba + 1, 0, none⟩), u11, .int .u16 (U y), u13, u14, .bool true, .bool false, .bool false, .int .u16 (U x), .int .i64 (cnt x), .bool false, .bool false, undef, .int .u16 (U x), .func (.func 44) #[] #[.pointer (some ⟨b1, 0, none⟩)], .int .u16 (U x), .int .i64 k, .func (.func 46) #[] #[.pointer (some ⟨b1 + 1, 0, none⟩), .pointer (some ⟨b1 + 1 + 1, 0, none⟩)], .int .i64 (i : Int), .bool true, .func (.func 44) #[] #[.pointer (some ⟨b1, 0, none⟩)], u31, u32, u33, u34, u35, u36, u37, u38, u39, u40, .func (.func 46) #[] #[.pointer (some ⟨b1 + 1, 0, none⟩), .pointer (some ⟨b1 + 1 + 1, 0, none⟩)], .int .u16 (U y), u43, u44, u45, u46, u47, u48, u49, u50, u51, u52, u53, u54, u55, u56, u57, u58, u59, u60, u61, u62, u63, u64, u65, u66, u67, u68, u69, u70, u71, u72, u73, u74, u75, u76, u77, u78, u79], defers := [] }, ?_, ?_⟩
          · intro l y Wr K hK
            gi_wp2_with fail
            exact hK
          · rintro l pre y Wr ⟨⟨⟨v, hv, hrow, _⟩, hf2⟩, hl, hb⟩ hlt2
            have hnc : Wr.cell? ⟨w.heap.size, 0, none⟩ = some (.int .u8 N) := by
              rw [hb.1.cell (p := ⟨w.heap.size, 0, none⟩) (Nat.lt_of_lt_of_le (cell_lt HF4.out) H6.out), HBW.out.cell (p := ⟨w.heap.size, 0, none⟩) (cell_lt HF4.out)]
              exact HF4.out
            obtain ⟨m, hm⟩ : ∃ m, pre.length = m := ⟨_, rfl⟩
            obtain ⟨av, cv, rfl, _⟩ := rd_of_row hrow
            have hc := hv.cell
            have HB := Lib.hid hb
            have HF := Lib.hid hf2
            have hN' := HNn.out
            have hszr : Hid (W2.heap.size ≤ Wr.heap.size) := hb.2
            clear hb hf2 hlt2
            by_cases hmn : m = N
            · have h1 : ((pre.length : Int) == (N : Int)) = true := by rw [hm, hmn]; simp
              have h2 : (pre ++ [y]).dropLast = pre := by simp
              have h3 : Hid (pre.length = N) := hm.trans hmn
              have H2' := Lib.hid h2
              clear hm hmn h2
              gi_wp2_with fail
              exact ⟨KeepsFrom.refl _ _, rfl, ⟨by rw [H2'.out]; exact ⟨_, hv, hrow, trivial⟩, HF.out⟩, ⟨by rw [H2'.out]; exact h3.out, by simp⟩, HB.out⟩
            · have h1 : ((pre.length : Int) == (N : Int)) = false := by rw [hm, beq_eq_false_iff_ne]; omega
              have h4 : pre.length + 1 ≤ N := by omega
              have h5 : Hid ((pre ++ [y]).length ≤ N) := by show (pre ++ [y]).length ≤ N; rw [List.length_append]; exact h4
              clear hm hmn
              gi_wp2_with (gi_at_builtin; refine wpListIn_append_own _ rfl _ _ 28 rfl W2.heap.size 23 i0 (.int .u16 0) 1 2 Tryd.underlying28 hi0 hz0 hz1 hz2 rfl (by decide) _ _ _ rfl (hrow.alloc _) ⟨Wr.heap.size, 0, none⟩ 1 1 [.int .u16 (U y)] rfl rfl (cell_one_new _ _ _) (by simp [Value.oneCell']) (by unfold maxLen; omega) (by omega) (by have := hszr.out; simp; omega) ?_; intro v' w1 hown' hgrow _; obtain ⟨g', cap', rfl⟩ := ownsRow_succ hown'; obtain ⟨hv1, hv2, hr2, hk2, hb2⟩ := hv.appended (by decide) (row_mono hrow K5.out) (Nat.le_trans K5.out hszr.out) (by omega) (row_mono hown' K5.out) hgrow; have hkk := keepC_append (v' := .slice (some ⟨g', 0, none⟩) (pre.length + 1) cap') (by omega) hv (row_mono hrow K5.out) hgrow hv1; have hold := HF.out.1.keep (v' := .slice (some ⟨g', 0, none⟩) (pre.length + 1) cap') hrow hgrow (by omega) hv1; have hr3 := hown'.kept (grownBy_setCell' w1 (Ba + 1) (.slice (some ⟨g', 0, none⟩) (pre.length + 1) cap')) (.inr (hv1.not_row (by decide) hown').symm); have hc1 := hv1.cell; have hf1 := hv1.frozen)
              exact ⟨hk2.from _, hkk, ⟨⟨_, hv2, by simpa [setV] using hr3, trivial⟩, hold, hk2.same D _ HF.out.2 rfl⟩, h5.out, HB.out.1.trans hb2, Nat.le_trans HB.out.2 hb2.size⟩
      · rintro D2 W3 ⟨f1, ⟨f2, f3⟩, hb, hD2, hK2⟩
        have L1 := Lib.hid f1
        have L2 := Lib.hid f2
        have L3 : Hid (Mark D W3) := f3
        have L4 := Lib.hid hb
        have L5 := Lib.hid hD2
        have L6 : Hid (Mark D2 W3) := hK2
        clear f1 f2 f3 hb hD2 hK2 KSq
        gi_wp2_with fail
        refine (callsIn_wide.2 (rsubsets_c x _ _ rfl)).mono ?_
        rintro e W4 ⟨v4, rfl, hown4, hb4⟩
        obtain ⟨n4, hn4⟩ : ∃ n, ((subsS x).map setV).length = n := ⟨_, rfl⟩
        obtain ⟨a4, c4, rfl, hr4⟩ := hown4.rdn n4 hn4
        have M1 := Lib.hid hb4
        have M2 := Lib.hid hr4
        have M3 := Lib.hid hn4
        clear hown4 hb4 hr4 hn4
        gi_wp2_with fail
        refine (callsIn_wide.2 (rchoose_c x _ k _ rfl)).mono ?_
        rintro e W5 ⟨v5, rfl, hown5, hb5⟩
        obtain ⟨n5, hn5⟩ : ∃ n, ((chooseS x k).map setV).length = n := ⟨_, rfl⟩
        obtain ⟨a5, c5, rfl, hr5⟩ := hown5.rdn n5 hn5
        have P1 := Below.next M1.out hb5
        have P2 := M2.out.below hb5
        have P0 : Below Ba W W5 := L4.out.1.trans (P1.mono (Nat.le_trans K5.out L4.out.2))
        obtain ⟨na, hna⟩ : ∃ n, (((subsS x).take N)).length = n := ⟨_, rfl⟩
        obtain ⟨nb, hnb⟩ : ∃ n, (((chooseS x k).take N)).length = n := ⟨_, rfl⟩
        obtain ⟨aa, ca, hva, hra⟩ := L2.out.rd na hna
        obtain ⟨ab, cb, hcb, hrb⟩ := L1.out.rd nb hnb
        obtain ⟨va', hv1, hv2, hv3, hv4⟩ := L2.out
        have hca : W3.cell? ⟨Ba, 0, none⟩ = some (.slice aa na ca) := by rw [hv1.cell, hv3, hva]
        have hlt3 : ∀ b o v, W3.cell? ⟨b, o, none⟩ = some v → W5.cell? ⟨b, o, none⟩ = some v := fun b o v h => (P1.cell (p := ⟨b, o, none⟩) (cell_lt h)).trans h
        have q1 := hlt3 _ _ _ hca
        have q2 := hlt3 _ _ _ hcb
        have q3 : W5.cell? ⟨w.heap.size, 0, none⟩ = some (.int .u8 N) := by
          rw [P0.cell (p := ⟨w.heap.size, 0, none⟩) (Nat.lt_of_lt_of_le (cell_lt HF4.out) H6.out), HBW.out.cell (p := ⟨w.heap.size, 0, none⟩) (cell_lt HF4.out)]
          exact HF4.out
        have q4 := hra.below P1
        have q5 := hrb.below P1
        have ena : na = min N n4 := by rw [← hna, ← M3.out, List.length_take, List.length_map]
        have enb : nb = min N n5 := by rw [← hnb, ← hn5, List.length_take, List.length_map]
        have q6 := P2.take na (by omega)
        have q7 := hr5.take nb (by omega)
        rw [← List.map_take, show (subsS x).take na = (subsS x).take N by rw [ena, ← M3.out, List.length_map]; simp [List.take_eq_take_iff]] at q6
        rw [← List.map_take, show (chooseS x k).take nb = (chooseS x k).take N by rw [enb, ← hn5, List.length_map]; simp [List.take_eq_take_iff]] at q7
        have l4 := P2.le
        have l5 := hr5.le
        have lm4 := P2.max
        have lm5 := hr5.max
        have Q0 := Lib.hid P0
        have Q1 := Lib.hid P1
        have Q4 := Lib.hid q4
        have Q5 := Lib.hid q5
        have r6 : Rd W5 a4 ((min (N : Int) (n4 : Int)).toNat) c4 (((subsS x).take N).map setV) := by rw [show (min (N : Int) (n4 : Int)).toNat = na by omega]; exact q6
        have r7 : Rd W5 a5 ((min (N : Int) (n5 : Int)).toNat) c5 (((chooseS x k).take N).map setV) := by rw [show (min (N : Int) (n5 : Int)).toNat = nb by omega]; exact q7
        have Q6 := Lib.hid r6
        have Q7 := Lib.hid r7
        have EA := Lib.hid ena
        have EB := Lib.hid enb
        have HV := Lib.hid hva
        clear hv1 hv2 hv3 hv4 hlt3 hra hrb hca hcb P0 P1 P2 hown5 hb5 hr5 q4 q5 q6 q7 r6 r7 hna hnb ena enb hva hn5
        have hN' := HNn.out
        gi_wp2_with fail
        gi_quiet (first | (gi_at_call 19; refine CallsIn.quiet_of (callsIn_wide.2 (rsameq_c ((subsS x).take N) ((subsS x).take N) _ _ _ _ _ _ _ (Q4.out.below (below_drewN (Below.refl _ _))) (Q6.out.below (below_drewN (Below.refl _ _))))) ) | (gi_at_call 19; refine CallsIn.quiet_of (callsIn_wide.2 (rsameq_c ((chooseS x k).take N) ((chooseS x k).take N) _ _ _ _ _ _ _ (Q5.out.below (below_drewN (Below.refl _ _))) (Q7.out.below (below_drewN (Below.refl _ _))))) ))
        have R0 : Below Ba W (W5.drewN nq) := below_drewN Q0.out
        have R1 : Below W3.heap.size W3 (W5.drewN nq) := below_drewN Q1.out
        have R2 := L3.out.next R1
        have R3 := L6.out.next R1
        have R4 : ∀ D ∈ Ds, w6.heap.size ≤ D ∧ D < Ba ∧ (W5.drewN nq).heap[D]? = some (.deferred (some [])) := by
          intro E hE
          obtain ⟨e1, e2⟩ := HDS.out E hE
          have e3 : E < Ba := by rw [HW.out]; exact (Array.getElem?_eq_some_iff.1 e2).1
          exact ⟨e1, e3, (R0.block E e3).trans e2⟩
        have R5 : (D2 :: D :: Ds).Nodup := by
          have x1 := JD.out
          have x2 := L5.out
          have x3 := J4.out
          have x4 := H5.out
          refine List.nodup_cons.2 ⟨fun h => ?_, List.nodup_cons.2 ⟨fun h => ?_, HND.out⟩⟩
          · rcases List.mem_cons.1 h with rfl | h
            · omega
            · have := (R4 _ h).2.1; omega
          · have := (R4 _ h).2.1; omega
        have R6 : ∀ E ∈ D2 :: D :: Ds, w6.heap.size ≤ E ∧ (W5.drewN nq).heap[E]? = some (.deferred (some [])) := by
          have x1 := JD.out
          have x2 := L5.out
          have x3 := J4.out
          have x4 := H5.out
          have x5 := H6.out
          intro E hE
          rcases List.mem_cons.1 hE with rfl | hE
          · exact ⟨by omega, R3⟩
          · rcases List.mem_cons.1 hE with rfl | hE
            · exact ⟨by omega, R2⟩
            · exact ⟨(R4 E hE).1, (R4 E hE).2.2⟩
        have R7 : Below w6.heap.size w6 (W5.drewN nq) := HBW.out.trans (R0.mono H6.out)
        have S5 := Lib.hid R5
        have S6 := Lib.hid R6
        have S7 := Lib.hid R7
        clear R0 R1 R2 R3 R4 R5 R6 R7
        gi_wp2_with fail
        exact ⟨⟨i + 1, _, _, _, _, _, _, _, _, _, _, _, _, _, _, _, _, _, _, _, _, _, _, _, _, _, _, _, _, _, _, _, _, _, _, _, _, _, _, _, _, _, _, _, _, _, _, _, _, _, _, _, _, _, _, _, _, _, _, D2 :: D :: Ds, (by simp), by omega, rfl, S5.out, S6.out, S7.out⟩, by simp [intOf]; omega⟩
  · obtain rfl : i = 2 := by omega
    gi_wp2_with fail
    exact leave_all (u := .returning) (B := w.heap.size) (w0 := w) (Nat.le_refl _) (fun W' hb' => ⟨_, results_tmp rfl _ _ _, rfl, hb'⟩) (by simp) Ds W HND.out (fun D hD => ⟨Nat.le_trans HF5.out.size (HDS.out D hD).1, (HDS.out D hD).2⟩) (Below.next HF5.out HBW.out)
end Go.Proofs.YthkboibhkpkliaaDoor
