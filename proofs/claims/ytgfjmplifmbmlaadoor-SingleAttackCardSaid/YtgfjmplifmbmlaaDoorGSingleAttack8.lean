/- Texts laid together. Layer 37: the reference's rule. The box region is printed by wip/callbox.py. Layer 37: the reference's Check. Layer 37: the reference's possible events. Layer 37: the reference's Run. slices.Clone of bytes and of events. Layer 37: the law's systems. -/
import Derived.Test.YtgfjmplifmbmlaaDoorGSingleAttack3
import Derived.Test.YtgfjmplifmbmlaaDoorGSingleAttack4
import Derived.Test.YtgfjmplifmbmlaaDoorGSingleAttack5
import Derived.Test.YtgfjmplifmbmlaaDoorGSingleAttack6
import Derived.Test.YtgfjmplifmbmlaaDoorGSingleAttack7
namespace Go.Proofs.YtgfjmplifmbmlaaDoor
open Go.RowKit Go.Maps

set_option maxRecDepth 100000 in
set_option maxHeartbeats 4000000 in
theorem follows_c (read : List (BitVec 16)) (a : Option Addr) (n c : Nat) (m : Nat) (l : List Ev) (a2 : Option Addr) (n2 c2 : Nat) (x : Ev) (w : World) (h : Rd w a n c (read.map setV2)) (h2 : RdK 4 w a2 n2 c2 (l.flatMap evC)) (hsv : ∀ e ∈ l, 0 ≤ e.server ∧ e.server < m) (hl : l.length ≤ 1000) (hm : m ≤ 12) :
    Calls Tryd.prog 51 #[.slice a n c, .int .i64 m, .slice a2 n2 c2, .agg (evC x).toArray] w fun e w' => e = .returned (.bool (folS read m l x)) ∧ Below w.heap.size w w' := by
  obtain ⟨kd, sv, eb, x⟩ := x
  show Calls Tryd.prog 51 #[.slice a n c, .int .i64 m, .slice a2 n2 c2, .agg #[.int .i64 kd, .int .i64 sv, .int .i64 eb, .string x]] w _
  have HR := Lib.hid h
  have HR2 := Lib.hid h2
  have HSV := Lib.hid hsv
  have HL0 := Lib.hid hl
  clear h h2 hsv hl
  by_cases hbad : sv < 0 ∨ (m : Int) ≤ sv ∨ eb < 1
  · have HF : Hid (folS read m l ⟨kd, sv, eb, x⟩ = false) := Lib.hid (by unfold folS; rw [if_pos hbad])
    go_enter Tryd.func51, Tryd.ntmps51
    by_cases h1 : sv < 0
    · go_wp2_with fail
      go_ret
      rw [HF.out]
      exact ⟨rfl, blA _ _⟩
    · by_cases h2 : (m : Int) ≤ sv
      · go_wp2_with fail
        go_ret
        rw [HF.out]
        exact ⟨rfl, blA _ _⟩
      · have h3 : eb < 1 := by omega
        go_wp2_with fail
        go_ret
        rw [HF.out]
        exact ⟨rfl, blA _ _⟩
  · have h1 : 0 ≤ sv := by omega
    have h2 : sv < m := by omega
    have h3 : 1 ≤ eb := by omega
    obtain ⟨s, rfl⟩ := Int.eq_ofNat_of_zero_le h1
    have hsm2 : s < m := by omega
    obtain ⟨p, q, v, hat⟩ : ∃ p q v, atS (repA m l) (s : Int) = ⟨p, q, v⟩ := ⟨_, _, _, rfl⟩
    have HAT := Lib.hid hat
    have HLEN : Hid (s < (repA m l).length) := Lib.hid (by rw [repA_len]; exact hsm2)
    have HF : Hid (folS read m l ⟨kd, s, eb, x⟩ = if kd = 1 then decide (p < eb) && emB x else if kd = 2 then ((decide (1 ≤ eb) && decide (p ≤ eb)) && !emB x) && okD (demS read m l eb) x else false) := Lib.hid (by unfold folS; rw [if_neg hbad]; simp only [hat]; rfl)
    clear hat hbad
    have g1 : ¬ ((s : Int) < 0) := by omega
    have g2 : ¬ ((m : Int) ≤ (s : Int)) := by omega
    have g3 : ¬ (eb < 1) := by omega
    go_enter Tryd.func51, Tryd.ntmps51
    go_wp2_with fail
    generalize hW : w.alloc (.cells #[.int .i64 kd, .int .i64 s, .int .i64 eb, .string x] 48) = W0
    have hbW : Below w.heap.size w W0 := by rw [← hW]; exact blA _ _
    have hbox : W0.heap[w.heap.size]? = some (.cells #[.int .i64 kd, .int .i64 s, .int .i64 eb, .string x] 48 (0, 0)) := by rw [← hW]; exact heap_alloc_new w _
    have hWs : W0.heap.size = w.heap.size + 1 := by rw [← hW]; simp
    clear hW
    obtain ⟨e0, e1, e2, e3⟩ := open4 hbox
    have HBW := Lib.hid hbW
    have HWS := Lib.hid hWs
    have HBOX := Lib.hid hbox
    have HP : Hid (∀ y : World, Below W0.heap.size W0 y → Calls Tryd.prog 70 #[.int .i64 m, .slice a2 n2 c2] y fun e w3 => e = .returned (.slice (some ⟨y.heap.size, 0, none⟩) m m) ∧ Hid (w3.heap[y.heap.size]? = some (.cells ((repA m l).flatMap accC).toArray 96 (0, 0))) ∧ Hid (Below y.heap.size y w3)) :=
      Lib.hid (fun y hy => (replay_c m l a2 n2 c2 y ((HR2.out.below HBW.out).below hy) HSV.out HL0.out hm).mono fun e w3 ⟨h1, h2, h3⟩ => ⟨h1, Lib.hid h2, Lib.hid h3⟩)
    have KS : Hid (∀ y : World, Below W0.heap.size W0 y → y.cell? ⟨w.heap.size, 1, none⟩ = some (.int .i64 s)) := Lib.hid (fun y hy => (hy.cell (p := ⟨w.heap.size, 1, none⟩) (cell_lt e1)).trans e1)
    clear hbW hWs hbox e0 e1 e2 e3
    refine wp_region_noPanic ?_
    refine wp_region_takes (fun y => Below W0.heap.size W0 y) [0, 1, 3, 4] 5 (by kernel_rfl) (by kernel_rfl) (by kernel_rfl) (fun _ _ _ _ _ h => h) (below_drew (Below.refl _ _)) ?_
    repeat (refine wpTk_cons rfl (fun K hK => ?_); go_simp; apply Exists.intro; refine ⟨fun y hy => ?_, hK _ ?_⟩; (first | exact rfl | (have q1 := KS.out y hy; go_simp; done) | (have q1 := KS.out y hy; go_simp; exact rfl)); clear hK K)
    refine wpTk_nil ?_
    refine held_ready (rs := [2, 7]) (by kernel_rfl) (by simp) ?_
    refine AllReadyH.cons rfl (fun K hK => ?_) (AllReadyH.cons rfl (fun K hK => ?_) AllReadyH.nil)
    go_simp
    refine (HP.out _ (below_drew (Below.refl _ _))).mono ?_
    rintro e w3 ⟨rfl, hA, hB3⟩
    have hY3 : Below W0.heap.size W0 w3 := Below.next (below_drew (Below.refl _ _)) hB3.out
    have hA3 : w3.heap[W0.heap.size]? = some (.cells ((repA m l).flatMap accC).toArray 96 (0, 0)) := hA.out
    obtain ⟨⟨c0, c1, c2'⟩, -⟩ := acc_cells hA3 HLEN.out
    rw [HAT.out] at c0 c1 c2'
    have l2 : W0.heap.size < w3.heap.size := (Array.getElem?_eq_some_iff.1 hA3).1
    have a0 : ∀ ob, (w3.alloc ob).cell? ⟨W0.heap.size, s * 3, none⟩ = some (.int .i64 p) := fun ob => (World.cell?_alloc_lt _ _ _ l2).trans c0
    have a1 : ∀ ob, (w3.alloc ob).cell? ⟨W0.heap.size, s * 3 + 1, none⟩ = some (.int .i64 q) := fun ob => (World.cell?_alloc_lt _ _ _ l2).trans c1
    have a2' : ∀ ob, (w3.alloc ob).cell? ⟨W0.heap.size, s * 3 + 2, none⟩ = some (.string v) := fun ob => (World.cell?_alloc_lt _ _ _ l2).trans c2'
    have HY3 := Lib.hid hY3
    have HA3 := Lib.hid hA3
    clear hA hB3 hY3 hA3
    go_simp
    refine hK.out _ _ HY3.out (fun hh => ?_)
    clear hh hK K; try simp only [Act.put, List.setIfInBounds_toArray, List.set_cons_zero, List.set_cons_succ]
    refine held_takes (f := 3) (by kernel_rfl) (fun _ _ _ _ _ h => h) HY3.out [5] _ _ (by kernel_rfl) ?_
    refine wpTk_cons rfl (fun K hK => ?_)
    go_simp
    apply Exists.intro
    refine ⟨fun y hy => rfl, hK _ ?_⟩
    clear hK K
    refine wpTk_nil ?_
    refine held_ready (rs := [6, 7]) (by kernel_rfl) (by simp) ?_
    refine AllReadyH.cons rfl (fun K hK => ?_) (AllReadyH.cons rfl (fun K hK => ?_) AllReadyH.nil)
    go_simp
    refine hK.out _ _ HY3.out (fun hh => ?_)
    clear hh hK K; try simp only [Act.put, List.setIfInBounds_toArray, List.set_cons_zero, List.set_cons_succ]
    refine held_ready (rs := [7]) (by kernel_rfl) (by simp) ?_
    refine AllReadyH.cons rfl (fun K hK => ?_) AllReadyH.nil
    go_simp
    refine hK.out _ _ (HY3.out.alloc HY3.out.size _) (fun hh => ?_)
    clear hh hK K; try simp only [Act.put, List.setIfInBounds_toArray, List.set_cons_zero, List.set_cons_succ]
    refine held_ready (rs := [8]) (by kernel_rfl) (by simp) ?_
    refine AllReadyH.cons rfl (fun K hK => ?_) AllReadyH.nil
    go_simp
    refine hK.out _ _ (HY3.out.alloc HY3.out.size _) (fun hh => ?_)
    clear hh hK K; try simp only [Act.put, List.setIfInBounds_toArray, List.set_cons_zero, List.set_cons_succ]
    refine wpAnyH_done (by kernel_rfl) (NoPanic.normal ?_) _
    have hWb := HY3.out.alloc HY3.out.size (.cells #[.int .i64 p, .int .i64 q, .string v] 96)
    have hWn := heap_alloc_new w3 (.cells #[.int .i64 p, .int .i64 q, .string v] 96)
    have hBx : W0.heap.size ≤ w3.heap.size := HY3.out.size
    clear HY3 HA3 a0 a1 a2' c0 c1 c2' l2
    generalize World.alloc w3 (.cells #[.int .i64 p, .int .i64 q, .string v] 96) = W1 at hWb hWn ⊢
    generalize w3.heap.size = Bx at hWn hBx ⊢
    try clear w3
    rotate_left 1
    go_simp
    refine hK.out _ _ (HY3.out.alloc HY3.out.size _) (fun hh => ?_)
    clear hh hK K; try simp only [Act.put, List.setIfInBounds_toArray, List.set_cons_zero, List.set_cons_succ]
    refine held_ready (rs := [6]) (by kernel_rfl) (by simp) ?_
    refine AllReadyH.cons rfl (fun K hK => ?_) AllReadyH.nil
    go_simp
    refine hK.out _ _ (HY3.out.alloc HY3.out.size _) (fun hh => ?_)
    clear hh hK K; try simp only [Act.put, List.setIfInBounds_toArray, List.set_cons_zero, List.set_cons_succ]
    refine held_ready (rs := [8]) (by kernel_rfl) (by simp) ?_
    refine AllReadyH.cons rfl (fun K hK => ?_) AllReadyH.nil
    go_simp
    refine hK.out _ _ (HY3.out.alloc HY3.out.size _) (fun hh => ?_)
    clear hh hK K; try simp only [Act.put, List.setIfInBounds_toArray, List.set_cons_zero, List.set_cons_succ]
    refine wpAnyH_done (by kernel_rfl) (NoPanic.normal ?_) _
    have hWb := HY3.out.alloc HY3.out.size (.cells #[.int .i64 p, .int .i64 q, .string v] 96)
    have hWn := heap_alloc_new w3 (.cells #[.int .i64 p, .int .i64 q, .string v] 96)
    have hBx : W0.heap.size ≤ w3.heap.size := HY3.out.size
    clear HY3 HA3 a0 a1 a2' c0 c1 c2' l2
    generalize World.alloc w3 (.cells #[.int .i64 p, .int .i64 q, .string v] 96) = W1 at hWb hWn ⊢
    generalize w3.heap.size = Bx at hWn hBx ⊢
    try clear w3
    rotate_left 1
    go_simp
    have h4 : Below W0.heap.size W0 (W0.alloc (.cells #[.int .i64 0, .int .i64 0, .string ⟨#[]⟩] 96)).drew := below_drew (blA _ _)
    have h4n : (W0.alloc (.cells #[.int .i64 0, .int .i64 0, .string ⟨#[]⟩] 96)).drew.heap[W0.heap.size]? = some (.cells #[.int .i64 0, .int .i64 0, .string ⟨#[]⟩] 96 (0, 0)) := heap_alloc_new _ _
    have h4s : (W0.alloc (.cells #[.int .i64 0, .int .i64 0, .string ⟨#[]⟩] 96)).drew.heap.size = W0.heap.size + 1 := World.size_alloc _ _
    have H4 := Lib.hid h4
    have H4n := Lib.hid h4n
    have H4s := Lib.hid h4s
    clear h4 h4n h4s
    refine hK.out _ _ H4.out (fun hh => ?_)
    clear hh hK K; try simp only [Act.put, List.setIfInBounds_toArray, List.set_cons_zero, List.set_cons_succ]
    refine held_ready (rs := [2]) (by kernel_rfl) (by simp) ?_
    refine AllReadyH.cons rfl (fun K hK => ?_) AllReadyH.nil
    go_simp
    refine (HP.out _ H4.out).mono ?_
    rintro e w3 ⟨rfl, hA, hB3⟩
    have hY3 : Below W0.heap.size W0 w3 := Below.next H4.out hB3.out
    have hA3 : w3.heap[W0.heap.size + 1]? = some (.cells ((repA m l).flatMap accC).toArray 96 (0, 0)) := by have := hA.out; rw [H4s.out] at this; exact this
    have hX3 : w3.heap[W0.heap.size]? = some (.cells #[.int .i64 0, .int .i64 0, .string ⟨#[]⟩] 96 (0, 0)) := heap_below hB3.out H4n.out
    obtain ⟨⟨c0, c1, c2'⟩, -⟩ := acc_cells hA3 HLEN.out
    rw [HAT.out] at c0 c1 c2'
    obtain ⟨⟨x0, x1, x2⟩, y0, y1, y2⟩ := open3 hX3
    have HY3 := Lib.hid hY3
    have HX3 := Lib.hid hX3
    clear hA hB3 hY3 hA3 hX3
    go_simp
    refine hK.out _ _ HY3.out (fun hh => ?_)
    clear hh hK K; try simp only [Act.put, List.setIfInBounds_toArray, List.set_cons_zero, List.set_cons_succ]
    refine held_takes (f := 2) (by kernel_rfl) (fun _ _ _ _ _ h => h) HY3.out [5] _ _ (by kernel_rfl) ?_
    refine wpTk_cons rfl (fun K hK => ?_)
    go_simp
    apply Exists.intro
    refine ⟨fun y hy => rfl, hK _ ?_⟩
    clear hK K
    refine wpTk_nil ?_
    refine held_ready (rs := [6]) (by kernel_rfl) (by simp) ?_
    refine AllReadyH.cons rfl (fun K hK => ?_) AllReadyH.nil
    go_simp
    refine hK.out _ _ HY3.out (fun hh => ?_)
    clear hh hK K; try simp only [Act.put, List.setIfInBounds_toArray, List.set_cons_zero, List.set_cons_succ]
    refine held_ready (rs := [8]) (by kernel_rfl) (by simp) ?_
    refine AllReadyH.cons rfl (fun K hK => ?_) AllReadyH.nil
    go_simp
    have hWb := ((HY3.out.setCell (p := ⟨W0.heap.size, 0, none⟩) (Nat.le_refl _) (.int .i64 p)).setCell (p := ⟨W0.heap.size, 1, none⟩) (Nat.le_refl _) (.int .i64 q)).setCell (p := ⟨W0.heap.size, 2, none⟩) (Nat.le_refl _) (.string v)
    refine hK.out _ _ hWb (fun hh => ?_)
    clear hh hK K; try simp only [Act.put, List.setIfInBounds_toArray, List.set_cons_zero, List.set_cons_succ]
    refine wpAnyH_done (by kernel_rfl) (NoPanic.normal ?_) _
    have hWn : ((((w3.setCell ⟨W0.heap.size, 0, none⟩ (.int .i64 p)).setCell ⟨W0.heap.size, 1, none⟩ (.int .i64 q)).setCell ⟨W0.heap.size, 2, none⟩ (.string v)).heap[W0.heap.size]? = some (.cells #[.int .i64 p, .int .i64 q, .string v] 96 (0, 0))) := heap_set_at (heap_set_at (heap_set_at HX3.out 0 (.int .i64 p)) 1 (.int .i64 q)) 2 (.string v)
    clear HY3 HX3 x0 x1 x2 y0 y1 y2 c0 c1 c2' H4 H4n H4s
    generalize World.setCell (World.setCell (World.setCell w3 ⟨W0.heap.size, 0, none⟩ (.int .i64 p)) ⟨W0.heap.size, 1, none⟩ (.int .i64 q)) ⟨W0.heap.size, 2, none⟩ (.string v) = W1 at hWb hWn ⊢
    generalize hBe : W0.heap.size = Bx at hWn ⊢
    have hBx : W0.heap.size ≤ Bx := Nat.le_of_eq hBe
    clear hBe
    try clear w3
    rotate_left 1
    all_goals
      have hbx := heap_below hWb HBOX.out
      obtain ⟨E0, E1, E2, E3⟩ := open4 hbx
      obtain ⟨⟨X0, X1, X2⟩, -, -, -⟩ := open3 hWn
      have KS2 : Hid (∀ y : World, Below W1.heap.size W1 y → y.cell? ⟨w.heap.size, 2, none⟩ = some (.int .i64 eb) ∧ y.cell? ⟨w.heap.size, 3, none⟩ = some (.string x)) := Lib.hid (fun y hy => ⟨(hy.cell (p := ⟨w.heap.size, 2, none⟩) (cell_lt E2)).trans E2, (hy.cell (p := ⟨w.heap.size, 3, none⟩) (cell_lt E3)).trans E3⟩)
      have HBF : Hid (Below w.heap.size w W1) := Lib.hid (Below.next HBW.out hWb)
      have HD : Hid (∀ y : World, Below W1.heap.size W1 y → Calls Tryd.prog 61 #[.slice a n c, .int .i64 m, .slice a2 n2 c2, .int .i64 eb] y fun e w4 => e = .returned (.tuple #[.string (demS read m l eb).1, .int .i64 (demS read m l eb).2]) ∧ Below y.heap.size y w4) :=
        Lib.hid (fun y hy => demanded_c read a n c m l a2 n2 c2 eb y ((HR.out.below HBF.out).below hy) ((HR2.out.below HBF.out).below hy) HSV.out HL0.out hm)
      clear hWb hbx hWn HP KS
      by_cases hk1 : kd = 1
      · subst hk1
        have HF1 : Hid (folS read m l ⟨1, s, eb, x⟩ = (decide (p < eb) && emB x)) := Lib.hid (HF.out.trans (if_pos rfl))
        by_cases hp : p < eb
        · cases hx : (x.toList == [])
          · go_wp2_with (go_at_call 71; (refine (rpromise_c p q v eb _).mono ?_); (rintro e w3 ⟨rfl, hb3⟩; rw [decide_eq_true hp]; obtain ⟨E2', E3'⟩ := KS2.out _ hb3; have E2a := fun ob => (KS2.out _ (hb3.alloc hb3.size ob)).1; have E3a := fun ob => (KS2.out _ (hb3.alloc hb3.size ob)).2))
            go_ret
            rw [HF1.out, show emB x = false from hx, Bool.and_false]
            exact ⟨rfl, Below.next HBF.out (hb3.alloc hb3.size _)⟩
          · go_wp2_with (go_at_call 71; (refine (rpromise_c p q v eb _).mono ?_); (rintro e w3 ⟨rfl, hb3⟩; rw [decide_eq_true hp]; obtain ⟨E2', E3'⟩ := KS2.out _ hb3; have E2a := fun ob => (KS2.out _ (hb3.alloc hb3.size ob)).1; have E3a := fun ob => (KS2.out _ (hb3.alloc hb3.size ob)).2))
            go_ret
            rw [HF1.out, show emB x = true from hx, decide_eq_true hp]
            exact ⟨rfl, Below.next HBF.out (hb3.alloc hb3.size _)⟩
        · go_wp2_with (go_at_call 71; (refine (rpromise_c p q v eb _).mono ?_); (rintro e w3 ⟨rfl, hb3⟩; rw [decide_eq_false (by omega)]; obtain ⟨E2', E3'⟩ := KS2.out _ hb3; have E2a := fun ob => (KS2.out _ (hb3.alloc hb3.size ob)).1; have E3a := fun ob => (KS2.out _ (hb3.alloc hb3.size ob)).2))
          go_ret
          rw [HF1.out, decide_eq_false (by omega)]
          exact ⟨rfl, Below.next HBF.out (hb3.alloc hb3.size _)⟩
      · have hk1b : (kd == 1) = false := by simpa using hk1
        by_cases hk2 : kd = 2
        · subst hk2
          have HF1 : Hid (folS read m l ⟨2, s, eb, x⟩ = (((decide (1 ≤ eb) && decide (p ≤ eb)) && !emB x) && okD (demS read m l eb) x)) := Lib.hid (HF.out.trans ((if_neg (by decide)).trans (if_pos rfl)))
          by_cases hp : 1 ≤ eb ∧ p ≤ eb
          · by_cases hx : (x.toList == []) = true
            · go_wp2_with (go_at_call 72; (refine (raccept_c p q v eb x _).mono ?_); (rintro e w3 ⟨rfl, hb3⟩; rw [decide_eq_true hp, if_pos hp]; obtain ⟨E2', E3'⟩ := KS2.out _ hb3; have E2a := fun ob => (KS2.out _ (hb3.alloc hb3.size ob)).1; have E3a := fun ob => (KS2.out _ (hb3.alloc hb3.size ob)).2))
              go_ret
              rw [HF1.out, show emB x = true from hx, Bool.not_true, Bool.and_false, Bool.false_and]
              exact ⟨rfl, Below.next HBF.out (hb3.alloc hb3.size _)⟩
            · have hx' : (x.toList == []) = false := by simpa using hx
              obtain ⟨⟨dv, de⟩, hde⟩ : ∃ d, demS read m l eb = d := ⟨_, rfl⟩
              have HD2 : Hid (∀ y : World, Below W1.heap.size W1 y → Calls Tryd.prog 61 #[.slice a n c, .int .i64 m, .slice a2 n2 c2, .int .i64 eb] y fun e w4 => e = .returned (.tuple #[.string dv, .int .i64 de]) ∧ Below y.heap.size y w4) := Lib.hid (fun y hy => by have := HD.out y hy; rw [hde] at this; exact this)
              have HF2 : Hid (folS read m l ⟨2, s, eb, x⟩ = okD (dv, de) x) := Lib.hid (by rw [HF1.out, hde, show emB x = false from hx', decide_eq_true hp.1, decide_eq_true hp.2]; rfl)
              clear hde HD HF1
              by_cases d4 : de = 4
              · subst d4
                have HF3 : Hid (folS read m l ⟨2, s, eb, x⟩ = true) := Lib.hid (HF2.out.trans rfl)
                go_wp2_with (first
                  | (go_at_call 72; (refine (raccept_c p q v eb x _).mono ?_); (rintro e w3 ⟨rfl, hb3⟩; rw [decide_eq_true hp, if_pos hp]; obtain ⟨E2', E3'⟩ := KS2.out _ hb3; have E2a := fun ob => (KS2.out _ (hb3.alloc hb3.size ob)).1; have E3a := fun ob => (KS2.out _ (hb3.alloc hb3.size ob)).2))
                  | (go_at_call 61; (refine (HD2.out _ (hb3.alloc hb3.size _)).mono ?_); (rintro e w4 ⟨rfl, hb4⟩; obtain ⟨E2'', E3''⟩ := KS2.out _ (Below.next (hb3.alloc hb3.size _) hb4))))
                go_ret
                rw [HF3.out]
                exact ⟨rfl, Below.next HBF.out (Below.next (hb3.alloc hb3.size _) hb4)⟩
              · by_cases d0 : de = 0
                · subst d0
                  have HF3 : Hid (folS read m l ⟨2, s, eb, x⟩ = (dv.toList == x.toList)) := Lib.hid (HF2.out.trans (by simp [okD]))
                  go_wp2_with (first
                    | (go_at_call 72; (refine (raccept_c p q v eb x _).mono ?_); (rintro e w3 ⟨rfl, hb3⟩; rw [decide_eq_true hp, if_pos hp]; obtain ⟨E2', E3'⟩ := KS2.out _ hb3; have E2a := fun ob => (KS2.out _ (hb3.alloc hb3.size ob)).1; have E3a := fun ob => (KS2.out _ (hb3.alloc hb3.size ob)).2))
                    | (go_at_call 61; (refine (HD2.out _ (hb3.alloc hb3.size _)).mono ?_); (rintro e w4 ⟨rfl, hb4⟩; obtain ⟨E2'', E3''⟩ := KS2.out _ (Below.next (hb3.alloc hb3.size _) hb4))))
                  go_ret
                  rw [HF3.out]
                  exact ⟨rfl, Below.next HBF.out (Below.next (hb3.alloc hb3.size _) hb4)⟩
                · have HF3 : Hid (folS read m l ⟨2, s, eb, x⟩ = (de == 4)) := Lib.hid (HF2.out.trans (by simp [okD, d4, d0]))
                  go_wp2_with (first
                    | (go_at_call 72; (refine (raccept_c p q v eb x _).mono ?_); (rintro e w3 ⟨rfl, hb3⟩; rw [decide_eq_true hp, if_pos hp]; obtain ⟨E2', E3'⟩ := KS2.out _ hb3; have E2a := fun ob => (KS2.out _ (hb3.alloc hb3.size ob)).1; have E3a := fun ob => (KS2.out _ (hb3.alloc hb3.size ob)).2))
                    | (go_at_call 61; (refine (HD2.out _ (hb3.alloc hb3.size _)).mono ?_); (rintro e w4 ⟨rfl, hb4⟩; obtain ⟨E2'', E3''⟩ := KS2.out _ (Below.next (hb3.alloc hb3.size _) hb4))))
                  go_ret
                  rw [HF3.out]
                  exact ⟨rfl, Below.next HBF.out (Below.next (hb3.alloc hb3.size _) hb4)⟩
          · have hp2 : (if 1 ≤ eb ∧ p ≤ eb then Value.agg #[.int .i64 eb, .int .i64 eb, .string x] else .agg #[.int .i64 p, .int .i64 q, .string v]) = .agg #[.int .i64 p, .int .i64 q, .string v] := if_neg hp
            have hpb : (decide (1 ≤ eb) && decide (p ≤ eb)) = false := by simpa using hp
            have hpd : decide (1 ≤ eb ∧ p ≤ eb) = false := decide_eq_false hp
            clear hp
            go_wp2_with (go_at_call 72; (refine (raccept_c p q v eb x _).mono ?_); (rintro e w3 ⟨rfl, hb3⟩; rw [hpd, hp2]; obtain ⟨E2', E3'⟩ := KS2.out _ hb3; have E2a := fun ob => (KS2.out _ (hb3.alloc hb3.size ob)).1; have E3a := fun ob => (KS2.out _ (hb3.alloc hb3.size ob)).2))
            go_ret
            rw [HF1.out, hpb, Bool.false_and, Bool.false_and]
            exact ⟨rfl, Below.next HBF.out (hb3.alloc hb3.size _)⟩
        · have hk2b : (kd == 2) = false := by simpa using hk2
          have HF1 : Hid (folS read m l ⟨kd, s, eb, x⟩ = false) := Lib.hid (HF.out.trans ((if_neg hk1).trans (if_neg hk2)))
          go_wp2_with fail
          go_ret
          rw [HF1.out]
          exact ⟨rfl, HBF.out⟩
end Go.Proofs.YtgfjmplifmbmlaaDoor
namespace Go.Proofs.YtgfjmplifmbmlaaDoor
open Go.RowKit Go.Maps

set_option maxRecDepth 100000 in
set_option maxHeartbeats 4000000 in
theorem rcheck_c (read : List (BitVec 16)) (a : Option Addr) (n c : Nat) (m : Nat) (l : List Ev) (a2 : Option Addr) (n2 c2 : Nat) (w : World) (h : Rd w a n c (read.map setV2)) (h2 : RdK 4 w a2 n2 c2 (l.flatMap evC)) (hl : l.length ≤ 900) (hm : m ≤ 12) (hchk : chkS m [read] = 0) :
    Calls Tryd.prog 28 #[.slice a n c, .int .i64 m, .slice a2 n2 c2] w fun e w' => e = .returned (.tuple #[.int .i64 (chkR read m l).1, .int .i64 (chkR read m l).2]) ∧ Below w.heap.size w w' := by
  go_enter Tryd.func28, Tryd.ntmps28
  have hnl : l.length = n2 := by have := h2.len; rw [flat_len 4 evC evC_len] at this; omega
  have HG := Lib.hid (given_c read [] m a n c none 0 0 w h (Rd.none_ _))
  rw [chk_nil, hchk] at HG
  have HR := Lib.hid h
  have HR2 := Lib.hid h2
  have HN := Lib.hid hnl
  have hle := h2.le
  have hmx := h2.max
  unfold maxLen at hmx
  have HL := Lib.hid hl
  rw [hnl] at hl
  clear h h2 hnl
  go_wp2_with fail
  refine HG.out.mono ?_
  rintro e w1 ⟨rfl, hb1⟩
  have HB1 := Lib.hid hb1
  clear hb1
  go_wp2_with fail
  go_loopw [9] (fun i wr => ∃ k : Nat, k ≤ n2 ∧ i = .int .i64 k ∧ Hid (GoodTo read m l k) ∧ Below w.heap.size w wr) (fun i _ => n2 - (intOf i).toNat)
  case atStart => exact ⟨0, Nat.zero_le _, rfl, Lib.hid (fun j hj => absurd hj (by omega)), HB1.out⟩
  case round =>
    obtain ⟨k, hk, rfl, hinv, hb⟩ := hrel
    have HB := Lib.hid hb
    by_cases hlt : k < n2
    · obtain ⟨e, he⟩ : ∃ e, l[k]? = some e := ⟨l[k]'(by have := HN.out; omega), List.getElem?_eq_getElem _⟩
      have hrd := HR2.out.below hb
      obtain ⟨b', o, ha, hcell⟩ := RdK.cells hrd evC_len (by omega)
      have hc0 : wr.cell? ⟨b', o + k * 4, none⟩ = some (.int .i64 e.kind) := hcell k e he 0 (by omega)
      have hc1 : wr.cell? ⟨b', o + k * 4 + 1, none⟩ = some (.int .i64 e.server) := hcell k e he 1 (by omega)
      have hc2 : wr.cell? ⟨b', o + k * 4 + 2, none⟩ = some (.int .i64 e.ballot) := hcell k e he 2 (by omega)
      have hc3 : wr.cell? ⟨b', o + k * 4 + 3, none⟩ = some (.string e.value) := hcell k e he 3 (by omega)
      have hgood := goodTo_good k hinv.out
      have hiv := (good_inv hm hgood).srv
      have hck : chkTo read m l k = folS read m (l.take k) e := by unfold chkTo; rw [he]
      have HTK := Lib.hid (hrd.takeF evC_len k (by omega))
      subst ha
      obtain ⟨kd, sv, eb, x⟩ := e
      simp only at hc0 hc1 hc2 hc3
      have HF : Hid (∀ y : World, Below wr.heap.size wr y → Calls Tryd.prog 51 #[.slice a n c, .int .i64 m, .slice (some ⟨b', o, none⟩) k c2, .agg #[.int .i64 kd, .int .i64 sv, .int .i64 eb, .string x]] y fun e w3 => e = .returned (.bool (folS read m (l.take k) ⟨kd, sv, eb, x⟩)) ∧ Below wr.heap.size wr w3) :=
        Lib.hid (fun y hy => (follows_c read a n c m (l.take k) _ k c2 ⟨kd, sv, eb, x⟩ y ((HR.out.below hb).below hy) (HTK.out.below hy) (fun e he => ⟨(hiv e he).1, (hiv e he).2.1⟩) (by rw [List.length_take]; have := HL.out; have := HN.out; omega) hm).mono fun e w3 ⟨h1, h2⟩ => ⟨h1, Below.next hy h2⟩)
      have KS : Hid (∀ y : World, Below wr.heap.size wr y → y.cell? ⟨b', o + k * 4, none⟩ = some (.int .i64 kd) ∧ y.cell? ⟨b', o + k * 4 + 1, none⟩ = some (.int .i64 sv) ∧ y.cell? ⟨b', o + k * 4 + 2, none⟩ = some (.int .i64 eb) ∧ y.cell? ⟨b', o + k * 4 + 3, none⟩ = some (.string x)) := Lib.hid (fun y hy => ⟨(hy.cell (p := ⟨b', o + k * 4, none⟩) (cell_lt hc0)).trans hc0, (hy.cell (p := ⟨b', o + k * 4 + 1, none⟩) (cell_lt hc1)).trans hc1, (hy.cell (p := ⟨b', o + k * 4 + 2, none⟩) (cell_lt hc2)).trans hc2, (hy.cell (p := ⟨b', o + k * 4 + 3, none⟩) (cell_lt hc3)).trans hc3⟩)
      have hstep : folS read m (l.take k) ⟨kd, sv, eb, x⟩ = true → GoodTo read m l (k + 1) := fun ht j hj => by
        by_cases hjk : j < k
        · exact hinv.out j hjk
        · obtain rfl : j = k := by omega
          rw [hck, ht]
      have hstop : folS read m (l.take k) ⟨kd, sv, eb, x⟩ = false → chkR read m l = ((k : Int), 0) := fun hf => by
        unfold chkR; rw [badAt_hit (by have := HN.out; omega) hinv.out (by rw [hck, hf])]
      obtain ⟨bb, hbb⟩ : ∃ bb, folS read m (l.take k) ⟨kd, sv, eb, x⟩ = bb := ⟨_, rfl⟩
      rw [hbb] at HF hstep hstop
      have HSP := Lib.hid hstep
      have HSQ := Lib.hid hstop
      have j0 : (0 : Int) ≤ (k : Int) := by omega
      have j1 : (k : Int) ≤ (n2 : Int) := by omega
      have j2 : (k : Int) ≤ (c2 : Int) := by omega
      clear hcell he hb hrd hgood hiv hck hc0 hc1 hc2 hc3 hstep hstop hbb
      go_wp2_with fail
      refine wp_region_quiet (C := fun y => Below wr.heap.size wr y) (by kernel_rfl) (by kernel_rfl) (below_drew (Below.refl _ _)) ?_
      repeat (refine wpQuiet_step (fun K hK => ?_); go_simp; (first | (refine hK _ ?_; clear hK K) | (apply Exists.intro; refine ⟨fun y hy => ?_, hK _ ?_⟩; (first | exact rfl | exact ⟨rfl, hy⟩ | ((refine (HF.out y hy).mono ?_); (rintro e w3 ⟨rfl, h3⟩; exact ⟨rfl, h3⟩)) | (obtain ⟨q1, q2, q3, q4⟩ := KS.out y hy; go_simp; first | exact rfl | exact ⟨rfl, hy⟩ | exact hy)); clear hK K)))
      refine wpQuiet_nil ?_
      intro wq hwq
      have HBQ := Lib.hid (Below.next HB.out hwq)
      clear hwq
      cases bb
      · have HQ := Lib.hid (HSQ.out rfl)
        go_wp2_with fail
        go_ret2
        rw [HQ.out]
        exact ⟨rfl, HBQ.out⟩
      · have HQ := Lib.hid (HSP.out rfl)
        go_wp2_with fail
        go_roundw
        case rel => exact ⟨k + 1, by omega, by go_num, HQ, HBQ.out⟩
        case measure => simp [intOf]; omega
    · obtain rfl : k = n2 := by omega
      have HQ : Hid (chkR read m l = (0, 13)) := Lib.hid (by unfold chkR; rw [badAt_none (by rw [HN.out]; exact hinv.out)])
      go_wp2_with fail
      go_ret2
      rw [HQ.out]
      exact ⟨rfl, HB.out⟩
end Go.Proofs.YtgfjmplifmbmlaaDoor
namespace Go.Proofs.YtgfjmplifmbmlaaDoor
open Go.RowKit Go.Maps

def flM (p : Nat → Bool) (f : Nat → Ev) (j : Nat) : List Ev := ((List.range j).filter p).map f
theorem flM_len (p : Nat → Bool) (f : Nat → Ev) (j : Nat) : (flM p f j).length ≤ j := by
  unfold flM; rw [List.length_map]; exact Nat.le_trans (List.length_filter_le _ _) (by simp)
theorem flM_succ (p : Nat → Bool) (f : Nat → Ev) (j : Nat) : flM p f (j + 1) = flM p f j ++ if p j then [f j] else [] := by
  unfold flM; rw [List.range_succ, List.filter_append, List.map_append]
  cases h : p j <;> simp [h]
theorem possTo_succ (read : List (BitVec 16)) (n : Nat) (l : List Ev) (k : Nat) : possTo read n l (k + 1) = possTo read n l k ++ possC read n l (k + 1) := by
  unfold possTo; rw [List.range_succ, List.flatMap_append]; simp
theorem possC_len (read : List (BitVec 16)) (n : Nat) (l : List Ev) (b : Nat) : (possC read n l b).length ≤ n + n := by
  unfold possC
  rw [List.length_append]
  refine Nat.add_le_add (flM_len _ _ n) ?_
  split
  · exact flM_len (fun s => folS read n l (evW b s _)) _ n
  · simp
theorem possTo_len (read : List (BitVec 16)) (n : Nat) (l : List Ev) : ∀ k, (possTo read n l k).length ≤ k * (n + n)
  | 0 => by simp [possTo]
  | k + 1 => by
    rw [possTo_succ, List.length_append, Nat.succ_mul]
    exact Nat.add_le_add (possTo_len read n l k) (possC_len read n l (k + 1))

set_option maxRecDepth 100000 in
set_option maxHeartbeats 4000000 in
theorem rpossible_c (read : List (BitVec 16)) (a : Option Addr) (n c : Nat) (m : Nat) (l : List Ev) (a2 : Option Addr) (n2 c2 : Nat) (w : World) (h : Rd w a n c (read.map setV2)) (h2 : RdK 4 w a2 n2 c2 (l.flatMap evC)) (hg : Good read m l) (hl : l.length ≤ 900) (hm : m ≤ 12) :
    Calls Tryd.prog 39 #[.slice a n c, .int .i64 m, .slice a2 n2 c2] w fun e w' => ∃ v, e = .returned v ∧ w'.ownsRow w.heap.size 48 4 v (possS read m l).length ((possS read m l).flatMap evC) ∧ Below w.heap.size w w' := by
  have hsv := (good_inv hm hg).srv
  have HFOL : Hid (∀ (x : Ev) (y : World), Below w.heap.size w y → Calls Tryd.prog 51 #[.slice a n c, .int .i64 m, .slice a2 n2 c2, .agg (evC x).toArray] y fun e w3 => e = .returned (.bool (folS read m l x)) ∧ Below y.heap.size y w3) :=
    Lib.hid (fun x y hy => follows_c read a n c m l a2 n2 c2 x y (h.below hy) (h2.below hy) (fun e he => ⟨(hsv e he).1, (hsv e he).2.1⟩) (by omega) hm)
  have HDEM : Hid (∀ (b : Int) (y : World), Below w.heap.size w y → Calls Tryd.prog 61 #[.slice a n c, .int .i64 m, .slice a2 n2 c2, .int .i64 b] y fun e w3 => e = .returned (.tuple #[.string (demS read m l b).1, .int .i64 (demS read m l b).2]) ∧ Below y.heap.size y w3) :=
    Lib.hid (fun b y hy => demanded_c read a n c m l a2 n2 c2 b y (h.below hy) (h2.below hy) (fun e he => ⟨(hsv e he).1, (hsv e he).2.1⟩) (by omega) hm)
  clear h h2 hsv
  go_enter Tryd.func39, Tryd.ntmps39
  go_wp2_with fail
  go_loopw [7, 8] (fun v i wr => ∃ (k : Nat), k ≤ 4 ∧ i = .int .i64 ((k + 1 : Nat) : Int) ∧ wr.ownsRow w.heap.size 48 4 v (possTo read m l k).length ((possTo read m l k).flatMap evC) ∧ Below w.heap.size w wr) (fun _ i _ => 6 - (intOf i).toNat)
  case atStart => exact ⟨0, Nat.zero_le _, rfl, World.ownsRow_nil _ _ _ _, Below.refl _ _⟩
  case round =>
    obtain ⟨k, hk, rfl, hown, hb⟩ := hrel
    have hlen := possTo_len read m l k
    have hlen2 : k * (m + m) ≤ 4 * 24 := Nat.mul_le_mul hk (by omega)
    have HLEN : Hid ((possTo read m l k).length ≤ 96) := Lib.hid (by omega)
    clear hlen hlen2
    by_cases hlt : k < 4
    · obtain ⟨q, hq⟩ : ∃ q : Nat, k + 1 = q := ⟨_, rfl⟩
      rw [hq]
      have hq4 : (q : Int) ≤ 4 := by omega
      have HQ := Lib.hid hq
      go_wp2_with fail
      go_loopw [7, 9] (fun v i wr => ∃ (j : Nat), j ≤ m ∧ i = .int .i64 j ∧ wr.ownsRow w.heap.size 48 4 v (possTo read m l k ++ flM (fun s => folS read m l (evP q s)) (evP q) j).length ((possTo read m l k ++ flM (fun s => folS read m l (evP q s)) (evP q) j).flatMap evC) ∧ Below w.heap.size w wr) (fun _ i _ => m - (intOf i).toNat)
      case atStart => exact ⟨0, Nat.zero_le _, rfl, by simpa [flM] using hown, hb⟩
      case round =>
        clear hown hb
        obtain ⟨j, hj, rfl, hown, hb⟩ := hrel
        by_cases hlt2 : j < m
        · obtain ⟨bb, hbb⟩ : ∃ bb, folS read m l (evP q j) = bb := ⟨_, rfl⟩
          have hsz := hb.size
          have HFC := Lib.hid (HFOL.out (evP q j) (wr.alloc (.cells #[.int .i64 1, .int .i64 j, .int .i64 q, .string ⟨#[]⟩] 48)) (hb.alloc hsz _))
          rw [hbb] at HFC
          have HSUC : Hid (flM (fun s => folS read m l (evP q s)) (evP q) (j + 1) = flM (fun s => folS read m l (evP q s)) (evP q) j ++ if bb then [evP q j] else []) := Lib.hid (by rw [flM_succ]; simp only [hbb])
          have HFL := Lib.hid (flM_len (fun s => folS read m l (evP q s)) (evP q) j)
          have HB := Lib.hid hb
          have HOWN := Lib.hid hown
          clear hbb hb hown
          go_wp2_with fail
          refine HFC.out.mono ?_
          rintro e w3 ⟨rfl, hb3⟩
          have hbx := heap_below hb3 (heap_alloc_new wr (.cells #[.int .i64 1, .int .i64 j, .int .i64 q, .string ⟨#[]⟩] 48))
          obtain ⟨x0, x1, x2, x3⟩ := open4 hbx
          have hbw : Below w.heap.size w w3 := Below.next (HB.out.alloc hsz _) hb3
          have hown3 := rowK_below (rowK_below HOWN.out (blA _ _)) hb3
          have hll : (possTo read m l k ++ flM (fun s => folS read m l (evP q s)) (evP q) j).length ≤ 108 := by rw [List.length_append]; have := HLEN.out; have := HFL.out; omega
          have HOWN3 := Lib.hid hown3
          have HBW := Lib.hid hbw
          clear hb3 hbx
          cases bb
          · clear hown3 hbw
            go_wp2_with fail
            go_roundw
            case rel => exact ⟨j + 1, by omega, by go_num, by rw [HSUC.out]; simpa using HOWN3.out, HBW.out⟩
            case measure => simp [intOf]; omega
          · go_wp2_with (at_builtin; go_must (refine wpList_appK 4 _ _ 40 40 (.agg #[.int .i64 0, .int .i64 0, .int .i64 0, .string ⟨#[]⟩]) (evC (evP q j)) _ Tryd.underlying40 Tryd.infoEv rfl (by decide) hown3 hbw (Nat.le_refl _) rfl rfl rfl rfl rfl (by intro u hu; exact ev_one [evP q j] u (by simpa using hu)) (by unfold maxLen; omega) (by omega) ?_))
            intro v' w4 hown4 hb4 hg4 hs4
            have HOWN4 : Hid (w4.ownsRow w.heap.size 48 4 v' (possTo read m l k ++ flM (fun s => folS read m l (evP q s)) (evP q) (j + 1)).length ((possTo read m l k ++ flM (fun s => folS read m l (evP q s)) (evP q) (j + 1)).flatMap evC)) := Lib.hid (by rw [HSUC.out]; simpa [Nat.add_assoc] using hown4)
            have HB4 := Lib.hid hb4
            clear hown3 hbw hown4 hb4 hg4 hs4 hll x0 x1 x2 x3
            go_wp2_with fail
            go_roundw
            case rel => exact ⟨j + 1, by omega, by go_num, HOWN4.out, HB4.out⟩
            case measure => simp [intOf]; omega
        · obtain rfl : j = m := by omega
          have HB := Lib.hid hb
          have HOWN := Lib.hid hown
          have HDM := Lib.hid (HDEM.out q wr hb)
          obtain ⟨⟨dv, de⟩, hde⟩ : ∃ d, demS read j l q = d := ⟨_, rfl⟩
          rw [hde] at HDM
          have HDE := Lib.hid hde
          clear hb hown hde
          go_wp2_with fail
          refine HDM.out.mono ?_
          rintro e w5 ⟨rfl, hb5⟩
          have HB5 := Lib.hid (Below.next HB.out hb5)
          have HOWN5 := Lib.hid (rowK_below HOWN.out hb5)
          clear hb5
          have HFL := Lib.hid (flM_len (fun s => folS read j l (evP q s)) (evP q) j)
          by_cases d4 : de = 4
          · subst d4
            have HI := Lib.hid (Tryd.strconv_Itoa_small q (by omega))
            obtain ⟨x, hx⟩ : ∃ x, valB q = x := ⟨_, rfl⟩
            have HCAT : Hid ((⟨#[118]⟩ : ByteArray) ++ (⟨(Lib.decDigits q).toArray⟩ : ByteArray) = x) := Lib.hid ((cat2 [118] (Lib.decDigits q)).trans hx)
            have HSTEP : Hid (possTo read j l (k + 1) = possTo read j l k ++ flM (fun s => folS read j l (evP q s)) (evP q) j ++ flM (fun s => folS read j l (evW q s x)) (fun s => evW q s x) j) := Lib.hid (by rw [possTo_succ, HQ.out, List.append_assoc]; unfold possC; rw [HDE.out, ← hx]; rfl)
            have hdl := dec_small q (by omega)
            obtain ⟨dd, hdd⟩ : ∃ dd, Lib.decDigits q = dd := ⟨_, rfl⟩
            rw [hdd] at HI hdl HCAT
            clear hx hdd
            go_wp2_with fail
            refine (HI.out _).mono ?_
            rintro e w6 ⟨rfl, rfl⟩
            go_wp2_with fail
            rw [HCAT.out]
            --LOOPB 12 x
            go_loopw [7, 13] (fun v i wr => ∃ (j2 : Nat), j2 ≤ j ∧ i = .int .i64 j2 ∧ wr.ownsRow w.heap.size 48 4 v (possTo read j l k ++ flM (fun s => folS read j l (evP q s)) (evP q) j ++ flM (fun s => folS read j l (evW q s x)) (fun s => evW q s x) j2).length ((possTo read j l k ++ flM (fun s => folS read j l (evP q s)) (evP q) j ++ flM (fun s => folS read j l (evW q s x)) (fun s => evW q s x) j2).flatMap evC) ∧ Below w.heap.size w wr) (fun _ i _ => j - (intOf i).toNat)
            case atStart => exact ⟨0, Nat.zero_le _, rfl, by simpa [flM] using HOWN5.out, HB5.out⟩
            case round =>
              obtain ⟨j2, hj2, rfl, hown, hb⟩ := hrel
              by_cases hlt3 : j2 < j
              · obtain ⟨bb, hbb⟩ : ∃ bb, folS read j l (evW q j2 x) = bb := ⟨_, rfl⟩
                have hsz := hb.size
                have HFC := Lib.hid (HFOL.out (evW q j2 x) (wr.alloc (.cells #[.int .i64 2, .int .i64 j2, .int .i64 q, .string x] 48)) (hb.alloc hsz _))
                rw [hbb] at HFC
                have HSUC : Hid (flM (fun s => folS read j l (evW q s x)) (fun s => evW q s x) (j2 + 1) = flM (fun s => folS read j l (evW q s x)) (fun s => evW q s x) j2 ++ if bb then [evW q j2 x] else []) := Lib.hid (by rw [flM_succ]; simp only [hbb])
                have HFL2 := Lib.hid (flM_len (fun s => folS read j l (evW q s x)) (fun s => evW q s x) j2)
                have HB := Lib.hid hb
                have HOWN := Lib.hid hown
                clear hbb hb hown
                go_wp2_with fail
                refine HFC.out.mono ?_
                rintro e w3 ⟨rfl, hb3⟩
                have hbx := heap_below hb3 (heap_alloc_new wr (.cells #[.int .i64 2, .int .i64 j2, .int .i64 q, .string x] 48))
                obtain ⟨x0, x1, x2, x3⟩ := open4 hbx
                have hbw : Below w.heap.size w w3 := Below.next (HB.out.alloc hsz _) hb3
                have hown3 := rowK_below (rowK_below HOWN.out (blA _ _)) hb3
                have hll : (possTo read j l k ++ flM (fun s => folS read j l (evP q s)) (evP q) j ++ flM (fun s => folS read j l (evW q s x)) (fun s => evW q s x) j2).length ≤ 120 := by rw [List.length_append, List.length_append]; have := HLEN.out; have := HFL.out; have := HFL2.out; omega
                have HOWN3 := Lib.hid hown3
                have HBW := Lib.hid hbw
                clear hb3 hbx
                cases bb
                · clear hown3 hbw
                  go_wp2_with fail
                  go_roundw
                  case rel => exact ⟨j2 + 1, by omega, by go_num, by rw [HSUC.out]; simpa using HOWN3.out, HBW.out⟩
                  case measure => simp [intOf]; omega
                · go_wp2_with (at_builtin; go_must (refine wpList_appK 4 _ _ 40 40 (.agg #[.int .i64 0, .int .i64 0, .int .i64 0, .string ⟨#[]⟩]) (evC (evW q j2 x)) _ Tryd.underlying40 Tryd.infoEv rfl (by decide) hown3 hbw (Nat.le_refl _) rfl rfl rfl rfl rfl (by intro u hu; exact ev_one [evW q j2 x] u (by simpa using hu)) (by unfold maxLen; omega) (by omega) ?_))
                  intro v' w4 hown4 hb4 hg4 hs4
                  have HOWN4 := Lib.hid hown4
                  have HB4 := Lib.hid hb4
                  clear hown3 hbw hown4 hb4 hg4 hs4 hll x0 x1 x2 x3
                  go_wp2_with fail
                  go_roundw
                  case rel => exact ⟨j2 + 1, by omega, by go_num, by rw [HSUC.out]; simpa [Nat.add_assoc] using HOWN4.out, HB4.out⟩
                  case measure => simp [intOf]; omega
              · obtain rfl : j2 = j := by omega
                have HB := Lib.hid hb
                have HOWN : Hid (wr.ownsRow w.heap.size 48 4 _ (possTo read j2 l (k + 1)).length ((possTo read j2 l (k + 1)).flatMap evC)) := Lib.hid (by rw [HSTEP.out]; exact hown)
                clear hb hown
                go_wp2_with fail
                go_roundw
                case rel => exact ⟨k + 1, by omega, by rw [← HQ.out]; go_num, HOWN.out, HB.out⟩
                case measure => simp [intOf]; omega
            --ENDB
          · by_cases d0 : de = 0
            · subst d0
              have HSTEP : Hid (possTo read j l (k + 1) = possTo read j l k ++ flM (fun s => folS read j l (evP q s)) (evP q) j ++ flM (fun s => folS read j l (evW q s dv)) (fun s => evW q s dv) j) := Lib.hid (by rw [possTo_succ, HQ.out, List.append_assoc]; unfold possC; rw [HDE.out]; rfl)
              go_wp2_with fail
              --LOOPB 14 dv
              go_loopw [7, 13] (fun v i wr => ∃ (j2 : Nat), j2 ≤ j ∧ i = .int .i64 j2 ∧ wr.ownsRow w.heap.size 48 4 v (possTo read j l k ++ flM (fun s => folS read j l (evP q s)) (evP q) j ++ flM (fun s => folS read j l (evW q s dv)) (fun s => evW q s dv) j2).length ((possTo read j l k ++ flM (fun s => folS read j l (evP q s)) (evP q) j ++ flM (fun s => folS read j l (evW q s dv)) (fun s => evW q s dv) j2).flatMap evC) ∧ Below w.heap.size w wr) (fun _ i _ => j - (intOf i).toNat)
              case atStart => exact ⟨0, Nat.zero_le _, rfl, by simpa [flM] using HOWN5.out, HB5.out⟩
              case round =>
                obtain ⟨j2, hj2, rfl, hown, hb⟩ := hrel
                by_cases hlt3 : j2 < j
                · obtain ⟨bb, hbb⟩ : ∃ bb, folS read j l (evW q j2 dv) = bb := ⟨_, rfl⟩
                  have hsz := hb.size
                  have HFC := Lib.hid (HFOL.out (evW q j2 dv) (wr.alloc (.cells #[.int .i64 2, .int .i64 j2, .int .i64 q, .string dv] 48)) (hb.alloc hsz _))
                  rw [hbb] at HFC
                  have HSUC : Hid (flM (fun s => folS read j l (evW q s dv)) (fun s => evW q s dv) (j2 + 1) = flM (fun s => folS read j l (evW q s dv)) (fun s => evW q s dv) j2 ++ if bb then [evW q j2 dv] else []) := Lib.hid (by rw [flM_succ]; simp only [hbb])
                  have HFL2 := Lib.hid (flM_len (fun s => folS read j l (evW q s dv)) (fun s => evW q s dv) j2)
                  have HB := Lib.hid hb
                  have HOWN := Lib.hid hown
                  clear hbb hb hown
                  go_wp2_with fail
                  refine HFC.out.mono ?_
                  rintro e w3 ⟨rfl, hb3⟩
                  have hbx := heap_below hb3 (heap_alloc_new wr (.cells #[.int .i64 2, .int .i64 j2, .int .i64 q, .string dv] 48))
                  obtain ⟨x0, x1, x2, x3⟩ := open4 hbx
                  have hbw : Below w.heap.size w w3 := Below.next (HB.out.alloc hsz _) hb3
                  have hown3 := rowK_below (rowK_below HOWN.out (blA _ _)) hb3
                  have hll : (possTo read j l k ++ flM (fun s => folS read j l (evP q s)) (evP q) j ++ flM (fun s => folS read j l (evW q s dv)) (fun s => evW q s dv) j2).length ≤ 120 := by rw [List.length_append, List.length_append]; have := HLEN.out; have := HFL.out; have := HFL2.out; omega
                  have HOWN3 := Lib.hid hown3
                  have HBW := Lib.hid hbw
                  clear hb3 hbx
                  cases bb
                  · clear hown3 hbw
                    go_wp2_with fail
                    go_roundw
                    case rel => exact ⟨j2 + 1, by omega, by go_num, by rw [HSUC.out]; simpa using HOWN3.out, HBW.out⟩
                    case measure => simp [intOf]; omega
                  · go_wp2_with (at_builtin; go_must (refine wpList_appK 4 _ _ 40 40 (.agg #[.int .i64 0, .int .i64 0, .int .i64 0, .string ⟨#[]⟩]) (evC (evW q j2 dv)) _ Tryd.underlying40 Tryd.infoEv rfl (by decide) hown3 hbw (Nat.le_refl _) rfl rfl rfl rfl rfl (by intro u hu; exact ev_one [evW q j2 dv] u (by simpa using hu)) (by unfold maxLen; omega) (by omega) ?_))
                    intro v' w4 hown4 hb4 hg4 hs4
                    have HOWN4 := Lib.hid hown4
                    have HB4 := Lib.hid hb4
                    clear hown3 hbw hown4 hb4 hg4 hs4 hll x0 x1 x2 x3
                    go_wp2_with fail
                    go_roundw
                    case rel => exact ⟨j2 + 1, by omega, by go_num, by rw [HSUC.out]; simpa [Nat.add_assoc] using HOWN4.out, HB4.out⟩
                    case measure => simp [intOf]; omega
                · obtain rfl : j2 = j := by omega
                  have HB := Lib.hid hb
                  have HOWN : Hid (wr.ownsRow w.heap.size 48 4 _ (possTo read j2 l (k + 1)).length ((possTo read j2 l (k + 1)).flatMap evC)) := Lib.hid (by rw [HSTEP.out]; exact hown)
                  clear hb hown
                  go_wp2_with fail
                  go_roundw
                  case rel => exact ⟨k + 1, by omega, by rw [← HQ.out]; go_num, HOWN.out, HB.out⟩
                  case measure => simp [intOf]; omega
              --ENDB
            · have HSTEP : Hid (possTo read j l (k + 1) = possTo read j l k ++ flM (fun s => folS read j l (evP q s)) (evP q) j) := Lib.hid (by rw [possTo_succ, HQ.out]; unfold possC; rw [HDE.out]; simp [demV, d4, d0, possA, flM])
              go_wp2_with fail
              go_roundw
              case rel => exact ⟨k + 1, by omega, by rw [← HQ.out]; go_num, by rw [HSTEP.out]; exact HOWN5.out, HB5.out⟩
              case measure => simp [intOf]; omega
    · obtain rfl : k = 4 := by omega
      have HB := Lib.hid hb
      have HOWN := Lib.hid hown
      go_wp2_with fail
      go_ret
      exact ⟨_, rfl, HOWN.out, HB.out⟩
end Go.Proofs.YtgfjmplifmbmlaaDoor
namespace Go.Proofs.YtgfjmplifmbmlaaDoor
open Go.RowKit Go.Maps

def chV (x : Nat) : Value := .int .u8 x
set_option maxRecDepth 100000 in
set_option maxHeartbeats 4000000 in
theorem rrun_c (read write : List (BitVec 16)) (a : Option Addr) (n c : Nat) (aw : Option Addr) (nw cw : Nat) (m : Nat) (ch : List Nat) (a3 : Option Addr) (n3 c3 : Nat) (w : World) (h : Rd w a n c (read.map setV2)) (hw : Rd w aw nw cw (write.map setV2)) (h3 : Rd w a3 n3 c3 (ch.map chV)) (hch : ∀ x ∈ ch, x < 256) (hl : ch.length ≤ 30) (hm : m ≤ 12) (hchk : chkS m [read, write] = 0) :
    Calls Tryd.prog 18 #[.slice a n c, .slice aw nw cw, .int .i64 m, .slice a3 n3 c3] w fun e w' => ∃ v, e = .returned (.tuple #[v, .int .i64 0]) ∧ w'.ownsRow w.heap.size 48 4 v (runS read m (ch.map Int.ofNat)).length ((runS read m (ch.map Int.ofNat)).flatMap evC) ∧ Below w.heap.size w w' := by
  have HG := Lib.hid (given_c read write m a n c aw nw cw w h hw)
  rw [hchk] at HG
  go_enter Tryd.func18, Tryd.ntmps18
  have hnl : ch.length = n3 := by have := h3.len; simp at this; omega
  have HR := Lib.hid h
  have HR3 := Lib.hid h3
  have HN := Lib.hid hnl
  have HCH := Lib.hid hch
  have hle := h3.le
  have hmx := h3.max
  unfold maxLen at hmx
  rw [hnl] at hl
  clear h hw h3 hnl hch
  go_wp2_with fail
  refine HG.out.mono ?_
  rintro e w1 ⟨rfl, hb1⟩
  have HB1 := Lib.hid hb1
  clear hb1
  go_wp2_with fail
  go_loopw [11, 12] (fun v i wr => ∃ (k : Nat), k ≤ n3 ∧ i = .int .i64 k ∧ wr.ownsRow w.heap.size 48 4 v (runTo read m (ch.map Int.ofNat) k).length ((runTo read m (ch.map Int.ofNat) k).flatMap evC) ∧ Below w.heap.size w wr) (fun _ i _ => n3 - (intOf i).toNat)
  case atStart => exact ⟨0, Nat.zero_le _, rfl, World.ownsRow_nil _ _ _ _, HB1.out⟩
  case round =>
    obtain ⟨k, hk, rfl, hown, hb⟩ := hrel
    have HB := Lib.hid hb
    have HOWN := Lib.hid hown
    by_cases hlt : k < n3
    · obtain ⟨x, hx⟩ : ∃ x, ch[k]? = some x := ⟨ch[k]'(by have := HN.out; omega), List.getElem?_eq_getElem _⟩
      have hx256 := HCH.out x (List.mem_of_getElem? hx)
      have hrd := HR3.out.below hb
      obtain ⟨b', o, ha, hcell⟩ := hrd.at' (by omega)
      have hc0 := hcell k (chV x) (by simp [hx])
      unfold chV at hc0
      have hsuc : runTo read m (ch.map Int.ofNat) (k + 1) = runStep read m (runTo read m (ch.map Int.ofNat) k) (x : Int) := runTo_succ (by simp [hx])
      have HSUC := Lib.hid hsuc
      obtain ⟨ao, co, rfl, hro⟩ := rdK_of_row hown
      have hlen := runTo_len read m (ch.map Int.ofNat) k
      have HLEN := Lib.hid hlen
      have HPO := Lib.hid (rpossible_c read a n c m (runTo read m (ch.map Int.ofNat) k) ao _ co wr (HR.out.below hb) hro (runTo_good _ _ _ _) (by omega) hm)
      have hsz := hb.size
      subst ha
      clear hcell hx hb hown hrd hsuc hlen hro
      go_wp2_with fail
      refine HPO.out.mono ?_
      rintro e w3 ⟨vl, rfl, hown2, hb3⟩
      obtain ⟨al, cl, rfl, hrl⟩ := rdK_of_row hown2
      have hc3 := (hb3.cell (p := ⟨b', o + k, none⟩) (cell_lt hc0)).trans hc0
      have hbw := Below.next HB.out hb3
      have hown3 := rowK_below HOWN.out hb3
      have HBW := Lib.hid hbw
      have HOWN3 := Lib.hid hown3
      clear hown2 hb3 HPO
      by_cases hz : possS read m (runTo read m (ch.map Int.ofNat) k) = []
      · have HST := Lib.hid (runTo_stop hz)
        rw [hz]
        clear hown3 hbw hrl hz
        go_wp2_with fail
        go_ret2
        exact ⟨_, rfl, by rw [← HST.out]; exact HOWN3.out, HBW.out⟩
      · obtain ⟨L, hL⟩ : ∃ L, (possS read m (runTo read m (ch.map Int.ofNat) k)).length = L := ⟨_, rfl⟩
        have hL0 : 0 < L := by rw [← hL]; exact List.length_pos_iff.2 hz
        obtain ⟨r, hr⟩ : ∃ r, x % L = r := ⟨_, rfl⟩
        have hrL : r < L := by rw [← hr]; exact Nat.mod_lt _ hL0
        obtain ⟨e, he⟩ : ∃ e, (possS read m (runTo read m (ch.map Int.ofNat) k))[r]? = some e := ⟨_, List.getElem?_eq_getElem (by omega)⟩
        have HST : Hid (runTo read m (ch.map Int.ofNat) (k + 1) = runTo read m (ch.map Int.ofNat) k ++ [e]) := Lib.hid (by
          rw [HSUC.out]; unfold runStep pickE
          rw [hL, show ((x : Int) % (L : Int)).toNat = r by rw [← Int.natCast_emod, Int.toNat_natCast, hr], he])
        have hrem : Int.tmod (x : Int) (L : Int) = (r : Int) := by rw [← hr]; exact (Int.ofNat_tmod x L).symm
        rw [hL] at hrl ⊢
        obtain ⟨b2, o2, ha2, hcell2⟩ := RdK.cells hrl evC_len hL0
        have g0 := hcell2 r e he 0 (by omega)
        have g1 := hcell2 r e he 1 (by omega)
        have g2 := hcell2 r e he 2 (by omega)
        have g3 := hcell2 r e he 3 (by omega)
        obtain ⟨kd, sv, eb, y⟩ := e
        simp only [evC, List.getElem?_cons_zero, List.getElem?_cons_succ, Nat.add_zero] at g0 g1 g2 g3
        subst ha2
        have hln := HLEN.out
        have q0 : (0 : Int) ≤ (r : Int) := by omega
        have q1 : (r : Int) < (L : Int) := by omega
        have q2 : ((L : Int) == 0) = false := by simp; omega
        have hlm := hrl.le
        have hlx := hrl.max
        unfold maxLen at hlx
        clear hz hcell2 he hrl hL hr
        go_wp2_with (at_builtin; go_must (refine wpList_appK 4 _ _ 40 40 (.agg #[.int .i64 0, .int .i64 0, .int .i64 0, .string ⟨#[]⟩]) (evC ⟨kd, sv, eb, y⟩) _ Tryd.underlying40 Tryd.infoEv rfl (by decide) hown3 hbw (Nat.le_refl _) rfl rfl rfl rfl rfl (by intro u hu; exact ev_one [⟨kd, sv, eb, y⟩] u (by simpa using hu)) (by unfold maxLen; omega) (by omega) ?_))
        intro v' w4 hown4 hb4 hg4 hs4
        have HOWN4 : Hid (w4.ownsRow w.heap.size 48 4 v' (runTo read m (ch.map Int.ofNat) (k + 1)).length ((runTo read m (ch.map Int.ofNat) (k + 1)).flatMap evC)) := Lib.hid (by rw [HST.out]; simpa using hown4)
        have HB4 := Lib.hid hb4
        clear hown3 hbw hown4 hb4 hg4 hs4 g0 g1 g2 g3
        go_wp2_with fail
        go_roundw
        case rel => exact ⟨k + 1, by omega, by go_num, HOWN4.out, HB4.out⟩
        case measure => simp [intOf]; omega
    · obtain rfl : k = n3 := by omega
      have HE : Hid (runTo read m (ch.map Int.ofNat) k = runS read m (ch.map Int.ofNat)) := Lib.hid (by rw [← runTo_all, List.length_map, HN.out])
      go_wp2_with fail
      go_ret2
      exact ⟨_, rfl, by rw [← HE.out]; exact HOWN.out, HB.out⟩
end Go.Proofs.YtgfjmplifmbmlaaDoor
namespace Go.Proofs.YtgfjmplifmbmlaaDoor
open Go.RowKit Go.Shelf

theorem Tryd.infoU8 : (Tryd.prog.info? 5).map (fun i => (i.zero, i.size, i.bytes)) = some (some (.int .u8 0), 1, 1) := by kernel_rfl
set_option maxRecDepth 100000 in
set_option maxHeartbeats 1000000 in
theorem cloneb_c (l : List Nat) (a : Option Addr) (n c : Nat) (w : World) (h : Rd w a n c (l.map chV)) (hb : n ≤ 1000000) :
    Calls Tryd.prog 17 #[.slice a n c] w fun e w' => ∃ a' c', e = .returned (.slice a' n c') ∧ Rd w' a' n c' (l.map chV) ∧ Below w.heap.size w w' := by
  have hlen : (l.map chV).length = n := h.len.symm
  cases a with
  | none =>
    have hc := h.nil rfl
    have hn : n = 0 := by have := h.le; omega
    subst hc hn
    have hl : l = [] := by simpa using hlen
    subst hl
    clear h hlen hb
    have q : ∀ (w : World) (a : Option Addr) (n c n' c' : Nat), (binOp .eql 35 (.slice a n c) (.slice none n' c')).run Tryd.prog w = .ok (.bool a.isNone) w := fun w a n c n' c' => Lib.run_eql_slice_nil w _ _ a n c n' c' Tryd.underlying35
    go_enter Tryd.func17, Tryd.ntmps17
    go_wp2
    go_ret
    exact ⟨_, _, rfl, Rd.none_ _, Below.refl _ _⟩
  | some ad =>
    have hh := Lib.hid h
    have hl2 := Lib.hid hlen
    clear h hlen
    have q : ∀ (w : World) (a : Option Addr) (n c n' c' : Nat), (binOp .eql 35 (.slice a n c) (.slice none n' c')).run Tryd.prog w = .ok (.bool a.isNone) w := fun w a n c n' c' => Lib.run_eql_slice_nil w _ _ a n c n' c' Tryd.underlying35
    go_enter Tryd.func17, Tryd.ntmps17
    go_wp2_with (at_builtin; go_must (refine wpList_apps _ _ 35 1 (.int .u8 0) _ _ _ (l.map chV) Tryd.underlying35 Tryd.infoU8 rfl (World.ownsRow_made w #[] 0 (Nat.le_refl _) (Nat.zero_le _) rfl) ((Below.refl _ w).alloc (Nat.le_refl _) _) (Nat.le_refl _) (hh.out.below ((Below.refl _ w).alloc (Nat.le_refl _) _)) (by intro u hu; obtain ⟨_, _, rfl⟩ := List.mem_map.1 hu; rfl) rfl rfl rfl rfl (by unfold maxLen; simp; omega) (by simp; omega) ?_))
    intro v' w1 hown1 hb1 _
    have hown2 : w1.ownsRow w.heap.size 5 1 v' n (l.map chV) := by simpa using hown1
    obtain ⟨a', c', rfl, hr⟩ := rd_of_row hown2
    have HRR := Lib.hid hr
    clear hb hown1 hown2 hr
    go_wp2
    go_ret
    exact ⟨_, _, rfl, HRR.out, hb1⟩

set_option maxRecDepth 100000 in
set_option maxHeartbeats 1000000 in
theorem clonee_c (l : List Ev) (a : Option Addr) (n c : Nat) (w : World) (h : RdK 4 w a n c (l.flatMap evC)) (hb : n ≤ 1000000) :
    Calls Tryd.prog 20 #[.slice a n c] w fun e w' => ∃ a' c', e = .returned (.slice a' n c') ∧ RdK 4 w' a' n c' (l.flatMap evC) ∧ Below w.heap.size w w' := by
  cases a with
  | none =>
    have hc := h.nil rfl
    have hn : n = 0 := by have := h.le; omega
    subst hc hn
    have hl : l.flatMap evC = [] := List.eq_nil_of_length_eq_zero (by rw [← h.len])
    rw [hl]
    clear h hb hl
    have q : ∀ (w : World) (a : Option Addr) (n c n' c' : Nat), (binOp .eql 40 (.slice a n c) (.slice none n' c')).run Tryd.prog w = .ok (.bool a.isNone) w := fun w a n c n' c' => Lib.run_eql_slice_nil w _ _ a n c n' c' Tryd.underlying40
    go_enter Tryd.func20, Tryd.ntmps20
    go_wp2
    go_ret
    exact ⟨_, _, rfl, RdK.none_ _ _, Below.refl _ _⟩
  | some ad =>
    have hh := Lib.hid h
    clear h
    have q : ∀ (w : World) (a : Option Addr) (n c n' c' : Nat), (binOp .eql 40 (.slice a n c) (.slice none n' c')).run Tryd.prog w = .ok (.bool a.isNone) w := fun w a n c n' c' => Lib.run_eql_slice_nil w _ _ a n c n' c' Tryd.underlying40
    go_enter Tryd.func20, Tryd.ntmps20
    go_wp2_with (at_builtin; go_must (refine wpList_appsK 4 _ _ 40 40 (.agg #[.int .i64 0, .int .i64 0, .int .i64 0, .string ⟨#[]⟩]) _ _ _ (l.flatMap evC) Tryd.underlying40 Tryd.infoEv rfl (by decide) (World.ownsRow_made w #[] 0 (Nat.le_refl _) (Nat.zero_le _) rfl) ((Below.refl _ w).alloc (Nat.le_refl _) _) (Nat.le_refl _) (hh.out.below ((Below.refl _ w).alloc (Nat.le_refl _) _)) (ev_one l) rfl rfl rfl rfl (by unfold maxLen; simp; omega) (by simp; omega) ?_))
    intro v' w1 hown1 hb1 _
    have hown2 : w1.ownsRow w.heap.size 48 4 v' n (l.flatMap evC) := by simpa using hown1
    obtain ⟨a', c', rfl, hr⟩ := rdK_of_row hown2
    have HRR := Lib.hid hr
    clear hb hown1 hown2 hr
    go_wp2
    go_ret
    exact ⟨_, _, rfl, HRR.out, hb1⟩
end Go.Proofs.YtgfjmplifmbmlaaDoor
namespace Go.Proofs.YtgfjmplifmbmlaaDoor
open Go.RowKit Go.Shelf

/-- the number of servers -/
def ofN (s : Int) : Nat := 1 + (s % 5).toNat
def mskI (n : Nat) (z : Int) : Int := z % 2 ^ n
def kepTo (n : Nat) (l : List Int) (k : Nat) : List Int := ((l.take k).map (mskI n)).filter fun z => z != 0
def kepI (n : Nat) (l : List Int) : List Int := kepTo n l (min 8 l.length)
def sysS (n : Nat) (l : List Int) : List (BitVec 16) := madS (kepI n l)
theorem kepTo_succ {n : Nat} {l : List Int} {k : Nat} {z : Int} (h : l[k]? = some z) : kepTo n l (k + 1) = if mskI n z = 0 then kepTo n l k else kepTo n l k ++ [mskI n z] := by
  unfold kepTo
  rw [List.take_add_one, h, List.map_append, List.filter_append]
  by_cases h0 : mskI n z = 0
  · simp [h0]
  · simp [h0]
theorem kepTo_len (n : Nat) (l : List Int) (k : Nat) : (kepTo n l k).length ≤ k := by
  unfold kepTo; exact Nat.le_trans (List.length_filter_le _ _) (by simp; omega)
theorem and_msk (n : Nat) (hn : n ≤ 4) (z : Int) (h0 : 0 ≤ z) (h1 : z < 256) : bits .and .u8 z ((2 ^ (1 + n) - 1) % 256) = mskI (1 + n) z ∧ 0 ≤ mskI (1 + n) z ∧ mskI (1 + n) z < 32 := by
  obtain ⟨k, rfl⟩ := Int.eq_ofNat_of_zero_le h0
  have : ∀ (n : Fin 5) (k : Fin 256), bits .and .u8 (k.val : Int) ((2 ^ (1 + n.val) - 1) % 256) = mskI (1 + n.val) (k.val : Int) ∧ 0 ≤ mskI (1 + n.val) (k.val : Int) ∧ mskI (1 + n.val) (k.val : Int) < 32 := by decide +kernel
  exact this ⟨n, by omega⟩ ⟨k, by omega⟩
theorem kepTo_rng {n : Nat} (hn : n ≤ 4) {l : List Int} (h : ∀ z ∈ l, 0 ≤ z ∧ z < 256) (k : Nat) : ∀ z ∈ kepTo (1 + n) l k, 0 ≤ z ∧ z < 32 ∧ z < 2 ^ (1 + n) ∧ z ≠ 0 := by
  intro z hz
  unfold kepTo at hz
  obtain ⟨h1, h2⟩ := List.mem_filter.1 hz
  obtain ⟨x, hx, rfl⟩ := List.mem_map.1 h1
  have h3 := h x (List.mem_of_mem_take hx)
  have h4 := and_msk n hn x h3.1 h3.2
  refine ⟨h4.2.1, h4.2.2, ?_, by simpa using h2⟩
  unfold mskI; exact Int.emod_lt_of_pos _ (Int.pow_pos (by decide))

set_option maxRecDepth 100000 in
set_option maxHeartbeats 4000000 in
theorem sys_c (l1 l2 : List Int) (s : Int) (hs : 0 ≤ s ∧ s < 256) (h1 : ∀ z ∈ l1, 0 ≤ z ∧ z < 256) (h2 : ∀ z ∈ l2, 0 ≤ z ∧ z < 256) (a : Option Addr) (n c : Nat) (a2 : Option Addr) (n2 c2 : Nat) (w : World) (hr1 : Rd w a n c (l1.map (Value.int .u8))) (hr2 : Rd w a2 n2 c2 (l2.map (Value.int .u8))) :
    Calls Tryd.prog 15 #[.agg #[.slice a n c, .slice a2 n2 c2, .int .u8 s]] w fun e w' => ∃ a3 c3 a4 c4, e = .returned (.tuple #[.slice a3 (sysS (ofN s) l1).length c3, .slice a4 (sysS (ofN s) l2).length c4, .int .i64 (ofN s)]) ∧ Rd w' a3 (sysS (ofN s) l1).length c3 ((sysS (ofN s) l1).map setV2) ∧ Rd w' a4 (sysS (ofN s) l2).length c4 ((sysS (ofN s) l2).map setV2) ∧ Below w.heap.size w w' := by
  obtain ⟨s', rfl⟩ := Int.eq_ofNat_of_zero_le hs.1
  have hs2 : s' < 256 := by omega
  have hN : ofN (s' : Int) = 1 + s' % 5 := by unfold ofN; omega
  obtain ⟨M, hMM⟩ : ∃ M, s' % 5 = M := ⟨_, rfl⟩
  rw [hMM] at hN
  rw [hN]
  have hM4 : M ≤ 4 := by omega
  have hm5 : ((s' : Int)).tmod 5 = (M : Int) := by rw [Int.tmod_eq_emod_of_nonneg (by omega)]; omega
  have h1n : l1.length = n := by have := hr1.len; simp at this; omega
  have h2n : l2.length = n2 := by have := hr2.len; simp at this; omega
  have hle1 := hr1.le
  have hmx1 := hr1.max
  have hle2 := hr2.le
  have hmx2 := hr2.max
  unfold maxLen at hmx1 hmx2
  have HR1 := Lib.hid hr1
  have HR2 := Lib.hid hr2
  have HN1 := Lib.hid h1n
  have HN2 := Lib.hid h2n
  have HW1 := Lib.hid h1
  have HW2 := Lib.hid h2
  clear hMM hN hs hr1 hr2 h1n h2n h1 h2
  go_enter Tryd.func15, Tryd.ntmps15
  go_wp2_with fail
  generalize hWS : ((w.alloc _).alloc _).alloc _ = WS
  have hS : WS.heap.size = w.heap.size + 3 := by rw [← hWS]; simp
  have g1 : WS.heap[w.heap.size + 1]? = some (.cells #[.slice none 0 0, .slice none 0 0] 65 (0, 0)) := by
    rw [← hWS]; refine heap_alloc_at ?_ _
    have := heap_alloc_new (w.alloc (.cells #[.slice a n c, .slice a2 n2 c2, .int .u8 s'] 37)) (.cells #[.slice none 0 0, .slice none 0 0] 65)
    rw [World.size_alloc] at this; exact this
  have g2 : WS.heap[w.heap.size + 2]? = some (.cells #[.slice a n c, .slice a2 n2 c2] 35 (0, 0)) := by
    rw [← hWS]
    have := heap_alloc_new ((w.alloc (.cells #[.slice a n c, .slice a2 n2 c2, .int .u8 s'] 37)).alloc (.cells #[.slice none 0 0, .slice none 0 0] 65)) (.cells #[.slice a n c, .slice a2 n2 c2] 35)
    rw [World.size_alloc, World.size_alloc] at this; exact this
  have hbS : Below w.heap.size w WS := by rw [← hWS]; exact (((Below.refl _ w).alloc (Nat.le_refl _) _).alloc (by simp) _).alloc (by simp; omega) _
  have HS := Lib.hid hS
  have G1 := Lib.hid g1
  have G2 := Lib.hid g2
  have HBS := Lib.hid hbS
  clear hWS hS g1 g2 hbS hm5
  go_loopw [23] (fun i wr => ∃ k : Nat, k ≤ 2 ∧ i = .int .i64 k ∧ ∃ (v0 v1 : Value), wr.heap[w.heap.size + 1]? = some (.cells #[v0, v1] 65 (0, 0)) ∧ wr.heap[w.heap.size + 2]? = some (.cells #[.slice a n c, .slice a2 n2 c2] 35 (0, 0)) ∧ Below w.heap.size w wr ∧ w.heap.size + 3 ≤ wr.heap.size ∧ Hid (1 ≤ k → wr.ownsRow (w.heap.size + 3) 30 1 v0 (sysS (1 + M) l1).length ((sysS (1 + M) l1).map setV2)) ∧ Hid (2 ≤ k → wr.ownsRow (w.heap.size + 3) 30 1 v1 (sysS (1 + M) l2).length ((sysS (1 + M) l2).map setV2))) (fun i _ => 2 - (intOf i).toNat)
  case atStart => exact ⟨0, by omega, rfl, _, _, G1.out, G2.out, HBS.out, by rw [HS.out]; exact Nat.le_refl _, Lib.hid (fun h => by omega), Lib.hid (fun h => by omega)⟩
  case round =>
    obtain ⟨k, hk, rfl, v0, v1, e1, e2, hb, hsz, ho0, ho1⟩ := hrel
    by_cases hlt : k < 2
    · obtain ⟨ax, nx, cx, lx, hlx⟩ : ∃ (ax : Option Addr) (nx cx : Nat) (lx : List Int), (k = 0 ∧ ax = a ∧ nx = n ∧ cx = c ∧ lx = l1) ∨ (k = 1 ∧ ax = a2 ∧ nx = n2 ∧ cx = c2 ∧ lx = l2) := by
        match k, hlt with
        | 0, _ => exact ⟨_, _, _, _, .inl ⟨rfl, rfl, rfl, rfl, rfl⟩⟩
        | 1, _ => exact ⟨_, _, _, _, .inr ⟨rfl, rfl, rfl, rfl, rfl⟩⟩
      have hcx : wr.cell? ⟨w.heap.size + 1 + 1, k, none⟩ = some (.slice ax nx cx) := by
        rcases hlx with ⟨rfl, rfl, rfl, rfl, rfl⟩ | ⟨rfl, rfl, rfl, rfl, rfl⟩
        · exact cell_of_row _ _ 0 _ _ _ e2
        · exact cell_of_row _ _ 1 _ _ _ e2
      have HX : Hid (Rd w ax nx cx (lx.map (Value.int .u8)) ∧ lx.length = nx ∧ (∀ z ∈ lx, 0 ≤ z ∧ z < 256)) := Lib.hid (by
        rcases hlx with ⟨rfl, rfl, rfl, rfl, rfl⟩ | ⟨rfl, rfl, rfl, rfl, rfl⟩
        · exact ⟨HR1.out, HN1.out, HW1.out⟩
        · exact ⟨HR2.out, HN2.out, HW2.out⟩)
      have hlex := HX.out.1.le
      have hmxx := HX.out.1.max
      unfold maxLen at hmxx
      have HLX := Lib.hid hlx
      have E1 := Lib.hid e1
      have E2 := Lib.hid e2
      have HB := Lib.hid hb
      clear hlx e1 e2 hb
      obtain ⟨mx, hmx⟩ : ∃ mx, min 8 nx = mx := ⟨_, rfl⟩
      have hmn : min 8 (nx : Int) = (mx : Int) := by omega
      have hmx0 : max (mx : Int) 0 = (mx : Int) := by omega
      have hmx8 : mx ≤ 8 := by omega
      have hmxn : mx ≤ nx := by omega
      have HK : Hid (kepTo (1 + M) lx mx = kepI (1 + M) lx) := Lib.hid (by unfold kepI; rw [HX.out.2.1, hmx])
      have hsz2 : w.heap.size + 3 ≤ wr.heap.size := hsz
      have hkd : decide ((k : Int) < 2) = true := decide_eq_true (by omega)
      clear hmx
      go_wp2_with fail
      clear hmn hmx0
      obtain ⟨W0, hW0⟩ : ∃ W0, W0 = wr := ⟨_, rfl⟩
      subst hW0
      go_loopw [9, 34] (fun v i wq => ∃ (j m : Nat), j ≤ mx ∧ i = .int .i64 j ∧ m ≤ j ∧ wq.ownsRow W0.heap.size 5 1 v m ((kepTo (1 + M) lx j).map (Value.int .u8)) ∧ Hid ((kepTo (1 + M) lx j).length = m) ∧ Below W0.heap.size W0 wq) (fun _ i _ => mx - (intOf i).toNat)
      case atStart => exact ⟨0, 0, Nat.zero_le _, rfl, by omega, World.ownsRow_nil _ _ _ _, rfl, Below.refl _ _⟩
      case round =>
        obtain ⟨j, m, hj, rfl, hmj, hown, hml, hbq⟩ := hrel
        by_cases hlt2 : j < mx
        · obtain ⟨z, hz⟩ : ∃ z, lx[j]? = some z := ⟨_, List.getElem?_eq_getElem (by have := HX.out.2.1; omega)⟩
          obtain ⟨hz0, hz1⟩ := HX.out.2.2 z (List.mem_of_getElem? hz)
          obtain ⟨bb, oo, ha, hcell⟩ := HX.out.1.at' (by omega)
          have hc0 := hcell j (.int .u8 z) (by rw [List.getElem?_map, hz]; rfl)
          have hc := ((Below.next HB.out hbq).cell (p := ⟨bb, oo + j, none⟩) (cell_lt hc0)).trans hc0
          have hst := kepTo_succ (n := 1 + M) hz
          obtain ⟨hand, hy0, hy1⟩ := and_msk M hM4 z hz0 hz1
          obtain ⟨y, hy⟩ : ∃ y, mskI (1 + M) z = y := ⟨_, rfl⟩
          rw [hy] at hand hst hy0 hy1
          subst ha
          clear hcell hz hc0 hy
          by_cases h0 : y = 0
          · subst h0
            rw [if_pos rfl] at hst
            have HST := Lib.hid hst
            clear hst
            go_wp2_with fail
            go_roundw
            case rel => exact ⟨j + 1, m, by omega, by go_num, by omega, by rw [HST.out]; exact hown, by rw [HST.out]; exact hml, hbq⟩
            case measure => simp [intOf]; omega
          · rw [if_neg h0] at hst
            have hy2 : (y != 0) = true := by simpa using h0
            have HST := Lib.hid hst
            clear hst h0
            go_wp2_with (at_builtin; go_must (refine wpList_app _ _ 35 1 (.int .u8 0) (.int .u8 y) _ Tryd.underlying35 Tryd.infoU8 rfl hown hbq (Nat.le_refl _) rfl rfl rfl rfl rfl (by unfold maxLen; omega) (by omega) ?_))
            intro v' w1 hown1 hb1 _ _
            clear hown hbq hc
            go_wp2_with fail
            go_roundw
            case rel =>
              have hL2 : 0 ≤ 0 ∧ Hid ((kepTo (1 + M) lx (j + 1)).length = m + 1) := ⟨Nat.le_refl _, Lib.hid (by rw [HST.out]; simp [hml.out])⟩
              have hown2 : w1.ownsRow W0.heap.size 5 1 v' (m + 1) ((kepTo (1 + M) lx (j + 1)).map (Value.int .u8)) := by rw [HST.out]; simpa using hown1
              first
              | exact ⟨j + 1, m + 1, by omega, by go_num, by omega, hown2, hL2.2, hb1⟩
              | ((repeat apply Exists.intro); exact ⟨⟨j + 1, m + 1, by omega, by go_num, by omega, hown2, hL2.2, hb1⟩, rfl⟩)
            case measure => simp [intOf]; omega
        · obtain rfl : j = mx := by omega
          rw [HK.out] at hown hml
          have hkr : ∀ z ∈ kepI (1 + M) lx, 0 ≤ z ∧ z < 256 := fun z hz => by
            unfold kepI at hz
            have := kepTo_rng hM4 HX.out.2.2 _ z hz
            omega
          obtain ⟨ao, co, rfl, hro⟩ := rd_of_row hown
          have HM := Lib.hid (made9_c (kepI (1 + M) lx) hkr ao m co wr hro)
          have HB2 := Lib.hid hbq
          clear hown hro hbq hkr
          go_wp2_with fail
          refine HM.out.mono ?_
          rintro e w5 ⟨vm, rfl, hom, hb5⟩
          obtain ⟨am, cm, rfl, hrm⟩ := hom.rd
          have hEm : madS (kepI (1 + M) lx) = sysS (1 + M) lx := rfl
          rw [hEm] at hom hrm ⊢
          obtain ⟨Lm, hLm⟩ : ∃ L, (sysS (1 + M) lx).length = L := ⟨_, rfl⟩
          rw [List.length_map, hLm] at hom hrm ⊢
          have e15 := heap_below hb5 (heap_below HB2.out E1.out)
          have e25 := heap_below hb5 (heap_below HB2.out E2.out)
          have HB5 := Lib.hid (Below.next HB.out (Below.next HB2.out hb5))
          have hs5 := hb5.size
          have hsq := HB2.out.size
          have z0 : w5.frozen? ⟨w.heap.size + 1, k, none⟩ = false := by simp [World.frozen?, e15]
          obtain ⟨vk, hvk⟩ : ∃ vk, w5.cell? ⟨w.heap.size + 1, k, none⟩ = some vk := by
            match k, hlt with
            | 0, _ => exact ⟨_, cell_of_row _ _ 0 _ _ _ e15⟩
            | 1, _ => exact ⟨_, cell_of_row _ _ 1 _ _ _ e15⟩
          have HOM := Lib.hid hom
          have HLM := Lib.hid hLm
          have E15 := Lib.hid e15
          have E25 := Lib.hid e25
          have HO0 : Hid (1 ≤ k → w5.ownsRow (w.heap.size + 3) 30 1 v0 (sysS (1 + M) l1).length ((sysS (1 + M) l1).map setV2)) := Lib.hid (fun h => row_below (row_below (ho0.out h) HB2.out) hb5)
          have kd0 : (0 : Int) ≤ (k : Int) := by omega
          have kd1 : (k : Int) < 2 := by omega
          clear hom hb5 HM e15 e25 hrm hEm hLm
          go_wp2_with fail
          clear z0 hvk
          go_roundw
          case rel =>
            have hset : ∀ b, b ≠ w.heap.size + 1 → (w5.setCell ⟨w.heap.size + 1, k, none⟩ (.slice am Lm cm)).heap[b]? = w5.heap[b]? := fun b hb => Below.heap_setCell _ _ _ _ hb
            have hrow : ∀ {v : Value} {n : Nat} {l : List Value}, w5.ownsRow (w.heap.size + 3) 30 1 v n l → (w5.setCell ⟨w.heap.size + 1, k, none⟩ (.slice am Lm cm)).ownsRow (w.heap.size + 3) 30 1 v n l := fun h => rowK_at h fun g hg => hset g (by have := (World.ownsRow.lt h g hg).1; omega)
            have hsb : Below w.heap.size w (w5.setCell ⟨w.heap.size + 1, k, none⟩ (.slice am Lm cm)) := HB5.out.setCell (p := ⟨w.heap.size + 1, k, none⟩) (by show w.heap.size ≤ w.heap.size + 1; omega) _
            have hne : (w5.setCell ⟨w.heap.size + 1, k, none⟩ (.slice am Lm cm)).heap[w.heap.size + 1]? = _ := heap_set_at E15.out k (.slice am Lm cm)
            have hsz5 : w.heap.size + 3 ≤ (w5.setCell ⟨w.heap.size + 1, k, none⟩ (.slice am Lm cm)).heap.size := by simp [World.setCell]; omega
            have hnew := hrow (rowK_mono HOM.out (by omega))
            rw [List.length_map, HLM.out] at hnew
            rcases HLX.out with ⟨rfl, rfl, rfl, rfl, rfl⟩ | ⟨rfl, rfl, rfl, rfl, rfl⟩
            · exact ⟨0 + 1, by omega, by go_num, .slice am Lm cm, v1, hne, (hset _ (by omega)).trans E25.out, hsb, hsz5, Lib.hid (fun _ => by rw [HLM.out]; exact hnew), Lib.hid (fun h => by omega)⟩
            · exact ⟨1 + 1, by omega, by go_num, v0, .slice am Lm cm, hne, (hset _ (by omega)).trans E25.out, hsb, hsz5, Lib.hid (fun _ => hrow (HO0.out (by omega))), Lib.hid (fun _ => by rw [HLM.out]; exact hnew)⟩
          case measure => simp [intOf]; omega
    · obtain rfl : k = 2 := by omega
      have ho0' := ho0.out (by omega)
      have ho1' := ho1.out (by omega)
      obtain ⟨a0, c0, rfl, r0⟩ := rd_of_row ho0'
      obtain ⟨a1, c1, rfl, r1⟩ := rd_of_row ho1'
      have q0 : wr.cell? ⟨w.heap.size + 1, 0, none⟩ = _ := cell_of_row _ _ 0 _ _ _ e1
      have q1 : wr.cell? ⟨w.heap.size + 1, 1, none⟩ = _ := cell_of_row _ _ 1 _ _ _ e1
      have R0 := Lib.hid r0
      have R1 := Lib.hid r1
      have HB := Lib.hid hb
      clear ho0 ho1 ho0' ho1' r0 r1 e1 e2 hb
      go_wp2_with fail
      go_quiet (fail)
      go_wp2_with fail
      go_ret3
      exact ⟨a0, c0, a1, c1, rfl, rd_drewN R0.out _, rd_drewN R1.out _, below_drewN HB.out⟩
end Go.Proofs.YtgfjmplifmbmlaaDoor
