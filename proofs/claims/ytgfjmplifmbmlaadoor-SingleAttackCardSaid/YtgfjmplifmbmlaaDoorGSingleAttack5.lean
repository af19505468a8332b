/- Texts laid together. Layer 37: run.add, a promise. Layer 37: run.add, an acceptance. Layer 37: run.add refuses. Layer 37, plain: if all read sets meet all write sets, at most one value is chosen by events that follow the rules. No program. Layer 37, plain: the chosen values. No program. -/
import Derived.Test.YtgfjmplifmbmlaaDoorGSingleAttack4
namespace Go.Proofs.YtgfjmplifmbmlaaDoor
open Go.RowKit Go.Maps

set_option maxRecDepth 100000 in
set_option maxHeartbeats 4000000 in
theorem add1_c (B m cnt : Nat) (sl : Value) (st : St) (f : Lit → Option Value) (s : Nat) (b : Int) (hs : s < m) (hb : 1 ≤ b) (hw : (Lit.int .i64 b).wf = true) (hm : m ≤ 12) (hcnt : cnt ≤ 1000) (hrn : (st.rep b).length ≤ 1000) (hp : (atS st.acc s).prom < b) (w : World) (h : StM w B m cnt sl st f) :
    Calls Tryd.prog 38 #[.pointer (some ⟨B + 3, 0, none⟩), .agg #[.int .i64 1, .int .i64 s, .int .i64 b, .string ⟨#[]⟩]] w fun e w' => e = .returned (.bool true) ∧ Below B w w' ∧ ∃ f', StM w' B m (cnt + 1) sl (addP1 st ⟨1, s, b, ⟨#[]⟩⟩) f' ∧ Frm B f f' w w' := by
  obtain ⟨r0, r1, r2, r3⟩ := open4 h.run
  obtain ⟨⟨a0, a1, a2⟩, hfr⟩ := acc_cells h.acc (s := s) (by rw [h.len]; exact hs)
  obtain ⟨⟨p, q, v⟩, hacc⟩ : ∃ a, atS st.acc s = a := ⟨_, rfl⟩
  rw [hacc] at a0 a1 a2 hp
  obtain ⟨ar, cr, hrv, hrow, hblk⟩ := h.rowRd b
  have H := Lib.hid h
  have hB0 := blA w (.cells #[.int .i64 1, .int .i64 s, .int .i64 b, .string ⟨#[]⟩] 48)
  have r0' := (hB0.cell (p := ⟨B + 3, 0, none⟩) (cell_lt r0)).trans r0
  have r1' := (hB0.cell (p := ⟨B + 3, 1, none⟩) (cell_lt r1)).trans r1
  have r2' := (hB0.cell (p := ⟨B + 3, 2, none⟩) (cell_lt r2)).trans r2
  have a0' := (hB0.cell (p := ⟨B, s * 3, none⟩) (cell_lt a0)).trans a0
  have a1' := (hB0.cell (p := ⟨B, s * 3 + 1, none⟩) (cell_lt a1)).trans a1
  have a2' := (hB0.cell (p := ⟨B, s * 3 + 2, none⟩) (cell_lt a2)).trans a2
  have g1 : decide ((s : Int) < 0) = false := by simp
  have g2 : decide ((m : Int) ≤ (s : Int)) = false := by simp; omega
  have g3 : decide (b < 1) = false := by simp; omega
  have i0 : (0 : Int) ≤ (s : Int) := by omega
  have i1 : (s : Int) < (m : Int) := by omega
  have HACC := Lib.hid hacc
  have HFR := Lib.hid hfr
  have HW := Lib.hid hw
  obtain ⟨nl, hnl⟩ : ∃ L, (st.rep b).length = L := ⟨_, rfl⟩
  rw [hnl] at hrv hrow hblk hrn
  have HRV := Lib.hid hrv
  have HROW := Lib.hid hrow
  have HBLK := Lib.hid hblk
  have HNL := Lib.hid hnl
  clear h hacc hfr hw hrv hrow hblk hnl
  go_enter Tryd.func38, Tryd.ntmps38
  go_wp2_with fail
  go_quiet (fail)
  go_wp2_with fail
  go_quiet (fail)
  go_wp2_with fail
  generalize hW : World.drewN (w.alloc (.cells #[.int .i64 1, .int .i64 s, .int .i64 b, .string ⟨#[]⟩] 48)) _ = W0
  have hW1 : Below w.heap.size w W0 := by rw [← hW]; exact below_drewN hB0
  have hW2 : W0.heap.size = w.heap.size + 1 := by rw [← hW]; simp
  have hW3 : W0.heap[w.heap.size]? = some (.cells #[.int .i64 1, .int .i64 s, .int .i64 b, .string ⟨#[]⟩] 48 (0, 0)) := by rw [← hW]; exact heap_alloc_new w _
  obtain ⟨e0, e1, e2, e3⟩ := open4 hW3
  have A0 := (hW1.cell (p := ⟨B, s * 3, none⟩) (cell_lt a0)).trans a0
  have A1 := (hW1.cell (p := ⟨B, s * 3 + 1, none⟩) (cell_lt a1)).trans a1
  have A2 := (hW1.cell (p := ⟨B, s * 3 + 2, none⟩) (cell_lt a2)).trans a2
  have KS : Hid (∀ x : World, Below W0.heap.size W0 x → x.cell? ⟨B, s * 3, none⟩ = some (.int .i64 p) ∧ x.cell? ⟨B, s * 3 + 1, none⟩ = some (.int .i64 q) ∧ x.cell? ⟨B, s * 3 + 2, none⟩ = some (.string v) ∧ x.cell? ⟨w.heap.size, 2, none⟩ = some (.int .i64 b)) := Lib.hid (fun x hx => ⟨(hx.cell (p := ⟨B, s * 3, none⟩) (cell_lt A0)).trans A0, (hx.cell (p := ⟨B, s * 3 + 1, none⟩) (cell_lt A1)).trans A1, (hx.cell (p := ⟨B, s * 3 + 2, none⟩) (cell_lt A2)).trans A2, (hx.cell (p := ⟨w.heap.size, 2, none⟩) (cell_lt e2)).trans e2⟩)
  have HP2 : Hid (∀ x : World, Below W0.heap.size W0 x → Calls Tryd.prog 58 #[.agg #[.int .i64 p, .int .i64 q, .string v], .int .i64 b] x fun e w3 => e = .returned (.tuple #[.agg #[.int .i64 b, .int .i64 q, .string v], .bool true]) ∧ Below W0.heap.size W0 w3 ∧ ∀ ob, x.heap[W0.heap.size]? = some ob → w3.heap[W0.heap.size]? = some ob) := Lib.hid (fun x hx => (promise_c p q v b x).mono fun e w3 ⟨h1, h2⟩ => ⟨by rw [h1, if_pos hp, decide_eq_true hp], Below.next hx h2, fun ob ho => heap_below h2 ho⟩)
  have HW1 := Lib.hid hW1
  have HW2 := Lib.hid hW2
  have HE := Lib.hid hW3
  clear hW hW1 hW2 hW3 hB0 r0' r1' r2' a0' a1' a2' r0 r1 r2 r3 a0 a1 a2 g1 g2 g3 i0 i1 e0 e1 e3
  go_region_held3 (fun w' => w'.cell? ⟨B, s * 3, none⟩ = some (.int .i64 p) ∧ w'.cell? ⟨B, s * 3 + 1, none⟩ = some (.int .i64 q) ∧ w'.cell? ⟨B, s * 3 + 2, none⟩ = some (.string v) ∧ w'.cell? ⟨w.heap.size, 2, none⟩ = some (.int .i64 b))
    (exact KS.out _ (by (repeat (first | with_reducible exact Below.refl _ _ | with_reducible exact hb3 | with_reducible refine below_drew ?_ | with_reducible refine Below.alloc ?_ ?_ _ | with_reducible refine Below.setCell ?_ ?_ _ | exact Nat.le_refl _ | exact hb3.size))))
    ((go_at_call 58; (refine (HP2.out _ (by (first | with_reducible exact below_drew (Below.refl _ _) | with_reducible exact below_drew (blA _ _)))).mono ?_); (rintro e w3 ⟨rfl, hb3, hx⟩; first | (have hx2 := hx _ (heap_alloc_new W0 _); obtain ⟨⟨x0, x1, x2⟩, y0, y1, y2⟩ := open3 hx2; clear hx) | (clear hx))))
  all_goals
    have hN : ∃ (W1 : World) (Bx : Nat), True := ⟨w3, 0, trivial⟩
    first
    | (have hWb := ((hb3.setCell (p := ⟨W0.heap.size, 0, none⟩) (Nat.le_refl _) (.int .i64 b)).setCell (p := ⟨W0.heap.size, 1, none⟩) (Nat.le_refl _) (.int .i64 q)).setCell (p := ⟨W0.heap.size, 2, none⟩) (Nat.le_refl _) (.string v)
       have hWn : ((((w3.setCell ⟨W0.heap.size, 0, none⟩ (.int .i64 b)).setCell ⟨W0.heap.size, 1, none⟩ (.int .i64 q)).setCell ⟨W0.heap.size, 2, none⟩ (.string v)).heap[W0.heap.size]? = some (.cells #[.int .i64 b, .int .i64 q, .string v] 96 (0, 0))) := heap_set_at (heap_set_at (heap_set_at hx2 0 (.int .i64 b)) 1 (.int .i64 q)) 2 (.string v)
       have hBx : W0.heap.size ≤ W0.heap.size := Nat.le_refl _
       generalize World.setCell (World.setCell (World.setCell w3 ⟨W0.heap.size, 0, none⟩ (.int .i64 b)) ⟨W0.heap.size, 1, none⟩ (.int .i64 q)) ⟨W0.heap.size, 2, none⟩ (.string v) = W1 at hWb hWn ⊢
       generalize hBe : W0.heap.size = Bx at hWn ⊢
       have hBx : W0.heap.size ≤ Bx := Nat.le_of_eq hBe
       clear hBe)
    | (have hWb := hb3.alloc hb3.size (.cells #[.int .i64 b, .int .i64 q, .string v] 96)
       have hWn := heap_alloc_new w3 (.cells #[.int .i64 b, .int .i64 q, .string v] 96)
       have hBx : W0.heap.size ≤ w3.heap.size := hb3.size
       generalize World.alloc w3 (.cells #[.int .i64 b, .int .i64 q, .string v] 96) = W1 at hWb hWn ⊢
       generalize w3.heap.size = Bx at hWn hBx ⊢)
    have hSt := (H.out.below HW1.out).below hWb
    have hbox := heap_below hWb HE.out
    obtain ⟨E0, E1, E2, E3⟩ := open4 hbox
    obtain ⟨R0, R1, R2, R3⟩ := open4 hSt.run
    obtain ⟨⟨C0, C1, C2⟩, hfr2⟩ := acc_cells hSt.acc (s := s) (by rw [hSt.len]; exact hs)
    rw [HACC.out] at C0 C1 C2
    have HSt := Lib.hid hSt
    have HWb := Lib.hid hWb
    have HWn := Lib.hid hWn
    clear hSt hWb hWn hbox
    go_wp2_with fail
    have HF1 := Lib.hid HSt.out.reps
    have k1 : lkW B b W1 = .slice ar nl cr := by rw [lkW_eq HF1.out HW.out, HRV.out]
    have k2 : lkW B b W1.drew = .slice ar nl cr := by rw [lkW_eq (w := W1.drew) (HF1.out.at rfl) HW.out, HRV.out]
    have k3 : lkW B b (W1.alloc (.cells #[.int .i64 s, .int .i64 q, .string v] 33)) = .slice ar nl cr := by rw [lkW_eq (fmA1 HF1.out) HW.out, HRV.out]
    have k4 : lkW B b (W1.alloc (.cells #[.int .i64 s, .int .i64 q, .string v] 33)).drew = .slice ar nl cr := by rw [lkW_eq (fmA HF1.out) HW.out, HRV.out]
    have hsz0 : w.heap.size < W1.heap.size := by have := HWb.out.size; have := HW2.out; omega
    have hBH : B + 3 < w.heap.size := (Array.getElem?_eq_some_iff.1 H.out.run).1
    have hrow1 := rowK_below (rowK_below HROW.out HW1.out) HWb.out
    have KS2 : Hid (∀ x : World, Below W1.heap.size W1 x → x.cell? ⟨w.heap.size, 1, none⟩ = some (.int .i64 s) ∧ x.cell? ⟨w.heap.size, 2, none⟩ = some (.int .i64 b) ∧ x.cell? ⟨B + 3, 2, none⟩ = some (.map (some (B + 1))) ∧ x.cell? ⟨B, s * 3 + 1, none⟩ = some (.int .i64 q) ∧ x.cell? ⟨B, s * 3 + 2, none⟩ = some (.string v) ∧ (Instr.lookup 91 (.map (some (B + 1))) (.int .i64 b) false).run Tryd.prog x = .ok (lkW B b x) x) := Lib.hid (fun x hx => ⟨(hx.cell (p := ⟨w.heap.size, 1, none⟩) (cell_lt E1)).trans E1, (hx.cell (p := ⟨w.heap.size, 2, none⟩) (cell_lt E2)).trans E2, (hx.cell (p := ⟨B + 3, 2, none⟩) (cell_lt R2)).trans R2, (hx.cell (p := ⟨B, s * 3 + 1, none⟩) (cell_lt C1)).trans C1, (hx.cell (p := ⟨B, s * 3 + 2, none⟩) (cell_lt C2)).trans C2, lkW_run (HF1.out.below hx) HW.out⟩)
    have KS3 : Hid (∀ x y : World, Below W1.heap.size W1 x → x.grownBy y (Value.slice ar nl cr).ownBlock → (y.cell? ⟨w.heap.size, 1, none⟩ = some (.int .i64 s) ∧ y.cell? ⟨w.heap.size, 2, none⟩ = some (.int .i64 b) ∧ y.cell? ⟨B + 3, 2, none⟩ = some (.map (some (B + 1))) ∧ y.cell? ⟨B, s * 3 + 1, none⟩ = some (.int .i64 q) ∧ y.cell? ⟨B, s * 3 + 2, none⟩ = some (.string v) ∧ (Instr.lookup 91 (.map (some (B + 1))) (.int .i64 b) false).run Tryd.prog y = .ok (lkW B b y) y) ∧ FM y Tryd.prog 3 (B + 1) cnt f) := Lib.hid (fun x y hx hg => by
      have kb : ∀ k, k < W1.heap.size → (k < B + 4 ∨ w.heap.size ≤ k) → y.heap[k]? = W1.heap[k]? := by
        intro k h1 h2
        rw [hg.block k (by have := hx.size; omega) (fun e => by have := HBLK.out k e.symm; omega), hx.block k h1]
      have kc : ∀ k i, k < W1.heap.size → (k < B + 4 ∨ w.heap.size ≤ k) → y.cell? ⟨k, i, none⟩ = W1.cell? ⟨k, i, none⟩ := fun k i h1 h2 => World.cell?_of_block (kb k h1 h2)
      have hfm : FM y Tryd.prog 3 (B + 1) cnt f := HF1.out.at (kb (B + 1) HF1.out.lt (by omega))
      refine ⟨⟨(kc _ 1 hsz0 (by omega)).trans E1, (kc _ 2 hsz0 (by omega)).trans E2, (kc _ 2 (by omega) (by omega)).trans R2, (kc _ _ (by omega) (by omega)).trans C1, (kc _ _ (by omega) (by omega)).trans C2, lkW_run hfm HW.out⟩, hfm⟩)
    have KS4 : Hid (∀ x y : World, x.grownBy y (some (B + 1)) → y.heap.size = x.heap.size → w.heap.size < x.heap.size → (x.cell? ⟨w.heap.size, 1, none⟩ = some (.int .i64 s) ∧ x.cell? ⟨w.heap.size, 2, none⟩ = some (.int .i64 b) ∧ x.cell? ⟨B + 3, 2, none⟩ = some (.map (some (B + 1))) ∧ x.cell? ⟨B, s * 3 + 1, none⟩ = some (.int .i64 q) ∧ x.cell? ⟨B, s * 3 + 2, none⟩ = some (.string v) ∧ (Instr.lookup 91 (.map (some (B + 1))) (.int .i64 b) false).run Tryd.prog x = .ok (lkW B b x) x) → (∃ n f, FM y Tryd.prog 3 (B + 1) n f) → (y.cell? ⟨w.heap.size, 1, none⟩ = some (.int .i64 s) ∧ y.cell? ⟨w.heap.size, 2, none⟩ = some (.int .i64 b) ∧ y.cell? ⟨B + 3, 2, none⟩ = some (.map (some (B + 1))) ∧ y.cell? ⟨B, s * 3 + 1, none⟩ = some (.int .i64 q) ∧ y.cell? ⟨B, s * 3 + 2, none⟩ = some (.string v) ∧ (Instr.lookup 91 (.map (some (B + 1))) (.int .i64 b) false).run Tryd.prog y = .ok (lkW B b y) y)) := Lib.hid (fun x y hg hs2 hlt ⟨p1, p2, p3, p4, p5, _⟩ ⟨n', f', hfm⟩ => by
      have kc : ∀ k i, k < x.heap.size → k ≠ B + 1 → y.cell? ⟨k, i, none⟩ = x.cell? ⟨k, i, none⟩ := fun k i h1 h2 => World.cell?_of_block (hg.block k h1 (by simpa using h2))
      exact ⟨(kc _ 1 hlt (by omega)).trans p1, (kc _ 2 hlt (by omega)).trans p2, (kc _ 2 (by omega) (by omega)).trans p3, (kc _ _ (by omega) (by omega)).trans p4, (kc _ _ (by omega) (by omega)).trans p5, lkW_run hfm HW.out⟩)
    obtain ⟨i0, hi0, hz0, hz1, hz2⟩ := info_parts Tryd.infoRep
    have HROW1 := Lib.hid hrow1
    have HSZ0 := Lib.hid hsz0
    clear hrow1 E0 E3 R0 R1 R3 C0
    go_region_held3 (fun w' => w'.cell? ⟨w.heap.size, 1, none⟩ = some (.int .i64 s) ∧ w'.cell? ⟨w.heap.size, 2, none⟩ = some (.int .i64 b) ∧ w'.cell? ⟨B + 3, 2, none⟩ = some (.map (some (B + 1))) ∧ w'.cell? ⟨B, s * 3 + 1, none⟩ = some (.int .i64 q) ∧ w'.cell? ⟨B, s * 3 + 2, none⟩ = some (.string v) ∧ (Instr.lookup 91 (.map (some (B + 1))) (.int .i64 b) false).run Tryd.prog w' = .ok (lkW B b w') w')
      (first | exact hSB | exact hSA | (refine KS2.out _ ?_; first | with_reducible exact Below.refl _ _ | with_reducible exact below_drew (Below.refl _ _) | with_reducible exact blA _ _ | with_reducible exact below_drew (blA _ _)))
      (first
        | (refine step_append_lies _ (by rfl) _ _ _ (by rfl) (B + 4) 33 i0 _ 3 32 Tryd.underlying23 hi0 hz0 hz1 hz2 rfl (by omega) (.slice ar nl cr) nl _ (by rfl) ((HROW1.out.alloc _).drew) ⟨W1.heap.size, 0, none⟩ 1 1 [.int .i64 s, .int .i64 q, .string v] (by rfl) (by rfl) (World.news_of_block (cs := #[.int .i64 s, .int .i64 q, .string v]) (t := 33) (fr := (0, 0)) (heap_alloc_new W1 _)) (by simp [Value.oneCell']) (by omega) (by unfold maxLen; omega) (by omega) (by simp; omega) (W1.heap.size + 1) (by simp) ?_; intro gg cap wA hownA hgrow hat hlt; have hSA := (KS3.out _ _ (below_drew (blA _ _)) hgrow).1; have hFA := Lib.hid (KS3.out _ _ (below_drew (blA _ _)) hgrow).2; obtain ⟨wB, hrunB, hfmB, hgB, hsB⟩ := hFA.out.put kI Tryd.underlying91 (by unfold maxLen; omega) (kOf HW.out) (.slice (some ⟨gg, 0, none⟩) (nl + 1) cap); have HFMB := Lib.hid hfmB; have hSB := KS4.out wA wB hgB hsB (by have := HSZ0.out; have := hgrow.size; simp at this; omega) hSA ⟨_, _, hfmB⟩; clear hfmB))
    all_goals
      have hgA2 := hgrow
      rw [← HRV.out] at hgA2 hat
      have hhB : wB.heap[B]? = W1.heap[B]? := by
        rw [hgB.block B (by have := hgrow.size; simp at this; omega) (by simp), hgrow.block B (by simp; omega) (fun e => by have := HBLK.out B e.symm; omega)]
        exact Below.heap_alloc W1 _ B (by omega)
      obtain ⟨⟨D0, D1, D2⟩, hfrB⟩ := acc_cells (hhB.trans HSt.out.acc) (s := s) (by rw [HSt.out.len]; exact hs)
      rw [HACC.out] at D0 D1 D2
      have F0 := hfrB (s * 3)
      have F1 := hfrB (s * 3 + 1)
      have F2 := hfrB (s * 3 + 2)
      have hBx2 : Bx < W1.heap.size := (Array.getElem?_eq_some_iff.1 HWn.out).1
      have hhX : wB.heap[Bx]? = some (.cells #[.int .i64 b, .int .i64 q, .string v] 96 (0, 0)) := by
        rw [hgB.block Bx (by have := hgrow.size; simp at this; omega) (by have := HW2.out; simp; omega), hgrow.block Bx (by simp; omega) (fun e => by have := HBLK.out Bx e.symm; have := HW2.out; omega)]
        exact (Below.heap_alloc W1 _ Bx (by omega)).trans HWn.out
      obtain ⟨⟨X0, X1, X2⟩, _⟩ := open3 hhX
      have HG1 := Lib.hid hgA2
      have HG2 := Lib.hid hgB
      have HAT := Lib.hid hat
      have HOWN := Lib.hid hownA
      clear hgA2 hgB hat hownA hgrow hhX hhB hSA hSB k1 k2 k3 k4 hsB hrunB hfrB hFA
      go_wp2_with fail
      go_ret
      have hfin := add1_fin hs hm HW.out HACC.out HSt.out (below_drew (blA _ _)) (hlt := hlt) (by rw [HNL.out]; exact HOWN.out) HG1.out (HAT.out.imp id (fun h => by omega)) (by rw [HNL.out]; exact HFMB.out) HG2.out
      exact ⟨rfl, ((Below.next HW1.out HWb.out).mono (by omega)).trans hfin.2.1, _, hfin.1, hfin.2.2.pre (Below.next HW1.out HWb.out)⟩
end Go.Proofs.YtgfjmplifmbmlaaDoor
namespace Go.Proofs.YtgfjmplifmbmlaaDoor
open Go.RowKit Go.Maps

set_option maxRecDepth 100000 in
set_option maxHeartbeats 8000000 in
theorem add2_c (read : List (BitVec 16)) (ra : Option Addr) (rn rc : Nat) (B m cnt : Nat) (st : St) (f : Lit → Option Value) (s : Nat) (b : Int) (x : ByteArray) (hs : s < m) (hb : 1 ≤ b) (hw : (Lit.int .i64 b).wf = true) (hm : m ≤ 12) (hcnt : cnt ≤ 1000) (hp : (atS st.acc s).prom ≤ b) (hx : emB x = false) (hok : okP (valP read st b) x = true) (w : World) (hr : Rd w ra rn rc (read.map setV2)) (h : StM w B m cnt (.slice ra rn rc) st f) :
    Calls Tryd.prog 38 #[.pointer (some ⟨B + 3, 0, none⟩), .agg #[.int .i64 2, .int .i64 s, .int .i64 b, .string x]] w fun e w' => e = .returned (.bool true) ∧ Below B w w' ∧ ∃ f', StM w' B m (cnt + 1) (.slice ra rn rc) (addP2 st ⟨2, s, b, x⟩) f' ∧ Frm B f f' w w' := by
  obtain ⟨r0, r1, r2, r3⟩ := open4 h.run
  obtain ⟨⟨a0, a1, a2⟩, hfr⟩ := acc_cells h.acc (s := s) (by rw [h.len]; exact hs)
  obtain ⟨⟨p, q, v⟩, hacc⟩ : ∃ a, atS st.acc s = a := ⟨_, rfl⟩
  rw [hacc] at a0 a1 a2 hp
  obtain ⟨fr, u, hvp, hfu⟩ : ∃ (fr : Bool) (u : ByteArray), valP read st b = (u, fr, true) ∧ (fr = true ∨ (fr = false ∧ u = x)) := by
    obtain ⟨⟨u, fr, ok⟩, hv⟩ : ∃ y, valP read st b = y := ⟨_, rfl⟩
    rw [hv] at hok
    unfold okP at hok
    simp only [Bool.and_eq_true, Bool.or_eq_true] at hok
    obtain ⟨rfl, h2⟩ := hok
    refine ⟨fr, u, hv, ?_⟩
    cases fr
    · right; refine ⟨rfl, bs_ext (eq_of_beq (by simpa using h2))⟩
    · left; rfl
  have HV : Hid (∀ w' : World, Below w.heap.size w w' → Calls Tryd.prog 59 #[.pointer (some ⟨B + 3, 0, none⟩), .int .i64 b] w' fun e w2 => e = Ending.returned (.tuple #[.string u, .bool fr, .bool true]) ∧ Below w'.heap.size w' w2) := Lib.hid (fun w' h1 => (value_c read ra rn rc B m cnt st f b hw w' (hr.below h1) (h.below h1)).mono fun e w2 ⟨h2, h3⟩ => ⟨by rw [h2, hvp], h3⟩)
  have H := Lib.hid h
  have hB0 := blA w (.cells #[.int .i64 2, .int .i64 s, .int .i64 b, .string x] 48)
  have r1' := (hB0.cell (p := ⟨B + 3, 1, none⟩) (cell_lt r1)).trans r1
  have g1 : decide ((s : Int) < 0) = false := by simp
  have g2 : decide ((m : Int) ≤ (s : Int)) = false := by simp; omega
  have g3 : decide (b < 1) = false := by simp; omega
  have i0 : (0 : Int) ≤ (s : Int) := by omega
  have i1 : (s : Int) < (m : Int) := by omega
  have HACC := Lib.hid hacc
  have HW := Lib.hid hw
  have hxl : (x.toList == []) = false := hx
  clear h hacc hfr hw hvp hok hx hr
  go_enter Tryd.func38, Tryd.ntmps38
  go_wp2_with fail
  go_quiet (fail)
  go_wp2_with fail
  go_quiet (fail)
  go_wp2_with fail
  generalize hW : World.drewN (w.alloc (.cells #[.int .i64 2, .int .i64 s, .int .i64 b, .string x] 48)) _ = W0
  have hW1 : Below w.heap.size w W0 := by rw [← hW]; exact below_drewN hB0
  have hW2 : W0.heap.size = w.heap.size + 1 := by rw [← hW]; simp
  have hW3 : W0.heap[w.heap.size]? = some (.cells #[.int .i64 2, .int .i64 s, .int .i64 b, .string x] 48 (0, 0)) := by rw [← hW]; exact heap_alloc_new w _
  obtain ⟨e0, e1, e2, e3⟩ := open4 hW3
  have HW1 := Lib.hid hW1
  have HW2 := Lib.hid hW2
  have HE := Lib.hid hW3
  clear hW hW1 hW2 hW3 hB0 r1' r0 r1 r2 r3 g1 g2 g3 i0 i1
  refine (HV.out _ HW1.out).mono ?_
  rintro e W2 ⟨rfl, hb2⟩
  have HB2 := Lib.hid hb2
  have A0 := (hb2.cell (p := ⟨B, s * 3, none⟩) (cell_lt ((HW1.out.cell (p := ⟨B, s * 3, none⟩) (cell_lt a0)).trans a0))).trans ((HW1.out.cell (p := ⟨B, s * 3, none⟩) (cell_lt a0)).trans a0)
  have A1 := (hb2.cell (p := ⟨B, s * 3 + 1, none⟩) (cell_lt ((HW1.out.cell (p := ⟨B, s * 3 + 1, none⟩) (cell_lt a1)).trans a1))).trans ((HW1.out.cell (p := ⟨B, s * 3 + 1, none⟩) (cell_lt a1)).trans a1)
  have A2 := (hb2.cell (p := ⟨B, s * 3 + 2, none⟩) (cell_lt ((HW1.out.cell (p := ⟨B, s * 3 + 2, none⟩) (cell_lt a2)).trans a2))).trans ((HW1.out.cell (p := ⟨B, s * 3 + 2, none⟩) (cell_lt a2)).trans a2)
  have HE2 := Lib.hid (heap_below hb2 HE.out)
  obtain ⟨_, _, E2, E3⟩ := open4 HE2.out
  have HW12 := Lib.hid (Below.next HW1.out hb2)
  have HSZ2 : Hid (w.heap.size < W2.heap.size) := Lib.hid (by have := hb2.size; have := HW2.out; omega)
  clear hb2 e0 e1 e2 e3 a0 a1 a2 HV
  go_wp2_with fail
  have KS : Hid (∀ y : World, Below W2.heap.size W2 y → y.cell? ⟨B, s * 3, none⟩ = some (.int .i64 p) ∧ y.cell? ⟨B, s * 3 + 1, none⟩ = some (.int .i64 q) ∧ y.cell? ⟨B, s * 3 + 2, none⟩ = some (.string v) ∧ y.cell? ⟨w.heap.size, 2, none⟩ = some (.int .i64 b) ∧ y.cell? ⟨w.heap.size, 3, none⟩ = some (.string x)) := Lib.hid (fun y hy => ⟨(hy.cell (p := ⟨B, s * 3, none⟩) (cell_lt A0)).trans A0, (hy.cell (p := ⟨B, s * 3 + 1, none⟩) (cell_lt A1)).trans A1, (hy.cell (p := ⟨B, s * 3 + 2, none⟩) (cell_lt A2)).trans A2, (hy.cell (p := ⟨w.heap.size, 2, none⟩) (cell_lt E2)).trans E2, (hy.cell (p := ⟨w.heap.size, 3, none⟩) (cell_lt E3)).trans E3⟩)
  have HP2 : Hid (∀ y : World, Below W2.heap.size W2 y → Calls Tryd.prog 60 #[.agg #[.int .i64 p, .int .i64 q, .string v], .int .i64 b, .string x] y fun e w3 => e = .returned (.tuple #[.agg #[.int .i64 b, .int .i64 b, .string x], .bool true]) ∧ Below W2.heap.size W2 w3 ∧ ∀ ob, y.heap[W2.heap.size]? = some ob → w3.heap[W2.heap.size]? = some ob) := Lib.hid (fun y hy => (accept_c p q v b x y).mono fun e w3 ⟨h1, h2⟩ => ⟨by rw [h1, if_pos ⟨hb, hp⟩, decide_eq_true ⟨hb, hp⟩], Below.next hy h2, fun ob ho => heap_below h2 ho⟩)
  go_region_held3 (fun w' => w'.cell? ⟨B, s * 3, none⟩ = some (.int .i64 p) ∧ w'.cell? ⟨B, s * 3 + 1, none⟩ = some (.int .i64 q) ∧ w'.cell? ⟨B, s * 3 + 2, none⟩ = some (.string v) ∧ w'.cell? ⟨w.heap.size, 2, none⟩ = some (.int .i64 b) ∧ w'.cell? ⟨w.heap.size, 3, none⟩ = some (.string x))
    (exact KS.out _ (by (repeat (first | with_reducible exact Below.refl _ _ | with_reducible exact hb3 | with_reducible refine below_drew ?_ | with_reducible refine Below.alloc ?_ ?_ _ | with_reducible refine Below.setCell ?_ ?_ _ | exact Nat.le_refl _ | exact hb3.size))))
    ((go_at_call 60; (refine (HP2.out _ (by (first | with_reducible exact below_drew (Below.refl _ _) | with_reducible exact below_drew (blA _ _)))).mono ?_); (rintro e w3 ⟨rfl, hb3, hx⟩; first | (have hx2 := hx _ (heap_alloc_new W2 _); obtain ⟨⟨x0, x1, x2⟩, y0, y1, y2⟩ := open3 hx2; clear hx) | (clear hx))))
  all_goals
    first
    | (have hWb := ((hb3.setCell (p := ⟨W2.heap.size, 0, none⟩) (Nat.le_refl _) (.int .i64 b)).setCell (p := ⟨W2.heap.size, 1, none⟩) (Nat.le_refl _) (.int .i64 b)).setCell (p := ⟨W2.heap.size, 2, none⟩) (Nat.le_refl _) (.string x)
       have hWn : ((((w3.setCell ⟨W2.heap.size, 0, none⟩ (.int .i64 b)).setCell ⟨W2.heap.size, 1, none⟩ (.int .i64 b)).setCell ⟨W2.heap.size, 2, none⟩ (.string x)).heap[W2.heap.size]? = some (.cells #[.int .i64 b, .int .i64 b, .string x] 96 (0, 0))) := heap_set_at (heap_set_at (heap_set_at hx2 0 (.int .i64 b)) 1 (.int .i64 b)) 2 (.string x)
       have hBx : W2.heap.size ≤ W2.heap.size := Nat.le_refl _
       generalize World.setCell (World.setCell (World.setCell w3 ⟨W2.heap.size, 0, none⟩ (.int .i64 b)) ⟨W2.heap.size, 1, none⟩ (.int .i64 b)) ⟨W2.heap.size, 2, none⟩ (.string x) = W1 at hWb hWn ⊢
       generalize hBe : W2.heap.size = Bx at hWn ⊢
       have hBx : W2.heap.size ≤ Bx := Nat.le_of_eq hBe
       clear hBe)
    | (have hWb := hb3.alloc hb3.size (.cells #[.int .i64 b, .int .i64 b, .string x] 96)
       have hWn := heap_alloc_new w3 (.cells #[.int .i64 b, .int .i64 b, .string x] 96)
       have hBx : W2.heap.size ≤ w3.heap.size := hb3.size
       generalize World.alloc w3 (.cells #[.int .i64 b, .int .i64 b, .string x] 96) = W1 at hWb hWn ⊢
       generalize w3.heap.size = Bx at hWn hBx ⊢)
    have hSt := (H.out.below HW12.out).below hWb
    have hbox := heap_below hWb HE2.out
    obtain ⟨E0, E1, E2, E3⟩ := open4 hbox
    obtain ⟨R0, R1, R2, R3⟩ := open4 hSt.run
    have HSt := Lib.hid hSt
    have HWb := Lib.hid hWb
    have HWn := Lib.hid hWn
    clear hSt hWb hWn hbox
    rcases hfu with hfr | ⟨hfr, hux⟩
    all_goals
      subst hfr
      try (have h9 := hux.symm; clear hux; subst h9)
      go_wp2_with fail
      have HFV := Lib.hid HSt.out.vals
      have hsz0 : w.heap.size < W1.heap.size := by have := HWb.out.size; have := HSZ2.out; omega
      have hBH : B + 3 < w.heap.size := (Array.getElem?_eq_some_iff.1 H.out.run).1
      have hBx2 : Bx < W1.heap.size := (Array.getElem?_eq_some_iff.1 HWn.out).1
      have hBx3 : w.heap.size < Bx := by have := HSZ2.out; omega
      obtain ⟨⟨X0, X1, X2⟩, _⟩ := open3 HWn.out
      obtain ⟨⟨C0, C1, C2⟩, hfr2⟩ := acc_cells HSt.out.acc (s := s) (by rw [HSt.out.len]; exact hs)
      have F0 := hfr2 (s * 3)
      have F1 := hfr2 (s * 3 + 1)
      have F2 := hfr2 (s * 3 + 2)
      have KS5 : Hid (∀ y : World, (∀ j, j < W1.heap.size → j ≠ B → j ≠ B + 2 → y.heap[j]? = W1.heap[j]?) → y.cell? ⟨B + 3, 3, none⟩ = some (.map (some (B + 2))) ∧ y.cell? ⟨w.heap.size, 2, none⟩ = some (.int .i64 b) ∧ y.cell? ⟨w.heap.size, 3, none⟩ = some (.string x) ∧ y.cell? ⟨Bx, 0, none⟩ = some (.int .i64 b) ∧ y.cell? ⟨Bx, 1, none⟩ = some (.int .i64 b) ∧ y.cell? ⟨Bx, 2, none⟩ = some (.string x)) := Lib.hid (fun y hy => by
        have kc : ∀ k i, k < W1.heap.size → k ≠ B → k ≠ B + 2 → y.cell? ⟨k, i, none⟩ = W1.cell? ⟨k, i, none⟩ := fun k i h1 h2 h3 => World.cell?_of_block (hy k h1 h2 h3)
        exact ⟨(kc _ 3 (by omega) (by omega) (by omega)).trans R3, (kc _ 2 hsz0 (by omega) (by omega)).trans E2, (kc _ 3 hsz0 (by omega) (by omega)).trans E3, (kc _ 0 hBx2 (by omega) (by omega)).trans X0, (kc _ 1 hBx2 (by omega) (by omega)).trans X1, (kc _ 2 hBx2 (by omega) (by omega)).trans X2⟩)
      have HZ : Hid (∀ j, j ≠ B → (((W1.setCell ⟨B, s * 3, none⟩ (.int .i64 b)).setCell ⟨B, s * 3 + 1, none⟩ (.int .i64 b)).setCell ⟨B, s * 3 + 2, none⟩ (.string x)).heap[j]? = W1.heap[j]?) := Lib.hid (fun j hj => by rw [Below.heap_setCell _ _ _ _ hj, Below.heap_setCell _ _ _ _ hj, Below.heap_setCell _ _ _ _ hj])
      clear hfr2 E0 E1 R0 R1 R2
      go_region_held3 (fun w' => w'.cell? ⟨B + 3, 3, none⟩ = some (.map (some (B + 2))) ∧ w'.cell? ⟨w.heap.size, 2, none⟩ = some (.int .i64 b) ∧ w'.cell? ⟨w.heap.size, 3, none⟩ = some (.string x) ∧ w'.cell? ⟨Bx, 0, none⟩ = some (.int .i64 b) ∧ w'.cell? ⟨Bx, 1, none⟩ = some (.int .i64 b) ∧ w'.cell? ⟨Bx, 2, none⟩ = some (.string x))
        (first | exact hSF | exact hSE | (refine KS5.out _ ?_; intro j _ hj _; first | exact HZ.out j hj | rfl))
        (first
          | (refine upon_entry_fm 92 3 9 kI Tryd.underlying92 (B + 2) cnt (valL st) (.string ⟨#[]⟩) zStr (HFV.out.at (by exact HZ.out _ (by omega))) (by unfold maxLen; omega) (.int .i64 b) (keyI b) (kOf HW.out) ?_; intro v0 sE wE hentE hgE hsE; have hszE : wE.heap.size = W1.heap.size := by { rw [hsE]; simp [World.setCell] }; have HFE : Hid (∀ j, j < W1.heap.size → j ≠ B + 2 → wE.heap[j]? = (((W1.setCell ⟨B, s * 3, none⟩ (.int .i64 b)).setCell ⟨B, s * 3 + 1, none⟩ (.int .i64 b)).setCell ⟨B, s * 3 + 2, none⟩ (.string x)).heap[j]?) := Lib.hid (fun j h1 h3 => hgE.block j (by simpa [World.setCell] using h1) (by simpa using h3)); have hSE := KS5.out wE (fun j h1 h2 h3 => (HFE.out j h1 h3).trans (HZ.out j h2)); have HEN := Lib.hid hentE; have HGE := Lib.hid hgE; clear hentE hgE hsE)
          | (refine upon_estore_fm 92 3 (B + 2) (cnt + 1) sE (valL st) (keyI b) (HEN.out.at rfl) (.string x) ?_; intro wF hfmF hgF hsF; have hSF := KS5.out wF (fun j h1 h2 h3 => (hgF.block j (by omega) (by simpa using h3)).trans ((HFE.out j h1 h3).trans (HZ.out j h2))); have HFF := Lib.hid hfmF; have HGF := Lib.hid hgF; clear hfmF hgF))
      all_goals
        go_wp2_with fail
        go_ret
        have hB1 : B < W1.heap.size := by omega
        have hfin := add2_fin (k := 2) hs HW.out HSt.out ((HGF.out.block B (by omega) (by simp)).trans ((HFE.out B hB1 (by omega)).trans (heap_set_at (heap_set_at (heap_set_at HSt.out.acc (s * 3) (.int .i64 b)) (s * 3 + 1) (.int .i64 b)) (s * 3 + 2) (.string x)))) HFF.out (fun j h1 h2 h3 => (HGF.out.block j (by omega) (by simpa using h3)).trans ((HFE.out j h1 h3).trans (HZ.out j h2))) (by have := HGF.out.size; omega) (HGF.out.os.trans (HGE.out.os.trans rfl)) (HGF.out.tape.trans (HGE.out.tape.trans rfl)) (HGF.out.output.trans (HGE.out.output.trans rfl))
        exact ⟨rfl, ((Below.next HW12.out HWb.out).mono (by omega)).trans hfin.2.1, _, hfin.1, hfin.2.2.pre (Below.next HW12.out HWb.out)⟩
end Go.Proofs.YtgfjmplifmbmlaaDoor
namespace Go.Proofs.YtgfjmplifmbmlaaDoor
open Go.RowKit Go.Maps

/- the first test fails -/
set_option maxRecDepth 100000 in
set_option maxHeartbeats 4000000 in
theorem addn0_c (B m cnt : Nat) (sl : Value) (st : St) (f : Lit → Option Value) (k s b : Int) (x : ByteArray) (hm : m ≤ 12) (hbad : s < 0 ∨ (m : Int) ≤ s ∨ b < 1) (w : World) (h : StM w B m cnt sl st f) :
    Calls Tryd.prog 38 #[.pointer (some ⟨B + 3, 0, none⟩), .agg #[.int .i64 k, .int .i64 s, .int .i64 b, .string x]] w fun e w' => e = .returned (.bool false) ∧ Below w.heap.size w w' := by
  obtain ⟨r0, r1, r2, r3⟩ := open4 h.run
  have hB0 := blA w (.cells #[.int .i64 k, .int .i64 s, .int .i64 b, .string x] 48)
  have r1' := (hB0.cell (p := ⟨B + 3, 1, none⟩) (cell_lt r1)).trans r1
  have HB0 := Lib.hid hB0
  clear h r0 r1 r2 r3 hB0
  by_cases h1 : s < 0
  · have g1 : decide (s < 0) = true := decide_eq_true h1
    clear hbad
    go_enter Tryd.func38, Tryd.ntmps38
    go_wp2_with fail
    go_quiet (fail)
    go_wp2_with fail
    go_ret
    exact ⟨rfl, below_drewN HB0.out⟩
  · have g1 : decide (s < 0) = false := decide_eq_false h1
    by_cases h2 : (m : Int) ≤ s
    · have g2 : decide ((m : Int) ≤ s) = true := decide_eq_true h2
      clear hbad
      go_enter Tryd.func38, Tryd.ntmps38
      go_wp2_with fail
      go_quiet (fail)
      go_wp2_with fail
      go_ret
      exact ⟨rfl, below_drewN HB0.out⟩
    · have g2 : decide ((m : Int) ≤ s) = false := decide_eq_false h2
      have g3 : decide (b < 1) = true := decide_eq_true (by omega)
      clear hbad
      go_enter Tryd.func38, Tryd.ntmps38
      go_wp2_with fail
      go_quiet (fail)
      go_wp2_with fail
      go_ret
      exact ⟨rfl, below_drewN HB0.out⟩

/- another kind -/
set_option maxRecDepth 100000 in
set_option maxHeartbeats 4000000 in
theorem addn9_c (B m cnt : Nat) (sl : Value) (st : St) (f : Lit → Option Value) (k : Int) (s : Nat) (b : Int) (x : ByteArray) (hm : m ≤ 12) (hs : s < m) (hb : 1 ≤ b) (hk1 : k ≠ 1) (hk2 : k ≠ 2) (w : World) (h : StM w B m cnt sl st f) :
    Calls Tryd.prog 38 #[.pointer (some ⟨B + 3, 0, none⟩), .agg #[.int .i64 k, .int .i64 s, .int .i64 b, .string x]] w fun e w' => e = .returned (.bool false) ∧ Below w.heap.size w w' := by
  obtain ⟨r0, r1, r2, r3⟩ := open4 h.run
  have hB0 := blA w (.cells #[.int .i64 k, .int .i64 s, .int .i64 b, .string x] 48)
  have r1' := (hB0.cell (p := ⟨B + 3, 1, none⟩) (cell_lt r1)).trans r1
  have HB0 := Lib.hid hB0
  have g1 : decide ((s : Int) < 0) = false := by simp
  have g2 : decide ((m : Int) ≤ (s : Int)) = false := by simp; omega
  have g3 : decide (b < 1) = false := by simp; omega
  have i0 : (0 : Int) ≤ (s : Int) := by omega
  have i1 : (s : Int) < (m : Int) := by omega
  have j1 : (k == 1) = false := by simpa using hk1
  have j2 : (k == 2) = false := by simpa using hk2
  clear h r0 r1 r2 r3 hB0
  go_enter Tryd.func38, Tryd.ntmps38
  go_wp2_with fail
  go_quiet (fail)
  go_wp2_with fail
  go_quiet (fail)
  go_wp2_with fail
  go_ret
  exact ⟨rfl, below_drewN HB0.out⟩

/- a promise that is refused -/
set_option maxRecDepth 100000 in
set_option maxHeartbeats 4000000 in
theorem addn1_c (B m cnt : Nat) (sl : Value) (st : St) (f : Lit → Option Value) (s : Nat) (b : Int) (x : ByteArray) (hs : s < m) (hb : 1 ≤ b) (hm : m ≤ 12) (hno : b ≤ (atS st.acc s).prom ∨ emB x = false) (w : World) (h : StM w B m cnt sl st f) :
    Calls Tryd.prog 38 #[.pointer (some ⟨B + 3, 0, none⟩), .agg #[.int .i64 1, .int .i64 s, .int .i64 b, .string x]] w fun e w' => e = .returned (.bool false) ∧ Below w.heap.size w w' := by
  obtain ⟨r0, r1, r2, r3⟩ := open4 h.run
  obtain ⟨⟨a0, a1, a2⟩, hfr⟩ := acc_cells h.acc (s := s) (by rw [h.len]; exact hs)
  obtain ⟨⟨p, q, v⟩, hacc⟩ : ∃ a, atS st.acc s = a := ⟨_, rfl⟩
  rw [hacc] at a0 a1 a2 hno
  have H := Lib.hid h
  have hB0 := blA w (.cells #[.int .i64 1, .int .i64 s, .int .i64 b, .string x] 48)
  have r0' := (hB0.cell (p := ⟨B + 3, 0, none⟩) (cell_lt r0)).trans r0
  have r1' := (hB0.cell (p := ⟨B + 3, 1, none⟩) (cell_lt r1)).trans r1
  have r2' := (hB0.cell (p := ⟨B + 3, 2, none⟩) (cell_lt r2)).trans r2
  have a0' := (hB0.cell (p := ⟨B, s * 3, none⟩) (cell_lt a0)).trans a0
  have a1' := (hB0.cell (p := ⟨B, s * 3 + 1, none⟩) (cell_lt a1)).trans a1
  have a2' := (hB0.cell (p := ⟨B, s * 3 + 2, none⟩) (cell_lt a2)).trans a2
  have g1 : decide ((s : Int) < 0) = false := by simp
  have g2 : decide ((m : Int) ≤ (s : Int)) = false := by simp; omega
  have g3 : decide (b < 1) = false := by simp; omega
  have i0 : (0 : Int) ≤ (s : Int) := by omega
  have i1 : (s : Int) < (m : Int) := by omega
  have HACC := Lib.hid hacc
  have HFR := Lib.hid hfr
  obtain ⟨pr, p', hpr⟩ : ∃ (pr : Bool) (p' : Int), decide (p < b) = pr ∧ (if p < b then b else p) = p' := ⟨_, _, rfl, rfl⟩
  have hno2 : pr = false ∨ (pr = true ∧ (x.toList == []) = false) := by
    rw [← hpr.1]
    by_cases h9 : p < b
    · rcases hno with h8 | h8
      · exact absurd h9 (by show ¬ p < b; have : b ≤ p := h8; omega)
      · exact .inr ⟨decide_eq_true h9, h8⟩
    · exact .inl (decide_eq_false h9)
  have HPR := Lib.hid hpr
  clear h hacc hfr hpr hno
  go_enter Tryd.func38, Tryd.ntmps38
  go_wp2_with fail
  go_quiet (fail)
  go_wp2_with fail
  go_quiet (fail)
  go_wp2_with fail
  generalize hW : World.drewN (w.alloc (.cells #[.int .i64 1, .int .i64 s, .int .i64 b, .string x] 48)) _ = W0
  have hW1 : Below w.heap.size w W0 := by rw [← hW]; exact below_drewN hB0
  have hW2 : W0.heap.size = w.heap.size + 1 := by rw [← hW]; simp
  have hW3 : W0.heap[w.heap.size]? = some (.cells #[.int .i64 1, .int .i64 s, .int .i64 b, .string x] 48 (0, 0)) := by rw [← hW]; exact heap_alloc_new w _
  obtain ⟨e0, e1, e2, e3⟩ := open4 hW3
  have A0 := (hW1.cell (p := ⟨B, s * 3, none⟩) (cell_lt a0)).trans a0
  have A1 := (hW1.cell (p := ⟨B, s * 3 + 1, none⟩) (cell_lt a1)).trans a1
  have A2 := (hW1.cell (p := ⟨B, s * 3 + 2, none⟩) (cell_lt a2)).trans a2
  have KS : Hid (∀ x : World, Below W0.heap.size W0 x → x.cell? ⟨B, s * 3, none⟩ = some (.int .i64 p) ∧ x.cell? ⟨B, s * 3 + 1, none⟩ = some (.int .i64 q) ∧ x.cell? ⟨B, s * 3 + 2, none⟩ = some (.string v) ∧ x.cell? ⟨w.heap.size, 2, none⟩ = some (.int .i64 b)) := Lib.hid (fun x hx => ⟨(hx.cell (p := ⟨B, s * 3, none⟩) (cell_lt A0)).trans A0, (hx.cell (p := ⟨B, s * 3 + 1, none⟩) (cell_lt A1)).trans A1, (hx.cell (p := ⟨B, s * 3 + 2, none⟩) (cell_lt A2)).trans A2, (hx.cell (p := ⟨w.heap.size, 2, none⟩) (cell_lt e2)).trans e2⟩)
  have HP2 : Hid (∀ x : World, Below W0.heap.size W0 x → Calls Tryd.prog 58 #[.agg #[.int .i64 p, .int .i64 q, .string v], .int .i64 b] x fun e w3 => e = .returned (.tuple #[.agg #[.int .i64 p', .int .i64 q, .string v], .bool pr]) ∧ Below W0.heap.size W0 w3 ∧ ∀ ob, x.heap[W0.heap.size]? = some ob → w3.heap[W0.heap.size]? = some ob) := Lib.hid (fun x hx => (promise_c p q v b x).mono fun e w3 ⟨h1, h2⟩ => ⟨by rw [h1, HPR.out.1, HPR.out.2], Below.next hx h2, fun ob ho => heap_below h2 ho⟩)
  have HW1 := Lib.hid hW1
  have HW2 := Lib.hid hW2
  have HE := Lib.hid hW3
  clear hW hW1 hW2 hW3 hB0 r0' r1' r2' a0' a1' a2' r0 r1 r2 r3 a0 a1 a2 g1 g2 g3 i0 i1 e0 e1 e3
  go_region_held3 (fun w' => w'.cell? ⟨B, s * 3, none⟩ = some (.int .i64 p) ∧ w'.cell? ⟨B, s * 3 + 1, none⟩ = some (.int .i64 q) ∧ w'.cell? ⟨B, s * 3 + 2, none⟩ = some (.string v) ∧ w'.cell? ⟨w.heap.size, 2, none⟩ = some (.int .i64 b))
    (exact KS.out _ (by (repeat (first | with_reducible exact Below.refl _ _ | with_reducible exact hb3 | with_reducible refine below_drew ?_ | with_reducible refine Below.alloc ?_ ?_ _ | with_reducible refine Below.setCell ?_ ?_ _ | exact Nat.le_refl _ | exact hb3.size))))
    ((go_at_call 58; (refine (HP2.out _ (by (first | with_reducible exact below_drew (Below.refl _ _) | with_reducible exact below_drew (blA _ _)))).mono ?_); (rintro e w3 ⟨rfl, hb3, hx⟩; first | (have hx2 := hx _ (heap_alloc_new W0 _); obtain ⟨⟨x0, x1, x2⟩, y0, y1, y2⟩ := open3 hx2; clear hx) | (clear hx))))
  all_goals
    have hN : ∃ (W1 : World) (Bx : Nat), True := ⟨w3, 0, trivial⟩
    first
    | (have hWb := ((hb3.setCell (p := ⟨W0.heap.size, 0, none⟩) (Nat.le_refl _) (.int .i64 p')).setCell (p := ⟨W0.heap.size, 1, none⟩) (Nat.le_refl _) (.int .i64 q)).setCell (p := ⟨W0.heap.size, 2, none⟩) (Nat.le_refl _) (.string v)
       have hWn : ((((w3.setCell ⟨W0.heap.size, 0, none⟩ (.int .i64 p')).setCell ⟨W0.heap.size, 1, none⟩ (.int .i64 q)).setCell ⟨W0.heap.size, 2, none⟩ (.string v)).heap[W0.heap.size]? = some (.cells #[.int .i64 p', .int .i64 q, .string v] 96 (0, 0))) := heap_set_at (heap_set_at (heap_set_at hx2 0 (.int .i64 p')) 1 (.int .i64 q)) 2 (.string v)
       have hBx : W0.heap.size ≤ W0.heap.size := Nat.le_refl _
       generalize World.setCell (World.setCell (World.setCell w3 ⟨W0.heap.size, 0, none⟩ (.int .i64 p')) ⟨W0.heap.size, 1, none⟩ (.int .i64 q)) ⟨W0.heap.size, 2, none⟩ (.string v) = W1 at hWb hWn ⊢
       generalize hBe : W0.heap.size = Bx at hWn ⊢
       have hBx : W0.heap.size ≤ Bx := Nat.le_of_eq hBe
       clear hBe)
    | (have hWb := hb3.alloc hb3.size (.cells #[.int .i64 p', .int .i64 q, .string v] 96)
       have hWn := heap_alloc_new w3 (.cells #[.int .i64 p', .int .i64 q, .string v] 96)
       have hBx : W0.heap.size ≤ w3.heap.size := hb3.size
       generalize World.alloc w3 (.cells #[.int .i64 p', .int .i64 q, .string v] 96) = W1 at hWb hWn ⊢
       generalize w3.heap.size = Bx at hWn hBx ⊢)
    have hbox := heap_below hWb HE.out
    obtain ⟨E0, E1, E2, E3⟩ := open4 hbox
    have HWb := Lib.hid hWb
    clear hWb hWn hbox E0 E1 E2
    rcases hno2 with hq | ⟨hq, hq2⟩
    all_goals
      subst hq
      go_wp2_with fail
      go_ret
      exact ⟨rfl, Below.next HW1.out HWb.out⟩

/- an acceptance that is refused -/
set_option maxRecDepth 100000 in
set_option maxHeartbeats 8000000 in
theorem addn2_c (read : List (BitVec 16)) (ra : Option Addr) (rn rc : Nat) (B m cnt : Nat) (st : St) (f : Lit → Option Value) (s : Nat) (b : Int) (x : ByteArray) (hs : s < m) (hb : 1 ≤ b) (hw : (Lit.int .i64 b).wf = true) (hm : m ≤ 12) (hno : ((accpB (atS st.acc s) b && !emB x) && okP (valP read st b) x) = false) (w : World) (hr : Rd w ra rn rc (read.map setV2)) (h : StM w B m cnt (.slice ra rn rc) st f) :
    Calls Tryd.prog 38 #[.pointer (some ⟨B + 3, 0, none⟩), .agg #[.int .i64 2, .int .i64 s, .int .i64 b, .string x]] w fun e w' => e = .returned (.bool false) ∧ Below w.heap.size w w' := by
  obtain ⟨r0, r1, r2, r3⟩ := open4 h.run
  obtain ⟨⟨a0, a1, a2⟩, hfr⟩ := acc_cells h.acc (s := s) (by rw [h.len]; exact hs)
  obtain ⟨⟨p, q, v⟩, hacc⟩ : ∃ a, atS st.acc s = a := ⟨_, rfl⟩
  rw [hacc] at a0 a1 a2 hno
  obtain ⟨⟨u, fr, ok⟩, hvp⟩ : ∃ y, valP read st b = y := ⟨_, rfl⟩
  rw [hvp] at hno
  obtain ⟨is, p', q', v', his⟩ : ∃ (is : Bool) (p' q' : Int) (v' : ByteArray), decide (1 ≤ b ∧ p ≤ b) = is ∧ (if 1 ≤ b ∧ p ≤ b then Value.agg #[.int .i64 b, .int .i64 b, .string x] else .agg #[.int .i64 p, .int .i64 q, .string v]) = .agg #[.int .i64 p', .int .i64 q', .string v'] := by
    by_cases h9 : 1 ≤ b ∧ p ≤ b
    · exact ⟨_, _, _, _, rfl, if_pos h9⟩
    · exact ⟨_, _, _, _, rfl, if_neg h9⟩
  have hno2 : ok = false ∨ (ok = true ∧ (is = false ∨ (is = true ∧ ((x.toList == []) = true ∨ ((x.toList == []) = false ∧ fr = false ∧ (u.toList == x.toList) = false))))) := by
    rw [← his.1]
    unfold okP accpB emB at hno
    cases ok
    · exact .inl rfl
    · refine .inr ⟨rfl, ?_⟩
      by_cases h9 : 1 ≤ b ∧ p ≤ b
      · refine .inr ⟨decide_eq_true h9, ?_⟩
        cases hq : (x.toList == [])
        · refine .inr ⟨rfl, ?_⟩
          rw [hq] at hno
          have e1 : decide (1 ≤ b) = true := decide_eq_true h9.1
          have e2 : decide (p ≤ b) = true := decide_eq_true h9.2
          simp only [e1, e2] at hno
          cases fr
          · exact ⟨rfl, by simpa using hno⟩
          · simp at hno
        · exact .inl rfl
      · exact .inl (decide_eq_false h9)
  have HV : Hid (∀ w' : World, Below w.heap.size w w' → Calls Tryd.prog 59 #[.pointer (some ⟨B + 3, 0, none⟩), .int .i64 b] w' fun e w2 => e = Ending.returned (.tuple #[.string u, .bool fr, .bool ok]) ∧ Below w'.heap.size w' w2) := Lib.hid (fun w' h1 => (value_c read ra rn rc B m cnt st f b hw w' (hr.below h1) (h.below h1)).mono fun e w2 ⟨h2, h3⟩ => ⟨by rw [h2, hvp], h3⟩)
  have H := Lib.hid h
  have hB0 := blA w (.cells #[.int .i64 2, .int .i64 s, .int .i64 b, .string x] 48)
  have r1' := (hB0.cell (p := ⟨B + 3, 1, none⟩) (cell_lt r1)).trans r1
  have g1 : decide ((s : Int) < 0) = false := by simp
  have g2 : decide ((m : Int) ≤ (s : Int)) = false := by simp; omega
  have g3 : decide (b < 1) = false := by simp; omega
  have i0 : (0 : Int) ≤ (s : Int) := by omega
  have i1 : (s : Int) < (m : Int) := by omega
  have HACC := Lib.hid hacc
  have HW := Lib.hid hw
  have HIS := Lib.hid his
  clear h hacc hfr hw hvp hno hr his
  go_enter Tryd.func38, Tryd.ntmps38
  go_wp2_with fail
  go_quiet (fail)
  go_wp2_with fail
  go_quiet (fail)
  go_wp2_with fail
  generalize hW : World.drewN (w.alloc (.cells #[.int .i64 2, .int .i64 s, .int .i64 b, .string x] 48)) _ = W0
  have hW1 : Below w.heap.size w W0 := by rw [← hW]; exact below_drewN hB0
  have hW2 : W0.heap.size = w.heap.size + 1 := by rw [← hW]; simp
  have hW3 : W0.heap[w.heap.size]? = some (.cells #[.int .i64 2, .int .i64 s, .int .i64 b, .string x] 48 (0, 0)) := by rw [← hW]; exact heap_alloc_new w _
  obtain ⟨e0, e1, e2, e3⟩ := open4 hW3
  have HW1 := Lib.hid hW1
  have HW2 := Lib.hid hW2
  have HE := Lib.hid hW3
  clear hW hW1 hW2 hW3 hB0 r1' r0 r1 r2 r3 g1 g2 g3 i0 i1
  refine (HV.out _ HW1.out).mono ?_
  rintro e W2 ⟨rfl, hb2⟩
  have HB2 := Lib.hid hb2
  have A0 := (hb2.cell (p := ⟨B, s * 3, none⟩) (cell_lt ((HW1.out.cell (p := ⟨B, s * 3, none⟩) (cell_lt a0)).trans a0))).trans ((HW1.out.cell (p := ⟨B, s * 3, none⟩) (cell_lt a0)).trans a0)
  have A1 := (hb2.cell (p := ⟨B, s * 3 + 1, none⟩) (cell_lt ((HW1.out.cell (p := ⟨B, s * 3 + 1, none⟩) (cell_lt a1)).trans a1))).trans ((HW1.out.cell (p := ⟨B, s * 3 + 1, none⟩) (cell_lt a1)).trans a1)
  have A2 := (hb2.cell (p := ⟨B, s * 3 + 2, none⟩) (cell_lt ((HW1.out.cell (p := ⟨B, s * 3 + 2, none⟩) (cell_lt a2)).trans a2))).trans ((HW1.out.cell (p := ⟨B, s * 3 + 2, none⟩) (cell_lt a2)).trans a2)
  have HE2 := Lib.hid (heap_below hb2 HE.out)
  obtain ⟨_, _, E2, E3⟩ := open4 HE2.out
  have HW12 := Lib.hid (Below.next HW1.out hb2)
  have HSZ2 : Hid (w.heap.size < W2.heap.size) := Lib.hid (by have := hb2.size; have := HW2.out; omega)
  clear hb2 e0 e1 e2 e3 a0 a1 a2 HV
  go_wp2_with fail
  have KS : Hid (∀ y : World, Below W2.heap.size W2 y → y.cell? ⟨B, s * 3, none⟩ = some (.int .i64 p) ∧ y.cell? ⟨B, s * 3 + 1, none⟩ = some (.int .i64 q) ∧ y.cell? ⟨B, s * 3 + 2, none⟩ = some (.string v) ∧ y.cell? ⟨w.heap.size, 2, none⟩ = some (.int .i64 b) ∧ y.cell? ⟨w.heap.size, 3, none⟩ = some (.string x)) := Lib.hid (fun y hy => ⟨(hy.cell (p := ⟨B, s * 3, none⟩) (cell_lt A0)).trans A0, (hy.cell (p := ⟨B, s * 3 + 1, none⟩) (cell_lt A1)).trans A1, (hy.cell (p := ⟨B, s * 3 + 2, none⟩) (cell_lt A2)).trans A2, (hy.cell (p := ⟨w.heap.size, 2, none⟩) (cell_lt E2)).trans E2, (hy.cell (p := ⟨w.heap.size, 3, none⟩) (cell_lt E3)).trans E3⟩)
  have HP2 : Hid (∀ y : World, Below W2.heap.size W2 y → Calls Tryd.prog 60 #[.agg #[.int .i64 p, .int .i64 q, .string v], .int .i64 b, .string x] y fun e w3 => e = .returned (.tuple #[.agg #[.int .i64 p', .int .i64 q', .string v'], .bool is]) ∧ Below W2.heap.size W2 w3 ∧ ∀ ob, y.heap[W2.heap.size]? = some ob → w3.heap[W2.heap.size]? = some ob) := Lib.hid (fun y hy => (accept_c p q v b x y).mono fun e w3 ⟨h1, h2⟩ => ⟨by rw [h1, HIS.out.1, HIS.out.2], Below.next hy h2, fun ob ho => heap_below h2 ho⟩)
  go_region_held3 (fun w' => w'.cell? ⟨B, s * 3, none⟩ = some (.int .i64 p) ∧ w'.cell? ⟨B, s * 3 + 1, none⟩ = some (.int .i64 q) ∧ w'.cell? ⟨B, s * 3 + 2, none⟩ = some (.string v) ∧ w'.cell? ⟨w.heap.size, 2, none⟩ = some (.int .i64 b) ∧ w'.cell? ⟨w.heap.size, 3, none⟩ = some (.string x))
    (exact KS.out _ (by (repeat (first | with_reducible exact Below.refl _ _ | with_reducible exact hb3 | with_reducible refine below_drew ?_ | with_reducible refine Below.alloc ?_ ?_ _ | with_reducible refine Below.setCell ?_ ?_ _ | exact Nat.le_refl _ | exact hb3.size))))
    ((go_at_call 60; (refine (HP2.out _ (by (first | with_reducible exact below_drew (Below.refl _ _) | with_reducible exact below_drew (blA _ _)))).mono ?_); (rintro e w3 ⟨rfl, hb3, hx⟩; first | (have hx2 := hx _ (heap_alloc_new W2 _); obtain ⟨⟨x0, x1, x2⟩, y0, y1, y2⟩ := open3 hx2; clear hx) | (clear hx))))
  all_goals
    first
    | (have hWb := ((hb3.setCell (p := ⟨W2.heap.size, 0, none⟩) (Nat.le_refl _) (.int .i64 p')).setCell (p := ⟨W2.heap.size, 1, none⟩) (Nat.le_refl _) (.int .i64 q')).setCell (p := ⟨W2.heap.size, 2, none⟩) (Nat.le_refl _) (.string v')
       have hWn : ((((w3.setCell ⟨W2.heap.size, 0, none⟩ (.int .i64 p')).setCell ⟨W2.heap.size, 1, none⟩ (.int .i64 q')).setCell ⟨W2.heap.size, 2, none⟩ (.string v')).heap[W2.heap.size]? = some (.cells #[.int .i64 p', .int .i64 q', .string v'] 96 (0, 0))) := heap_set_at (heap_set_at (heap_set_at hx2 0 (.int .i64 p')) 1 (.int .i64 q')) 2 (.string v')
       have hBx : W2.heap.size ≤ W2.heap.size := Nat.le_refl _
       generalize World.setCell (World.setCell (World.setCell w3 ⟨W2.heap.size, 0, none⟩ (.int .i64 p')) ⟨W2.heap.size, 1, none⟩ (.int .i64 q')) ⟨W2.heap.size, 2, none⟩ (.string v') = W1 at hWb hWn ⊢
       generalize hBe : W2.heap.size = Bx at hWn ⊢
       have hBx : W2.heap.size ≤ Bx := Nat.le_of_eq hBe
       clear hBe)
    | (have hWb := hb3.alloc hb3.size (.cells #[.int .i64 p', .int .i64 q', .string v'] 96)
       have hWn := heap_alloc_new w3 (.cells #[.int .i64 p', .int .i64 q', .string v'] 96)
       have hBx : W2.heap.size ≤ w3.heap.size := hb3.size
       generalize World.alloc w3 (.cells #[.int .i64 p', .int .i64 q', .string v'] 96) = W1 at hWb hWn ⊢
       generalize w3.heap.size = Bx at hWn hBx ⊢)
    have hbox := heap_below hWb HE2.out
    obtain ⟨E0, E1, E2, E3⟩ := open4 hbox
    have HWb := Lib.hid hWb
    clear hWb hWn hbox E0 E1 E2
    rcases hno2 with hq | ⟨hq, hq2 | ⟨hq2, hq3 | ⟨hq3, hq4, hq5⟩⟩⟩
    all_goals
      subst hq
      try subst hq2
      try subst hq4
      go_wp2_with fail
      go_ret
      exact ⟨rfl, Below.next HW12.out HWb.out⟩
end Go.Proofs.YtgfjmplifmbmlaaDoor
namespace Go.Proofs.YtgfjmplifmbmlaaDoor

theorem best_fold : ∀ (l : List Rep) (o : Int × ByteArray), o.1 ≤ (l.foldl stepR o).1 ∧ (∀ r ∈ l, r.ballot ≤ (l.foldl stepR o).1) ∧ (l.foldl stepR o = o ∨ ∃ r ∈ l, (l.foldl stepR o) = (r.ballot, r.value)) := by
  intro l
  induction l with
  | nil => intro o; exact ⟨Int.le_refl _, fun r hr => (by cases hr), .inl rfl⟩
  | cons x l ih =>
    intro o
    rw [List.foldl_cons]
    obtain ⟨h1, h2, h3⟩ := ih (stepR o x)
    have hx : o.1 ≤ (stepR o x).1 ∧ x.ballot ≤ (stepR o x).1 ∧ (stepR o x = o ∨ stepR o x = (x.ballot, x.value)) := by
      unfold stepR
      split
      · exact ⟨by show o.1 ≤ x.ballot; omega, Int.le_refl _, .inr rfl⟩
      · exact ⟨Int.le_refl _, by omega, .inl rfl⟩
    refine ⟨by omega, fun r hr => ?_, ?_⟩
    · rcases List.mem_cons.1 hr with rfl | hr
      · omega
      · exact h2 r hr
    · rcases h3 with h3 | ⟨r, hr, h3⟩
      · rcases hx.2.2 with h | h
        · exact .inl (h3.trans h)
        · exact .inr ⟨x, List.mem_cons_self .., h3.trans h⟩
      · exact .inr ⟨r, List.mem_cons_of_mem _ hr, h3⟩
theorem best_all (l : List Rep) : (∀ r ∈ l, r.ballot ≤ (bestR l).1) ∧ (0 < (bestR l).1 → ∃ r ∈ l, r.ballot = (bestR l).1 ∧ r.value = (bestR l).2) := by
  obtain ⟨_, h2, h3⟩ := best_fold l (0, ⟨#[]⟩)
  refine ⟨h2, fun h0 => ?_⟩
  unfold bestR at h0 ⊢
  rcases h3 with h3 | ⟨r, hr, h3⟩
  · rw [h3] at h0; exact absurd h0 (by decide)
  · exact ⟨r, hr, by rw [h3], by rw [h3]⟩

/-- an acceptance -/
def AccE (l : List Ev) (s b : Int) (v : ByteArray) : Prop := ∃ e ∈ l, e.kind = 2 ∧ e.server = s ∧ e.ballot = b ∧ e.value = v
structure Saf (read : List (BitVec 16)) (n : Nat) (l : List Ev) : Prop where
  s1 : ∀ s b v, AccE l s b v → b ≤ (atS (repA n l) s).bal
  s2 : ∀ (b' : Int) (r : Rep), r ∈ repS n l b' → ∀ b v, AccE l r.server b v → b < b' → b ≤ r.ballot
  s3a : ∀ s : Int, 0 ≤ s → s < n → 0 < (atS (repA n l) s).bal → AccE l s (atS (repA n l) s).bal (atS (repA n l) s).val
  s3 : ∀ (b' : Int) (r : Rep), r ∈ repS n l b' → 0 < r.ballot → AccE l r.server r.ballot r.value
  s4 : ∀ s s' b v v', AccE l s b v → AccE l s' b v' → v = v'
  s5 : ∀ s b v, AccE l s b v → ∃ L : List Rep, (∀ r ∈ L, r ∈ repS n l b) ∧ accS read (seenR L) = true ∧ ((bestR L).1 = 0 ∨ (bestR L).2 = v)
theorem accE_app {l : List Ev} {e : Ev} {s b : Int} {v : ByteArray} : AccE (l ++ [e]) s b v ↔ AccE l s b v ∨ (e.kind = 2 ∧ e.server = s ∧ e.ballot = b ∧ e.value = v) := by
  constructor
  · rintro ⟨x, hx, h⟩
    rcases List.mem_append.1 hx with hx | hx
    · exact .inl ⟨x, hx, h⟩
    · rw [List.mem_singleton] at hx; subst hx; exact .inr h
  · rintro (⟨x, hx, h⟩ | h)
    · exact ⟨x, List.mem_append_left _ hx, h⟩
    · exact ⟨e, List.mem_append_right _ (List.mem_singleton_self _), h⟩
theorem valF_accE {l : List Ev} {b : Int} {v : ByteArray} (h : valF l b = some v) : ∃ s, AccE l s b v := by
  unfold valF at h
  rw [Option.map_eq_some_iff] at h
  obtain ⟨e, he, hv⟩ := h
  have h1 := List.mem_of_find?_eq_some he
  have h2 := List.find?_some he
  unfold isAcc at h2
  simp at h2
  exact ⟨e.server, e, h1, h2.1, rfl, h2.2, hv⟩
theorem valF_none {l : List Ev} {b : Int} (h : valF l b = none) : ∀ s v, ¬ AccE l s b v := by
  rintro s v ⟨e, he, h1, _, h3, _⟩
  unfold valF at h
  rw [Option.map_eq_none_iff, List.find?_eq_none] at h
  have := h e he
  unfold isAcc at this
  simp [h1, h3] at this
theorem saf_nil (read : List (BitVec 16)) (n : Nat) : Saf read n [] := by
  have hn : ∀ s b v, ¬ AccE [] s b v := by rintro s b v ⟨e, he, _⟩; cases he
  have h0 : ∀ s : Int, atS (repA n []) s = acc0 := by
    intro s
    unfold atS repA
    simp only [List.foldl_nil]
    rw [List.getD, List.getElem?_replicate]
    split <;> rfl
  refine ⟨fun s b v h => absurd h (hn s b v), fun b' r hr => ?_, fun s _ _ h => ?_, fun b' r hr => ?_, fun s s' b v v' h => absurd h (hn _ _ _), fun s b v h => absurd h (hn s b v)⟩
  · simp [repS, repTo] at hr
  · rw [h0] at h; exact absurd h (by decide)
  · simp [repS, repTo] at hr
theorem saf_step {read : List (BitVec 16)} {n : Nat} {l : List Ev} {e : Ev} (hn : n ≤ 12) (hi : Inv n l) (hs : Saf read n l) (hf : folS read n l e = true) : Saf read n (l ++ [e]) := by
  unfold folS at hf
  split at hf
  · cases hf
  · rename_i hr
    have hs0 : 0 ≤ e.server := by omega
    have hsn : e.server < n := by omega
    have hb1 : 1 ≤ e.ballot := by omega
    split at hf
    · rename_i hk
      rw [Bool.and_eq_true] at hf
      obtain ⟨hp, hem⟩ := hf
      have hlt : (atS (repA n l) e.server).prom < e.ballot := by unfold promB at hp; simpa using hp
      have hst : stepA (repA n l) e = (repA n l).set e.server.toNat { atS (repA n l) e.server with prom := e.ballot } := by unfold stepA; rw [if_pos hk, if_pos hp]
      have hat := fun t ht => atS_repA (n := n) (l := l) (e := e) hs0 hsn hst (t := t) ht
      have hacc : ∀ s b v, AccE (l ++ [e]) s b v → AccE l s b v := by
        intro s b v h
        rcases accE_app.1 h with h | h
        · exact h
        · rw [hk] at h; exact absurd h.1 (by decide)
      have hsrv : ∀ s b v, AccE l s b v → 0 ≤ s ∧ s < n := by
        rintro s b v ⟨x, hx, _, rfl, _⟩; exact ⟨(hi.srv x hx).1, (hi.srv x hx).2.1⟩
      have hatb : ∀ s : Int, 0 ≤ s → (atS (repA n (l ++ [e])) s).bal = (atS (repA n l) s).bal ∧ (atS (repA n (l ++ [e])) s).val = (atS (repA n l) s).val := by
        intro s h0
        rw [hat s h0]
        split
        · rename_i h; subst h; exact ⟨rfl, rfl⟩
        · exact ⟨rfl, rfl⟩
      have hrep : ∀ b r, r ∈ repS n (l ++ [e]) b → r ∈ repS n l b ∨ (b = e.ballot ∧ r = repOf e.server (atS (repA n l) e.server)) := by
        intro b r h
        rw [repS_snoc] at h
        rcases List.mem_append.1 h with h | h
        · exact .inl h
        · split at h
          · rename_i hc; rw [List.mem_singleton] at h; exact .inr ⟨hc.2.symm, h⟩
          · cases h
      refine ⟨?_, ?_, ?_, ?_, ?_, ?_⟩
      · intro s b v h
        have h' := hacc s b v h
        rw [(hatb s (hsrv s b v h').1).1]; exact hs.s1 s b v h'
      · intro b' r h b v ha hlt2
        have ha' := hacc _ _ _ ha
        rcases hrep b' r h with h | ⟨_, rfl⟩
        · exact hs.s2 b' r h b v ha' hlt2
        · exact hs.s1 e.server b v ha'
      · intro s h0 h1 hb
        obtain ⟨e1, e2⟩ := hatb s h0
        rw [e1] at hb ⊢
        rw [e2]
        exact accE_app.2 (.inl (hs.s3a s h0 h1 hb))
      · intro b' r h hb
        rcases hrep b' r h with h | ⟨_, rfl⟩
        · exact accE_app.2 (.inl (hs.s3 b' r h hb))
        · exact accE_app.2 (.inl (hs.s3a e.server hs0 hsn hb))
      · intro s s' b v v' h1 h2
        exact hs.s4 s s' b v v' (hacc _ _ _ h1) (hacc _ _ _ h2)
      · intro s b v h
        obtain ⟨L, h1, h2⟩ := hs.s5 s b v (hacc _ _ _ h)
        exact ⟨L, fun r hr => by rw [repS_snoc]; exact List.mem_append_left _ (h1 r hr), h2⟩
    · rename_i hk1
      split at hf
      · rename_i hk
        rw [Bool.and_eq_true, Bool.and_eq_true, Bool.not_eq_true'] at hf
        obtain ⟨⟨hp, hem⟩, hd⟩ := hf
        have hle : (atS (repA n l) e.server).prom ≤ e.ballot := by unfold accpB at hp; simp at hp; exact hp.2
        have hst : stepA (repA n l) e = (repA n l).set e.server.toNat ⟨e.ballot, e.ballot, e.value⟩ := by unfold stepA; rw [if_neg hk1, if_pos hp]
        have hat := fun t ht => atS_repA (n := n) (l := l) (e := e) hs0 hsn hst (t := t) ht
        have hrepS : ∀ b, repS n (l ++ [e]) b = repS n l b := by
          intro b; rw [repS_snoc, if_neg (fun h => hk1 h.1), List.append_nil]
        have hsrv : ∀ s b v, AccE l s b v → 0 ≤ s ∧ s < n := by
          rintro s b v ⟨x, hx, _, rfl, _⟩; exact ⟨(hi.srv x hx).1, (hi.srv x hx).2.1⟩
        have hsame : ∀ s v, AccE l s e.ballot v → v = e.value := by
          intro s v h
          cases hv : valF l e.ballot with
          | none => exact absurd h (valF_none hv s v)
          | some x =>
            obtain ⟨s', h'⟩ := valF_accE hv
            have hx : x = e.value := by
              unfold demS at hd
              rw [hv] at hd
              unfold okD at hd
              simp at hd
              exact bs_ext hd
            rw [← hx]
            exact hs.s4 _ _ _ _ _ h h'
        refine ⟨?_, ?_, ?_, ?_, ?_, ?_⟩
        · intro s b v h
          rcases accE_app.1 h with h' | ⟨_, rfl, rfl, rfl⟩
          · have h0 := (hsrv s b v h').1
            rw [hat s h0]
            split
            · rename_i he
              have := hs.s1 s b v h'
              rw [he] at this
              have h2 := (hi.bal e.server hs0 hsn).2
              show b ≤ e.ballot
              omega
            · exact hs.s1 s b v h'
          · rw [hat _ hs0, if_pos rfl]; exact Int.le_refl _
        · intro b' r h b v ha hlt2
          rw [hrepS] at h
          rcases accE_app.1 ha with ha | ⟨_, h1, h2, _⟩
          · exact hs.s2 b' r h b v ha hlt2
          · exfalso
            have := (hi.rep b' r h).2.2.2.2.1
            rw [← h1] at this
            omega
        · intro s h0 h1 hb
          rw [hat s h0] at hb ⊢
          split
          · rename_i he; exact accE_app.2 (.inr ⟨hk, he.symm, rfl, rfl⟩)
          · rename_i he; rw [if_neg he] at hb; exact accE_app.2 (.inl (hs.s3a s h0 h1 hb))
        · intro b' r h hb
          rw [hrepS] at h
          exact accE_app.2 (.inl (hs.s3 b' r h hb))
        · intro s s' b v v' h1 h2
          rcases accE_app.1 h1 with h1 | ⟨_, _, rfl, rfl⟩ <;> rcases accE_app.1 h2 with h2 | ⟨_, _, h3, h4⟩
          · exact hs.s4 _ _ _ _ _ h1 h2
          · subst h3 h4; exact hsame _ _ h1
          · exact (hsame _ _ h2).symm
          · exact h4
        · intro s b v h
          have hold : ∀ s v, AccE l s b v → ∃ L : List Rep, (∀ r ∈ L, r ∈ repS n (l ++ [e]) b) ∧ accS read (seenR L) = true ∧ ((bestR L).1 = 0 ∨ (bestR L).2 = v) := by
            intro s v h
            obtain ⟨L, h1, h2⟩ := hs.s5 s b v h
            exact ⟨L, fun r hr => by rw [hrepS]; exact h1 r hr, h2⟩
          rcases accE_app.1 h with h | ⟨_, _, rfl, rfl⟩
          · exact hold s v h
          · cases hv : valF l e.ballot with
            | some x =>
              obtain ⟨s', h'⟩ := valF_accE hv
              have := hsame _ _ h'
              subst this
              exact hold s' _ h'
            | none =>
              refine ⟨repS n l e.ballot, fun r hr => by rw [hrepS]; exact hr, ?_⟩
              unfold demS at hd
              rw [hv] at hd
              simp only at hd
              unfold pickS at hd
              rw [if_neg (by omega), hi.seen] at hd
              simp only [Bool.false_eq_true, if_false] at hd
              cases ha : accS read (seenR (repS n l e.ballot))
              · rw [ha] at hd; simp [okD] at hd
              · rw [ha] at hd
                simp only [Bool.true_eq_false, if_false] at hd
                refine ⟨rfl, ?_⟩
                by_cases h0 : (bestR (repS n l e.ballot)).1 = 0
                · exact .inl h0
                · rw [if_neg h0] at hd
                  simp [okD] at hd
                  exact .inr (bs_ext hd)
      · cases hf
theorem good_saf {read : List (BitVec 16)} {n : Nat} (hn : n ≤ 12) {l : List Ev} (h : Good read n l) : Saf read n l := by
  induction h with
  | nil => exact saf_nil read n
  | snoc hg hf ih => exact saf_step hn (good_inv hn hg) ih hf

/-- a value that a write set accepted in a ballot is the value of all acceptances from that ballot on -/
theorem safe_from {read write : List (BitVec 16)} {n : Nat} (hn : n ≤ 12) {l : List Ev} (h : Good read n l) (hc : ∀ r ∈ read, ∀ w ∈ write, (r &&& w == 0#16) = false)
    {b : Int} {v : ByteArray} {W : BitVec 16} (hW : W ∈ write) (hb : 1 ≤ b) (hex : ∃ s, AccE l s b v) (hall : ∀ i, hasB W i = true → AccE l (i : Int) b v) :
    ∀ (d : Nat) (s b' : Int) (v' : ByteArray), b ≤ b' → b' - b ≤ d → AccE l s b' v' → v' = v := by
  have hi := good_inv hn h
  have hs := good_saf hn h
  intro d
  induction d with
  | zero =>
    intro s b' v' h1 h2 ha
    have : b' = b := by omega
    subst this
    obtain ⟨s0, h0⟩ := hex
    exact hs.s4 _ _ _ _ _ ha h0
  | succ d ih =>
    intro s b' v' h1 h2 ha
    by_cases he : b' = b
    · subst he
      obtain ⟨s0, h0⟩ := hex
      exact hs.s4 _ _ _ _ _ ha h0
    · obtain ⟨L, hL, hacc, hbest⟩ := hs.s5 s b' v' ha
      unfold accS at hacc
      obtain ⟨R, hR, hsub⟩ := List.any_eq_true.1 hacc
      obtain ⟨i, hi1⟩ : ∃ i, hasB (R &&& W) i = true := by
        apply Classical.byContradiction
        intro hno
        have : R &&& W = 0#16 := by
          apply BitVec.eq_of_getLsbD_eq
          intro i _
          cases hx : (R &&& W).getLsbD i
          · simp
          · exact absurd ⟨i, hx⟩ hno
        have := hc R hR W hW
        simp_all
      rw [hasB_and, Bool.and_eq_true] at hi1
      have hseen := (subB_iff _ _).1 hsub i hi1.1
      rcases seen_mem L 0#16 i (fun r hr => ⟨(hi.rep b' r (hL r hr)).1, by have := (hi.rep b' r (hL r hr)).2.1; omega⟩) hseen with hz | ⟨r, hr, her⟩
      · rw [hasB_zero] at hz; cases hz
      · have hacc2 := hall i hi1.2
        rw [← her] at hacc2
        have h3 := hs.s2 b' r (hL r hr) b v hacc2 (by omega)
        have h4 := (best_all L).1 r hr
        obtain ⟨r', hr', e1, e2⟩ := (best_all L).2 (by omega)
        have h5 : (bestR L).2 = v' := by
          rcases hbest with h | h
          · omega
          · exact h
        have h6 := (hi.rep b' r' (hL r' hr')).2.2.2.1
        have h7 := hs.s3 b' r' (hL r' hr') (by omega)
        have := ih r'.server r'.ballot r'.value (by omega) (by omega) h7
        rw [← h5, ← e2, this]
end Go.Proofs.YtgfjmplifmbmlaaDoor
namespace Go.Proofs.YtgfjmplifmbmlaaDoor

def isV (n : Nat) (b : Int) (v : ByteArray) (e : Ev) : Bool := ((decide (e.kind = 2) && decide (e.ballot = b)) && e.value.toList == v.toList) && inB n e.server
def byTo (n : Nat) (l : List Ev) (b : Int) (v : ByteArray) (k : Nat) : BitVec 16 := (l.take k).foldl (fun s e => if isV n b v e then s ||| bitS e.server.toNat else s) 0#16
def byS (n : Nat) (l : List Ev) (b : Int) (v : ByteArray) : BitVec 16 := byTo n l b v l.length
def accI (n : Nat) (e : Ev) : Bool := decide (e.kind = 2) && inB n e.server
/-- a chosen value -/
def ChoI (write : List (BitVec 16)) (n : Nat) (l : List Ev) (v : Str) : Prop := ∃ e ∈ l, accI n e = true ∧ accS write (byS n l e.ballot e.value) = true ∧ e.value.toList = v
def chrStep (write : List (BitVec 16)) (n : Nat) (l : List Ev) (o : List Str) (e : Ev) : List Str := if (accI n e && accS write (byS n l e.ballot e.value)) = true then insS e.value.toList o else o
def chrTo (write : List (BitVec 16)) (n : Nat) (l : List Ev) (k : Nat) : List Str := (l.take k).foldl (chrStep write n l) []
/-- the chosen values, ascending -/
def chrS (write : List (BitVec 16)) (n : Nat) (l : List Ev) : List Str := chrTo write n l l.length
theorem chrTo_succ {write : List (BitVec 16)} {n : Nat} {l : List Ev} {k : Nat} {e : Ev} (h : l[k]? = some e) : chrTo write n l (k + 1) = chrStep write n l (chrTo write n l k) e := by
  unfold chrTo; rw [List.take_add_one, h]; simp
theorem byTo_succ {n : Nat} {l : List Ev} {b : Int} {v : ByteArray} {k : Nat} {e : Ev} (h : l[k]? = some e) : byTo n l b v (k + 1) = if isV n b v e then byTo n l b v k ||| bitS e.server.toNat else byTo n l b v k := by
  unfold byTo; rw [List.take_add_one, h]; simp
theorem chrTo_prop (write : List (BitVec 16)) (n : Nat) (l : List Ev) : ∀ k, k ≤ l.length → (chrTo write n l k).Pairwise (· < ·) ∧ ∀ v, v ∈ chrTo write n l k ↔ ∃ e ∈ l.take k, accI n e = true ∧ accS write (byS n l e.ballot e.value) = true ∧ e.value.toList = v := by
  intro k
  induction k with
  | zero => intro _; exact ⟨by simp [chrTo], by simp [chrTo]⟩
  | succ k ih =>
    intro hk
    obtain ⟨h1, h2⟩ := ih (by omega)
    have he : l[k]? = some (l[k]'(by omega)) := List.getElem?_eq_getElem _
    have ht : l.take (k + 1) = l.take k ++ [l[k]'(by omega)] := by rw [List.take_add_one, he]; rfl
    rw [chrTo_succ he, ht]
    obtain ⟨e, hee⟩ : ∃ e, l[k]'(by omega) = e := ⟨_, rfl⟩
    rw [hee]
    unfold chrStep
    split
    · rename_i hc
      rw [Bool.and_eq_true] at hc
      refine ⟨insS_asc _ _ h1, fun v => ?_⟩
      rw [insS_mem, h2]
      constructor
      · rintro (h | ⟨x, hx, h⟩)
        · exact ⟨e, List.mem_append_right _ (List.mem_singleton_self _), hc.1, hc.2, h.symm⟩
        · exact ⟨x, List.mem_append_left _ hx, h⟩
      · rintro ⟨x, hx, h⟩
        rcases List.mem_append.1 hx with hx | hx
        · exact .inr ⟨x, hx, h⟩
        · rw [List.mem_singleton] at hx; subst hx; exact .inl h.2.2.symm
    · rename_i hc
      refine ⟨h1, fun v => ?_⟩
      rw [h2]
      constructor
      · rintro ⟨x, hx, h⟩; exact ⟨x, List.mem_append_left _ hx, h⟩
      · rintro ⟨x, hx, h⟩
        rcases List.mem_append.1 hx with hx | hx
        · exact ⟨x, hx, h⟩
        · rw [List.mem_singleton] at hx; subst hx
          exact absurd (by rw [h.1, h.2.1]; rfl) hc
theorem chrS_asc (write : List (BitVec 16)) (n : Nat) (l : List Ev) : (chrS write n l).Pairwise (· < ·) := (chrTo_prop write n l _ (Nat.le_refl _)).1
theorem chrS_mem (write : List (BitVec 16)) (n : Nat) (l : List Ev) (v : Str) : v ∈ chrS write n l ↔ ChoI write n l v := by
  have := (chrTo_prop write n l _ (Nat.le_refl _)).2 v
  rw [List.take_length] at this
  exact this
theorem byTo_has {n : Nat} (hn : n ≤ 16) {l : List Ev} {b : Int} {v : ByteArray} {i : Nat} : ∀ k, k ≤ l.length → (hasB (byTo n l b v k) i = true ↔ ∃ e ∈ l.take k, isV n b v e = true ∧ e.server = (i : Int)) := by
  intro k
  induction k with
  | zero => intro _; simp [byTo, hasB]
  | succ k ih =>
    intro hk
    have he : l[k]? = some (l[k]'(by omega)) := List.getElem?_eq_getElem _
    have ht : l.take (k + 1) = l.take k ++ [l[k]'(by omega)] := by rw [List.take_add_one, he]; rfl
    rw [byTo_succ he, ht]
    obtain ⟨e, hee⟩ : ∃ e, l[k]'(by omega) = e := ⟨_, rfl⟩
    rw [hee]
    cases hv : isV n b v e
    · simp only [Bool.false_eq_true, if_false]
      rw [ih (by omega)]
      constructor
      · rintro ⟨x, hx, h⟩; exact ⟨x, List.mem_append_left _ hx, h⟩
      · rintro ⟨x, hx, h⟩
        rcases List.mem_append.1 hx with hx | hx
        · exact ⟨x, hx, h⟩
        · rw [List.mem_singleton] at hx; subst hx; rw [hv] at h; exact absurd h.1 (by decide)
    · simp only [if_true]
      have hs : 0 ≤ e.server ∧ e.server < n := by
        unfold isV inB at hv
        simp only [Bool.and_eq_true, decide_eq_true_eq] at hv
        exact hv.2
      rw [hasB_or, Bool.or_eq_true, ih (by omega), hasB_bit _ _ (by omega), decide_eq_true_eq]
      constructor
      · rintro (⟨x, hx, h⟩ | h)
        · exact ⟨x, List.mem_append_left _ hx, h⟩
        · exact ⟨e, List.mem_append_right _ (List.mem_singleton_self _), hv, by omega⟩
      · rintro ⟨x, hx, h⟩
        rcases List.mem_append.1 hx with hx | hx
        · exact .inl ⟨x, hx, h⟩
        · rw [List.mem_singleton] at hx; subst hx; exact .inr (by omega)
theorem byS_has {n : Nat} (hn : n ≤ 16) {l : List Ev} {b : Int} {v : ByteArray} {i : Nat} : hasB (byS n l b v) i = true ↔ ∃ e ∈ l, isV n b v e = true ∧ e.server = (i : Int) := by
  unfold byS
  rw [byTo_has hn _ (Nat.le_refl _), List.take_length]
/-- P37.2 -/
theorem chosen_one {read write : List (BitVec 16)} {n : Nat} (hn : n ≤ 12) {l : List Ev} (h : Good read n l) (hc : ∀ r ∈ read, ∀ w ∈ write, (r &&& w == 0#16) = false) : (chrS write n l).length ≤ 1 := by
  refine asc_one (chrS_asc write n l) fun x hx y hy => ?_
  have hi := good_inv hn h
  have key : ∀ v, ChoI write n l v → ∃ (b : Int) (s : Int) (W : BitVec 16) (u : ByteArray), u.toList = v ∧ 1 ≤ b ∧ AccE l s b u ∧ W ∈ write ∧ ∀ i, hasB W i = true → AccE l (i : Int) b u := by
    rintro v ⟨e, he, h1, h2, rfl⟩
    unfold accI at h1
    simp only [Bool.and_eq_true, decide_eq_true_eq] at h1
    unfold accS at h2
    obtain ⟨W, hW, hsub⟩ := List.any_eq_true.1 h2
    refine ⟨e.ballot, e.server, W, e.value, rfl, (hi.srv e he).2.2.1, ⟨e, he, h1.1, rfl, rfl, rfl⟩, hW, fun i hi1 => ?_⟩
    have hb := (subB_iff _ _).1 hsub i hi1
    obtain ⟨x, hx, h3, h4⟩ := (byS_has (by omega)).1 hb
    unfold isV at h3
    simp only [Bool.and_eq_true, decide_eq_true_eq] at h3
    exact ⟨x, hx, h3.1.1.1, h4, h3.1.1.2, bs_ext (eq_of_beq h3.1.2)⟩
  obtain ⟨b, s, W, u, rfl, hb, ha, hW, hall⟩ := key x ((chrS_mem write n l x).1 hx)
  obtain ⟨b', s', W', u', rfl, hb', ha', hW', hall'⟩ := key y ((chrS_mem write n l y).1 hy)
  by_cases hle : b ≤ b'
  · rw [safe_from hn h hc hW hb ⟨s, ha⟩ hall (b' - b).toNat s' b' u' hle (by omega) ha']
  · rw [safe_from hn h hc hW' hb' ⟨s', ha'⟩ hall' (b - b').toNat s b u (by omega) (by omega) ha]

/-! runs -/
def possA (read : List (BitVec 16)) (n : Nat) (l : List Ev) (b : Nat) : List Ev :=
  ((List.range n).filter fun s => folS read n l (evP b s)).map (evP b)
def evW (b s : Nat) (v : ByteArray) : Ev := ⟨2, s, b, v⟩
def possB (read : List (BitVec 16)) (n : Nat) (l : List Ev) (b : Nat) (v : ByteArray) : List Ev :=
  ((List.range n).filter fun s => folS read n l (evW b s v)).map fun s => evW b s v
def demV (p : ByteArray × Int) (b : Nat) : Option ByteArray := if p.2 = 4 then some (valB b) else if p.2 ≠ 0 then none else some p.1
def possC (read : List (BitVec 16)) (n : Nat) (l : List Ev) (b : Nat) : List Ev :=
  possA read n l b ++ (match demV (demS read n l b) b with | some v => possB read n l b v | none => [])
def possTo (read : List (BitVec 16)) (n : Nat) (l : List Ev) (k : Nat) : List Ev := (List.range k).flatMap fun b => possC read n l (b + 1)
def possS (read : List (BitVec 16)) (n : Nat) (l : List Ev) : List Ev := possTo read n l 4
theorem poss_fol {read : List (BitVec 16)} {n : Nat} {l : List Ev} {e : Ev} (h : e ∈ possS read n l) : folS read n l e = true := by
  unfold possS possTo at h
  obtain ⟨b, _, h⟩ := List.mem_flatMap.1 h
  unfold possC at h
  rcases List.mem_append.1 h with h | h
  · unfold possA at h
    obtain ⟨s, hs, rfl⟩ := List.mem_map.1 h
    exact (List.mem_filter.1 hs).2
  · split at h
    · unfold possB at h
      obtain ⟨s, hs, rfl⟩ := List.mem_map.1 h
      exact (List.mem_filter.1 hs).2
    · cases h
/-- the events of the program, by its state -/
def posQA (st : St) (n : Nat) (b : Nat) : List Ev := ((List.range n).filter fun (s : Nat) => promB (atS st.acc (s : Int)) b).map (evP b)
def posQB (st : St) (n : Nat) (b : Nat) (v : ByteArray) : List Ev := ((List.range n).filter fun (s : Nat) => accpB (atS st.acc (s : Int)) b).map fun s => evW b s v
def valQ (p : ByteArray × Bool × Bool) (b : Nat) : Option ByteArray := if p.2.2 = false then none else if p.2.1 = true then some (valB b) else some p.1
def posQC (read : List (BitVec 16)) (st : St) (n : Nat) (b : Nat) : List Ev :=
  posQA st n b ++ (match valQ (valP read st b) b with | some v => posQB st n b v | none => [])
def posQTo (read : List (BitVec 16)) (st : St) (n : Nat) (k : Nat) : List Ev := (List.range k).flatMap fun b => posQC read st n (b + 1)
def posQ (read : List (BitVec 16)) (st : St) (n : Nat) : List Ev := posQTo read st n 4
theorem valB_em (b : Nat) : emB (valB b) = false := by
  unfold emB valB
  rw [bs_list]; rfl
theorem dem_val {read : List (BitVec 16)} {n : Nat} {l : List Ev} (hi : Inv n l) {b : Nat} (hb : 1 ≤ b) : demV (demS read n l b) b = valQ (valP read (stOf n l) b) b ∧ ∀ v, demV (demS read n l b) b = some v → okD (demS read n l b) v = true ∧ emB v = false := by
  unfold demS valP
  show demV (match valF l b with | some v => (v, 0) | none => pickS read b (repS n l b)) b = valQ (match valF l b with | some v => (v, false, true) | none => ((bestR (repS n l b)).2, (bestR (repS n l b)).1 == 0, accS read (seenR (repS n l b)))) b ∧ _
  cases hv : valF l b with
  | some x =>
    refine ⟨by simp [demV, valQ], fun v h => ?_⟩
    have : x = v := by simpa [demV] using h
    subst this
    exact ⟨by simp [okD], hi.vals b x hv⟩
  | none =>
    simp only
    unfold pickS
    rw [if_neg (by omega), hi.seen b]
    simp only [Bool.false_eq_true, if_false]
    cases ha : accS read (seenR (repS n l b))
    · exact ⟨by simp [demV, valQ], fun v h => by simp [demV] at h⟩
    · simp only [Bool.true_eq_false, if_false]
      by_cases h0 : (bestR (repS n l b)).1 = 0
      · rw [if_pos h0]
        refine ⟨by simp [demV, valQ, h0], fun v h => ?_⟩
        have : valB b = v := by simpa [demV] using h
        subst this
        exact ⟨by simp [okD], valB_em b⟩
      · rw [if_neg h0]
        have h1 : ((bestR (repS n l b)).1 == 0) = false := by simpa using h0
        refine ⟨by simp [demV, valQ, h1], fun v h => ?_⟩
        have : (bestR (repS n l b)).2 = v := by simpa [demV] using h
        subst this
        refine ⟨by simp [okD], ?_⟩
        obtain ⟨r, hr, e1, e2⟩ := (best_all (repS n l b)).2 (by have := bestR_ge (repS n l b); omega)
        rw [← e2]
        exact (hi.rep b r hr).2.2.2.2.2 (by have := (hi.rep b r hr).2.2.1; omega)
theorem poss_eq {read : List (BitVec 16)} {n : Nat} {l : List Ev} (hi : Inv n l) : posQ read (stOf n l) n = possS read n l := by
  unfold posQ possS posQTo possTo
  congr 1
  funext b
  unfold posQC possC
  obtain ⟨h1, h2⟩ := dem_val (read := read) hi (b := b + 1) (by omega)
  congr 1
  · unfold posQA possA
    congr 1
    apply List.filter_congr
    intro s hs
    have hsn := List.mem_range.1 hs
    unfold folS evP
    simp only
    rw [if_neg (by omega)]
    simp [emB, stOf]
  · rw [← h1]
    cases hd : demV (demS read n l ((b + 1 : Nat) : Int)) (b + 1) with
    | none => rfl
    | some v =>
      simp only
      obtain ⟨h3, h4⟩ := h2 v hd
      unfold posQB possB
      congr 1
      apply List.filter_congr
      intro s hs
      have hsn := List.mem_range.1 hs
      unfold folS evW
      simp only
      rw [if_neg (by omega), if_neg (by decide)]
      simp only [if_true]
      rw [h3, h4]
      simp [stOf]
/-- a run -/
def pickE (l : List Ev) (c : Int) : Option Ev := l[(c % (l.length : Int)).toNat]?
def runStep (read : List (BitVec 16)) (n : Nat) (o : List Ev) (c : Int) : List Ev := match pickE (possS read n o) c with
  | some e => o ++ [e]
  | none => o
def runS (read : List (BitVec 16)) (n : Nat) (ch : List Int) : List Ev := ch.foldl (runStep read n) []
def runTo (read : List (BitVec 16)) (n : Nat) (ch : List Int) (k : Nat) : List Ev := (ch.take k).foldl (runStep read n) []
theorem runTo_succ {read : List (BitVec 16)} {n : Nat} {ch : List Int} {k : Nat} {c : Int} (h : ch[k]? = some c) : runTo read n ch (k + 1) = runStep read n (runTo read n ch k) c := by
  unfold runTo; rw [List.take_add_one, h]; simp
theorem runTo_all (read : List (BitVec 16)) (n : Nat) (ch : List Int) : runTo read n ch ch.length = runS read n ch := by unfold runTo runS; rw [List.take_length]
theorem run_stop {read : List (BitVec 16)} {n : Nat} : ∀ (ch : List Int) (o : List Ev), possS read n o = [] → ch.foldl (runStep read n) o = o := by
  intro ch
  induction ch with
  | nil => intro o _; rfl
  | cons c ch ih =>
    intro o h
    have e : runStep read n o c = o := by unfold runStep pickE; rw [h]; rfl
    rw [List.foldl_cons, e]; exact ih o h
theorem runTo_stop {read : List (BitVec 16)} {n : Nat} {ch : List Int} {k : Nat} (h : possS read n (runTo read n ch k) = []) : runTo read n ch k = runS read n ch := by
  have e : runS read n ch = (ch.drop k).foldl (runStep read n) (runTo read n ch k) := by
    unfold runS runTo; rw [← List.foldl_append, List.take_append_drop]
  rw [e, run_stop _ _ h]
theorem run_good (read : List (BitVec 16)) (n : Nat) : ∀ (ch : List Int) (o : List Ev), Good read n o → Good read n (ch.foldl (runStep read n) o) := by
  intro ch
  induction ch with
  | nil => intro o h; exact h
  | cons c ch ih =>
    intro o h
    rw [List.foldl_cons]
    refine ih _ ?_
    unfold runStep pickE
    split
    · rename_i e he; exact .snoc h (poss_fol (List.mem_of_getElem? he))
    · exact h
theorem runTo_good (read : List (BitVec 16)) (n : Nat) (ch : List Int) (k : Nat) : Good read n (runTo read n ch k) := run_good read n _ _ .nil
theorem runStep_len (read : List (BitVec 16)) (n : Nat) (o : List Ev) (c : Int) : (runStep read n o c).length ≤ o.length + 1 := by
  unfold runStep; split
  · simp
  · omega
theorem runTo_len (read : List (BitVec 16)) (n : Nat) (ch : List Int) (k : Nat) : (runTo read n ch k).length ≤ k := by
  unfold runTo
  have : ∀ (l : List Int) (o : List Ev), (l.foldl (runStep read n) o).length ≤ o.length + l.length := by
    intro l
    induction l with
    | nil => intro o; simp
    | cons c l ih =>
      intro o
      rw [List.foldl_cons, List.length_cons]
      have := ih (runStep read n o c)
      have := runStep_len read n o c
      omega
  have := this (ch.take k) []
  rw [List.length_take] at this
  simp at this
  omega
/-- Check -/
def chkTo (read : List (BitVec 16)) (n : Nat) (l : List Ev) (k : Nat) : Bool := match l[k]? with
  | some e => folS read n (l.take k) e
  | none => false
def GoodTo (read : List (BitVec 16)) (n : Nat) (l : List Ev) (k : Nat) : Prop := ∀ j, j < k → chkTo read n l j = true
theorem goodTo_good {read : List (BitVec 16)} {n : Nat} {l : List Ev} : ∀ k, GoodTo read n l k → Good read n (l.take k) := by
  intro k
  induction k with
  | zero => intro _; rw [List.take_zero]; exact .nil
  | succ k ih =>
    intro h
    have h1 := ih fun j hj => h j (by omega)
    have h2 := h k (by omega)
    unfold chkTo at h2
    split at h2
    · rename_i e he
      rw [List.take_add_one, he]
      exact .snoc h1 h2
    · cases h2
theorem good_app {read : List (BitVec 16)} {n : Nat} : ∀ {l : List Ev}, Good read n l → GoodTo read n l l.length := by
  intro l h
  induction h with
  | nil => intro j hj; exact absurd hj (by simp)
  | snoc hg hf ih =>
    rename_i l e
    intro j hj
    rw [List.length_append, List.length_singleton] at hj
    unfold chkTo
    by_cases h1 : j < l.length
    · rw [List.getElem?_append_left h1, List.take_append_of_le_length (by omega)]
      exact ih j h1
    · obtain rfl : j = l.length := by omega
      rw [List.getElem?_append_right (Nat.le_refl _), Nat.sub_self, List.take_append_of_le_length (Nat.le_refl _), List.take_length]
      exact hf
def badAt (read : List (BitVec 16)) (n : Nat) (l : List Ev) : Option Nat := (List.range l.length).find? fun k => !chkTo read n l k
def chkR (read : List (BitVec 16)) (n : Nat) (l : List Ev) : Int × Int := match badAt read n l with
  | some k => ((k : Int), 0)
  | none => (0, 13)
theorem badAt_hit {read : List (BitVec 16)} {n : Nat} {l : List Ev} {k : Nat} (hk : k < l.length) (h : GoodTo read n l k) (hb : chkTo read n l k = false) : badAt read n l = some k := by
  obtain ⟨d, hd⟩ : ∃ d, l.length = k + (1 + d) := ⟨l.length - k - 1, by omega⟩
  unfold badAt
  rw [hd, List.range_add, List.find?_append, List.range_add, List.map_append]
  rw [List.find?_eq_none.2]
  · have e1 : List.map (fun x => k + x) (List.range 1) = [k] := by simp [List.range_succ]
    rw [e1]
    simp [hb]
  · intro x hx
    rw [h x (List.mem_range.1 hx)]; decide
theorem badAt_none {read : List (BitVec 16)} {n : Nat} {l : List Ev} (h : GoodTo read n l l.length) : badAt read n l = none := by
  unfold badAt
  rw [List.find?_eq_none]
  intro x hx
  rw [h x (List.mem_range.1 hx)]; decide
theorem chkR_safe {read : List (BitVec 16)} {n : Nat} {l : List Ev} (h : (chkR read n l).2 ≠ 0) : Good read n l := by
  unfold chkR at h
  split at h
  · exact absurd rfl h
  · rename_i hb
    unfold badAt at hb
    rw [List.find?_eq_none] at hb
    have : GoodTo read n l l.length := fun j hj => by
      have := hb j (List.mem_range.2 hj)
      simpa using this
    have := goodTo_good _ this
    rwa [List.take_length] at this
end Go.Proofs.YtgfjmplifmbmlaaDoor
