/- Texts laid together. Layer 37: the reference's reports. Layer 37: what the reference demands. Layer 37: the reference's rule. The box region is printed by wip/callbox.py. Layer 37: the reference's Check. Layer 37: the reference's possible events. Layer 37: the reference's Run. slices.Clone of bytes and of events. -/
import Derived.Test.YtgfjmplifmbmlaaDoorGSingleCheck3
import Derived.Test.YtgfjmplifmbmlaaDoorGSingleCheck6
import Derived.Test.YtgfjmplifmbmlaaDoorGSingleCheck7
namespace Go.Proofs.YtgfjmplifmbmlaaDoor
open Go.RowKit Go.Maps

theorem flat_take {α : Type} (k : Nat) (enc : α → List Value) (hk : ∀ x, (enc x).length = k) : ∀ (L : List α) (m : Nat), (L.take m).flatMap enc = (L.flatMap enc).take (m * k) := by
  intro L
  induction L with
  | nil => intro m; simp
  | cons x L ih =>
    intro m
    cases m with
    | zero => simp
    | succ m =>
      rw [List.take_succ_cons, List.flatMap_cons, List.flatMap_cons, ih m, List.take_append, hk x]
      have e1 : (m + 1) * k = k + m * k := by rw [Nat.succ_mul, Nat.add_comm]
      rw [e1, List.take_of_length_le (l := enc x) (by rw [hk x]; omega), Nat.add_sub_cancel_left]
theorem RdK.takeF {k : Nat} {w : World} {a : Option Addr} {n c : Nat} {α : Type} {enc : α → List Value} {L : List α} (h : RdK k w a n c (L.flatMap enc)) (hk : ∀ x, (enc x).length = k) (m : Nat) (hm : m ≤ n) : RdK k w a m c ((L.take m).flatMap enc) := by
  rw [flat_take k enc hk]
  have hl : m * k ≤ n * k := Nat.mul_le_mul_right k hm
  refine ⟨by rw [List.length_take, ← h.len]; omega, by have := h.le; omega, h.max, h.nil, fun hn => ?_⟩
  obtain ⟨b, o, ha, hc⟩ := h.at' (by omega)
  refine ⟨b, o, ha, fun i v hv => hc i v ?_⟩
  rw [List.getElem?_take] at hv
  split at hv
  · exact hv
  · cases hv

set_option maxRecDepth 100000 in
set_option maxHeartbeats 4000000 in
theorem reports_c (m : Nat) (l : List Ev) (a2 : Option Addr) (n2 c2 : Nat) (b : Int) (w : World) (h2 : RdK 4 w a2 n2 c2 (l.flatMap evC)) (hsv : ∀ e ∈ l, 0 ≤ e.server ∧ e.server < m) (hl : l.length ≤ 1000) (hm : m ≤ 12) :
    Calls Tryd.prog 78 #[.int .i64 m, .slice a2 n2 c2, .int .i64 b] w fun e w' => ∃ v, e = .returned v ∧ w'.ownsRow w.heap.size 33 3 v (repS m l b).length ((repS m l b).flatMap repC) ∧ Below w.heap.size w w' := by
  have hnl : l.length = n2 := by have := h2.len; rw [flat_len 4 evC evC_len] at this; omega
  have HR2 := Lib.hid h2
  have HN := Lib.hid hnl
  have HSV := Lib.hid hsv
  have hle := h2.le
  have hmx := h2.max
  unfold maxLen at hmx
  have hl0 := hl
  rw [hnl] at hl
  have HL0 := Lib.hid hl0
  clear h2 hnl hsv hl0
  go_enter Tryd.func78, Tryd.ntmps78
  go_wp2_with fail
  go_loopw [7, 8] (fun v i wr => ∃ (k : Nat), k ≤ n2 ∧ i = .int .i64 k ∧ wr.ownsRow w.heap.size 33 3 v (repTo m l b k).length ((repTo m l b k).flatMap repC) ∧ Hid ((repTo m l b k).length ≤ k) ∧ Below w.heap.size w wr) (fun _ i _ => n2 - (intOf i).toNat)
  case atStart => exact ⟨0, Nat.zero_le _, rfl, World.ownsRow_nil _ _ _ _, Lib.hid (by simp [repTo]), Below.refl _ _⟩
  case round =>
    obtain ⟨k, hk, rfl, hown, hlen, hb⟩ := hrel
    have hsz := hb.size
    have HB := Lib.hid hb
    have HOWN := Lib.hid hown
    by_cases hlt : k < n2
    · obtain ⟨e, he⟩ : ∃ e, l[k]? = some e := ⟨l[k]'(by have := HN.out; omega), List.getElem?_eq_getElem _⟩
      have hrd := HR2.out.below hb
      obtain ⟨b', o, ha, hcell⟩ := RdK.cells hrd evC_len (by omega)
      have HTK := Lib.hid (hrd.takeF evC_len k (by omega))
      have hc0 : wr.cell? ⟨b', o + k * 4, none⟩ = some (.int .i64 e.kind) := hcell k e he 0 (by omega)
      have hc1 : wr.cell? ⟨b', o + k * 4 + 1, none⟩ = some (.int .i64 e.server) := hcell k e he 1 (by omega)
      have hc2 : wr.cell? ⟨b', o + k * 4 + 2, none⟩ = some (.int .i64 e.ballot) := hcell k e he 2 (by omega)
      obtain ⟨hs0, hsm⟩ := HSV.out e (List.mem_of_getElem? he)
      have HSUC : Hid (repTo m l b (k + 1) = repTo m l b k ++ if e.kind = 1 ∧ e.ballot = b then [⟨e.server, (atS (repA m (l.take k)) e.server).bal, (atS (repA m (l.take k)) e.server).val⟩] else []) := Lib.hid (by rw [repTo_succ]; congr 1; unfold repE; rw [he])
      obtain ⟨kd, sv, eb, x⟩ := e
      simp only at hc0 hc1 hc2 hs0 hsm
      obtain ⟨s, rfl⟩ := Int.eq_ofNat_of_zero_le hs0
      have hsm2 : s < m := by omega
      subst ha
      have HB0 : Hid (b' < w.heap.size) := Lib.hid (by obtain ⟨b2, o2, ha2, hc2'⟩ := RdK.cells HR2.out evC_len (by omega); have h9 := hc2' k _ he 0 (by omega); cases ha2; exact World.block_lt_of_cell? _ _ h9)
      clear hcell he hs0 hsm hb hown hrd
      by_cases hkd : kd = 1 ∧ eb = b
      · obtain ⟨rfl, rfl⟩ := hkd
        obtain ⟨p, q, v, hat⟩ : ∃ p q v, atS (repA m (l.take k)) (s : Int) = ⟨p, q, v⟩ := ⟨_, _, _, rfl⟩
        have HAT := Lib.hid hat
        have HLEN : Hid (s < (repA m (l.take k)).length) := Lib.hid (by rw [repA_len]; exact hsm2)
        have HSUC2 : Hid (repTo m l eb (k + 1) = repTo m l eb k ++ [⟨s, q, v⟩]) := Lib.hid (by rw [HSUC.out, HAT.out]; simp)
        have i0 : (0 : Int) ≤ (s : Int) := by omega
        have i1 : (s : Int) < (m : Int) := by omega
        have j0 : (0 : Int) ≤ (k : Int) := by omega
        have j1 : (k : Int) ≤ (n2 : Int) := by omega
        have j2 : (k : Int) ≤ (c2 : Int) := by omega
        have HP : Hid (∀ y : World, Below wr.heap.size wr y → Calls Tryd.prog 70 #[.int .i64 m, .slice (some ⟨b', o, none⟩) k c2] y fun e w3 => e = .returned (.slice (some ⟨y.heap.size, 0, none⟩) m m) ∧ Hid (w3.heap[y.heap.size]? = some (.cells ((repA m (l.take k)).flatMap accC).toArray 96 (0, 0))) ∧ Hid (Below y.heap.size y w3)) :=
          Lib.hid (fun y hy => (replay_c m (l.take k) _ k c2 y (HTK.out.below hy) (fun e he => HSV.out e (List.mem_of_mem_take he)) (by rw [List.length_take]; have := HL0.out; omega) hm).mono fun e w3 ⟨h1, h2, h3⟩ => ⟨h1, Lib.hid h2, Lib.hid h3⟩)
        have KS : Hid (∀ y : World, Below wr.heap.size wr y → y.cell? ⟨b', o + k * 4 + 1, none⟩ = some (.int .i64 s)) := Lib.hid (fun y hy => (hy.cell (p := ⟨b', o + k * 4 + 1, none⟩) (cell_lt hc1)).trans hc1)
        clear hat
        go_wp2_with fail
        refine wp_region_noPanic ?_
        refine wp_region_takes (fun y => Below wr.heap.size wr y) [0, 1, 2, 3, 5, 6, 7, 8, 9] 5 (by kernel_rfl) (by kernel_rfl) (by kernel_rfl) (fun _ _ _ _ _ h => h) (below_drew (Below.refl _ _)) ?_
        repeat (refine wpTk_cons rfl (fun K hK => ?_); go_simp; apply Exists.intro; refine ⟨fun y hy => ?_, hK _ ?_⟩; (first | exact rfl | (have q1 := KS.out y hy; go_simp; done) | (have q1 := KS.out y hy; go_simp; exact rfl)); clear hK K)
        refine wpTk_nil ?_
        refine held_ready (rs := [4, 12]) (by kernel_rfl) (by simp) ?_
        refine AllReadyH.cons rfl (fun K hK => ?_) (AllReadyH.cons rfl (fun K hK => ?_) AllReadyH.nil)
        go_simp
        refine (HP.out _ (below_drew (Below.refl _ _))).mono ?_
        rintro e w3 ⟨rfl, hA, hB3⟩
        have hY3 : Below wr.heap.size wr w3 := Below.next (below_drew (Below.refl _ _)) hB3.out
        have hA3 : w3.heap[wr.heap.size]? = some (.cells ((repA m (l.take k)).flatMap accC).toArray 96 (0, 0)) := hA.out
        obtain ⟨⟨c0, c1, c2'⟩, -⟩ := acc_cells hA3 HLEN.out
        rw [HAT.out] at c0 c1 c2'
        have l2 : wr.heap.size < w3.heap.size := (Array.getElem?_eq_some_iff.1 hA3).1
        have a0 : ∀ ob, (w3.alloc ob).cell? ⟨wr.heap.size, s * 3, none⟩ = some (.int .i64 p) := fun ob => (World.cell?_alloc_lt _ _ _ l2).trans c0
        have a1 : ∀ ob, (w3.alloc ob).cell? ⟨wr.heap.size, s * 3 + 1, none⟩ = some (.int .i64 q) := fun ob => (World.cell?_alloc_lt _ _ _ l2).trans c1
        have a2' : ∀ ob, (w3.alloc ob).cell? ⟨wr.heap.size, s * 3 + 2, none⟩ = some (.string v) := fun ob => (World.cell?_alloc_lt _ _ _ l2).trans c2'
        have HY3 := Lib.hid hY3
        have HA3 := Lib.hid hA3
        clear hA hB3 hY3 hA3
        go_simp
        refine hK.out _ _ HY3.out (fun hh => ?_)
        clear hh hK K; try simp only [Act.put, List.setIfInBounds_toArray, List.set_cons_zero, List.set_cons_succ]
        refine held_takes (f := 3) (by kernel_rfl) (fun _ _ _ _ _ h => h) HY3.out [10] _ _ (by kernel_rfl) ?_
        refine wpTk_cons rfl (fun K hK => ?_)
        go_simp
        apply Exists.intro
        refine ⟨fun y hy => rfl, hK _ ?_⟩
        clear hK K
        refine wpTk_nil ?_
        refine held_ready (rs := [11, 12]) (by kernel_rfl) (by simp) ?_
        refine AllReadyH.cons rfl (fun K hK => ?_) (AllReadyH.cons rfl (fun K hK => ?_) AllReadyH.nil)
        go_simp
        refine hK.out _ _ HY3.out (fun hh => ?_)
        clear hh hK K; try simp only [Act.put, List.setIfInBounds_toArray, List.set_cons_zero, List.set_cons_succ]
        refine held_ready (rs := [12]) (by kernel_rfl) (by simp) ?_
        refine AllReadyH.cons rfl (fun K hK => ?_) AllReadyH.nil
        go_simp
        refine hK.out _ _ (HY3.out.alloc HY3.out.size _) (fun hh => ?_)
        clear hh hK K; try simp only [Act.put, List.setIfInBounds_toArray, List.set_cons_zero, List.set_cons_succ]
        refine held_ready (rs := [13]) (by kernel_rfl) (by simp) ?_
        refine AllReadyH.cons rfl (fun K hK => ?_) AllReadyH.nil
        go_simp
        refine hK.out _ _ (HY3.out.alloc HY3.out.size _) (fun hh => ?_)
        clear hh hK K; try simp only [Act.put, List.setIfInBounds_toArray, List.set_cons_zero, List.set_cons_succ]
        refine wpAnyH_done (by kernel_rfl) (NoPanic.normal ?_) _
        have hWb := HY3.out.alloc HY3.out.size (.cells #[.int .i64 p, .int .i64 q, .string v] 96)
        have hWn := heap_alloc_new w3 (.cells #[.int .i64 p, .int .i64 q, .string v] 96)
        have hBx : wr.heap.size ≤ w3.heap.size := HY3.out.size
        clear HY3 HA3 a0 a1 a2' c0 c1 c2' l2
        generalize World.alloc w3 (.cells #[.int .i64 p, .int .i64 q, .string v] 96) = W1 at hWb hWn ⊢
        generalize w3.heap.size = Bx at hWn hBx ⊢
        try clear w3
        rotate_left 1
        go_simp
        refine hK.out _ _ (HY3.out.alloc HY3.out.size _) (fun hh => ?_)
        clear hh hK K; try simp only [Act.put, List.setIfInBounds_toArray, List.set_cons_zero, List.set_cons_succ]
        refine held_ready (rs := [11]) (by kernel_rfl) (by simp) ?_
        refine AllReadyH.cons rfl (fun K hK => ?_) AllReadyH.nil
        go_simp
        refine hK.out _ _ (HY3.out.alloc HY3.out.size _) (fun hh => ?_)
        clear hh hK K; try simp only [Act.put, List.setIfInBounds_toArray, List.set_cons_zero, List.set_cons_succ]
        refine held_ready (rs := [13]) (by kernel_rfl) (by simp) ?_
        refine AllReadyH.cons rfl (fun K hK => ?_) AllReadyH.nil
        go_simp
        refine hK.out _ _ (HY3.out.alloc HY3.out.size _) (fun hh => ?_)
        clear hh hK K; try simp only [Act.put, List.setIfInBounds_toArray, List.set_cons_zero, List.set_cons_succ]
        refine wpAnyH_done (by kernel_rfl) (NoPanic.normal ?_) _
        have hWb := HY3.out.alloc HY3.out.size (.cells #[.int .i64 p, .int .i64 q, .string v] 96)
        have hWn := heap_alloc_new w3 (.cells #[.int .i64 p, .int .i64 q, .string v] 96)
        have hBx : wr.heap.size ≤ w3.heap.size := HY3.out.size
        clear HY3 HA3 a0 a1 a2' c0 c1 c2' l2
        generalize World.alloc w3 (.cells #[.int .i64 p, .int .i64 q, .string v] 96) = W1 at hWb hWn ⊢
        generalize w3.heap.size = Bx at hWn hBx ⊢
        try clear w3
        rotate_left 1
        go_simp
        have h4 : Below wr.heap.size wr (wr.alloc (.cells #[.int .i64 0, .int .i64 0, .string ⟨#[]⟩] 96)).drew := below_drew (blA _ _)
        have h4n : (wr.alloc (.cells #[.int .i64 0, .int .i64 0, .string ⟨#[]⟩] 96)).drew.heap[wr.heap.size]? = some (.cells #[.int .i64 0, .int .i64 0, .string ⟨#[]⟩] 96 (0, 0)) := heap_alloc_new _ _
        have h4s : (wr.alloc (.cells #[.int .i64 0, .int .i64 0, .string ⟨#[]⟩] 96)).drew.heap.size = wr.heap.size + 1 := World.size_alloc _ _
        have H4 := Lib.hid h4
        have H4n := Lib.hid h4n
        have H4s := Lib.hid h4s
        clear h4 h4n h4s
        refine hK.out _ _ H4.out (fun hh => ?_)
        clear hh hK K; try simp only [Act.put, List.setIfInBounds_toArray, List.set_cons_zero, List.set_cons_succ]
        refine held_ready (rs := [4]) (by kernel_rfl) (by simp) ?_
        refine AllReadyH.cons rfl (fun K hK => ?_) AllReadyH.nil
        go_simp
        refine (HP.out _ H4.out).mono ?_
        rintro e w3 ⟨rfl, hA, hB3⟩
        have hY3 : Below wr.heap.size wr w3 := Below.next H4.out hB3.out
        have hA3 : w3.heap[wr.heap.size + 1]? = some (.cells ((repA m (l.take k)).flatMap accC).toArray 96 (0, 0)) := by have := hA.out; rw [H4s.out] at this; exact this
        have hX3 : w3.heap[wr.heap.size]? = some (.cells #[.int .i64 0, .int .i64 0, .string ⟨#[]⟩] 96 (0, 0)) := heap_below hB3.out H4n.out
        obtain ⟨⟨c0, c1, c2'⟩, -⟩ := acc_cells hA3 HLEN.out
        rw [HAT.out] at c0 c1 c2'
        obtain ⟨⟨x0, x1, x2⟩, y0, y1, y2⟩ := open3 hX3
        have HY3 := Lib.hid hY3
        have HX3 := Lib.hid hX3
        clear hA hB3 hY3 hA3 hX3
        go_simp
        refine hK.out _ _ HY3.out (fun hh => ?_)
        clear hh hK K; try simp only [Act.put, List.setIfInBounds_toArray, List.set_cons_zero, List.set_cons_succ]
        refine held_takes (f := 2) (by kernel_rfl) (fun _ _ _ _ _ h => h) HY3.out [10] _ _ (by kernel_rfl) ?_
        refine wpTk_cons rfl (fun K hK => ?_)
        go_simp
        apply Exists.intro
        refine ⟨fun y hy => rfl, hK _ ?_⟩
        clear hK K
        refine wpTk_nil ?_
        refine held_ready (rs := [11]) (by kernel_rfl) (by simp) ?_
        refine AllReadyH.cons rfl (fun K hK => ?_) AllReadyH.nil
        go_simp
        refine hK.out _ _ HY3.out (fun hh => ?_)
        clear hh hK K; try simp only [Act.put, List.setIfInBounds_toArray, List.set_cons_zero, List.set_cons_succ]
        refine held_ready (rs := [13]) (by kernel_rfl) (by simp) ?_
        refine AllReadyH.cons rfl (fun K hK => ?_) AllReadyH.nil
        go_simp
        have hWb := ((HY3.out.setCell (p := ⟨wr.heap.size, 0, none⟩) (Nat.le_refl _) (.int .i64 p)).setCell (p := ⟨wr.heap.size, 1, none⟩) (Nat.le_refl _) (.int .i64 q)).setCell (p := ⟨wr.heap.size, 2, none⟩) (Nat.le_refl _) (.string v)
        refine hK.out _ _ hWb (fun hh => ?_)
        clear hh hK K; try simp only [Act.put, List.setIfInBounds_toArray, List.set_cons_zero, List.set_cons_succ]
        refine wpAnyH_done (by kernel_rfl) (NoPanic.normal ?_) _
        have hWn : ((((w3.setCell ⟨wr.heap.size, 0, none⟩ (.int .i64 p)).setCell ⟨wr.heap.size, 1, none⟩ (.int .i64 q)).setCell ⟨wr.heap.size, 2, none⟩ (.string v)).heap[wr.heap.size]? = some (.cells #[.int .i64 p, .int .i64 q, .string v] 96 (0, 0))) := heap_set_at (heap_set_at (heap_set_at HX3.out 0 (.int .i64 p)) 1 (.int .i64 q)) 2 (.string v)
        clear HY3 HX3 x0 x1 x2 y0 y1 y2 c0 c1 c2' H4 H4n H4s
        generalize World.setCell (World.setCell (World.setCell w3 ⟨wr.heap.size, 0, none⟩ (.int .i64 p)) ⟨wr.heap.size, 1, none⟩ (.int .i64 q)) ⟨wr.heap.size, 2, none⟩ (.string v) = W1 at hWb hWn ⊢
        generalize hBe : wr.heap.size = Bx at hWn ⊢
        have hBx : wr.heap.size ≤ Bx := Nat.le_of_eq hBe
        clear hBe
        try clear w3
        rotate_left 1
        all_goals
          obtain ⟨⟨-, E1, E2⟩, -, -, -⟩ := open3 hWn
          have C1 := KS.out W1 hWb
          have hown1 := rowK_below HOWN.out hWb
          have hBx2 : Bx < W1.heap.size := (Array.getElem?_eq_some_iff.1 hWn).1
          have hln := hlen.out
          have hsz1 := hWb.size
          have hb1 : b' < wr.heap.size := World.block_lt_of_cell? _ _ hc1
          have hb0 : b' < w.heap.size := HB0.out
          have hlt1 : ∀ g, u7.ownBlock = some g → w.heap.size ≤ g ∧ g < wr.heap.size := fun g hg => HOWN.out.lt g hg
          have HLT1 := Lib.hid hlt1
          have HWb := Lib.hid hWb
          have HOWN1 := Lib.hid hown1
          have KS2 : Hid (∀ x : World, Below W1.heap.size W1 x → x.cell? ⟨b', o + k * 4 + 1, none⟩ = some (.int .i64 s) ∧ x.cell? ⟨Bx, 1, none⟩ = some (.int .i64 q) ∧ x.cell? ⟨Bx, 2, none⟩ = some (.string v)) := Lib.hid (fun x hx => ⟨(hx.cell (p := ⟨b', o + k * 4 + 1, none⟩) (cell_lt C1)).trans C1, (hx.cell (p := ⟨Bx, 1, none⟩) (cell_lt E1)).trans E1, (hx.cell (p := ⟨Bx, 2, none⟩) (cell_lt E2)).trans E2⟩)
          have KS3 : Hid (∀ x y : World, Below W1.heap.size W1 x → x.grownBy y u7.ownBlock → y.cell? ⟨b', o + k * 4 + 1, none⟩ = some (.int .i64 s) ∧ y.cell? ⟨Bx, 1, none⟩ = some (.int .i64 q) ∧ y.cell? ⟨Bx, 2, none⟩ = some (.string v)) := Lib.hid (fun x y hx hg => by
            have kc : ∀ k i, k < W1.heap.size → (k < w.heap.size ∨ wr.heap.size ≤ k) → y.cell? ⟨k, i, none⟩ = W1.cell? ⟨k, i, none⟩ := fun k i h1 h2 => World.cell?_of_block (by rw [hg.block k (by have := hx.size; omega) (fun e => by have := HLT1.out k e.symm; omega), hx.block k h1])
            exact ⟨(kc _ _ (by omega) (.inl hb0)).trans C1, (kc _ _ hBx2 (.inr hBx)).trans E1, (kc _ _ hBx2 (.inr hBx)).trans E2⟩)
          obtain ⟨i0', hi0, hz0, hz1, hz2⟩ := info_parts Tryd.infoRep
          clear hlt1 hWb hown1 hWn
          go_wp2_with fail
          go_region_held3 (fun w' => w'.cell? ⟨b', o + k * 4 + 1, none⟩ = some (.int .i64 s) ∧ w'.cell? ⟨Bx, 1, none⟩ = some (.int .i64 q) ∧ w'.cell? ⟨Bx, 2, none⟩ = some (.string v))
            (first | exact hSA | (refine KS2.out _ ?_; first | with_reducible exact Below.refl _ _ | with_reducible exact below_drew (Below.refl _ _) | with_reducible exact blA _ _ | with_reducible exact below_drew (blA _ _)))
            (first
              | (refine step_append_lies _ (by rfl) _ _ _ (by rfl) w.heap.size 33 i0' _ 3 32 Tryd.underlying23 hi0 hz0 hz1 hz2 rfl (by omega) u7 (repTo m l eb k).length _ (by rfl) ((HOWN1.out.alloc _).drew) ⟨W1.heap.size, 0, none⟩ 1 1 [.int .i64 s, .int .i64 q, .string v] (by rfl) (by rfl) (World.news_of_block (cs := #[.int .i64 s, .int .i64 q, .string v]) (t := 33) (fr := (0, 0)) (heap_alloc_new W1 _)) (by simp [Value.oneCell']) (by omega) (by unfold maxLen; omega) (by omega) (by simp; omega) (W1.heap.size + 1) (by simp) ?_; intro gg cap wA hownA hgrow hat hlt; have hSA := KS3.out _ _ (below_drew (blA _ _)) hgrow))
          all_goals
            have hfin : wA.ownsRow w.heap.size 33 3 (.slice (some ⟨gg, 0, none⟩) ((repTo m l eb k).length + 1) cap) (repTo m l eb (k + 1)).length ((repTo m l eb (k + 1)).flatMap repC) := by
              rw [HSUC2.out, List.length_append, List.flatMap_append]
              exact hownA
            have hlf : (repTo m l eb (k + 1)).length ≤ k + 1 := by rw [HSUC2.out, List.length_append]; exact Nat.add_le_add_right hln 1
            have HLF := Lib.hid hlf
            have HFIN := Lib.hid hfin
            have HBF := Lib.hid ((below_drew ((Below.next HB.out HWb.out).alloc (Nat.le_trans hsz hsz1) (.cells #[.int .i64 s, .int .i64 q, .string v] 33))).grown hgrow (Nat.le_trans (Nat.le_trans hsz hsz1) (Nat.le_trans (Nat.le_succ _) (Nat.le_of_eq (World.size_alloc _ _).symm))) (fun k hk => (HLT1.out k hk).1))
            clear hfin hlf hgrow hownA hat hlt hSA
            go_wp2_with fail
            go_roundw
            case rel => exact ⟨k + 1, by omega, by go_num, HFIN.out, HLF, HBF.out⟩
            case measure => simp [intOf]; omega
      · have HSUC2 : Hid (repTo m l b (k + 1) = repTo m l b k) := Lib.hid (by rw [HSUC.out, if_neg hkd, List.append_nil])
        by_cases hk1 : kd = 1
        · subst hk1
          have hk2 : (eb == b) = false := by simpa using hkd
          clear hkd
          go_wp2_with fail
          go_roundw
          case rel => exact ⟨k + 1, by omega, by go_num, by rw [HSUC2.out]; exact HOWN.out, Lib.hid (by rw [HSUC2.out]; have := hlen.out; omega), HB.out⟩
          case measure => simp [intOf]; omega
        · have hk2 : (kd == 1) = false := by simpa using hk1
          clear hkd
          go_wp2_with fail
          go_roundw
          case rel => exact ⟨k + 1, by omega, by go_num, by rw [HSUC2.out]; exact HOWN.out, Lib.hid (by rw [HSUC2.out]; have := hlen.out; omega), HB.out⟩
          case measure => simp [intOf]; omega
    · obtain rfl : k = n2 := by omega
      have HE : Hid (repTo m l b k = repS m l b) := Lib.hid (by unfold repS; rw [HN.out])
      go_wp2_with fail
      go_ret
      exact ⟨_, rfl, by rw [← HE.out]; exact HOWN.out, HB.out⟩
end Go.Proofs.YtgfjmplifmbmlaaDoor
namespace Go.Proofs.YtgfjmplifmbmlaaDoor
open Go.RowKit Go.Maps

theorem valF_hit {l : List Ev} {b : Int} {k : Nat} {e : Ev} (he : l[k]? = some e) (h : ∀ (j : Nat) (z : Ev), j < k → l[j]? = some z → isAcc b z = false) (h1 : isAcc b e = true) : valF l b = some e.value := by
  have hk : k < l.length := (List.getElem?_eq_some_iff.1 he).1
  have e1 : l = l.take k ++ e :: l.drop (k + 1) := by
    rw [← (List.getElem?_eq_some_iff.1 he).2, ← List.drop_eq_getElem_cons hk, List.take_append_drop]
  unfold valF
  rw [e1, List.find?_append, List.find?_eq_none.2 (fun z hz => ?_), List.find?_cons, h1]
  · rfl
  · obtain ⟨j, hj⟩ := List.getElem?_of_mem hz
    rw [List.getElem?_take] at hj
    split at hj
    · rename_i hjk; rw [h j z hjk hj]; decide
    · cases hj
theorem valF_non {l : List Ev} {b : Int} (h : ∀ (j : Nat) (z : Ev), j < l.length → l[j]? = some z → isAcc b z = false) : valF l b = none := by
  unfold valF
  rw [List.find?_eq_none.2 (fun z hz => ?_)]
  · rfl
  · obtain ⟨j, hj⟩ := List.getElem?_of_mem hz
    rw [h j z (List.getElem?_eq_some_iff.1 hj).1 hj]; decide

set_option maxRecDepth 100000 in
set_option maxHeartbeats 4000000 in
theorem demanded_c (read : List (BitVec 16)) (a : Option Addr) (n c : Nat) (m : Nat) (l : List Ev) (a2 : Option Addr) (n2 c2 : Nat) (b : Int) (w : World) (h : Rd w a n c (read.map setV2)) (h2 : RdK 4 w a2 n2 c2 (l.flatMap evC)) (hsv : ∀ e ∈ l, 0 ≤ e.server ∧ e.server < m) (hl : l.length ≤ 1000) (hm : m ≤ 12) :
    Calls Tryd.prog 61 #[.slice a n c, .int .i64 m, .slice a2 n2 c2, .int .i64 b] w fun e w' => e = .returned (.tuple #[.string (demS read m l b).1, .int .i64 (demS read m l b).2]) ∧ Below w.heap.size w w' := by
  have hnl : l.length = n2 := by have := h2.len; rw [flat_len 4 evC evC_len] at this; omega
  have HR := Lib.hid h
  have HR2 := Lib.hid h2
  have HN := Lib.hid hnl
  have HSV := Lib.hid hsv
  have hle := h2.le
  have hmx := h2.max
  unfold maxLen at hmx
  have HL0 := Lib.hid hl
  rw [hnl] at hl
  clear h h2 hnl hsv
  go_enter Tryd.func61, Tryd.ntmps61
  go_wp2_with fail
  go_loopw [10] (fun i wr => ∃ k : Nat, k ≤ n2 ∧ i = .int .i64 k ∧ Hid (∀ (j : Nat) (z : Ev), j < k → l[j]? = some z → isAcc b z = false) ∧ wr = w) (fun i _ => n2 - (intOf i).toNat)
  case atStart => exact ⟨0, Nat.zero_le _, rfl, Lib.hid (fun j z hj => absurd hj (by omega)), rfl⟩
  case round =>
    obtain ⟨k, hk, rfl, hinv, rfl⟩ := hrel
    by_cases hlt : k < n2
    · obtain ⟨e, he⟩ : ∃ e, l[k]? = some e := ⟨l[k]'(by have := HN.out; omega), List.getElem?_eq_getElem _⟩
      obtain ⟨b', o, ha, hcell⟩ := RdK.cells HR2.out evC_len (by omega)
      have hc0 := hcell k e he 0 (by omega)
      have hc2 := hcell k e he 2 (by omega)
      have hc3 := hcell k e he 3 (by omega)
      simp only [evC, List.getElem?_cons_zero, List.getElem?_cons_succ, Nat.add_zero] at hc0 hc2 hc3
      have HE := Lib.hid he
      obtain ⟨kd, sv, eb, x⟩ := e
      simp only at hc0 hc2 hc3
      subst ha
      clear hcell he
      have hnext : isAcc b ⟨kd, sv, eb, x⟩ = false → Hid (∀ (j : Nat) (z : Ev), j < k + 1 → l[j]? = some z → isAcc b z = false) := fun h0 => Lib.hid (fun j z hj hz => by
        by_cases hjk : j < k
        · exact hinv.out j z hjk hz
        · obtain rfl : j = k := by omega
          rw [HE.out] at hz; cases hz; exact h0)
      by_cases hkd : kd = 2
      · subst hkd
        by_cases heb : eb = b
        · subst heb
          have HV : Hid (demS read m l eb = (x, 0)) := Lib.hid (by unfold demS; rw [valF_hit HE.out hinv.out (by simp [isAcc])])
          clear hnext
          go_wp2_with fail
          go_ret2
          rw [HV.out]
          exact ⟨rfl, Below.refl _ _⟩
        · have hk2 : (eb == b) = false := by simpa using heb
          have HNX := hnext (by simp [isAcc, heb])
          clear hnext heb
          go_wp2_with fail
          go_roundw
          case rel => exact ⟨k + 1, by omega, by go_num, HNX, trivial⟩
          case measure => simp [intOf]; omega
      · have hk2 : (kd == 2) = false := by simpa using hkd
        have HNX := hnext (by simp [isAcc, hkd])
        clear hnext hkd
        go_wp2_with fail
        go_roundw
        case rel => exact ⟨k + 1, by omega, by go_num, HNX, trivial⟩
        case measure => simp [intOf]; omega
    · obtain rfl : k = n2 := by omega
      have HV : Hid (demS read m l b = pickS read b (repS m l b)) := Lib.hid (by unfold demS; rw [valF_non (by rw [HN.out]; exact hinv.out)])
      go_wp2_with (first
        | (go_at_call 78; (refine (reports_c m l a2 k c2 b _ HR2.out HSV.out HL0.out hm).mono ?_); (rintro e w3 ⟨v, rfl, hown, hb3⟩; obtain ⟨ar, cr, rfl, hrd⟩ := rdK_of_row hown))
        | (go_at_call 14; (refine (rPick_c read b (repS m l b) a n c ar _ cr _ (HR.out.below hb3) hrd).mono ?_); (rintro e w4 ⟨rfl, hb4⟩)))
      go_ret2
      rw [HV.out]
      exact ⟨rfl, Below.next hb3 hb4⟩
end Go.Proofs.YtgfjmplifmbmlaaDoor
namespace Go.Proofs.YtgfjmplifmbmlaaDoor
open Go.RowKit Go.Maps

set_option maxRecDepth 100000 in
set_option maxHeartbeats 4000000 in
theorem follows_c (read : List (BitVec 16)) (a : Option Addr) (n c : Nat) (m : Nat) (l : List Ev) (a2 : Option Addr) (n2 c2 : Nat) (x : Ev) (w : World) (h : Rd w a n c (read.map setV2)) (h2 : RdK 4 w a2 n2 c2 (l.flatMap evC)) (hsv : ∀ e ∈ l, 0 ≤ e.server ∧ e.server < m) (hl : l.length ≤ 1000) (hm : m ≤ 12) :
    Calls Tryd.prog 51 #[.slice a n c, .int .i64 m, .slice a2 n2 c2, .agg (evC x).toArray] w fun e w' => e = .returned (.bool (folS read m l x)) ∧ Below w.heap.size w w' := by
  obtain ⟨kd, sv, eb, x⟩ := x
  show Calls Tryd.prog 51 #[.slice a n c, .int .i64 m, .slice a2 n2 c2, .agg #[.int .i64 kd, .int .i64 sv, .int .i64 eb, .string x]] w _
  have HR := Lib.hid h
  have HR2 := Lib.hid h2
  have HSV := Lib.hid hsv
  have HL0 := Lib.hid hl
  clear h h2 hsv hl
  by_cases hbad : sv < 0 ∨ (m : Int) ≤ sv ∨ eb < 1
  · have HF : Hid (folS read m l ⟨kd, sv, eb, x⟩ = false) := Lib.hid (by unfold folS; rw [if_pos hbad])
    go_enter Tryd.func51, Tryd.ntmps51
    by_cases h1 : sv < 0
    · go_wp2_with fail
      go_ret
      rw [HF.out]
      exact ⟨rfl, blA _ _⟩
    · by_cases h2 : (m : Int) ≤ sv
      · go_wp2_with fail
        go_ret
        rw [HF.out]
        exact ⟨rfl, blA _ _⟩
      · have h3 : eb < 1 := by omega
        go_wp2_with fail
        go_ret
        rw [HF.out]
        exact ⟨rfl, blA _ _⟩
  · have h1 : 0 ≤ sv := by omega
    have h2 : sv < m := by omega
    have h3 : 1 ≤ eb := by omega
    obtain ⟨s, rfl⟩ := Int.eq_ofNat_of_zero_le h1
    have hsm2 : s < m := by omega
    obtain ⟨p, q, v, hat⟩ : ∃ p q v, atS (repA m l) (s : Int) = ⟨p, q, v⟩ := ⟨_, _, _, rfl⟩
    have HAT := Lib.hid hat
    have HLEN : Hid (s < (repA m l).length) := Lib.hid (by rw [repA_len]; exact hsm2)
    have HF : Hid (folS read m l ⟨kd, s, eb, x⟩ = if kd = 1 then decide (p < eb) && emB x else if kd = 2 then ((decide (1 ≤ eb) && decide (p ≤ eb)) && !emB x) && okD (demS read m l eb) x else false) := Lib.hid (by unfold folS; rw [if_neg hbad]; simp only [hat]; rfl)
    clear hat hbad
    have g1 : ¬ ((s : Int) < 0) := by omega
    have g2 : ¬ ((m : Int) ≤ (s : Int)) := by omega
    have g3 : ¬ (eb < 1) := by omega
    go_enter Tryd.func51, Tryd.ntmps51
    go_wp2_with fail
    generalize hW : w.alloc (.cells #[.int .i64 kd, .int .i64 s, .int .i64 eb, .string x] 48) = W0
    have hbW : Below w.heap.size w W0 := by rw [← hW]; exact blA _ _
    have hbox : W0.heap[w.heap.size]? = some (.cells #[.int .i64 kd, .int .i64 s, .int .i64 eb, .string x] 48 (0, 0)) := by rw [← hW]; exact heap_alloc_new w _
    have hWs : W0.heap.size = w.heap.size + 1 := by rw [← hW]; simp
    clear hW
    obtain ⟨e0, e1, e2, e3⟩ := open4 hbox
    have HBW := Lib.hid hbW
    have HWS := Lib.hid hWs
    have HBOX := Lib.hid hbox
    have HP : Hid (∀ y : World, Below W0.heap.size W0 y → Calls Tryd.prog 70 #[.int .i64 m, .slice a2 n2 c2] y fun e w3 => e = .returned (.slice (some ⟨y.heap.size, 0, none⟩) m m) ∧ Hid (w3.heap[y.heap.size]? = some (.cells ((repA m l).flatMap accC).toArray 96 (0, 0))) ∧ Hid (Below y.heap.size y w3)) :=
      Lib.hid (fun y hy => (replay_c m l a2 n2 c2 y ((HR2.out.below HBW.out).below hy) HSV.out HL0.out hm).mono fun e w3 ⟨h1, h2, h3⟩ => ⟨h1, Lib.hid h2, Lib.hid h3⟩)
    have KS : Hid (∀ y : World, Below W0.heap.size W0 y → y.cell? ⟨w.heap.size, 1, none⟩ = some (.int .i64 s)) := Lib.hid (fun y hy => (hy.cell (p := ⟨w.heap.size, 1, none⟩) (cell_lt e1)).trans e1)
    clear hbW hWs hbox e0 e1 e2 e3
    refine wp_region_noPanic ?_
    refine wp_region_takes (fun y => Below W0.heap.size W0 y) [0, 1, 3, 4] 5 (by kernel_rfl) (by kernel_rfl) (by kernel_rfl) (fun _ _ _ _ _ h => h) (below_drew (Below.refl _ _)) ?_
    repeat (refine wpTk_cons rfl (fun K hK => ?_); go_simp; apply Exists.intro; refine ⟨fun y hy => ?_, hK _ ?_⟩; (first | exact rfl | (have q1 := KS.out y hy; go_simp; done) | (have q1 := KS.out y hy; go_simp; exact rfl)); clear hK K)
    refine wpTk_nil ?_
    refine held_ready (rs := [2, 7]) (by kernel_rfl) (by simp) ?_
    refine AllReadyH.cons rfl (fun K hK => ?_) (AllReadyH.cons rfl (fun K hK => ?_) AllReadyH.nil)
    go_simp
    refine (HP.out _ (below_drew (Below.refl _ _))).mono ?_
    rintro e w3 ⟨rfl, hA, hB3⟩
    have hY3 : Below W0.heap.size W0 w3 := Below.next (below_drew (Below.refl _ _)) hB3.out
    have hA3 : w3.heap[W0.heap.size]? = some (.cells ((repA m l).flatMap accC).toArray 96 (0, 0)) := hA.out
    obtain ⟨⟨c0, c1, c2'⟩, -⟩ := acc_cells hA3 HLEN.out
    rw [HAT.out] at c0 c1 c2'
    have l2 : W0.heap.size < w3.heap.size := (Array.getElem?_eq_some_iff.1 hA3).1
    have a0 : ∀ ob, (w3.alloc ob).cell? ⟨W0.heap.size, s * 3, none⟩ = some (.int .i64 p) := fun ob => (World.cell?_alloc_lt _ _ _ l2).trans c0
    have a1 : ∀ ob, (w3.alloc ob).cell? ⟨W0.heap.size, s * 3 + 1, none⟩ = some (.int .i64 q) := fun ob => (World.cell?_alloc_lt _ _ _ l2).trans c1
    have a2' : ∀ ob, (w3.alloc ob).cell? ⟨W0.heap.size, s * 3 + 2, none⟩ = some (.string v) := fun ob => (World.cell?_alloc_lt _ _ _ l2).trans c2'
    have HY3 := Lib.hid hY3
    have HA3 := Lib.hid hA3
    clear hA hB3 hY3 hA3
    go_simp
    refine hK.out _ _ HY3.out (fun hh => ?_)
    clear hh hK K; try simp only [Act.put, List.setIfInBounds_toArray, List.set_cons_zero, List.set_cons_succ]
    refine held_takes (f := 3) (by kernel_rfl) (fun _ _ _ _ _ h => h) HY3.out [5] _ _ (by kernel_rfl) ?_
    refine wpTk_cons rfl (fun K hK => ?_)
    go_simp
    apply Exists.intro
    refine ⟨fun y hy => rfl, hK _ ?_⟩
    clear hK K
    refine wpTk_nil ?_
    refine held_ready (rs := [6, 7]) (by kernel_rfl) (by simp) ?_
    refine AllReadyH.cons rfl (fun K hK => ?_) (AllReadyH.cons rfl (fun K hK => ?_) AllReadyH.nil)
    go_simp
    refine hK.out _ _ HY3.out (fun hh => ?_)
    clear hh hK K; try simp only [Act.put, List.setIfInBounds_toArray, List.set_cons_zero, List.set_cons_succ]
    refine held_ready (rs := [7]) (by kernel_rfl) (by simp) ?_
    refine AllReadyH.cons rfl (fun K hK => ?_) AllReadyH.nil
    go_simp
    refine hK.out _ _ (HY3.out.alloc HY3.out.size _) (fun hh => ?_)
    clear hh hK K; try simp only [Act.put, List.setIfInBounds_toArray, List.set_cons_zero, List.set_cons_succ]
    refine held_ready (rs := [8]) (by kernel_rfl) (by simp) ?_
    refine AllReadyH.cons rfl (fun K hK => ?_) AllReadyH.nil
    go_simp
    refine hK.out _ _ (HY3.out.alloc HY3.out.size _) (fun hh => ?_)
    clear hh hK K; try simp only [Act.put, List.setIfInBounds_toArray, List.set_cons_zero, List.set_cons_succ]
    refine wpAnyH_done (by kernel_rfl) (NoPanic.normal ?_) _
    have hWb := HY3.out.alloc HY3.out.size (.cells #[.int .i64 p, .int .i64 q, .string v] 96)
    have hWn := heap_alloc_new w3 (.cells #[.int .i64 p, .int .i64 q, .string v] 96)
    have hBx : W0.heap.size ≤ w3.heap.size := HY3.out.size
    clear HY3 HA3 a0 a1 a2' c0 c1 c2' l2
    generalize World.alloc w3 (.cells #[.int .i64 p, .int .i64 q, .string v] 96) = W1 at hWb hWn ⊢
    generalize w3.heap.size = Bx at hWn hBx ⊢
    try clear w3
    rotate_left 1
    go_simp
    refine hK.out _ _ (HY3.out.alloc HY3.out.size _) (fun hh => ?_)
    clear hh hK K; try simp only [Act.put, List.setIfInBounds_toArray, List.set_cons_zero, List.set_cons_succ]
    refine held_ready (rs := [6]) (by kernel_rfl) (by simp) ?_
    refine AllReadyH.cons rfl (fun K hK => ?_) AllReadyH.nil
    go_simp
    refine hK.out _ _ (HY3.out.alloc HY3.out.size _) (fun hh => ?_)
    clear hh hK K; try simp only [Act.put, List.setIfInBounds_toArray, List.set_cons_zero, List.set_cons_succ]
    refine held_ready (rs := [8]) (by kernel_rfl) (by simp) ?_
    refine AllReadyH.cons rfl (fun K hK => ?_) AllReadyH.nil
    go_simp
    refine hK.out _ _ (HY3.out.alloc HY3.out.size _) (fun hh => ?_)
    clear hh hK K; try simp only [Act.put, List.setIfInBounds_toArray, List.set_cons_zero, List.set_cons_succ]
    refine wpAnyH_done (by kernel_rfl) (NoPanic.normal ?_) _
    have hWb := HY3.out.alloc HY3.out.size (.cells #[.int .i64 p, .int .i64 q, .string v] 96)
    have hWn := heap_alloc_new w3 (.cells #[.int .i64 p, .int .i64 q, .string v] 96)
    have hBx : W0.heap.size ≤ w3.heap.size := HY3.out.size
    clear HY3 HA3 a0 a1 a2' c0 c1 c2' l2
    generalize World.alloc w3 (.cells #[.int .i64 p, .int .i64 q, .string v] 96) = W1 at hWb hWn ⊢
    generalize w3.heap.size = Bx at hWn hBx ⊢
    try clear w3
    rotate_left 1
    go_simp
    have h4 : Below W0.heap.size W0 (W0.alloc (.cells #[.int .i64 0, .int .i64 0, .string ⟨#[]⟩] 96)).drew := below_drew (blA _ _)
    have h4n : (W0.alloc (.cells #[.int .i64 0, .int .i64 0, .string ⟨#[]⟩] 96)).drew.heap[W0.heap.size]? = some (.cells #[.int .i64 0, .int .i64 0, .string ⟨#[]⟩] 96 (0, 0)) := heap_alloc_new _ _
    have h4s : (W0.alloc (.cells #[.int .i64 0, .int .i64 0, .string ⟨#[]⟩] 96)).drew.heap.size = W0.heap.size + 1 := World.size_alloc _ _
    have H4 := Lib.hid h4
    have H4n := Lib.hid h4n
    have H4s := Lib.hid h4s
    clear h4 h4n h4s
    refine hK.out _ _ H4.out (fun hh => ?_)
    clear hh hK K; try simp only [Act.put, List.setIfInBounds_toArray, List.set_cons_zero, List.set_cons_succ]
    refine held_ready (rs := [2]) (by kernel_rfl) (by simp) ?_
    refine AllReadyH.cons rfl (fun K hK => ?_) AllReadyH.nil
    go_simp
    refine (HP.out _ H4.out).mono ?_
    rintro e w3 ⟨rfl, hA, hB3⟩
    have hY3 : Below W0.heap.size W0 w3 := Below.next H4.out hB3.out
    have hA3 : w3.heap[W0.heap.size + 1]? = some (.cells ((repA m l).flatMap accC).toArray 96 (0, 0)) := by have := hA.out; rw [H4s.out] at this; exact this
    have hX3 : w3.heap[W0.heap.size]? = some (.cells #[.int .i64 0, .int .i64 0, .string ⟨#[]⟩] 96 (0, 0)) := heap_below hB3.out H4n.out
    obtain ⟨⟨c0, c1, c2'⟩, -⟩ := acc_cells hA3 HLEN.out
    rw [HAT.out] at c0 c1 c2'
    obtain ⟨⟨x0, x1, x2⟩, y0, y1, y2⟩ := open3 hX3
    have HY3 := Lib.hid hY3
    have HX3 := Lib.hid hX3
    clear hA hB3 hY3 hA3 hX3
    go_simp
    refine hK.out _ _ HY3.out (fun hh => ?_)
    clear hh hK K; try simp only [Act.put, List.setIfInBounds_toArray, List.set_cons_zero, List.set_cons_succ]
    refine held_takes (f := 2) (by kernel_rfl) (fun _ _ _ _ _ h => h) HY3.out [5] _ _ (by kernel_rfl) ?_
    refine wpTk_cons rfl (fun K hK => ?_)
    go_simp
    apply Exists.intro
    refine ⟨fun y hy => rfl, hK _ ?_⟩
    clear hK K
    refine wpTk_nil ?_
    refine held_ready (rs := [6]) (by kernel_rfl) (by simp) ?_
    refine AllReadyH.cons rfl (fun K hK => ?_) AllReadyH.nil
    go_simp
    refine hK.out _ _ HY3.out (fun hh => ?_)
    clear hh hK K; try simp only [Act.put, List.setIfInBounds_toArray, List.set_cons_zero, List.set_cons_succ]
    refine held_ready (rs := [8]) (by kernel_rfl) (by simp) ?_
    refine AllReadyH.cons rfl (fun K hK => ?_) AllReadyH.nil
    go_simp
    have hWb := ((HY3.out.setCell (p := ⟨W0.heap.size, 0, none⟩) (Nat.le_refl _) (.int .i64 p)).setCell (p := ⟨W0.heap.size, 1, none⟩) (Nat.le_refl _) (.int .i64 q)).setCell (p := ⟨W0.heap.size, 2, none⟩) (Nat.le_refl _) (.string v)
    refine hK.out _ _ hWb (fun hh => ?_)
    clear hh hK K; try simp only [Act.put, List.setIfInBounds_toArray, List.set_cons_zero, List.set_cons_succ]
    refine wpAnyH_done (by kernel_rfl) (NoPanic.normal ?_) _
    have hWn : ((((w3.setCell ⟨W0.heap.size, 0, none⟩ (.int .i64 p)).setCell ⟨W0.heap.size, 1, none⟩ (.int .i64 q)).setCell ⟨W0.heap.size, 2, none⟩ (.string v)).heap[W0.heap.size]? = some (.cells #[.int .i64 p, .int .i64 q, .string v] 96 (0, 0))) := heap_set_at (heap_set_at (heap_set_at HX3.out 0 (.int .i64 p)) 1 (.int .i64 q)) 2 (.string v)
    clear HY3 HX3 x0 x1 x2 y0 y1 y2 c0 c1 c2' H4 H4n H4s
    generalize World.setCell (World.setCell (World.setCell w3 ⟨W0.heap.size, 0, none⟩ (.int .i64 p)) ⟨W0.heap.size, 1, none⟩ (.int .i64 q)) ⟨W0.heap.size, 2, none⟩ (.string v) = W1 at hWb hWn ⊢
    generalize hBe : W0.heap.size = Bx at hWn ⊢
    have hBx : W0.heap.size ≤ Bx := Nat.le_of_eq hBe
    clear hBe
    try clear w3
    rotate_left 1
    all_goals
      have hbx := heap_below hWb HBOX.out
      obtain ⟨E0, E1, E2, E3⟩ := open4 hbx
      obtain ⟨⟨X0, X1, X2⟩, -, -, -⟩ := open3 hWn
      have KS2 : Hid (∀ y : World, Below W1.heap.size W1 y → y.cell? ⟨w.heap.size, 2, none⟩ = some (.int .i64 eb) ∧ y.cell? ⟨w.heap.size, 3, none⟩ = some (.string x)) := Lib.hid (fun y hy => ⟨(hy.cell (p := ⟨w.heap.size, 2, none⟩) (cell_lt E2)).trans E2, (hy.cell (p := ⟨w.heap.size, 3, none⟩) (cell_lt E3)).trans E3⟩)
      have HBF : Hid (Below w.heap.size w W1) := Lib.hid (Below.next HBW.out hWb)
      have HD : Hid (∀ y : World, Below W1.heap.size W1 y → Calls Tryd.prog 61 #[.slice a n c, .int .i64 m, .slice a2 n2 c2, .int .i64 eb] y fun e w4 => e = .returned (.tuple #[.string (demS read m l eb).1, .int .i64 (demS read m l eb).2]) ∧ Below y.heap.size y w4) :=
        Lib.hid (fun y hy => demanded_c read a n c m l a2 n2 c2 eb y ((HR.out.below HBF.out).below hy) ((HR2.out.below HBF.out).below hy) HSV.out HL0.out hm)
      clear hWb hbx hWn HP KS
      by_cases hk1 : kd = 1
      · subst hk1
        have HF1 : Hid (folS read m l ⟨1, s, eb, x⟩ = (decide (p < eb) && emB x)) := Lib.hid (HF.out.trans (if_pos rfl))
        by_cases hp : p < eb
        · cases hx : (x.toList == [])
          · go_wp2_with (go_at_call 71; (refine (rpromise_c p q v eb _).mono ?_); (rintro e w3 ⟨rfl, hb3⟩; rw [decide_eq_true hp]; obtain ⟨E2', E3'⟩ := KS2.out _ hb3; have E2a := fun ob => (KS2.out _ (hb3.alloc hb3.size ob)).1; have E3a := fun ob => (KS2.out _ (hb3.alloc hb3.size ob)).2))
            go_ret
            rw [HF1.out, show emB x = false from hx, Bool.and_false]
            exact ⟨rfl, Below.next HBF.out (hb3.alloc hb3.size _)⟩
          · go_wp2_with (go_at_call 71; (refine (rpromise_c p q v eb _).mono ?_); (rintro e w3 ⟨rfl, hb3⟩; rw [decide_eq_true hp]; obtain ⟨E2', E3'⟩ := KS2.out _ hb3; have E2a := fun ob => (KS2.out _ (hb3.alloc hb3.size ob)).1; have E3a := fun ob => (KS2.out _ (hb3.alloc hb3.size ob)).2))
            go_ret
            rw [HF1.out, show emB x = true from hx, decide_eq_true hp]
            exact ⟨rfl, Below.next HBF.out (hb3.alloc hb3.size _)⟩
        · go_wp2_with (go_at_call 71; (refine (rpromise_c p q v eb _).mono ?_); (rintro e w3 ⟨rfl, hb3⟩; rw [decide_eq_false (by omega)]; obtain ⟨E2', E3'⟩ := KS2.out _ hb3; have E2a := fun ob => (KS2.out _ (hb3.alloc hb3.size ob)).1; have E3a := fun ob => (KS2.out _ (hb3.alloc hb3.size ob)).2))
          go_ret
          rw [HF1.out, decide_eq_false (by omega)]
          exact ⟨rfl, Below.next HBF.out (hb3.alloc hb3.size _)⟩
      · have hk1b : (kd == 1) = false := by simpa using hk1
        by_cases hk2 : kd = 2
        · subst hk2
          have HF1 : Hid (folS read m l ⟨2, s, eb, x⟩ = (((decide (1 ≤ eb) && decide (p ≤ eb)) && !emB x) && okD (demS read m l eb) x)) := Lib.hid (HF.out.trans ((if_neg (by decide)).trans (if_pos rfl)))
          by_cases hp : 1 ≤ eb ∧ p ≤ eb
          · by_cases hx : (x.toList == []) = true
            · go_wp2_with (go_at_call 72; (refine (raccept_c p q v eb x _).mono ?_); (rintro e w3 ⟨rfl, hb3⟩; rw [decide_eq_true hp, if_pos hp]; obtain ⟨E2', E3'⟩ := KS2.out _ hb3; have E2a := fun ob => (KS2.out _ (hb3.alloc hb3.size ob)).1; have E3a := fun ob => (KS2.out _ (hb3.alloc hb3.size ob)).2))
              go_ret
              rw [HF1.out, show emB x = true from hx, Bool.not_true, Bool.and_false, Bool.false_and]
              exact ⟨rfl, Below.next HBF.out (hb3.alloc hb3.size _)⟩
            · have hx' : (x.toList == []) = false := by simpa using hx
              obtain ⟨⟨dv, de⟩, hde⟩ : ∃ d, demS read m l eb = d := ⟨_, rfl⟩
              have HD2 : Hid (∀ y : World, Below W1.heap.size W1 y → Calls Tryd.prog 61 #[.slice a n c, .int .i64 m, .slice a2 n2 c2, .int .i64 eb] y fun e w4 => e = .returned (.tuple #[.string dv, .int .i64 de]) ∧ Below y.heap.size y w4) := Lib.hid (fun y hy => by have := HD.out y hy; rw [hde] at this; exact this)
              have HF2 : Hid (folS read m l ⟨2, s, eb, x⟩ = okD (dv, de) x) := Lib.hid (by rw [HF1.out, hde, show emB x = false from hx', decide_eq_true hp.1, decide_eq_true hp.2]; rfl)
              clear hde HD HF1
              by_cases d4 : de = 4
              · subst d4
                have HF3 : Hid (folS read m l ⟨2, s, eb, x⟩ = true) := Lib.hid (HF2.out.trans rfl)
                go_wp2_with (first
                  | (go_at_call 72; (refine (raccept_c p q v eb x _).mono ?_); (rintro e w3 ⟨rfl, hb3⟩; rw [decide_eq_true hp, if_pos hp]; obtain ⟨E2', E3'⟩ := KS2.out _ hb3; have E2a := fun ob => (KS2.out _ (hb3.alloc hb3.size ob)).1; have E3a := fun ob => (KS2.out _ (hb3.alloc hb3.size ob)).2))
                  | (go_at_call 61; (refine (HD2.out _ (hb3.alloc hb3.size _)).mono ?_); (rintro e w4 ⟨rfl, hb4⟩; obtain ⟨E2'', E3''⟩ := KS2.out _ (Below.next (hb3.alloc hb3.size _) hb4))))
                go_ret
                rw [HF3.out]
                exact ⟨rfl, Below.next HBF.out (Below.next (hb3.alloc hb3.size _) hb4)⟩
              · by_cases d0 : de = 0
                · subst d0
                  have HF3 : Hid (folS read m l ⟨2, s, eb, x⟩ = (dv.toList == x.toList)) := Lib.hid (HF2.out.trans (by simp [okD]))
                  go_wp2_with (first
                    | (go_at_call 72; (refine (raccept_c p q v eb x _).mono ?_); (rintro e w3 ⟨rfl, hb3⟩; rw [decide_eq_true hp, if_pos hp]; obtain ⟨E2', E3'⟩ := KS2.out _ hb3; have E2a := fun ob => (KS2.out _ (hb3.alloc hb3.size ob)).1; have E3a := fun ob => (KS2.out _ (hb3.alloc hb3.size ob)).2))
                    | (go_at_call 61; (refine (HD2.out _ (hb3.alloc hb3.size _)).mono ?_); (rintro e w4 ⟨rfl, hb4⟩; obtain ⟨E2'', E3''⟩ := KS2.out _ (Below.next (hb3.alloc hb3.size _) hb4))))
                  go_ret
                  rw [HF3.out]
                  exact ⟨rfl, Below.next HBF.out (Below.next (hb3.alloc hb3.size _) hb4)⟩
                · have HF3 : Hid (folS read m l ⟨2, s, eb, x⟩ = (de == 4)) := Lib.hid (HF2.out.trans (by simp [okD, d4, d0]))
                  go_wp2_with (first
                    | (go_at_call 72; (refine (raccept_c p q v eb x _).mono ?_); (rintro e w3 ⟨rfl, hb3⟩; rw [decide_eq_true hp, if_pos hp]; obtain ⟨E2', E3'⟩ := KS2.out _ hb3; have E2a := fun ob => (KS2.out _ (hb3.alloc hb3.size ob)).1; have E3a := fun ob => (KS2.out _ (hb3.alloc hb3.size ob)).2))
                    | (go_at_call 61; (refine (HD2.out _ (hb3.alloc hb3.size _)).mono ?_); (rintro e w4 ⟨rfl, hb4⟩; obtain ⟨E2'', E3''⟩ := KS2.out _ (Below.next (hb3.alloc hb3.size _) hb4))))
                  go_ret
                  rw [HF3.out]
                  exact ⟨rfl, Below.next HBF.out (Below.next (hb3.alloc hb3.size _) hb4)⟩
          · have hp2 : (if 1 ≤ eb ∧ p ≤ eb then Value.agg #[.int .i64 eb, .int .i64 eb, .string x] else .agg #[.int .i64 p, .int .i64 q, .string v]) = .agg #[.int .i64 p, .int .i64 q, .string v] := if_neg hp
            have hpb : (decide (1 ≤ eb) && decide (p ≤ eb)) = false := by simpa using hp
            have hpd : decide (1 ≤ eb ∧ p ≤ eb) = false := decide_eq_false hp
            clear hp
            go_wp2_with (go_at_call 72; (refine (raccept_c p q v eb x _).mono ?_); (rintro e w3 ⟨rfl, hb3⟩; rw [hpd, hp2]; obtain ⟨E2', E3'⟩ := KS2.out _ hb3; have E2a := fun ob => (KS2.out _ (hb3.alloc hb3.size ob)).1; have E3a := fun ob => (KS2.out _ (hb3.alloc hb3.size ob)).2))
            go_ret
            rw [HF1.out, hpb, Bool.false_and, Bool.false_and]
            exact ⟨rfl, Below.next HBF.out (hb3.alloc hb3.size _)⟩
        · have hk2b : (kd == 2) = false := by simpa using hk2
          have HF1 : Hid (folS read m l ⟨kd, s, eb, x⟩ = false) := Lib.hid (HF.out.trans ((if_neg hk1).trans (if_neg hk2)))
          go_wp2_with fail
          go_ret
          rw [HF1.out]
          exact ⟨rfl, HBF.out⟩
end Go.Proofs.YtgfjmplifmbmlaaDoor
namespace Go.Proofs.YtgfjmplifmbmlaaDoor
open Go.RowKit Go.Maps

set_option maxRecDepth 100000 in
set_option maxHeartbeats 4000000 in
theorem rcheck_c (read : List (BitVec 16)) (a : Option Addr) (n c : Nat) (m : Nat) (l : List Ev) (a2 : Option Addr) (n2 c2 : Nat) (w : World) (h : Rd w a n c (read.map setV2)) (h2 : RdK 4 w a2 n2 c2 (l.flatMap evC)) (hl : l.length ≤ 900) (hm : m ≤ 12) (hchk : chkS m [read] = 0) :
    Calls Tryd.prog 28 #[.slice a n c, .int .i64 m, .slice a2 n2 c2] w fun e w' => e = .returned (.tuple #[.int .i64 (chkR read m l).1, .int .i64 (chkR read m l).2]) ∧ Below w.heap.size w w' := by
  go_enter Tryd.func28, Tryd.ntmps28
  have hnl : l.length = n2 := by have := h2.len; rw [flat_len 4 evC evC_len] at this; omega
  have HG := Lib.hid (given_c read [] m a n c none 0 0 w h (Rd.none_ _))
  rw [chk_nil, hchk] at HG
  have HR := Lib.hid h
  have HR2 := Lib.hid h2
  have HN := Lib.hid hnl
  have hle := h2.le
  have hmx := h2.max
  unfold maxLen at hmx
  have HL := Lib.hid hl
  rw [hnl] at hl
  clear h h2 hnl
  go_wp2_with fail
  refine HG.out.mono ?_
  rintro e w1 ⟨rfl, hb1⟩
  have HB1 := Lib.hid hb1
  clear hb1
  go_wp2_with fail
  go_loopw [9] (fun i wr => ∃ k : Nat, k ≤ n2 ∧ i = .int .i64 k ∧ Hid (GoodTo read m l k) ∧ Below w.heap.size w wr) (fun i _ => n2 - (intOf i).toNat)
  case atStart => exact ⟨0, Nat.zero_le _, rfl, Lib.hid (fun j hj => absurd hj (by omega)), HB1.out⟩
  case round =>
    obtain ⟨k, hk, rfl, hinv, hb⟩ := hrel
    have HB := Lib.hid hb
    by_cases hlt : k < n2
    · obtain ⟨e, he⟩ : ∃ e, l[k]? = some e := ⟨l[k]'(by have := HN.out; omega), List.getElem?_eq_getElem _⟩
      have hrd := HR2.out.below hb
      obtain ⟨b', o, ha, hcell⟩ := RdK.cells hrd evC_len (by omega)
      have hc0 : wr.cell? ⟨b', o + k * 4, none⟩ = some (.int .i64 e.kind) := hcell k e he 0 (by omega)
      have hc1 : wr.cell? ⟨b', o + k * 4 + 1, none⟩ = some (.int .i64 e.server) := hcell k e he 1 (by omega)
      have hc2 : wr.cell? ⟨b', o + k * 4 + 2, none⟩ = some (.int .i64 e.ballot) := hcell k e he 2 (by omega)
      have hc3 : wr.cell? ⟨b', o + k * 4 + 3, none⟩ = some (.string e.value) := hcell k e he 3 (by omega)
      have hgood := goodTo_good k hinv.out
      have hiv := (good_inv hm hgood).srv
      have hck : chkTo read m l k = folS read m (l.take k) e := by unfold chkTo; rw [he]
      have HTK := Lib.hid (hrd.takeF evC_len k (by omega))
      subst ha
      obtain ⟨kd, sv, eb, x⟩ := e
      simp only at hc0 hc1 hc2 hc3
      have HF : Hid (∀ y : World, Below wr.heap.size wr y → Calls Tryd.prog 51 #[.slice a n c, .int .i64 m, .slice (some ⟨b', o, none⟩) k c2, .agg #[.int .i64 kd, .int .i64 sv, .int .i64 eb, .string x]] y fun e w3 => e = .returned (.bool (folS read m (l.take k) ⟨kd, sv, eb, x⟩)) ∧ Below wr.heap.size wr w3) :=
        Lib.hid (fun y hy => (follows_c read a n c m (l.take k) _ k c2 ⟨kd, sv, eb, x⟩ y ((HR.out.below hb).below hy) (HTK.out.below hy) (fun e he => ⟨(hiv e he).1, (hiv e he).2.1⟩) (by rw [List.length_take]; have := HL.out; have := HN.out; omega) hm).mono fun e w3 ⟨h1, h2⟩ => ⟨h1, Below.next hy h2⟩)
      have KS : Hid (∀ y : World, Below wr.heap.size wr y → y.cell? ⟨b', o + k * 4, none⟩ = some (.int .i64 kd) ∧ y.cell? ⟨b', o + k * 4 + 1, none⟩ = some (.int .i64 sv) ∧ y.cell? ⟨b', o + k * 4 + 2, none⟩ = some (.int .i64 eb) ∧ y.cell? ⟨b', o + k * 4 + 3, none⟩ = some (.string x)) := Lib.hid (fun y hy => ⟨(hy.cell (p := ⟨b', o + k * 4, none⟩) (cell_lt hc0)).trans hc0, (hy.cell (p := ⟨b', o + k * 4 + 1, none⟩) (cell_lt hc1)).trans hc1, (hy.cell (p := ⟨b', o + k * 4 + 2, none⟩) (cell_lt hc2)).trans hc2, (hy.cell (p := ⟨b', o + k * 4 + 3, none⟩) (cell_lt hc3)).trans hc3⟩)
      have hstep : folS read m (l.take k) ⟨kd, sv, eb, x⟩ = true → GoodTo read m l (k + 1) := fun ht j hj => by
        by_cases hjk : j < k
        · exact hinv.out j hjk
        · obtain rfl : j = k := by omega
          rw [hck, ht]
      have hstop : folS read m (l.take k) ⟨kd, sv, eb, x⟩ = false → chkR read m l = ((k : Int), 0) := fun hf => by
        unfold chkR; rw [badAt_hit (by have := HN.out; omega) hinv.out (by rw [hck, hf])]
      obtain ⟨bb, hbb⟩ : ∃ bb, folS read m (l.take k) ⟨kd, sv, eb, x⟩ = bb := ⟨_, rfl⟩
      rw [hbb] at HF hstep hstop
      have HSP := Lib.hid hstep
      have HSQ := Lib.hid hstop
      have j0 : (0 : Int) ≤ (k : Int) := by omega
      have j1 : (k : Int) ≤ (n2 : Int) := by omega
      have j2 : (k : Int) ≤ (c2 : Int) := by omega
      clear hcell he hb hrd hgood hiv hck hc0 hc1 hc2 hc3 hstep hstop hbb
      go_wp2_with fail
      refine wp_region_quiet (C := fun y => Below wr.heap.size wr y) (by kernel_rfl) (by kernel_rfl) (below_drew (Below.refl _ _)) ?_
      repeat (refine wpQuiet_step (fun K hK => ?_); go_simp; (first | (refine hK _ ?_; clear hK K) | (apply Exists.intro; refine ⟨fun y hy => ?_, hK _ ?_⟩; (first | exact rfl | exact ⟨rfl, hy⟩ | ((refine (HF.out y hy).mono ?_); (rintro e w3 ⟨rfl, h3⟩; exact ⟨rfl, h3⟩)) | (obtain ⟨q1, q2, q3, q4⟩ := KS.out y hy; go_simp; first | exact rfl | exact ⟨rfl, hy⟩ | exact hy)); clear hK K)))
      refine wpQuiet_nil ?_
      intro wq hwq
      have HBQ := Lib.hid (Below.next HB.out hwq)
      clear hwq
      cases bb
      · have HQ := Lib.hid (HSQ.out rfl)
        go_wp2_with fail
        go_ret2
        rw [HQ.out]
        exact ⟨rfl, HBQ.out⟩
      · have HQ := Lib.hid (HSP.out rfl)
        go_wp2_with fail
        go_roundw
        case rel => exact ⟨k + 1, by omega, by go_num, HQ, HBQ.out⟩
        case measure => simp [intOf]; omega
    · obtain rfl : k = n2 := by omega
      have HQ : Hid (chkR read m l = (0, 13)) := Lib.hid (by unfold chkR; rw [badAt_none (by rw [HN.out]; exact hinv.out)])
      go_wp2_with fail
      go_ret2
      rw [HQ.out]
      exact ⟨rfl, HB.out⟩
end Go.Proofs.YtgfjmplifmbmlaaDoor
namespace Go.Proofs.YtgfjmplifmbmlaaDoor
open Go.RowKit Go.Maps

def flM (p : Nat → Bool) (f : Nat → Ev) (j : Nat) : List Ev := ((List.range j).filter p).map f
theorem flM_len (p : Nat → Bool) (f : Nat → Ev) (j : Nat) : (flM p f j).length ≤ j := by
  unfold flM; rw [List.length_map]; exact Nat.le_trans (List.length_filter_le _ _) (by simp)
theorem flM_succ (p : Nat → Bool) (f : Nat → Ev) (j : Nat) : flM p f (j + 1) = flM p f j ++ if p j then [f j] else [] := by
  unfold flM; rw [List.range_succ, List.filter_append, List.map_append]
  cases h : p j <;> simp [h]
theorem possTo_succ (read : List (BitVec 16)) (n : Nat) (l : List Ev) (k : Nat) : possTo read n l (k + 1) = possTo read n l k ++ possC read n l (k + 1) := by
  unfold possTo; rw [List.range_succ, List.flatMap_append]; simp
theorem possC_len (read : List (BitVec 16)) (n : Nat) (l : List Ev) (b : Nat) : (possC read n l b).length ≤ n + n := by
  unfold possC
  rw [List.length_append]
  refine Nat.add_le_add (flM_len _ _ n) ?_
  split
  · exact flM_len (fun s => folS read n l (evW b s _)) _ n
  · simp
theorem possTo_len (read : List (BitVec 16)) (n : Nat) (l : List Ev) : ∀ k, (possTo read n l k).length ≤ k * (n + n)
  | 0 => by simp [possTo]
  | k + 1 => by
    rw [possTo_succ, List.length_append, Nat.succ_mul]
    exact Nat.add_le_add (possTo_len read n l k) (possC_len read n l (k + 1))

set_option maxRecDepth 100000 in
set_option maxHeartbeats 4000000 in
theorem rpossible_c (read : List (BitVec 16)) (a : Option Addr) (n c : Nat) (m : Nat) (l : List Ev) (a2 : Option Addr) (n2 c2 : Nat) (w : World) (h : Rd w a n c (read.map setV2)) (h2 : RdK 4 w a2 n2 c2 (l.flatMap evC)) (hg : Good read m l) (hl : l.length ≤ 900) (hm : m ≤ 12) :
    Calls Tryd.prog 39 #[.slice a n c, .int .i64 m, .slice a2 n2 c2] w fun e w' => ∃ v, e = .returned v ∧ w'.ownsRow w.heap.size 48 4 v (possS read m l).length ((possS read m l).flatMap evC) ∧ Below w.heap.size w w' := by
  have hsv := (good_inv hm hg).srv
  have HFOL : Hid (∀ (x : Ev) (y : World), Below w.heap.size w y → Calls Tryd.prog 51 #[.slice a n c, .int .i64 m, .slice a2 n2 c2, .agg (evC x).toArray] y fun e w3 => e = .returned (.bool (folS read m l x)) ∧ Below y.heap.size y w3) :=
    Lib.hid (fun x y hy => follows_c read a n c m l a2 n2 c2 x y (h.below hy) (h2.below hy) (fun e he => ⟨(hsv e he).1, (hsv e he).2.1⟩) (by omega) hm)
  have HDEM : Hid (∀ (b : Int) (y : World), Below w.heap.size w y → Calls Tryd.prog 61 #[.slice a n c, .int .i64 m, .slice a2 n2 c2, .int .i64 b] y fun e w3 => e = .returned (.tuple #[.string (demS read m l b).1, .int .i64 (demS read m l b).2]) ∧ Below y.heap.size y w3) :=
    Lib.hid (fun b y hy => demanded_c read a n c m l a2 n2 c2 b y (h.below hy) (h2.below hy) (fun e he => ⟨(hsv e he).1, (hsv e he).2.1⟩) (by omega) hm)
  clear h h2 hsv
  go_enter Tryd.func39, Tryd.ntmps39
  go_wp2_with fail
  go_loopw [7, 8] (fun v i wr => ∃ (k : Nat), k ≤ 4 ∧ i = .int .i64 ((k + 1 : Nat) : Int) ∧ wr.ownsRow w.heap.size 48 4 v (possTo read m l k).length ((possTo read m l k).flatMap evC) ∧ Below w.heap.size w wr) (fun _ i _ => 6 - (intOf i).toNat)
  case atStart => exact ⟨0, Nat.zero_le _, rfl, World.ownsRow_nil _ _ _ _, Below.refl _ _⟩
  case round =>
    obtain ⟨k, hk, rfl, hown, hb⟩ := hrel
    have hlen := possTo_len read m l k
    have hlen2 : k * (m + m) ≤ 4 * 24 := Nat.mul_le_mul hk (by omega)
    have HLEN : Hid ((possTo read m l k).length ≤ 96) := Lib.hid (by omega)
    clear hlen hlen2
    by_cases hlt : k < 4
    · obtain ⟨q, hq⟩ : ∃ q : Nat, k + 1 = q := ⟨_, rfl⟩
      rw [hq]
      have hq4 : (q : Int) ≤ 4 := by omega
      have HQ := Lib.hid hq
      go_wp2_with fail
      go_loopw [7, 9] (fun v i wr => ∃ (j : Nat), j ≤ m ∧ i = .int .i64 j ∧ wr.ownsRow w.heap.size 48 4 v (possTo read m l k ++ flM (fun s => folS read m l (evP q s)) (evP q) j).length ((possTo read m l k ++ flM (fun s => folS read m l (evP q s)) (evP q) j).flatMap evC) ∧ Below w.heap.size w wr) (fun _ i _ => m - (intOf i).toNat)
      case atStart => exact ⟨0, Nat.zero_le _, rfl, by simpa [flM] using hown, hb⟩
      case round =>
        clear hown hb
        obtain ⟨j, hj, rfl, hown, hb⟩ := hrel
        by_cases hlt2 : j < m
        · obtain ⟨bb, hbb⟩ : ∃ bb, folS read m l (evP q j) = bb := ⟨_, rfl⟩
          have hsz := hb.size
          have HFC := Lib.hid (HFOL.out (evP q j) (wr.alloc (.cells #[.int .i64 1, .int .i64 j, .int .i64 q, .string ⟨#[]⟩] 48)) (hb.alloc hsz _))
          rw [hbb] at HFC
          have HSUC : Hid (flM (fun s => folS read m l (evP q s)) (evP q) (j + 1) = flM (fun s => folS read m l (evP q s)) (evP q) j ++ if bb then [evP q j] else []) := Lib.hid (by rw [flM_succ]; simp only [hbb])
          have HFL := Lib.hid (flM_len (fun s => folS read m l (evP q s)) (evP q) j)
          have HB := Lib.hid hb
          have HOWN := Lib.hid hown
          clear hbb hb hown
          go_wp2_with fail
          refine HFC.out.mono ?_
          rintro e w3 ⟨rfl, hb3⟩
          have hbx := heap_below hb3 (heap_alloc_new wr (.cells #[.int .i64 1, .int .i64 j, .int .i64 q, .string ⟨#[]⟩] 48))
          obtain ⟨x0, x1, x2, x3⟩ := open4 hbx
          have hbw : Below w.heap.size w w3 := Below.next (HB.out.alloc hsz _) hb3
          have hown3 := rowK_below (rowK_below HOWN.out (blA _ _)) hb3
          have hll : (possTo read m l k ++ flM (fun s => folS read m l (evP q s)) (evP q) j).length ≤ 108 := by rw [List.length_append]; have := HLEN.out; have := HFL.out; omega
          have HOWN3 := Lib.hid hown3
          have HBW := Lib.hid hbw
          clear hb3 hbx
          cases bb
          · clear hown3 hbw
            go_wp2_with fail
            go_roundw
            case rel => exact ⟨j + 1, by omega, by go_num, by rw [HSUC.out]; simpa using HOWN3.out, HBW.out⟩
            case measure => simp [intOf]; omega
          · go_wp2_with (at_builtin; go_must (refine wpList_appK 4 _ _ 40 40 (.agg #[.int .i64 0, .int .i64 0, .int .i64 0, .string ⟨#[]⟩]) (evC (evP q j)) _ Tryd.underlying40 Tryd.infoEv rfl (by decide) hown3 hbw (Nat.le_refl _) rfl rfl rfl rfl rfl (by intro u hu; exact ev_one [evP q j] u (by simpa using hu)) (by unfold maxLen; omega) (by omega) ?_))
            intro v' w4 hown4 hb4 hg4 hs4
            have HOWN4 : Hid (w4.ownsRow w.heap.size 48 4 v' (possTo read m l k ++ flM (fun s => folS read m l (evP q s)) (evP q) (j + 1)).length ((possTo read m l k ++ flM (fun s => folS read m l (evP q s)) (evP q) (j + 1)).flatMap evC)) := Lib.hid (by rw [HSUC.out]; simpa [Nat.add_assoc] using hown4)
            have HB4 := Lib.hid hb4
            clear hown3 hbw hown4 hb4 hg4 hs4 hll x0 x1 x2 x3
            go_wp2_with fail
            go_roundw
            case rel => exact ⟨j + 1, by omega, by go_num, HOWN4.out, HB4.out⟩
            case measure => simp [intOf]; omega
        · obtain rfl : j = m := by omega
          have HB := Lib.hid hb
          have HOWN := Lib.hid hown
          have HDM := Lib.hid (HDEM.out q wr hb)
          obtain ⟨⟨dv, de⟩, hde⟩ : ∃ d, demS read j l q = d := ⟨_, rfl⟩
          rw [hde] at HDM
          have HDE := Lib.hid hde
          clear hb hown hde
          go_wp2_with fail
          refine HDM.out.mono ?_
          rintro e w5 ⟨rfl, hb5⟩
          have HB5 := Lib.hid (Below.next HB.out hb5)
          have HOWN5 := Lib.hid (rowK_below HOWN.out hb5)
          clear hb5
          have HFL := Lib.hid (flM_len (fun s => folS read j l (evP q s)) (evP q) j)
          by_cases d4 : de = 4
          · subst d4
            have HI := Lib.hid (Tryd.strconv_Itoa_small q (by omega))
            obtain ⟨x, hx⟩ : ∃ x, valB q = x := ⟨_, rfl⟩
            have HCAT : Hid ((⟨#[118]⟩ : ByteArray) ++ (⟨(Lib.decDigits q).toArray⟩ : ByteArray) = x) := Lib.hid ((cat2 [118] (Lib.decDigits q)).trans hx)
            have HSTEP : Hid (possTo read j l (k + 1) = possTo read j l k ++ flM (fun s => folS read j l (evP q s)) (evP q) j ++ flM (fun s => folS read j l (evW q s x)) (fun s => evW q s x) j) := Lib.hid (by rw [possTo_succ, HQ.out, List.append_assoc]; unfold possC; rw [HDE.out, ← hx]; rfl)
            have hdl := dec_small q (by omega)
            obtain ⟨dd, hdd⟩ : ∃ dd, Lib.decDigits q = dd := ⟨_, rfl⟩
            rw [hdd] at HI hdl HCAT
            clear hx hdd
            go_wp2_with fail
            refine (HI.out _).mono ?_
            rintro e w6 ⟨rfl, rfl⟩
            go_wp2_with fail
            rw [HCAT.out]
            --LOOPB 12 x
            go_loopw [7, 13] (fun v i wr => ∃ (j2 : Nat), j2 ≤ j ∧ i = .int .i64 j2 ∧ wr.ownsRow w.heap.size 48 4 v (possTo read j l k ++ flM (fun s => folS read j l (evP q s)) (evP q) j ++ flM (fun s => folS read j l (evW q s x)) (fun s => evW q s x) j2).length ((possTo read j l k ++ flM (fun s => folS read j l (evP q s)) (evP q) j ++ flM (fun s => folS read j l (evW q s x)) (fun s => evW q s x) j2).flatMap evC) ∧ Below w.heap.size w wr) (fun _ i _ => j - (intOf i).toNat)
            case atStart => exact ⟨0, Nat.zero_le _, rfl, by simpa [flM] using HOWN5.out, HB5.out⟩
            case round =>
              obtain ⟨j2, hj2, rfl, hown, hb⟩ := hrel
              by_cases hlt3 : j2 < j
              · obtain ⟨bb, hbb⟩ : ∃ bb, folS read j l (evW q j2 x) = bb := ⟨_, rfl⟩
                have hsz := hb.size
                have HFC := Lib.hid (HFOL.out (evW q j2 x) (wr.alloc (.cells #[.int .i64 2, .int .i64 j2, .int .i64 q, .string x] 48)) (hb.alloc hsz _))
                rw [hbb] at HFC
                have HSUC : Hid (flM (fun s => folS read j l (evW q s x)) (fun s => evW q s x) (j2 + 1) = flM (fun s => folS read j l (evW q s x)) (fun s => evW q s x) j2 ++ if bb then [evW q j2 x] else []) := Lib.hid (by rw [flM_succ]; simp only [hbb])
                have HFL2 := Lib.hid (flM_len (fun s => folS read j l (evW q s x)) (fun s => evW q s x) j2)
                have HB := Lib.hid hb
                have HOWN := Lib.hid hown
                clear hbb hb hown
                go_wp2_with fail
                refine HFC.out.mono ?_
                rintro e w3 ⟨rfl, hb3⟩
                have hbx := heap_below hb3 (heap_alloc_new wr (.cells #[.int .i64 2, .int .i64 j2, .int .i64 q, .string x] 48))
                obtain ⟨x0, x1, x2, x3⟩ := open4 hbx
                have hbw : Below w.heap.size w w3 := Below.next (HB.out.alloc hsz _) hb3
                have hown3 := rowK_below (rowK_below HOWN.out (blA _ _)) hb3
                have hll : (possTo read j l k ++ flM (fun s => folS read j l (evP q s)) (evP q) j ++ flM (fun s => folS read j l (evW q s x)) (fun s => evW q s x) j2).length ≤ 120 := by rw [List.length_append, List.length_append]; have := HLEN.out; have := HFL.out; have := HFL2.out; omega
                have HOWN3 := Lib.hid hown3
                have HBW := Lib.hid hbw
                clear hb3 hbx
                cases bb
                · clear hown3 hbw
                  go_wp2_with fail
                  go_roundw
                  case rel => exact ⟨j2 + 1, by omega, by go_num, by rw [HSUC.out]; simpa using HOWN3.out, HBW.out⟩
                  case measure => simp [intOf]; omega
                · go_wp2_with (at_builtin; go_must (refine wpList_appK 4 _ _ 40 40 (.agg #[.int .i64 0, .int .i64 0, .int .i64 0, .string ⟨#[]⟩]) (evC (evW q j2 x)) _ Tryd.underlying40 Tryd.infoEv rfl (by decide) hown3 hbw (Nat.le_refl _) rfl rfl rfl rfl rfl (by intro u hu; exact ev_one [evW q j2 x] u (by simpa using hu)) (by unfold maxLen; omega) (by omega) ?_))
                  intro v' w4 hown4 hb4 hg4 hs4
                  have HOWN4 := Lib.hid hown4
                  have HB4 := Lib.hid hb4
                  clear hown3 hbw hown4 hb4 hg4 hs4 hll x0 x1 x2 x3
                  go_wp2_with fail
                  go_roundw
                  case rel => exact ⟨j2 + 1, by omega, by go_num, by rw [HSUC.out]; simpa [Nat.add_assoc] using HOWN4.out, HB4.out⟩
                  case measure => simp [intOf]; omega
              · obtain rfl : j2 = j := by omega
                have HB := Lib.hid hb
                have HOWN : Hid (wr.ownsRow w.heap.size 48 4 _ (possTo read j2 l (k + 1)).length ((possTo read j2 l (k + 1)).flatMap evC)) := Lib.hid (by rw [HSTEP.out]; exact hown)
                clear hb hown
                go_wp2_with fail
                go_roundw
                case rel => exact ⟨k + 1, by omega, by rw [← HQ.out]; go_num, HOWN.out, HB.out⟩
                case measure => simp [intOf]; omega
            --ENDB
          · by_cases d0 : de = 0
            · subst d0
              have HSTEP : Hid (possTo read j l (k + 1) = possTo read j l k ++ flM (fun s => folS read j l (evP q s)) (evP q) j ++ flM (fun s => folS read j l (evW q s dv)) (fun s => evW q s dv) j) := Lib.hid (by rw [possTo_succ, HQ.out, List.append_assoc]; unfold possC; rw [HDE.out]; rfl)
              go_wp2_with fail
              --LOOPB 14 dv
              go_loopw [7, 13] (fun v i wr => ∃ (j2 : Nat), j2 ≤ j ∧ i = .int .i64 j2 ∧ wr.ownsRow w.heap.size 48 4 v (possTo read j l k ++ flM (fun s => folS read j l (evP q s)) (evP q) j ++ flM (fun s => folS read j l (evW q s dv)) (fun s => evW q s dv) j2).length ((possTo read j l k ++ flM (fun s => folS read j l (evP q s)) (evP q) j ++ flM (fun s => folS read j l (evW q s dv)) (fun s => evW q s dv) j2).flatMap evC) ∧ Below w.heap.size w wr) (fun _ i _ => j - (intOf i).toNat)
              case atStart => exact ⟨0, Nat.zero_le _, rfl, by simpa [flM] using HOWN5.out, HB5.out⟩
              case round =>
                obtain ⟨j2, hj2, rfl, hown, hb⟩ := hrel
                by_cases hlt3 : j2 < j
                · obtain ⟨bb, hbb⟩ : ∃ bb, folS read j l (evW q j2 dv) = bb := ⟨_, rfl⟩
                  have hsz := hb.size
                  have HFC := Lib.hid (HFOL.out (evW q j2 dv) (wr.alloc (.cells #[.int .i64 2, .int .i64 j2, .int .i64 q, .string dv] 48)) (hb.alloc hsz _))
                  rw [hbb] at HFC
                  have HSUC : Hid (flM (fun s => folS read j l (evW q s dv)) (fun s => evW q s dv) (j2 + 1) = flM (fun s => folS read j l (evW q s dv)) (fun s => evW q s dv) j2 ++ if bb then [evW q j2 dv] else []) := Lib.hid (by rw [flM_succ]; simp only [hbb])
                  have HFL2 := Lib.hid (flM_len (fun s => folS read j l (evW q s dv)) (fun s => evW q s dv) j2)
                  have HB := Lib.hid hb
                  have HOWN := Lib.hid hown
                  clear hbb hb hown
                  go_wp2_with fail
                  refine HFC.out.mono ?_
                  rintro e w3 ⟨rfl, hb3⟩
                  have hbx := heap_below hb3 (heap_alloc_new wr (.cells #[.int .i64 2, .int .i64 j2, .int .i64 q, .string dv] 48))
                  obtain ⟨x0, x1, x2, x3⟩ := open4 hbx
                  have hbw : Below w.heap.size w w3 := Below.next (HB.out.alloc hsz _) hb3
                  have hown3 := rowK_below (rowK_below HOWN.out (blA _ _)) hb3
                  have hll : (possTo read j l k ++ flM (fun s => folS read j l (evP q s)) (evP q) j ++ flM (fun s => folS read j l (evW q s dv)) (fun s => evW q s dv) j2).length ≤ 120 := by rw [List.length_append, List.length_append]; have := HLEN.out; have := HFL.out; have := HFL2.out; omega
                  have HOWN3 := Lib.hid hown3
                  have HBW := Lib.hid hbw
                  clear hb3 hbx
                  cases bb
                  · clear hown3 hbw
                    go_wp2_with fail
                    go_roundw
                    case rel => exact ⟨j2 + 1, by omega, by go_num, by rw [HSUC.out]; simpa using HOWN3.out, HBW.out⟩
                    case measure => simp [intOf]; omega
                  · go_wp2_with (at_builtin; go_must (refine wpList_appK 4 _ _ 40 40 (.agg #[.int .i64 0, .int .i64 0, .int .i64 0, .string ⟨#[]⟩]) (evC (evW q j2 dv)) _ Tryd.underlying40 Tryd.infoEv rfl (by decide) hown3 hbw (Nat.le_refl _) rfl rfl rfl rfl rfl (by intro u hu; exact ev_one [evW q j2 dv] u (by simpa using hu)) (by unfold maxLen; omega) (by omega) ?_))
                    intro v' w4 hown4 hb4 hg4 hs4
                    have HOWN4 := Lib.hid hown4
                    have HB4 := Lib.hid hb4
                    clear hown3 hbw hown4 hb4 hg4 hs4 hll x0 x1 x2 x3
                    go_wp2_with fail
                    go_roundw
                    case rel => exact ⟨j2 + 1, by omega, by go_num, by rw [HSUC.out]; simpa [Nat.add_assoc] using HOWN4.out, HB4.out⟩
                    case measure => simp [intOf]; omega
                · obtain rfl : j2 = j := by omega
                  have HB := Lib.hid hb
                  have HOWN : Hid (wr.ownsRow w.heap.size 48 4 _ (possTo read j2 l (k + 1)).length ((possTo read j2 l (k + 1)).flatMap evC)) := Lib.hid (by rw [HSTEP.out]; exact hown)
                  clear hb hown
                  go_wp2_with fail
                  go_roundw
                  case rel => exact ⟨k + 1, by omega, by rw [← HQ.out]; go_num, HOWN.out, HB.out⟩
                  case measure => simp [intOf]; omega
              --ENDB
            · have HSTEP : Hid (possTo read j l (k + 1) = possTo read j l k ++ flM (fun s => folS read j l (evP q s)) (evP q) j) := Lib.hid (by rw [possTo_succ, HQ.out]; unfold possC; rw [HDE.out]; simp [demV, d4, d0, possA, flM])
              go_wp2_with fail
              go_roundw
              case rel => exact ⟨k + 1, by omega, by rw [← HQ.out]; go_num, by rw [HSTEP.out]; exact HOWN5.out, HB5.out⟩
              case measure => simp [intOf]; omega
    · obtain rfl : k = 4 := by omega
      have HB := Lib.hid hb
      have HOWN := Lib.hid hown
      go_wp2_with fail
      go_ret
      exact ⟨_, rfl, HOWN.out, HB.out⟩
end Go.Proofs.YtgfjmplifmbmlaaDoor
namespace Go.Proofs.YtgfjmplifmbmlaaDoor
open Go.RowKit Go.Maps

def chV (x : Nat) : Value := .int .u8 x
set_option maxRecDepth 100000 in
set_option maxHeartbeats 4000000 in
theorem rrun_c (read write : List (BitVec 16)) (a : Option Addr) (n c : Nat) (aw : Option Addr) (nw cw : Nat) (m : Nat) (ch : List Nat) (a3 : Option Addr) (n3 c3 : Nat) (w : World) (h : Rd w a n c (read.map setV2)) (hw : Rd w aw nw cw (write.map setV2)) (h3 : Rd w a3 n3 c3 (ch.map chV)) (hch : ∀ x ∈ ch, x < 256) (hl : ch.length ≤ 30) (hm : m ≤ 12) (hchk : chkS m [read, write] = 0) :
    Calls Tryd.prog 18 #[.slice a n c, .slice aw nw cw, .int .i64 m, .slice a3 n3 c3] w fun e w' => ∃ v, e = .returned (.tuple #[v, .int .i64 0]) ∧ w'.ownsRow w.heap.size 48 4 v (runS read m (ch.map Int.ofNat)).length ((runS read m (ch.map Int.ofNat)).flatMap evC) ∧ Below w.heap.size w w' := by
  have HG := Lib.hid (given_c read write m a n c aw nw cw w h hw)
  rw [hchk] at HG
  go_enter Tryd.func18, Tryd.ntmps18
  have hnl : ch.length = n3 := by have := h3.len; simp at this; omega
  have HR := Lib.hid h
  have HR3 := Lib.hid h3
  have HN := Lib.hid hnl
  have HCH := Lib.hid hch
  have hle := h3.le
  have hmx := h3.max
  unfold maxLen at hmx
  rw [hnl] at hl
  clear h hw h3 hnl hch
  go_wp2_with fail
  refine HG.out.mono ?_
  rintro e w1 ⟨rfl, hb1⟩
  have HB1 := Lib.hid hb1
  clear hb1
  go_wp2_with fail
  go_loopw [11, 12] (fun v i wr => ∃ (k : Nat), k ≤ n3 ∧ i = .int .i64 k ∧ wr.ownsRow w.heap.size 48 4 v (runTo read m (ch.map Int.ofNat) k).length ((runTo read m (ch.map Int.ofNat) k).flatMap evC) ∧ Below w.heap.size w wr) (fun _ i _ => n3 - (intOf i).toNat)
  case atStart => exact ⟨0, Nat.zero_le _, rfl, World.ownsRow_nil _ _ _ _, HB1.out⟩
  case round =>
    obtain ⟨k, hk, rfl, hown, hb⟩ := hrel
    have HB := Lib.hid hb
    have HOWN := Lib.hid hown
    by_cases hlt : k < n3
    · obtain ⟨x, hx⟩ : ∃ x, ch[k]? = some x := ⟨ch[k]'(by have := HN.out; omega), List.getElem?_eq_getElem _⟩
      have hx256 := HCH.out x (List.mem_of_getElem? hx)
      have hrd := HR3.out.below hb
      obtain ⟨b', o, ha, hcell⟩ := hrd.at' (by omega)
      have hc0 := hcell k (chV x) (by simp [hx])
      unfold chV at hc0
      have hsuc : runTo read m (ch.map Int.ofNat) (k + 1) = runStep read m (runTo read m (ch.map Int.ofNat) k) (x : Int) := runTo_succ (by simp [hx])
      have HSUC := Lib.hid hsuc
      obtain ⟨ao, co, rfl, hro⟩ := rdK_of_row hown
      have hlen := runTo_len read m (ch.map Int.ofNat) k
      have HLEN := Lib.hid hlen
      have HPO := Lib.hid (rpossible_c read a n c m (runTo read m (ch.map Int.ofNat) k) ao _ co wr (HR.out.below hb) hro (runTo_good _ _ _ _) (by omega) hm)
      have hsz := hb.size
      subst ha
      clear hcell hx hb hown hrd hsuc hlen hro
      go_wp2_with fail
      refine HPO.out.mono ?_
      rintro e w3 ⟨vl, rfl, hown2, hb3⟩
      obtain ⟨al, cl, rfl, hrl⟩ := rdK_of_row hown2
      have hc3 := (hb3.cell (p := ⟨b', o + k, none⟩) (cell_lt hc0)).trans hc0
      have hbw := Below.next HB.out hb3
      have hown3 := rowK_below HOWN.out hb3
      have HBW := Lib.hid hbw
      have HOWN3 := Lib.hid hown3
      clear hown2 hb3 HPO
      by_cases hz : possS read m (runTo read m (ch.map Int.ofNat) k) = []
      · have HST := Lib.hid (runTo_stop hz)
        rw [hz]
        clear hown3 hbw hrl hz
        go_wp2_with fail
        go_ret2
        exact ⟨_, rfl, by rw [← HST.out]; exact HOWN3.out, HBW.out⟩
      · obtain ⟨L, hL⟩ : ∃ L, (possS read m (runTo read m (ch.map Int.ofNat) k)).length = L := ⟨_, rfl⟩
        have hL0 : 0 < L := by rw [← hL]; exact List.length_pos_iff.2 hz
        obtain ⟨r, hr⟩ : ∃ r, x % L = r := ⟨_, rfl⟩
        have hrL : r < L := by rw [← hr]; exact Nat.mod_lt _ hL0
        obtain ⟨e, he⟩ : ∃ e, (possS read m (runTo read m (ch.map Int.ofNat) k))[r]? = some e := ⟨_, List.getElem?_eq_getElem (by omega)⟩
        have HST : Hid (runTo read m (ch.map Int.ofNat) (k + 1) = runTo read m (ch.map Int.ofNat) k ++ [e]) := Lib.hid (by
          rw [HSUC.out]; unfold runStep pickE
          rw [hL, show ((x : Int) % (L : Int)).toNat = r by rw [← Int.natCast_emod, Int.toNat_natCast, hr], he])
        have hrem : Int.tmod (x : Int) (L : Int) = (r : Int) := by rw [← hr]; exact (Int.ofNat_tmod x L).symm
        rw [hL] at hrl ⊢
        obtain ⟨b2, o2, ha2, hcell2⟩ := RdK.cells hrl evC_len hL0
        have g0 := hcell2 r e he 0 (by omega)
        have g1 := hcell2 r e he 1 (by omega)
        have g2 := hcell2 r e he 2 (by omega)
        have g3 := hcell2 r e he 3 (by omega)
        obtain ⟨kd, sv, eb, y⟩ := e
        simp only [evC, List.getElem?_cons_zero, List.getElem?_cons_succ, Nat.add_zero] at g0 g1 g2 g3
        subst ha2
        have hln := HLEN.out
        have q0 : (0 : Int) ≤ (r : Int) := by omega
        have q1 : (r : Int) < (L : Int) := by omega
        have q2 : ((L : Int) == 0) = false := by simp; omega
        have hlm := hrl.le
        have hlx := hrl.max
        unfold maxLen at hlx
        clear hz hcell2 he hrl hL hr
        go_wp2_with (at_builtin; go_must (refine wpList_appK 4 _ _ 40 40 (.agg #[.int .i64 0, .int .i64 0, .int .i64 0, .string ⟨#[]⟩]) (evC ⟨kd, sv, eb, y⟩) _ Tryd.underlying40 Tryd.infoEv rfl (by decide) hown3 hbw (Nat.le_refl _) rfl rfl rfl rfl rfl (by intro u hu; exact ev_one [⟨kd, sv, eb, y⟩] u (by simpa using hu)) (by unfold maxLen; omega) (by omega) ?_))
        intro v' w4 hown4 hb4 hg4 hs4
        have HOWN4 : Hid (w4.ownsRow w.heap.size 48 4 v' (runTo read m (ch.map Int.ofNat) (k + 1)).length ((runTo read m (ch.map Int.ofNat) (k + 1)).flatMap evC)) := Lib.hid (by rw [HST.out]; simpa using hown4)
        have HB4 := Lib.hid hb4
        clear hown3 hbw hown4 hb4 hg4 hs4 g0 g1 g2 g3
        go_wp2_with fail
        go_roundw
        case rel => exact ⟨k + 1, by omega, by go_num, HOWN4.out, HB4.out⟩
        case measure => simp [intOf]; omega
    · obtain rfl : k = n3 := by omega
      have HE : Hid (runTo read m (ch.map Int.ofNat) k = runS read m (ch.map Int.ofNat)) := Lib.hid (by rw [← runTo_all, List.length_map, HN.out])
      go_wp2_with fail
      go_ret2
      exact ⟨_, rfl, by rw [← HE.out]; exact HOWN.out, HB.out⟩
end Go.Proofs.YtgfjmplifmbmlaaDoor
namespace Go.Proofs.YtgfjmplifmbmlaaDoor
open Go.RowKit Go.Shelf

theorem Tryd.infoU8 : (Tryd.prog.info? 5).map (fun i => (i.zero, i.size, i.bytes)) = some (some (.int .u8 0), 1, 1) := by kernel_rfl
set_option maxRecDepth 100000 in
set_option maxHeartbeats 1000000 in
theorem cloneb_c (l : List Nat) (a : Option Addr) (n c : Nat) (w : World) (h : Rd w a n c (l.map chV)) (hb : n ≤ 1000000) :
    Calls Tryd.prog 17 #[.slice a n c] w fun e w' => ∃ a' c', e = .returned (.slice a' n c') ∧ Rd w' a' n c' (l.map chV) ∧ Below w.heap.size w w' := by
  have hlen : (l.map chV).length = n := h.len.symm
  cases a with
  | none =>
    have hc := h.nil rfl
    have hn : n = 0 := by have := h.le; omega
    subst hc hn
    have hl : l = [] := by simpa using hlen
    subst hl
    clear h hlen hb
    have q : ∀ (w : World) (a : Option Addr) (n c n' c' : Nat), (binOp .eql 35 (.slice a n c) (.slice none n' c')).run Tryd.prog w = .ok (.bool a.isNone) w := fun w a n c n' c' => Lib.run_eql_slice_nil w _ _ a n c n' c' Tryd.underlying35
    go_enter Tryd.func17, Tryd.ntmps17
    go_wp2
    go_ret
    exact ⟨_, _, rfl, Rd.none_ _, Below.refl _ _⟩
  | some ad =>
    have hh := Lib.hid h
    have hl2 := Lib.hid hlen
    clear h hlen
    have q : ∀ (w : World) (a : Option Addr) (n c n' c' : Nat), (binOp .eql 35 (.slice a n c) (.slice none n' c')).run Tryd.prog w = .ok (.bool a.isNone) w := fun w a n c n' c' => Lib.run_eql_slice_nil w _ _ a n c n' c' Tryd.underlying35
    go_enter Tryd.func17, Tryd.ntmps17
    go_wp2_with (at_builtin; go_must (refine wpList_apps _ _ 35 1 (.int .u8 0) _ _ _ (l.map chV) Tryd.underlying35 Tryd.infoU8 rfl (World.ownsRow_made w #[] 0 (Nat.le_refl _) (Nat.zero_le _) rfl) ((Below.refl _ w).alloc (Nat.le_refl _) _) (Nat.le_refl _) (hh.out.below ((Below.refl _ w).alloc (Nat.le_refl _) _)) (by intro u hu; obtain ⟨_, _, rfl⟩ := List.mem_map.1 hu; rfl) rfl rfl rfl rfl (by unfold maxLen; simp; omega) (by simp; omega) ?_))
    intro v' w1 hown1 hb1 _
    have hown2 : w1.ownsRow w.heap.size 5 1 v' n (l.map chV) := by simpa using hown1
    obtain ⟨a', c', rfl, hr⟩ := rd_of_row hown2
    have HRR := Lib.hid hr
    clear hb hown1 hown2 hr
    go_wp2
    go_ret
    exact ⟨_, _, rfl, HRR.out, hb1⟩

set_option maxRecDepth 100000 in
set_option maxHeartbeats 1000000 in
theorem clonee_c (l : List Ev) (a : Option Addr) (n c : Nat) (w : World) (h : RdK 4 w a n c (l.flatMap evC)) (hb : n ≤ 1000000) :
    Calls Tryd.prog 20 #[.slice a n c] w fun e w' => ∃ a' c', e = .returned (.slice a' n c') ∧ RdK 4 w' a' n c' (l.flatMap evC) ∧ Below w.heap.size w w' := by
  cases a with
  | none =>
    have hc := h.nil rfl
    have hn : n = 0 := by have := h.le; omega
    subst hc hn
    have hl : l.flatMap evC = [] := List.eq_nil_of_length_eq_zero (by rw [← h.len])
    rw [hl]
    clear h hb hl
    have q : ∀ (w : World) (a : Option Addr) (n c n' c' : Nat), (binOp .eql 40 (.slice a n c) (.slice none n' c')).run Tryd.prog w = .ok (.bool a.isNone) w := fun w a n c n' c' => Lib.run_eql_slice_nil w _ _ a n c n' c' Tryd.underlying40
    go_enter Tryd.func20, Tryd.ntmps20
    go_wp2
    go_ret
    exact ⟨_, _, rfl, RdK.none_ _ _, Below.refl _ _⟩
  | some ad =>
    have hh := Lib.hid h
    clear h
    have q : ∀ (w : World) (a : Option Addr) (n c n' c' : Nat), (binOp .eql 40 (.slice a n c) (.slice none n' c')).run Tryd.prog w = .ok (.bool a.isNone) w := fun w a n c n' c' => Lib.run_eql_slice_nil w _ _ a n c n' c' Tryd.underlying40
    go_enter Tryd.func20, Tryd.ntmps20
    go_wp2_with (at_builtin; go_must (refine wpList_appsK 4 _ _ 40 40 (.agg #[.int .i64 0, .int .i64 0, .int .i64 0, .string ⟨#[]⟩]) _ _ _ (l.flatMap evC) Tryd.underlying40 Tryd.infoEv rfl (by decide) (World.ownsRow_made w #[] 0 (Nat.le_refl _) (Nat.zero_le _) rfl) ((Below.refl _ w).alloc (Nat.le_refl _) _) (Nat.le_refl _) (hh.out.below ((Below.refl _ w).alloc (Nat.le_refl _) _)) (ev_one l) rfl rfl rfl rfl (by unfold maxLen; simp; omega) (by simp; omega) ?_))
    intro v' w1 hown1 hb1 _
    have hown2 : w1.ownsRow w.heap.size 48 4 v' n (l.flatMap evC) := by simpa using hown1
    obtain ⟨a', c', rfl, hr⟩ := rdK_of_row hown2
    have HRR := Lib.hid hr
    clear hb hown1 hown2 hr
    go_wp2
    go_ret
    exact ⟨_, _, rfl, HRR.out, hb1⟩
end Go.Proofs.YtgfjmplifmbmlaaDoor
