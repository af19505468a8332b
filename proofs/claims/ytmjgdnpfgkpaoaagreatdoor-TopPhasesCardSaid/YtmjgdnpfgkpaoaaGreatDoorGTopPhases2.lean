/- Texts laid together. Layer 37: run.add, an acceptance. Layer 37: run.add refuses. single.Pick. The reference's Pick. The reference's Same of events. The examples of layer 37. A handed slice of structs, as a law's frame opens it. Laws of layer 37: Pick. single.begin; Run and Check where nothing happens; the law on errors. Layer 37: run.add on a run that stands for a list of events. Layer 37: the reference's replay. Layer 37: the reference's reports. Layer 37: what the reference demands. Layer 37: the reference's rule. The box region is printed by wip/callbox.py. Layer 37: the reference's Check. Layer 37: the reference's possible events. Layer 37: the reference's Run. slices.Clone of bytes and of events. Layer 37: the law's systems. Layer 37: the program's possible events. Layer 37: Check of the program. Layer 37: what the program's Run keeps beside its run: the row of events. Layer 37, plain: the systems of the laws are given ones. Layer 37: the program's Run. Layer 37, plain: the values of a run are short. Layer 37: the keys of the map of acceptances: a ballot with a value. The shelf once more. Sorting and compacting a list of strings that the call itself has made. The reference of layer 5: Same. The reference of layer 37: insert. The reference of layer 37: Chosen. Layer 37, plain: what the map of acceptances holds; what is collected out of it. Maps as functions from keys: an entry that is made first, and read before it is filled. Over any program. Layer 37: Chosen of the program. readable: a family of the top statements. readable, for lists of any length. An array of two bytes as an argument. The law TopPhases, walked. -/
import Derived.Test.YtmjgdnpfgkpaoaaGreatDoorGC1
import Derived.Test.YtmjgdnpfgkpaoaaGreatDoorGC2
import Derived.Test.YtmjgdnpfgkpaoaaGreatDoorGC3
import Derived.Test.YtmjgdnpfgkpaoaaGreatDoorGC6
import Derived.Test.YtmjgdnpfgkpaoaaGreatDoorGC9
import Derived.Test.YtmjgdnpfgkpaoaaGreatDoorGC10
import Derived.Test.YtmjgdnpfgkpaoaaGreatDoorGTopPhases1
import Derived.Test.YtmjgdnpfgkpaoaaGreatDoorProg
import Derived.Laws.StructEq
import Derived.Deep.Slices
import Derived.Deep.Fields
import Derived.ChangeSame
import Derived.Laws.MakeOwn
import Derived.DeepKeys4
import Derived.Sort.OwnSorted
import Derived.Deep.RegionHeld3
import Derived.Laws.Cover1
import Derived.Sort.Walk0
import Derived.Deep.QuietTactic
import Derived.BigQuiet
import Derived.Laws.IdiomArrays
import Derived.OpenShut
namespace Go.Proofs.YtmjgdnpfgkpaoaaGreatDoor
open Go.RowKit Go.Maps

set_option maxRecDepth 100000 in
set_option maxHeartbeats 8000000 in
theorem add2_c (read : List (BitVec 16)) (ra : Option Addr) (rn rc : Nat) (B m cnt : Nat) (st : St) (f : Lit → Option Value) (s : Nat) (b : Int) (x : ByteArray) (hs : s < m) (hb : 1 ≤ b) (hw : (Lit.int .i64 b).wf = true) (hm : m ≤ 12) (hcnt : cnt ≤ 1000) (hp : (atS st.acc s).prom ≤ b) (hx : emB x = false) (hok : okP (valP read st b) x = true) (w : World) (hr : Rd w ra rn rc (read.map setV2)) (h : StM w B m cnt (.slice ra rn rc) st f) :
    Calls Tryz.prog 61 #[.pointer (some ⟨B + 3, 0, none⟩), .agg #[.int .i64 2, .int .i64 s, .int .i64 b, .string x]] w fun e w' => e = .returned (.bool true) ∧ Below B w w' ∧ ∃ f', StM w' B m (cnt + 1) (.slice ra rn rc) (addP2 st ⟨2, s, b, x⟩) f' ∧ Frm B f f' w w' := by
  obtain ⟨r0, r1, r2, r3⟩ := open4 h.run
  obtain ⟨⟨a0, a1, a2⟩, hfr⟩ := acc_cells h.acc (s := s) (by rw [h.len]; exact hs)
  obtain ⟨⟨p, q, v⟩, hacc⟩ : ∃ a, atS st.acc s = a := ⟨_, rfl⟩
  rw [hacc] at a0 a1 a2 hp
  obtain ⟨fr, u, hvp, hfu⟩ : ∃ (fr : Bool) (u : ByteArray), valP read st b = (u, fr, true) ∧ (fr = true ∨ (fr = false ∧ u = x)) := by
    obtain ⟨⟨u, fr, ok⟩, hv⟩ : ∃ y, valP read st b = y := ⟨_, rfl⟩
    rw [hv] at hok
    unfold okP at hok
    simp only [Bool.and_eq_true, Bool.or_eq_true] at hok
    obtain ⟨rfl, h2⟩ := hok
    refine ⟨fr, u, hv, ?_⟩
    cases fr
    · right; refine ⟨rfl, bs_ext (eq_of_beq (by simpa using h2))⟩
    · left; rfl
  have HV : Hid (∀ w' : World, Below w.heap.size w w' → Calls Tryz.prog 93 #[.pointer (some ⟨B + 3, 0, none⟩), .int .i64 b] w' fun e w2 => e = Ending.returned (.tuple #[.string u, .bool fr, .bool true]) ∧ Below w'.heap.size w' w2) := Lib.hid (fun w' h1 => (value_c read ra rn rc B m cnt st f b hw w' (hr.below h1) (h.below h1)).mono fun e w2 ⟨h2, h3⟩ => ⟨by rw [h2, hvp], h3⟩)
  have H := Lib.hid h
  have hB0 := blA w (.cells #[.int .i64 2, .int .i64 s, .int .i64 b, .string x] 68)
  have r1' := (hB0.cell (p := ⟨B + 3, 1, none⟩) (cell_lt r1)).trans r1
  have g1 : decide ((s : Int) < 0) = false := by simp
  have g2 : decide ((m : Int) ≤ (s : Int)) = false := by simp; omega
  have g3 : decide (b < 1) = false := by simp; omega
  have i0 : (0 : Int) ≤ (s : Int) := by omega
  have i1 : (s : Int) < (m : Int) := by omega
  have HACC := Lib.hid hacc
  have HW := Lib.hid hw
  have hxl : (x.toList == []) = false := hx
  clear h hacc hfr hw hvp hok hx hr
  go_enter Tryz.func61, Tryz.ntmps61
  go_wp2_with fail
  go_quiet (fail)
  go_wp2_with fail
  go_quiet (fail)
  go_wp2_with fail
  generalize hW : World.drewN (w.alloc (.cells #[.int .i64 2, .int .i64 s, .int .i64 b, .string x] 68)) _ = W0
  have hW1 : Below w.heap.size w W0 := by rw [← hW]; exact below_drewN hB0
  have hW2 : W0.heap.size = w.heap.size + 1 := by rw [← hW]; simp
  have hW3 : W0.heap[w.heap.size]? = some (.cells #[.int .i64 2, .int .i64 s, .int .i64 b, .string x] 68 (0, 0)) := by rw [← hW]; exact heap_alloc_new w _
  obtain ⟨e0, e1, e2, e3⟩ := open4 hW3
  have HW1 := Lib.hid hW1
  have HW2 := Lib.hid hW2
  have HE := Lib.hid hW3
  clear hW hW1 hW2 hW3 hB0 r1' r0 r1 r2 r3 g1 g2 g3 i0 i1
  refine (HV.out _ HW1.out).mono ?_
  rintro e W2 ⟨rfl, hb2⟩
  have HB2 := Lib.hid hb2
  have A0 := (hb2.cell (p := ⟨B, s * 3, none⟩) (cell_lt ((HW1.out.cell (p := ⟨B, s * 3, none⟩) (cell_lt a0)).trans a0))).trans ((HW1.out.cell (p := ⟨B, s * 3, none⟩) (cell_lt a0)).trans a0)
  have A1 := (hb2.cell (p := ⟨B, s * 3 + 1, none⟩) (cell_lt ((HW1.out.cell (p := ⟨B, s * 3 + 1, none⟩) (cell_lt a1)).trans a1))).trans ((HW1.out.cell (p := ⟨B, s * 3 + 1, none⟩) (cell_lt a1)).trans a1)
  have A2 := (hb2.cell (p := ⟨B, s * 3 + 2, none⟩) (cell_lt ((HW1.out.cell (p := ⟨B, s * 3 + 2, none⟩) (cell_lt a2)).trans a2))).trans ((HW1.out.cell (p := ⟨B, s * 3 + 2, none⟩) (cell_lt a2)).trans a2)
  have HE2 := Lib.hid (heap_below hb2 HE.out)
  obtain ⟨_, _, E2, E3⟩ := open4 HE2.out
  have HW12 := Lib.hid (Below.next HW1.out hb2)
  have HSZ2 : Hid (w.heap.size < W2.heap.size) := Lib.hid (by have := hb2.size; have := HW2.out; omega)
  clear hb2 e0 e1 e2 e3 a0 a1 a2 HV
  go_wp2_with fail
  have KS : Hid (∀ y : World, Below W2.heap.size W2 y → y.cell? ⟨B, s * 3, none⟩ = some (.int .i64 p) ∧ y.cell? ⟨B, s * 3 + 1, none⟩ = some (.int .i64 q) ∧ y.cell? ⟨B, s * 3 + 2, none⟩ = some (.string v) ∧ y.cell? ⟨w.heap.size, 2, none⟩ = some (.int .i64 b) ∧ y.cell? ⟨w.heap.size, 3, none⟩ = some (.string x)) := Lib.hid (fun y hy => ⟨(hy.cell (p := ⟨B, s * 3, none⟩) (cell_lt A0)).trans A0, (hy.cell (p := ⟨B, s * 3 + 1, none⟩) (cell_lt A1)).trans A1, (hy.cell (p := ⟨B, s * 3 + 2, none⟩) (cell_lt A2)).trans A2, (hy.cell (p := ⟨w.heap.size, 2, none⟩) (cell_lt E2)).trans E2, (hy.cell (p := ⟨w.heap.size, 3, none⟩) (cell_lt E3)).trans E3⟩)
  have HP2 : Hid (∀ y : World, Below W2.heap.size W2 y → Calls Tryz.prog 94 #[.agg #[.int .i64 p, .int .i64 q, .string v], .int .i64 b, .string x] y fun e w3 => e = .returned (.tuple #[.agg #[.int .i64 b, .int .i64 b, .string x], .bool true]) ∧ Below W2.heap.size W2 w3 ∧ ∀ ob, y.heap[W2.heap.size]? = some ob → w3.heap[W2.heap.size]? = some ob) := Lib.hid (fun y hy => (accept_c p q v b x y).mono fun e w3 ⟨h1, h2⟩ => ⟨by rw [h1, if_pos ⟨hb, hp⟩, decide_eq_true ⟨hb, hp⟩], Below.next hy h2, fun ob ho => heap_below h2 ho⟩)
  go_region_held3 (fun w' => w'.cell? ⟨B, s * 3, none⟩ = some (.int .i64 p) ∧ w'.cell? ⟨B, s * 3 + 1, none⟩ = some (.int .i64 q) ∧ w'.cell? ⟨B, s * 3 + 2, none⟩ = some (.string v) ∧ w'.cell? ⟨w.heap.size, 2, none⟩ = some (.int .i64 b) ∧ w'.cell? ⟨w.heap.size, 3, none⟩ = some (.string x))
    (exact KS.out _ (by (repeat (first | with_reducible exact Below.refl _ _ | with_reducible exact hb3 | with_reducible refine below_drew ?_ | with_reducible refine Below.alloc ?_ ?_ _ | with_reducible refine Below.setCell ?_ ?_ _ | exact Nat.le_refl _ | exact hb3.size))))
    ((go_at_call 94; (refine (HP2.out _ (by (first | with_reducible exact below_drew (Below.refl _ _) | with_reducible exact below_drew (blA _ _)))).mono ?_); (rintro e w3 ⟨rfl, hb3, hx⟩; first | (have hx2 := hx _ (heap_alloc_new W2 _); obtain ⟨⟨x0, x1, x2⟩, y0, y1, y2⟩ := open3 hx2; clear hx) | (clear hx))))
  all_goals
    first
    | (have hWb := ((hb3.setCell (p := ⟨W2.heap.size, 0, none⟩) (Nat.le_refl _) (.int .i64 b)).setCell (p := ⟨W2.heap.size, 1, none⟩) (Nat.le_refl _) (.int .i64 b)).setCell (p := ⟨W2.heap.size, 2, none⟩) (Nat.le_refl _) (.string x)
       have hWn : ((((w3.setCell ⟨W2.heap.size, 0, none⟩ (.int .i64 b)).setCell ⟨W2.heap.size, 1, none⟩ (.int .i64 b)).setCell ⟨W2.heap.size, 2, none⟩ (.string x)).heap[W2.heap.size]? = some (.cells #[.int .i64 b, .int .i64 b, .string x] 149 (0, 0))) := heap_set_at (heap_set_at (heap_set_at hx2 0 (.int .i64 b)) 1 (.int .i64 b)) 2 (.string x)
       have hBx : W2.heap.size ≤ W2.heap.size := Nat.le_refl _
       generalize World.setCell (World.setCell (World.setCell w3 ⟨W2.heap.size, 0, none⟩ (.int .i64 b)) ⟨W2.heap.size, 1, none⟩ (.int .i64 b)) ⟨W2.heap.size, 2, none⟩ (.string x) = W1 at hWb hWn ⊢
       generalize hBe : W2.heap.size = Bx at hWn ⊢
       have hBx : W2.heap.size ≤ Bx := Nat.le_of_eq hBe
       clear hBe)
    | (have hWb := hb3.alloc hb3.size (.cells #[.int .i64 b, .int .i64 b, .string x] 149)
       have hWn := heap_alloc_new w3 (.cells #[.int .i64 b, .int .i64 b, .string x] 149)
       have hBx : W2.heap.size ≤ w3.heap.size := hb3.size
       generalize World.alloc w3 (.cells #[.int .i64 b, .int .i64 b, .string x] 149) = W1 at hWb hWn ⊢
       generalize w3.heap.size = Bx at hWn hBx ⊢)
    have hSt := (H.out.below HW12.out).below hWb
    have hbox := heap_below hWb HE2.out
    obtain ⟨E0, E1, E2, E3⟩ := open4 hbox
    obtain ⟨R0, R1, R2, R3⟩ := open4 hSt.run
    have HSt := Lib.hid hSt
    have HWb := Lib.hid hWb
    have HWn := Lib.hid hWn
    clear hSt hWb hWn hbox
    rcases hfu with hfr | ⟨hfr, hux⟩
    all_goals
      subst hfr
      try (have h9 := hux.symm; clear hux; subst h9)
      go_wp2_with fail
      have HFV := Lib.hid HSt.out.vals
      have hsz0 : w.heap.size < W1.heap.size := by have := HWb.out.size; have := HSZ2.out; omega
      have hBH : B + 3 < w.heap.size := (Array.getElem?_eq_some_iff.1 H.out.run).1
      have hBx2 : Bx < W1.heap.size := (Array.getElem?_eq_some_iff.1 HWn.out).1
      have hBx3 : w.heap.size < Bx := by have := HSZ2.out; omega
      obtain ⟨⟨X0, X1, X2⟩, _⟩ := open3 HWn.out
      obtain ⟨⟨C0, C1, C2⟩, hfr2⟩ := acc_cells HSt.out.acc (s := s) (by rw [HSt.out.len]; exact hs)
      have F0 := hfr2 (s * 3)
      have F1 := hfr2 (s * 3 + 1)
      have F2 := hfr2 (s * 3 + 2)
      have KS5 : Hid (∀ y : World, (∀ j, j < W1.heap.size → j ≠ B → j ≠ B + 2 → y.heap[j]? = W1.heap[j]?) → y.cell? ⟨B + 3, 3, none⟩ = some (.map (some (B + 2))) ∧ y.cell? ⟨w.heap.size, 2, none⟩ = some (.int .i64 b) ∧ y.cell? ⟨w.heap.size, 3, none⟩ = some (.string x) ∧ y.cell? ⟨Bx, 0, none⟩ = some (.int .i64 b) ∧ y.cell? ⟨Bx, 1, none⟩ = some (.int .i64 b) ∧ y.cell? ⟨Bx, 2, none⟩ = some (.string x)) := Lib.hid (fun y hy => by
        have kc : ∀ k i, k < W1.heap.size → k ≠ B → k ≠ B + 2 → y.cell? ⟨k, i, none⟩ = W1.cell? ⟨k, i, none⟩ := fun k i h1 h2 h3 => World.cell?_of_block (hy k h1 h2 h3)
        exact ⟨(kc _ 3 (by omega) (by omega) (by omega)).trans R3, (kc _ 2 hsz0 (by omega) (by omega)).trans E2, (kc _ 3 hsz0 (by omega) (by omega)).trans E3, (kc _ 0 hBx2 (by omega) (by omega)).trans X0, (kc _ 1 hBx2 (by omega) (by omega)).trans X1, (kc _ 2 hBx2 (by omega) (by omega)).trans X2⟩)
      have HZ : Hid (∀ j, j ≠ B → (((W1.setCell ⟨B, s * 3, none⟩ (.int .i64 b)).setCell ⟨B, s * 3 + 1, none⟩ (.int .i64 b)).setCell ⟨B, s * 3 + 2, none⟩ (.string x)).heap[j]? = W1.heap[j]?) := Lib.hid (fun j hj => by rw [Below.heap_setCell _ _ _ _ hj, Below.heap_setCell _ _ _ _ hj, Below.heap_setCell _ _ _ _ hj])
      clear hfr2 E0 E1 R0 R1 R2
      go_region_held3 (fun w' => w'.cell? ⟨B + 3, 3, none⟩ = some (.map (some (B + 2))) ∧ w'.cell? ⟨w.heap.size, 2, none⟩ = some (.int .i64 b) ∧ w'.cell? ⟨w.heap.size, 3, none⟩ = some (.string x) ∧ w'.cell? ⟨Bx, 0, none⟩ = some (.int .i64 b) ∧ w'.cell? ⟨Bx, 1, none⟩ = some (.int .i64 b) ∧ w'.cell? ⟨Bx, 2, none⟩ = some (.string x))
        (first | exact hSF | exact hSE | (refine KS5.out _ ?_; intro j _ hj _; first | exact HZ.out j hj | rfl))
        (first
          | (refine upon_entry_fm 145 3 9 kI Tryz.underlying145 (B + 2) cnt (valL st) (.string ⟨#[]⟩) zStr (HFV.out.at (by exact HZ.out _ (by omega))) (by unfold maxLen; omega) (.int .i64 b) (keyI b) (kOf HW.out) ?_; intro v0 sE wE hentE hgE hsE; have hszE : wE.heap.size = W1.heap.size := by { rw [hsE]; simp [World.setCell] }; have HFE : Hid (∀ j, j < W1.heap.size → j ≠ B + 2 → wE.heap[j]? = (((W1.setCell ⟨B, s * 3, none⟩ (.int .i64 b)).setCell ⟨B, s * 3 + 1, none⟩ (.int .i64 b)).setCell ⟨B, s * 3 + 2, none⟩ (.string x)).heap[j]?) := Lib.hid (fun j h1 h3 => hgE.block j (by simpa [World.setCell] using h1) (by simpa using h3)); have hSE := KS5.out wE (fun j h1 h2 h3 => (HFE.out j h1 h3).trans (HZ.out j h2)); have HEN := Lib.hid hentE; have HGE := Lib.hid hgE; clear hentE hgE hsE)
          | (refine upon_estore_fm 145 3 (B + 2) (cnt + 1) sE (valL st) (keyI b) (HEN.out.at rfl) (.string x) ?_; intro wF hfmF hgF hsF; have hSF := KS5.out wF (fun j h1 h2 h3 => (hgF.block j (by omega) (by simpa using h3)).trans ((HFE.out j h1 h3).trans (HZ.out j h2))); have HFF := Lib.hid hfmF; have HGF := Lib.hid hgF; clear hfmF hgF))
      all_goals
        go_wp2_with fail
        go_ret
        have hB1 : B < W1.heap.size := by omega
        have hfin := add2_fin (k := 2) hs HW.out HSt.out ((HGF.out.block B (by omega) (by simp)).trans ((HFE.out B hB1 (by omega)).trans (heap_set_at (heap_set_at (heap_set_at HSt.out.acc (s * 3) (.int .i64 b)) (s * 3 + 1) (.int .i64 b)) (s * 3 + 2) (.string x)))) HFF.out (fun j h1 h2 h3 => (HGF.out.block j (by omega) (by simpa using h3)).trans ((HFE.out j h1 h3).trans (HZ.out j h2))) (by have := HGF.out.size; omega) (HGF.out.os.trans (HGE.out.os.trans rfl)) (HGF.out.tape.trans (HGE.out.tape.trans rfl)) (HGF.out.output.trans (HGE.out.output.trans rfl))
        exact ⟨rfl, ((Below.next HW12.out HWb.out).mono (by omega)).trans hfin.2.1, _, hfin.1, hfin.2.2.pre (Below.next HW12.out HWb.out)⟩
end Go.Proofs.YtmjgdnpfgkpaoaaGreatDoor
namespace Go.Proofs.YtmjgdnpfgkpaoaaGreatDoor
open Go.RowKit Go.Maps

/- the first test fails -/
set_option maxRecDepth 100000 in
set_option maxHeartbeats 4000000 in
theorem addn0_c (B m cnt : Nat) (sl : Value) (st : St) (f : Lit → Option Value) (k s b : Int) (x : ByteArray) (hm : m ≤ 12) (hbad : s < 0 ∨ (m : Int) ≤ s ∨ b < 1) (w : World) (h : StM w B m cnt sl st f) :
    Calls Tryz.prog 61 #[.pointer (some ⟨B + 3, 0, none⟩), .agg #[.int .i64 k, .int .i64 s, .int .i64 b, .string x]] w fun e w' => e = .returned (.bool false) ∧ Below w.heap.size w w' := by
  obtain ⟨r0, r1, r2, r3⟩ := open4 h.run
  have hB0 := blA w (.cells #[.int .i64 k, .int .i64 s, .int .i64 b, .string x] 68)
  have r1' := (hB0.cell (p := ⟨B + 3, 1, none⟩) (cell_lt r1)).trans r1
  have HB0 := Lib.hid hB0
  clear h r0 r1 r2 r3 hB0
  by_cases h1 : s < 0
  · have g1 : decide (s < 0) = true := decide_eq_true h1
    clear hbad
    go_enter Tryz.func61, Tryz.ntmps61
    go_wp2_with fail
    go_quiet (fail)
    go_wp2_with fail
    go_ret
    exact ⟨rfl, below_drewN HB0.out⟩
  · have g1 : decide (s < 0) = false := decide_eq_false h1
    by_cases h2 : (m : Int) ≤ s
    · have g2 : decide ((m : Int) ≤ s) = true := decide_eq_true h2
      clear hbad
      go_enter Tryz.func61, Tryz.ntmps61
      go_wp2_with fail
      go_quiet (fail)
      go_wp2_with fail
      go_ret
      exact ⟨rfl, below_drewN HB0.out⟩
    · have g2 : decide ((m : Int) ≤ s) = false := decide_eq_false h2
      have g3 : decide (b < 1) = true := decide_eq_true (by omega)
      clear hbad
      go_enter Tryz.func61, Tryz.ntmps61
      go_wp2_with fail
      go_quiet (fail)
      go_wp2_with fail
      go_ret
      exact ⟨rfl, below_drewN HB0.out⟩

/- another kind -/
set_option maxRecDepth 100000 in
set_option maxHeartbeats 4000000 in
theorem addn9_c (B m cnt : Nat) (sl : Value) (st : St) (f : Lit → Option Value) (k : Int) (s : Nat) (b : Int) (x : ByteArray) (hm : m ≤ 12) (hs : s < m) (hb : 1 ≤ b) (hk1 : k ≠ 1) (hk2 : k ≠ 2) (w : World) (h : StM w B m cnt sl st f) :
    Calls Tryz.prog 61 #[.pointer (some ⟨B + 3, 0, none⟩), .agg #[.int .i64 k, .int .i64 s, .int .i64 b, .string x]] w fun e w' => e = .returned (.bool false) ∧ Below w.heap.size w w' := by
  obtain ⟨r0, r1, r2, r3⟩ := open4 h.run
  have hB0 := blA w (.cells #[.int .i64 k, .int .i64 s, .int .i64 b, .string x] 68)
  have r1' := (hB0.cell (p := ⟨B + 3, 1, none⟩) (cell_lt r1)).trans r1
  have HB0 := Lib.hid hB0
  have g1 : decide ((s : Int) < 0) = false := by simp
  have g2 : decide ((m : Int) ≤ (s : Int)) = false := by simp; omega
  have g3 : decide (b < 1) = false := by simp; omega
  have i0 : (0 : Int) ≤ (s : Int) := by omega
  have i1 : (s : Int) < (m : Int) := by omega
  have j1 : (k == 1) = false := by simpa using hk1
  have j2 : (k == 2) = false := by simpa using hk2
  clear h r0 r1 r2 r3 hB0
  go_enter Tryz.func61, Tryz.ntmps61
  go_wp2_with fail
  go_quiet (fail)
  go_wp2_with fail
  go_quiet (fail)
  go_wp2_with fail
  go_ret
  exact ⟨rfl, below_drewN HB0.out⟩

/- a promise that is refused -/
set_option maxRecDepth 100000 in
set_option maxHeartbeats 4000000 in
theorem addn1_c (B m cnt : Nat) (sl : Value) (st : St) (f : Lit → Option Value) (s : Nat) (b : Int) (x : ByteArray) (hs : s < m) (hb : 1 ≤ b) (hm : m ≤ 12) (hno : b ≤ (atS st.acc s).prom ∨ emB x = false) (w : World) (h : StM w B m cnt sl st f) :
    Calls Tryz.prog 61 #[.pointer (some ⟨B + 3, 0, none⟩), .agg #[.int .i64 1, .int .i64 s, .int .i64 b, .string x]] w fun e w' => e = .returned (.bool false) ∧ Below w.heap.size w w' := by
  obtain ⟨r0, r1, r2, r3⟩ := open4 h.run
  obtain ⟨⟨a0, a1, a2⟩, hfr⟩ := acc_cells h.acc (s := s) (by rw [h.len]; exact hs)
  obtain ⟨⟨p, q, v⟩, hacc⟩ : ∃ a, atS st.acc s = a := ⟨_, rfl⟩
  rw [hacc] at a0 a1 a2 hno
  have H := Lib.hid h
  have hB0 := blA w (.cells #[.int .i64 1, .int .i64 s, .int .i64 b, .string x] 68)
  have r0' := (hB0.cell (p := ⟨B + 3, 0, none⟩) (cell_lt r0)).trans r0
  have r1' := (hB0.cell (p := ⟨B + 3, 1, none⟩) (cell_lt r1)).trans r1
  have r2' := (hB0.cell (p := ⟨B + 3, 2, none⟩) (cell_lt r2)).trans r2
  have a0' := (hB0.cell (p := ⟨B, s * 3, none⟩) (cell_lt a0)).trans a0
  have a1' := (hB0.cell (p := ⟨B, s * 3 + 1, none⟩) (cell_lt a1)).trans a1
  have a2' := (hB0.cell (p := ⟨B, s * 3 + 2, none⟩) (cell_lt a2)).trans a2
  have g1 : decide ((s : Int) < 0) = false := by simp
  have g2 : decide ((m : Int) ≤ (s : Int)) = false := by simp; omega
  have g3 : decide (b < 1) = false := by simp; omega
  have i0 : (0 : Int) ≤ (s : Int) := by omega
  have i1 : (s : Int) < (m : Int) := by omega
  have HACC := Lib.hid hacc
  have HFR := Lib.hid hfr
  obtain ⟨pr, p', hpr⟩ : ∃ (pr : Bool) (p' : Int), decide (p < b) = pr ∧ (if p < b then b else p) = p' := ⟨_, _, rfl, rfl⟩
  have hno2 : pr = false ∨ (pr = true ∧ (x.toList == []) = false) := by
    rw [← hpr.1]
    by_cases h9 : p < b
    · rcases hno with h8 | h8
      · exact absurd h9 (by show ¬ p < b; have : b ≤ p := h8; omega)
      · exact .inr ⟨decide_eq_true h9, h8⟩
    · exact .inl (decide_eq_false h9)
  have HPR := Lib.hid hpr
  clear h hacc hfr hpr hno
  go_enter Tryz.func61, Tryz.ntmps61
  go_wp2_with fail
  go_quiet (fail)
  go_wp2_with fail
  go_quiet (fail)
  go_wp2_with fail
  generalize hW : World.drewN (w.alloc (.cells #[.int .i64 1, .int .i64 s, .int .i64 b, .string x] 68)) _ = W0
  have hW1 : Below w.heap.size w W0 := by rw [← hW]; exact below_drewN hB0
  have hW2 : W0.heap.size = w.heap.size + 1 := by rw [← hW]; simp
  have hW3 : W0.heap[w.heap.size]? = some (.cells #[.int .i64 1, .int .i64 s, .int .i64 b, .string x] 68 (0, 0)) := by rw [← hW]; exact heap_alloc_new w _
  obtain ⟨e0, e1, e2, e3⟩ := open4 hW3
  have A0 := (hW1.cell (p := ⟨B, s * 3, none⟩) (cell_lt a0)).trans a0
  have A1 := (hW1.cell (p := ⟨B, s * 3 + 1, none⟩) (cell_lt a1)).trans a1
  have A2 := (hW1.cell (p := ⟨B, s * 3 + 2, none⟩) (cell_lt a2)).trans a2
  have KS : Hid (∀ x : World, Below W0.heap.size W0 x → x.cell? ⟨B, s * 3, none⟩ = some (.int .i64 p) ∧ x.cell? ⟨B, s * 3 + 1, none⟩ = some (.int .i64 q) ∧ x.cell? ⟨B, s * 3 + 2, none⟩ = some (.string v) ∧ x.cell? ⟨w.heap.size, 2, none⟩ = some (.int .i64 b)) := Lib.hid (fun x hx => ⟨(hx.cell (p := ⟨B, s * 3, none⟩) (cell_lt A0)).trans A0, (hx.cell (p := ⟨B, s * 3 + 1, none⟩) (cell_lt A1)).trans A1, (hx.cell (p := ⟨B, s * 3 + 2, none⟩) (cell_lt A2)).trans A2, (hx.cell (p := ⟨w.heap.size, 2, none⟩) (cell_lt e2)).trans e2⟩)
  have HP2 : Hid (∀ x : World, Below W0.heap.size W0 x → Calls Tryz.prog 92 #[.agg #[.int .i64 p, .int .i64 q, .string v], .int .i64 b] x fun e w3 => e = .returned (.tuple #[.agg #[.int .i64 p', .int .i64 q, .string v], .bool pr]) ∧ Below W0.heap.size W0 w3 ∧ ∀ ob, x.heap[W0.heap.size]? = some ob → w3.heap[W0.heap.size]? = some ob) := Lib.hid (fun x hx => (promise_c p q v b x).mono fun e w3 ⟨h1, h2⟩ => ⟨by rw [h1, HPR.out.1, HPR.out.2], Below.next hx h2, fun ob ho => heap_below h2 ho⟩)
  have HW1 := Lib.hid hW1
  have HW2 := Lib.hid hW2
  have HE := Lib.hid hW3
  clear hW hW1 hW2 hW3 hB0 r0' r1' r2' a0' a1' a2' r0 r1 r2 r3 a0 a1 a2 g1 g2 g3 i0 i1 e0 e1 e3
  go_region_held3 (fun w' => w'.cell? ⟨B, s * 3, none⟩ = some (.int .i64 p) ∧ w'.cell? ⟨B, s * 3 + 1, none⟩ = some (.int .i64 q) ∧ w'.cell? ⟨B, s * 3 + 2, none⟩ = some (.string v) ∧ w'.cell? ⟨w.heap.size, 2, none⟩ = some (.int .i64 b))
    (exact KS.out _ (by (repeat (first | with_reducible exact Below.refl _ _ | with_reducible exact hb3 | with_reducible refine below_drew ?_ | with_reducible refine Below.alloc ?_ ?_ _ | with_reducible refine Below.setCell ?_ ?_ _ | exact Nat.le_refl _ | exact hb3.size))))
    ((go_at_call 92; (refine (HP2.out _ (by (first | with_reducible exact below_drew (Below.refl _ _) | with_reducible exact below_drew (blA _ _)))).mono ?_); (rintro e w3 ⟨rfl, hb3, hx⟩; first | (have hx2 := hx _ (heap_alloc_new W0 _); obtain ⟨⟨x0, x1, x2⟩, y0, y1, y2⟩ := open3 hx2; clear hx) | (clear hx))))
  all_goals
    have hN : ∃ (W1 : World) (Bx : Nat), True := ⟨w3, 0, trivial⟩
    first
    | (have hWb := ((hb3.setCell (p := ⟨W0.heap.size, 0, none⟩) (Nat.le_refl _) (.int .i64 p')).setCell (p := ⟨W0.heap.size, 1, none⟩) (Nat.le_refl _) (.int .i64 q)).setCell (p := ⟨W0.heap.size, 2, none⟩) (Nat.le_refl _) (.string v)
       have hWn : ((((w3.setCell ⟨W0.heap.size, 0, none⟩ (.int .i64 p')).setCell ⟨W0.heap.size, 1, none⟩ (.int .i64 q)).setCell ⟨W0.heap.size, 2, none⟩ (.string v)).heap[W0.heap.size]? = some (.cells #[.int .i64 p', .int .i64 q, .string v] 149 (0, 0))) := heap_set_at (heap_set_at (heap_set_at hx2 0 (.int .i64 p')) 1 (.int .i64 q)) 2 (.string v)
       have hBx : W0.heap.size ≤ W0.heap.size := Nat.le_refl _
       generalize World.setCell (World.setCell (World.setCell w3 ⟨W0.heap.size, 0, none⟩ (.int .i64 p')) ⟨W0.heap.size, 1, none⟩ (.int .i64 q)) ⟨W0.heap.size, 2, none⟩ (.string v) = W1 at hWb hWn ⊢
       generalize hBe : W0.heap.size = Bx at hWn ⊢
       have hBx : W0.heap.size ≤ Bx := Nat.le_of_eq hBe
       clear hBe)
    | (have hWb := hb3.alloc hb3.size (.cells #[.int .i64 p', .int .i64 q, .string v] 149)
       have hWn := heap_alloc_new w3 (.cells #[.int .i64 p', .int .i64 q, .string v] 149)
       have hBx : W0.heap.size ≤ w3.heap.size := hb3.size
       generalize World.alloc w3 (.cells #[.int .i64 p', .int .i64 q, .string v] 149) = W1 at hWb hWn ⊢
       generalize w3.heap.size = Bx at hWn hBx ⊢)
    have hbox := heap_below hWb HE.out
    obtain ⟨E0, E1, E2, E3⟩ := open4 hbox
    have HWb := Lib.hid hWb
    clear hWb hWn hbox E0 E1 E2
    rcases hno2 with hq | ⟨hq, hq2⟩
    all_goals
      subst hq
      go_wp2_with fail
      go_ret
      exact ⟨rfl, Below.next HW1.out HWb.out⟩

/- an acceptance that is refused -/
set_option maxRecDepth 100000 in
set_option maxHeartbeats 8000000 in
theorem addn2_c (read : List (BitVec 16)) (ra : Option Addr) (rn rc : Nat) (B m cnt : Nat) (st : St) (f : Lit → Option Value) (s : Nat) (b : Int) (x : ByteArray) (hs : s < m) (hb : 1 ≤ b) (hw : (Lit.int .i64 b).wf = true) (hm : m ≤ 12) (hno : ((accpB (atS st.acc s) b && !emB x) && okP (valP read st b) x) = false) (w : World) (hr : Rd w ra rn rc (read.map setV2)) (h : StM w B m cnt (.slice ra rn rc) st f) :
    Calls Tryz.prog 61 #[.pointer (some ⟨B + 3, 0, none⟩), .agg #[.int .i64 2, .int .i64 s, .int .i64 b, .string x]] w fun e w' => e = .returned (.bool false) ∧ Below w.heap.size w w' := by
  obtain ⟨r0, r1, r2, r3⟩ := open4 h.run
  obtain ⟨⟨a0, a1, a2⟩, hfr⟩ := acc_cells h.acc (s := s) (by rw [h.len]; exact hs)
  obtain ⟨⟨p, q, v⟩, hacc⟩ : ∃ a, atS st.acc s = a := ⟨_, rfl⟩
  rw [hacc] at a0 a1 a2 hno
  obtain ⟨⟨u, fr, ok⟩, hvp⟩ : ∃ y, valP read st b = y := ⟨_, rfl⟩
  rw [hvp] at hno
  obtain ⟨is, p', q', v', his⟩ : ∃ (is : Bool) (p' q' : Int) (v' : ByteArray), decide (1 ≤ b ∧ p ≤ b) = is ∧ (if 1 ≤ b ∧ p ≤ b then Value.agg #[.int .i64 b, .int .i64 b, .string x] else .agg #[.int .i64 p, .int .i64 q, .string v]) = .agg #[.int .i64 p', .int .i64 q', .string v'] := by
    by_cases h9 : 1 ≤ b ∧ p ≤ b
    · exact ⟨_, _, _, _, rfl, if_pos h9⟩
    · exact ⟨_, _, _, _, rfl, if_neg h9⟩
  have hno2 : ok = false ∨ (ok = true ∧ (is = false ∨ (is = true ∧ ((x.toList == []) = true ∨ ((x.toList == []) = false ∧ fr = false ∧ (u.toList == x.toList) = false))))) := by
    rw [← his.1]
    unfold okP accpB emB at hno
    cases ok
    · exact .inl rfl
    · refine .inr ⟨rfl, ?_⟩
      by_cases h9 : 1 ≤ b ∧ p ≤ b
      · refine .inr ⟨decide_eq_true h9, ?_⟩
        cases hq : (x.toList == [])
        · refine .inr ⟨rfl, ?_⟩
          rw [hq] at hno
          have e1 : decide (1 ≤ b) = true := decide_eq_true h9.1
          have e2 : decide (p ≤ b) = true := decide_eq_true h9.2
          simp only [e1, e2] at hno
          cases fr
          · exact ⟨rfl, by simpa using hno⟩
          · simp at hno
        · exact .inl rfl
      · exact .inl (decide_eq_false h9)
  have HV : Hid (∀ w' : World, Below w.heap.size w w' → Calls Tryz.prog 93 #[.pointer (some ⟨B + 3, 0, none⟩), .int .i64 b] w' fun e w2 => e = Ending.returned (.tuple #[.string u, .bool fr, .bool ok]) ∧ Below w'.heap.size w' w2) := Lib.hid (fun w' h1 => (value_c read ra rn rc B m cnt st f b hw w' (hr.below h1) (h.below h1)).mono fun e w2 ⟨h2, h3⟩ => ⟨by rw [h2, hvp], h3⟩)
  have H := Lib.hid h
  have hB0 := blA w (.cells #[.int .i64 2, .int .i64 s, .int .i64 b, .string x] 68)
  have r1' := (hB0.cell (p := ⟨B + 3, 1, none⟩) (cell_lt r1)).trans r1
  have g1 : decide ((s : Int) < 0) = false := by simp
  have g2 : decide ((m : Int) ≤ (s : Int)) = false := by simp; omega
  have g3 : decide (b < 1) = false := by simp; omega
  have i0 : (0 : Int) ≤ (s : Int) := by omega
  have i1 : (s : Int) < (m : Int) := by omega
  have HACC := Lib.hid hacc
  have HW := Lib.hid hw
  have HIS := Lib.hid his
  clear h hacc hfr hw hvp hno hr his
  go_enter Tryz.func61, Tryz.ntmps61
  go_wp2_with fail
  go_quiet (fail)
  go_wp2_with fail
  go_quiet (fail)
  go_wp2_with fail
  generalize hW : World.drewN (w.alloc (.cells #[.int .i64 2, .int .i64 s, .int .i64 b, .string x] 68)) _ = W0
  have hW1 : Below w.heap.size w W0 := by rw [← hW]; exact below_drewN hB0
  have hW2 : W0.heap.size = w.heap.size + 1 := by rw [← hW]; simp
  have hW3 : W0.heap[w.heap.size]? = some (.cells #[.int .i64 2, .int .i64 s, .int .i64 b, .string x] 68 (0, 0)) := by rw [← hW]; exact heap_alloc_new w _
  obtain ⟨e0, e1, e2, e3⟩ := open4 hW3
  have HW1 := Lib.hid hW1
  have HW2 := Lib.hid hW2
  have HE := Lib.hid hW3
  clear hW hW1 hW2 hW3 hB0 r1' r0 r1 r2 r3 g1 g2 g3 i0 i1
  refine (HV.out _ HW1.out).mono ?_
  rintro e W2 ⟨rfl, hb2⟩
  have HB2 := Lib.hid hb2
  have A0 := (hb2.cell (p := ⟨B, s * 3, none⟩) (cell_lt ((HW1.out.cell (p := ⟨B, s * 3, none⟩) (cell_lt a0)).trans a0))).trans ((HW1.out.cell (p := ⟨B, s * 3, none⟩) (cell_lt a0)).trans a0)
  have A1 := (hb2.cell (p := ⟨B, s * 3 + 1, none⟩) (cell_lt ((HW1.out.cell (p := ⟨B, s * 3 + 1, none⟩) (cell_lt a1)).trans a1))).trans ((HW1.out.cell (p := ⟨B, s * 3 + 1, none⟩) (cell_lt a1)).trans a1)
  have A2 := (hb2.cell (p := ⟨B, s * 3 + 2, none⟩) (cell_lt ((HW1.out.cell (p := ⟨B, s * 3 + 2, none⟩) (cell_lt a2)).trans a2))).trans ((HW1.out.cell (p := ⟨B, s * 3 + 2, none⟩) (cell_lt a2)).trans a2)
  have HE2 := Lib.hid (heap_below hb2 HE.out)
  obtain ⟨_, _, E2, E3⟩ := open4 HE2.out
  have HW12 := Lib.hid (Below.next HW1.out hb2)
  have HSZ2 : Hid (w.heap.size < W2.heap.size) := Lib.hid (by have := hb2.size; have := HW2.out; omega)
  clear hb2 e0 e1 e2 e3 a0 a1 a2 HV
  go_wp2_with fail
  have KS : Hid (∀ y : World, Below W2.heap.size W2 y → y.cell? ⟨B, s * 3, none⟩ = some (.int .i64 p) ∧ y.cell? ⟨B, s * 3 + 1, none⟩ = some (.int .i64 q) ∧ y.cell? ⟨B, s * 3 + 2, none⟩ = some (.string v) ∧ y.cell? ⟨w.heap.size, 2, none⟩ = some (.int .i64 b) ∧ y.cell? ⟨w.heap.size, 3, none⟩ = some (.string x)) := Lib.hid (fun y hy => ⟨(hy.cell (p := ⟨B, s * 3, none⟩) (cell_lt A0)).trans A0, (hy.cell (p := ⟨B, s * 3 + 1, none⟩) (cell_lt A1)).trans A1, (hy.cell (p := ⟨B, s * 3 + 2, none⟩) (cell_lt A2)).trans A2, (hy.cell (p := ⟨w.heap.size, 2, none⟩) (cell_lt E2)).trans E2, (hy.cell (p := ⟨w.heap.size, 3, none⟩) (cell_lt E3)).trans E3⟩)
  have HP2 : Hid (∀ y : World, Below W2.heap.size W2 y → Calls Tryz.prog 94 #[.agg #[.int .i64 p, .int .i64 q, .string v], .int .i64 b, .string x] y fun e w3 => e = .returned (.tuple #[.agg #[.int .i64 p', .int .i64 q', .string v'], .bool is]) ∧ Below W2.heap.size W2 w3 ∧ ∀ ob, y.heap[W2.heap.size]? = some ob → w3.heap[W2.heap.size]? = some ob) := Lib.hid (fun y hy => (accept_c p q v b x y).mono fun e w3 ⟨h1, h2⟩ => ⟨by rw [h1, HIS.out.1, HIS.out.2], Below.next hy h2, fun ob ho => heap_below h2 ho⟩)
  go_region_held3 (fun w' => w'.cell? ⟨B, s * 3, none⟩ = some (.int .i64 p) ∧ w'.cell? ⟨B, s * 3 + 1, none⟩ = some (.int .i64 q) ∧ w'.cell? ⟨B, s * 3 + 2, none⟩ = some (.string v) ∧ w'.cell? ⟨w.heap.size, 2, none⟩ = some (.int .i64 b) ∧ w'.cell? ⟨w.heap.size, 3, none⟩ = some (.string x))
    (exact KS.out _ (by (repeat (first | with_reducible exact Below.refl _ _ | with_reducible exact hb3 | with_reducible refine below_drew ?_ | with_reducible refine Below.alloc ?_ ?_ _ | with_reducible refine Below.setCell ?_ ?_ _ | exact Nat.le_refl _ | exact hb3.size))))
    ((go_at_call 94; (refine (HP2.out _ (by (first | with_reducible exact below_drew (Below.refl _ _) | with_reducible exact below_drew (blA _ _)))).mono ?_); (rintro e w3 ⟨rfl, hb3, hx⟩; first | (have hx2 := hx _ (heap_alloc_new W2 _); obtain ⟨⟨x0, x1, x2⟩, y0, y1, y2⟩ := open3 hx2; clear hx) | (clear hx))))
  all_goals
    first
    | (have hWb := ((hb3.setCell (p := ⟨W2.heap.size, 0, none⟩) (Nat.le_refl _) (.int .i64 p')).setCell (p := ⟨W2.heap.size, 1, none⟩) (Nat.le_refl _) (.int .i64 q')).setCell (p := ⟨W2.heap.size, 2, none⟩) (Nat.le_refl _) (.string v')
       have hWn : ((((w3.setCell ⟨W2.heap.size, 0, none⟩ (.int .i64 p')).setCell ⟨W2.heap.size, 1, none⟩ (.int .i64 q')).setCell ⟨W2.heap.size, 2, none⟩ (.string v')).heap[W2.heap.size]? = some (.cells #[.int .i64 p', .int .i64 q', .string v'] 149 (0, 0))) := heap_set_at (heap_set_at (heap_set_at hx2 0 (.int .i64 p')) 1 (.int .i64 q')) 2 (.string v')
       have hBx : W2.heap.size ≤ W2.heap.size := Nat.le_refl _
       generalize World.setCell (World.setCell (World.setCell w3 ⟨W2.heap.size, 0, none⟩ (.int .i64 p')) ⟨W2.heap.size, 1, none⟩ (.int .i64 q')) ⟨W2.heap.size, 2, none⟩ (.string v') = W1 at hWb hWn ⊢
       generalize hBe : W2.heap.size = Bx at hWn ⊢
       have hBx : W2.heap.size ≤ Bx := Nat.le_of_eq hBe
       clear hBe)
    | (have hWb := hb3.alloc hb3.size (.cells #[.int .i64 p', .int .i64 q', .string v'] 149)
       have hWn := heap_alloc_new w3 (.cells #[.int .i64 p', .int .i64 q', .string v'] 149)
       have hBx : W2.heap.size ≤ w3.heap.size := hb3.size
       generalize World.alloc w3 (.cells #[.int .i64 p', .int .i64 q', .string v'] 149) = W1 at hWb hWn ⊢
       generalize w3.heap.size = Bx at hWn hBx ⊢)
    have hbox := heap_below hWb HE2.out
    obtain ⟨E0, E1, E2, E3⟩ := open4 hbox
    have HWb := Lib.hid hWb
    clear hWb hWn hbox E0 E1 E2
    rcases hno2 with hq | ⟨hq, hq2 | ⟨hq2, hq3 | ⟨hq3, hq4, hq5⟩⟩⟩
    all_goals
      subst hq
      try subst hq2
      try subst hq4
      go_wp2_with fail
      go_ret
      exact ⟨rfl, Below.next HW12.out HWb.out⟩
end Go.Proofs.YtmjgdnpfgkpaoaaGreatDoor
namespace Go.Proofs.YtmjgdnpfgkpaoaaGreatDoor
open Go.RowKit Go.Shelf

def noB : ByteArray := ⟨#[]⟩
theorem pickS_inv {read : List (BitVec 16)} {b : Int} {l : List Rep} (hb : 1 ≤ b) (h : invR b 0#16 l = true) : pickS read b l = (⟨#[]⟩, 1) := by
  unfold pickS; rw [if_neg (by omega), if_pos h]
theorem pickS_state {read : List (BitVec 16)} {b : Int} {l : List Rep} (hb : 1 ≤ b) (h : invR b 0#16 l = false) (ha : accS read (seenR l) = false) : pickS read b l = (⟨#[]⟩, 10) := by
  unfold pickS; rw [if_neg (by omega), if_neg (by rw [h]; decide), if_pos ha]
theorem pickS_none {read : List (BitVec 16)} {b : Int} {l : List Rep} (hb : 1 ≤ b) (h : invR b 0#16 l = false) (ha : accS read (seenR l) = true) (h0 : (bestR l).1 = 0) : pickS read b l = (⟨#[]⟩, 4) := by
  unfold pickS; rw [if_neg (by omega), if_neg (by rw [h]; decide), if_neg (by rw [ha]; decide), if_pos h0]
theorem pickS_some {read : List (BitVec 16)} {b : Int} {l : List Rep} (hb : 1 ≤ b) (h : invR b 0#16 l = false) (ha : accS read (seenR l) = true) (h0 : (bestR l).1 ≠ 0) : pickS read b l = ((bestR l).2, 0) := by
  unfold pickS; rw [if_neg (by omega), if_neg (by rw [h]; decide), if_neg (by rw [ha]; decide), if_neg h0]

end Go.Proofs.YtmjgdnpfgkpaoaaGreatDoor
namespace Go.Proofs.YtmjgdnpfgkpaoaaGreatDoor
open Go.RowKit Go.Shelf

theorem step_le {p : Int × ByteArray} {r : Rep} (h : r.ballot ≤ p.1) : stepR p r = p := by unfold stepR; rw [if_neg (by omega)]
theorem step_gt {p : Int × ByteArray} {r : Rep} (h : p.1 < r.ballot) : stepR p r = (r.ballot, r.value) := by unfold stepR; rw [if_pos h]

end Go.Proofs.YtmjgdnpfgkpaoaaGreatDoor
namespace Go.Proofs.YtmjgdnpfgkpaoaaGreatDoor
open Go.RowKit Go.Shelf

theorem ev_ne {p q : Ev} (h : p ≠ q) : (p.kind == q.kind) = false ∨ ((p.kind == q.kind) = true ∧ (p.server == q.server) = false) ∨ ((p.kind == q.kind) = true ∧ (p.server == q.server) = true ∧ (p.ballot == q.ballot) = false) ∨
    ((p.kind == q.kind) = true ∧ (p.server == q.server) = true ∧ (p.ballot == q.ballot) = true ∧ (p.value.toList == q.value.toList) = false) := by
  obtain ⟨a, b, c, d⟩ := p
  obtain ⟨a', b', c', d'⟩ := q
  simp only
  cases h1 : (a == a')
  · exact .inl rfl
  · cases h2 : (b == b')
    · exact .inr (.inl ⟨rfl, rfl⟩)
    · cases h3 : (c == c')
      · exact .inr (.inr (.inl ⟨rfl, rfl, rfl⟩))
      · refine .inr (.inr (.inr ⟨rfl, rfl, rfl, ?_⟩))
        have e1 := eq_of_beq h1; have e2 := eq_of_beq h2; have e3 := eq_of_beq h3
        subst e1 e2 e3
        rw [ByteArray.toList_eq, ByteArray.toList_eq]
        refine beq_eq_false_iff_ne.2 (fun e => h ?_)
        have : d = d' := ByteArray.ext (Array.toList_inj.1 e)
        rw [this]
theorem same_at {α : Type} [DecidableEq α] {l m : List α} {k : Nat} (hl : l.length = m.length) {x y : α} (hx : l[k]? = some x) (hy : m[k]? = some y) (h : l.take k = m.take k) :
    (x = y → l.take (k + 1) = m.take (k + 1)) ∧ (x ≠ y → l ≠ m) := by
  constructor
  · rintro rfl; rw [List.take_add_one, List.take_add_one, hx, hy, h]
  · rintro hne rfl; rw [hx] at hy; cases hy; exact hne rfl

end Go.Proofs.YtmjgdnpfgkpaoaaGreatDoor
namespace Go.Proofs.YtmjgdnpfgkpaoaaGreatDoor
open Go.RowKit Go.Shelf

def twoS : List (BitVec 16) := [3#16, 5#16, 6#16]
def rep1 : Rep := ⟨0, 1, ⟨#[120]⟩⟩
def rep2 : Rep := ⟨2, 2, ⟨#[121]⟩⟩
def evs6 : List Ev := [⟨1, 0, 1, ⟨#[]⟩⟩, ⟨2, 1, 1, ⟨#[118, 49]⟩⟩, ⟨2, 2, 1, ⟨#[118, 49]⟩⟩, ⟨1, 0, 2, ⟨#[]⟩⟩, ⟨2, 1, 2, ⟨#[118, 50]⟩⟩, ⟨2, 2, 2, ⟨#[118, 50]⟩⟩]
theorem ex_pick1 : pickS twoS 3 [rep1, rep2] = (⟨#[121]⟩, 0) := by decide +kernel
theorem ex_pick2 : pickS twoS 3 [rep1] = (⟨#[]⟩, 10) := by decide +kernel
theorem ex_att : attS [1#16] [6#16] 3 = (evs6, 0) := by
  have h1 : chkS 3 [[1#16], [6#16]] = 0 := by decide +kernel
  have h2 : disS [1#16] [6#16] = some (1#16, 6#16) := by decide +kernel
  have m1 : memS 1#16 = [0] := by decide +kernel
  have m6 : memS 6#16 = [1, 2] := by decide +kernel
  have v1 : valB 1 = ⟨#[118, 49]⟩ := by unfold valB; rw [Lib.decDigits_one (by decide)]; rfl
  have v2 : valB 2 = ⟨#[118, 50]⟩ := by unfold valB; rw [Lib.decDigits_one (by decide)]; rfl
  unfold attS
  rw [if_neg (by rw [h1]; decide), h2]
  show (atkTo 1#16 1#16 6#16 2, (0 : Int)) = _
  unfold atkTo blkS evP evA evs6
  rw [m1, m6, v1, v2]; rfl

end Go.Proofs.YtmjgdnpfgkpaoaaGreatDoor
namespace Go.Proofs.YtmjgdnpfgkpaoaaGreatDoor
open Go.RowKit Go.ChangeShapes Go.WideShapes Go.Deep

section
variable {H : Type} {enc : TypeId × Value → H} {P : Program} {w : World} {base : Nat} {spare : Nat → Bool} {held : Bool}
theorem open_slice_fields {t e : TypeId} {fs : Array Field} {fuel : Nat} {cs : List Value} {x : DataW H × List MemPlace} (ht : P.underlying t = some (.slice e)) (he : P.underlying e = some (.struct fs))
    (hone : oneCellFields P fs = true) (hC : P.cellsOf e = fs.size) (h : DataW.trod enc P w base spare held fuel t cs = some x) :
    (cs = [.slice none 0 0] ∧ x = (.nil, [])) ∨
    ∃ (a : Addr) (len cap m : Nat) (D : Nat → DataW H) (Pl : Nat → List MemPlace), cs = [.slice (some a) len cap] ∧ base ≤ a.block ∧ len ≤ cap ∧ cap ≤ maxLen ∧ m = (if spare a.block then cap else len) ∧
      x = (.slice ((List.range len).map D) ((List.range (m - len)).map fun j => D (len + j)), MemPlace.row a (m * fs.size) ++ (List.range m).flatMap Pl) ∧
      ∀ i, i < m → ∃ (ys : List (DataW H × List MemPlace)) (n : Nat), D i = .agg (ys.map (·.1)) ∧ Pl i = ys.flatMap (·.2) ∧ ys.length = fs.size ∧
        ∀ (j : Nat) (f : Field), fs[j]? = some f → ∃ (v : Value) (y : DataW H × List MemPlace), w.cell? (a.add (i * fs.size + j)) = some v ∧ ys[j]? = some y ∧ DataW.trod enc P w base spare held n f.type [v] = some y := by
  rcases open_slice ht h with h0 | ⟨a, len, cap, m, n, D, Pl, hcs, hb, hl, hm, hmm, hx, hi⟩
  · exact .inl h0
  · refine .inr ⟨a, len, cap, m, D, Pl, hcs, hb, hl, hm, hmm, by rw [hC] at hx; exact hx, fun i him => ?_⟩
    obtain ⟨cs', hc, ht'⟩ := hi i him
    rw [hC] at hc
    obtain ⟨ys, n', hn', hy, hlen, hyl, hf⟩ := DataW.trod_struct he ht'
    obtain ⟨_, hcl, hat⟩ := World.cells?_some hc
    simp only [Prod.mk.injEq] at hy
    refine ⟨ys, n', hy.1, hy.2, hyl, fun j f hj => ?_⟩
    obtain ⟨ho, hk⟩ := hone_of hone j f hj
    have hjl : j < fs.size := (Array.getElem?_eq_some_iff.1 hj).1
    have hcell := hat j hjl
    have hv : cs'[j]? = some (cs'[j]'(by omega)) := List.getElem?_eq_getElem (by omega)
    have h1 := hf j f hj
    rw [ho, hk] at h1
    have hone' : (cs'.drop j).take 1 = [cs'[j]'(by omega)] := by
      rw [List.drop_eq_getElem_cons (by omega)]
      rfl
    rw [hone'] at h1
    have hys : ys[j]? = some (ys[j]'(by omega)) := List.getElem?_eq_getElem (by omega)
    refine ⟨_, _, ?_, hys, h1.trans hys⟩
    rw [← Go.Deep.add_add, hcell, hv]
end

theorem list_of {α : Type} {Q : Nat → α → Prop} : ∀ n, (∀ i, i < n → ∃ r, Q i r) → ∃ L : List α, L.length = n ∧ ∀ i r, L[i]? = some r → Q i r := by
  intro n
  induction n with
  | zero => intro _; exact ⟨[], rfl, fun i r h => by simp at h⟩
  | succ n ih =>
    intro h
    obtain ⟨L, hl, hL⟩ := ih (fun i hi => h i (by omega))
    obtain ⟨r, hr⟩ := h n (by omega)
    refine ⟨L ++ [r], by simp [hl], fun i q hq => ?_⟩
    by_cases hi : i < n
    · rw [List.getElem?_append_left (by omega)] at hq; exact hL i q hq
    · have := (List.getElem?_eq_some_iff.1 hq).1
      simp at this
      obtain rfl : i = n := by omega
      rw [List.getElem?_append_right (by omega), hl, Nat.sub_self] at hq
      cases hq; exact hr

theorem addr_plain {W : World} {a : Addr} {v : Value} (h : W.cell? (a.add 0) = some v) : a = ⟨a.block, a.off, none⟩ := by
  have : a.add 0 = a := by simp [Addr.add]
  rw [this] at h
  unfold World.cell? at h
  cases hs : a.spot with
  | none => cases a; simp_all
  | some s => rw [hs] at h; split at h <;> simp at h

/-- elements of k cells out of their cells -/
theorem rdK_of {α : Type} (k : Nat) (hk0 : 0 < k) (enc : α → List Value) (hk : ∀ x, (enc x).length = k) {W : World} {a : Addr} {len cap : Nat} (hl : len ≤ cap) (hm : cap ≤ maxLen) (L : List α) (hn : L.length = len)
    (h : ∀ i x, L[i]? = some x → ∀ j, j < k → W.cell? (a.add (i * k + j)) = (enc x)[j]?) : RdK k W (some a) len cap (L.flatMap enc) := by
  refine ⟨by rw [flat_len k enc hk, hn], hl, hm, fun h => (by cases h), fun hn0 => ?_⟩
  obtain ⟨x0, hx0⟩ : ∃ x, L[0]? = some x := ⟨_, List.getElem?_eq_getElem (by omega)⟩
  have h0 := h 0 x0 hx0 0 hk0
  rw [Nat.zero_mul, Nat.zero_add, List.getElem?_eq_getElem (by rw [hk]; exact hk0)] at h0
  have ha := addr_plain h0
  refine ⟨a.block, a.off, by rw [← ha], fun i v hv => ?_⟩
  have hi := (List.getElem?_eq_some_iff.1 hv).1
  rw [flat_len k enc hk, hn] at hi
  have hq : i / k < len := Nat.div_lt_of_lt_mul (by rw [Nat.mul_comm]; exact hi)
  obtain ⟨x, hx⟩ : ∃ x, L[i / k]? = some x := ⟨_, List.getElem?_eq_getElem (by omega)⟩
  have hmod := Nat.mod_lt i hk0
  have h1 := h (i / k) x hx (i % k) hmod
  have h2 := flat_at k enc hk L (i / k) (i % k) x hx hmod
  have e : i / k * k + i % k = i := by rw [Nat.mul_comm]; exact Nat.div_add_mod i k
  rw [e] at h1 h2
  rw [hv] at h2
  rw [ha, Addr.add_lit] at h1
  rw [h1, ← h2]

def IsReps (W : World) (a : Option Addr) (n c : Nat) (L : List Rep) : Prop := RdK 3 W a n c (L.flatMap repC) ∧ ∀ r ∈ L, r.value.size ≤ maxLen
theorem open_reps {H : Type} {enc : TypeId × Value → H} {w : World} {base : Nat} {spare : Nat → Bool} {held : Bool} {fuel : Nat} {cs : List Value} {x : DataW H × List MemPlace} (h : DataW.trod enc Tryz.prog w base spare held fuel 156 cs = some x) :
    ∃ a n c L, cs = [.slice a n c] ∧ IsReps w a n c L := by
  rcases open_slice_fields Tryz.underlying156 Tryz.underlying158 (by kernel_rfl) (by kernel_rfl) h with ⟨hcs, _⟩ | ⟨a, len, cap, m, D, Pl, hcs, _, hl, hm, hmm, _, hi⟩
  · exact ⟨none, 0, 0, [], hcs, RdK.none_ _ _, fun r hr => by cases hr⟩
  · have hlm : len ≤ m := by rw [hmm]; split <;> omega
    obtain ⟨L, hL1, hL2⟩ := list_of (α := Rep) (Q := fun i r => (∀ j, j < 3 → w.cell? (a.add (i * 3 + j)) = (repC r)[j]?) ∧ r.value.size ≤ maxLen) len (fun i hil => by
      obtain ⟨ys, n, _, _, _, hf⟩ := hi i (by omega)
      obtain ⟨v0, y0, c0, _, t0⟩ := hf 0 _ rfl
      obtain ⟨v1, y1, c1, _, t1⟩ := hf 1 _ rfl
      obtain ⟨v2, y2, c2, _, t2⟩ := hf 2 _ rfl
      obtain ⟨z0, e0, _, _⟩ := DataW.trod_int Tryz.underlying3 t0
      obtain ⟨z1, e1, _, _⟩ := DataW.trod_int Tryz.underlying3 t1
      obtain ⟨z2, e2, _, hz2⟩ := DataW.trod_string Tryz.underlying9 t2
      cases e0; cases e1; cases e2
      refine ⟨⟨z0, z1, z2⟩, fun j hj => ?_, hz2⟩
      match j, hj with
      | 0, _ => exact c0
      | 1, _ => exact c1
      | 2, _ => exact c2)
    refine ⟨some a, len, cap, L, hcs, rdK_of 3 (by decide) repC repC_len hl hm L hL1 (fun i x hx j hj => (hL2 i x hx).1 j hj), fun r hr => ?_⟩
    obtain ⟨i, hi⟩ := List.mem_iff_getElem?.1 hr
    exact (hL2 i r hi).2
end Go.Proofs.YtmjgdnpfgkpaoaaGreatDoor
namespace Go.Proofs.YtmjgdnpfgkpaoaaGreatDoor
open Go.RowKit Go.Shelf

theorem sets_of {W : World} {a : Option Addr} {n c : Nat} {l : List Int} (h : IsInts .u16 W a n c l) : ∃ L : List (BitVec 16), Rd W a n c (L.map setV2) ∧ L.length = n := by
  have hr := h.rd
  have hw := h.wf
  have : ∃ L : List (BitVec 16), l = L.map U := by
    clear hr h
    induction l with
    | nil => exact ⟨[], rfl⟩
    | cons x l ih =>
      obtain ⟨L, rfl⟩ := ih (fun z hz => hw z (List.mem_cons_of_mem _ hz))
      obtain ⟨y, rfl⟩ : ∃ y, x = U y := by
        have h := hw x (by simp)
        apply U_of
        simp [Lit.wf, IntKind.min, IntKind.max, IntKind.bits, IntKind.signed] at h
        omega
      exact ⟨y :: L, rfl⟩
  obtain ⟨L, rfl⟩ := this
  refine ⟨L, by rw [List.map_map] at hr; exact hr, by have := h.len; simpa using this⟩

end Go.Proofs.YtmjgdnpfgkpaoaaGreatDoor
namespace Go.Proofs.YtmjgdnpfgkpaoaaGreatDoor
open Go.RowKit Go.Shelf

theorem Tryz.infoAcc : (Tryz.prog.info? 149).map (fun i => (i.zero, i.size, i.bytes)) = some (some (.agg #[.int .i64 0, .int .i64 0, .string ⟨#[]⟩]), 3, 32) := by kernel_rfl
theorem make_acc (m : Nat) (hm : m ≤ 1000000) : ∀ w, (Instr.makeSlice 143 (.int .i64 m) (.int .i64 m)).run Tryz.prog w = .ok (.slice (some ⟨w.heap.size, 0, none⟩) m m) (w.alloc (.cells (madeCells #[.int .i64 0, .int .i64 0, .string ⟨#[]⟩] (m * 3)) 149)) := by
  intro w
  obtain ⟨i, hi1, hi2, hi3, hi4⟩ := info_parts Tryz.infoAcc
  have := run_make (P := Tryz.prog) w 143 149 i _ Tryz.underlying143 hi1 hi2 .i64 .i64 m m (by omega) (Int.le_refl _) (by rw [hi4]; omega) (by omega)
  rw [hi3] at this
  simp only [Int.toNat_natCast] at this
  exact this

set_option maxRecDepth 100000 in
set_option maxHeartbeats 1000000 in
theorem begin_c (m : Nat) (hm : m ≤ 12) (a : Option Addr) (n c : Nat) (w : World) :
    Calls Tryz.prog 59 #[.slice a n c, .int .i64 m] w fun e w' => e = .returned (.pointer (some ⟨w.heap.size + 3, 0, none⟩)) ∧
      w' = (((w.alloc (.cells (madeCells #[.int .i64 0, .int .i64 0, .string ⟨#[]⟩] (m * 3)) 149)).alloc (.map #[] 0)).alloc (.map #[] 0)).alloc (.cells #[.slice a n c, .slice (some ⟨w.heap.size, 0, none⟩) m m, .map (some (w.heap.size + 1)), .map (some (w.heap.size + 2))] 147) := by
  have hmk := make_acc m (by omega)
  have hmm : ∀ (t : TypeId) (w : World), (Instr.makeMap t none).run Tryz.prog w = .ok (.map (some w.heap.size)) (w.alloc (.map #[] 0)) := fun _ _ => rfl
  go_enter Tryz.func59, Tryz.ntmps59
  go_wp2_with fail
  go_ret
  exact ⟨rfl, rfl⟩

theorem chk_out {nn : Int} {Ls : List (List (BitVec 16))} (h : nn < 1 ∨ 12 < nn) : chkS nn Ls = 7 := by unfold chkS; rw [if_pos h]
theorem sup_nil : supS [] = 0#16 := rfl
theorem chk_nil (nn : Int) (f : List (BitVec 16)) : chkS nn [f, []] = chkS nn [f] := by
  by_cases h : nn < 1 ∨ 12 < nn
  · rw [chk_out h, chk_out h]
  · obtain ⟨m, rfl⟩ := Int.eq_ofNat_of_zero_le (by omega : 0 ≤ nn)
    rw [chk2 m (by omega) (by omega)]
    have hv : valS [] = 0 := by decide +kernel
    have ho : offB m [] = false := by unfold offB; rw [sup_nil]; simp [shrS]
    have hz : hasZ [] = false := rfl
    unfold chkS
    rw [if_neg h]
    have hm : ((m : Nat) : Int).toNat = m := by omega
    have e : firstE (fun j => valS ([f].getD j [])) [f].length = valS f := by
      by_cases hf : valS f = 0
      · rw [hf]; exact firstE_none _ _ (fun j hj => by
          match j, hj with
          | 0, _ => exact hf)
      · exact firstE_hit (fun j => valS ([f].getD j [])) 1 0 (by decide) (fun j hj => by omega) hf
    rw [e, hv, ho, hz, hm]
    simp
theorem valS_kinds (l : List (BitVec 16)) : valS l = 0 ∨ valS l = 1 ∨ valS l = 3 ∨ valS l = 7 := by
  have hk : ∀ k, e1 l k = 0 ∨ e1 l k = 1 ∨ e1 l k = 7 := by
    intro k; unfold e1; split
    · exact .inr (.inr rfl)
    · split
      · exact .inr (.inl rfl)
      · exact .inl rfl
  have hf : firstE (e1 l) l.length = 0 ∨ firstE (e1 l) l.length = 1 ∨ firstE (e1 l) l.length = 7 := by
    unfold firstE
    cases h : ((List.range l.length).map (e1 l)).find? (fun x => x != 0) with
    | none => exact .inl rfl
    | some v =>
      have := List.mem_of_find?_eq_some h
      obtain ⟨j, _, rfl⟩ := List.mem_map.1 this
      exact hk j
  unfold valS
  split
  · exact .inr (.inr (.inl rfl))
  · split
    · rcases hf with h | h | h
      · rename_i _ h2; exact absurd h h2
      · exact .inr (.inl h)
      · exact .inr (.inr (.inr h))
    · split
      · exact .inr (.inl rfl)
      · exact .inl rfl
theorem chk1_kinds (nn : Int) (f : List (BitVec 16)) : chkS nn [f] ≠ 13 ∧ (valS f ≠ 0 → chkS nn [f] ≠ 0) := by
  rw [← chk_nil]
  by_cases h : nn < 1 ∨ 12 < nn
  · rw [chk_out h]; exact ⟨by decide, fun _ => by decide⟩
  · obtain ⟨m, rfl⟩ := Int.eq_ofNat_of_zero_le (by omega : 0 ≤ nn)
    rw [chk2 m (by omega) (by omega)]
    have hv : valS [] = 0 := by decide +kernel
    rw [hv]
    have hk := valS_kinds f
    constructor
    · split
      · omega
      · split
        · rename_i h; exact absurd rfl h
        · split
          · decide
          · split <;> decide
    · intro hf
      rw [if_pos hf]; exact hf

set_option maxRecDepth 100000 in
set_option maxHeartbeats 2000000 in
theorem run_err (read write : List (BitVec 16)) (nn : Int) (a : Option Addr) (n c : Nat) (a2 : Option Addr) (n2 c2 : Nat) (a3 : Option Addr) (n3 c3 : Nat) (w : World) (h : Rd w a n c (read.map setV2)) (h2 : Rd w a2 n2 c2 (write.map setV2)) (he : chkS nn [read, write] ≠ 0) :
    Calls Tryz.prog 21 #[.slice a n c, .slice a2 n2 c2, .int .i64 nn, .slice a3 n3 c3] w fun e w' => e = .returned (.tuple #[.slice none 0 0, .int .i64 (chkS nn [read, write])]) ∧ Below w.heap.size w w' := by
  have hb0 : Below w.heap.size w (w.alloc (.cells #[.slice a n c, .slice a2 n2 c2] 25)) := (Below.refl _ w).alloc (Nat.le_refl _) _
  have hss : RdSS (w.alloc (.cells #[.slice a n c, .slice a2 n2 c2] 25)) (some ⟨w.heap.size, 0, none⟩) 2 2 [read, write] := by
    refine ⟨[.slice a n c, .slice a2 n2 c2], Rd.lit _ _ _ 2 _ rfl rfl (by decide), rfl, fun i L hi => ?_⟩
    match i, hi with
    | 0, hi => cases hi; exact ⟨a, n, c, rfl, h.below hb0⟩
    | 1, hi => cases hi; exact ⟨a2, n2, c2, rfl, h2.below hb0⟩
    | i + 2, hi => simp at hi
  have HC := Lib.hid (check_c nn [read, write] _ 2 2 _ hss)
  have HB0 := Lib.hid hb0
  obtain ⟨v, hv⟩ : ∃ v, chkS nn [read, write] = v := ⟨_, rfl⟩
  have HV := Lib.hid hv
  rw [hv] at HC he
  have hv1 : (v != 0) = true := by simpa using he
  clear h h2 hss hb0 hv he
  go_enter Tryz.func21, Tryz.ntmps21
  go_wp2_with fail
  refine HC.out.mono ?_
  rintro e w1 ⟨rfl, hb1⟩
  have hb2 := Below.next HB0.out (by exact hb1)
  clear hb1
  go_wp2_with fail
  go_ret2
  exact ⟨by rw [HV.out]; rfl, hb2⟩

def or13 (e : Int) : Int := if e = 0 then 13 else e
set_option maxRecDepth 100000 in
set_option maxHeartbeats 2000000 in
theorem check_nil (read : List (BitVec 16)) (nn : Int) (a : Option Addr) (n c : Nat) (w : World) (h : Rd w a n c (read.map setV2)) :
    Calls Tryz.prog 26 #[.slice a n c, .int .i64 nn, .slice none 0 0] w fun e w' => e = .returned (.tuple #[.int .i64 0, .int .i64 (or13 (chkS nn [read]))]) ∧ Below w.heap.size w w' := by
  have hb0 : Below w.heap.size w (w.alloc (.cells #[.slice a n c] 25)) := (Below.refl _ w).alloc (Nat.le_refl _) _
  have hss : RdSS (w.alloc (.cells #[.slice a n c] 25)) (some ⟨w.heap.size, 0, none⟩) 1 1 [read] := by
    refine ⟨[.slice a n c], Rd.lit _ _ _ 1 _ rfl rfl (by decide), rfl, fun i L hi => ?_⟩
    match i, hi with
    | 0, hi => cases hi; exact ⟨a, n, c, rfl, h.below hb0⟩
    | i + 1, hi => simp at hi
  have HC := Lib.hid (check_c nn [read] _ 1 1 _ hss)
  have HB0 := Lib.hid hb0
  clear h hss hb0
  by_cases he : chkS nn [read] = 0
  · have hr : ¬ (nn < 1 ∨ 12 < nn) := fun h => by rw [chk_out h] at he; cases he
    obtain ⟨m, rfl⟩ := Int.eq_ofNat_of_zero_le (by omega : 0 ≤ nn)
    have hV : Hid (or13 (chkS m [read]) = 13) := by show _ = _; unfold or13; rw [if_pos he]
    have HG := Lib.hid (fun w => begin_c m (by omega) a n c w)
    rw [he] at HC
    clear he hr
    go_enter Tryz.func26, Tryz.ntmps26
    go_wp2_with fail
    refine HC.out.mono ?_
    rintro e w1 ⟨rfl, hb1⟩
    have hb2 := Below.next HB0.out (by exact hb1)
    clear hb1
    go_wp2_with fail
    refine (HG.out w1).mono ?_
    rintro e w2 ⟨rfl, hw2⟩
    have hb3 : Below w1.heap.size w1 w2 := by
      rw [hw2]
      exact ((((Below.refl _ w1).alloc (Nat.le_refl _) _).alloc (by simp) _).alloc (by simp; omega) _).alloc (by simp; omega) _
    have hb4 := Below.next hb2 hb3
    clear hw2 hb2 hb3
    go_wp2_with fail
    go_loop [24] (fun i => i = .int .i64 0) (fun i => 0)
    case atStart => rfl
    case round =>
      obtain rfl := hrel
      go_wp2_with fail
      go_ret2
      exact ⟨by rw [hV.out]; rfl, hb4⟩
  · have hV : Hid (or13 (chkS nn [read]) = chkS nn [read]) := by show _ = _; unfold or13; rw [if_neg he]
    obtain ⟨v, hv⟩ : ∃ v, chkS nn [read] = v := ⟨_, rfl⟩
    rw [hv] at HC he hV
    have HV := Lib.hid hv
    have hv1 : (v != 0) = true := by simpa using he
    clear hv he
    go_enter Tryz.func26, Tryz.ntmps26
    go_wp2_with fail
    refine HC.out.mono ?_
    rintro e w1 ⟨rfl, hb1⟩
    have hb2 := Below.next HB0.out (by exact hb1)
    clear hb1
    go_wp2_with fail
    go_ret2
    exact ⟨by rw [HV.out, hV.out]; rfl, hb2⟩

end Go.Proofs.YtmjgdnpfgkpaoaaGreatDoor
namespace Go.Proofs.YtmjgdnpfgkpaoaaGreatDoor
open Go.RowKit Go.Maps

def evV (e : Ev) : Value := .agg #[.int .i64 e.kind, .int .i64 e.server, .int .i64 e.ballot, .string e.value]
theorem repE_le (n : Nat) (l : List Ev) (b : Int) (k : Nat) : (repE n l b k).length ≤ 1 := by
  unfold repE
  split
  · split <;> simp
  · simp
theorem repS_le (n : Nat) (l : List Ev) (b : Int) : (repS n l b).length ≤ l.length := by
  unfold repS
  have : ∀ k, (repTo n l b k).length ≤ k := by
    intro k
    induction k with
    | zero => simp [repTo]
    | succ k ih => rw [repTo_succ, List.length_append]; have := repE_le n l b k; omega
  exact this _

theorem add_yes {read : List (BitVec 16)} {ra : Option Addr} {rn rc B m cnt : Nat} {l : List Ev} {f : Lit → Option Value} {e : Ev} (hm : m ≤ 12) (hi : Inv m l) (hl : l.length ≤ 1000) (hcnt : cnt ≤ 1000) (hw : (Lit.int .i64 e.ballot).wf = true) (hf : folS read m l e = true) (w : World) (hr : Rd w ra rn rc (read.map setV2)) (h : StM w B m cnt (.slice ra rn rc) (stOf m l) f) :
    Calls Tryz.prog 61 #[.pointer (some ⟨B + 3, 0, none⟩), evV e] w fun x w' => x = .returned (.bool true) ∧ Below B w w' ∧ ∃ f', StM w' B m (cnt + 1) (.slice ra rn rc) (stOf m (l ++ [e])) f' ∧ Frm B f f' w w' := by
  obtain ⟨hi2, hP⟩ := fol_step hm hi hf
  obtain ⟨k, s, b, x⟩ := e
  unfold folS at hf
  simp only at hf hw
  split at hf
  · cases hf
  · rename_i hr0
    obtain ⟨s', rfl⟩ := Int.eq_ofNat_of_zero_le (by omega : 0 ≤ s)
    have hs : s' < m := by omega
    have hb1 : 1 ≤ b := by omega
    have hc : ¬ ((s' : Int) < 0 ∨ (((stOf m l).acc.length : Nat) : Int) ≤ (s' : Int) ∨ b < 1) := by
      show ¬ ((s' : Int) < 0 ∨ ((repA m l).length : Int) ≤ (s' : Int) ∨ b < 1)
      rw [repA_len]; omega
    unfold addP at hP
    simp only at hP
    rw [if_neg hc] at hP
    split at hf
    · rename_i hk
      subst hk
      have hf0 := hf
      rw [Bool.and_eq_true] at hf
      rw [if_pos rfl, if_pos (by exact hf0)] at hP
      have hx : x = ⟨#[]⟩ := bs_ext (by have := hf.2; unfold emB at this; rw [eq_of_beq this]; decide +kernel)
      subst hx
      have hp : (atS (stOf m l).acc (s' : Int)).prom < b := by have := hf.1; unfold promB at this; show (atS (repA m l) (s' : Int)).prom < b; simpa using this
      injection hP with hP
      rw [← hP]
      exact add1_c B m cnt _ (stOf m l) f s' b hs hb1 hw hm hcnt (by have := repS_le m l b; show (repS m l b).length ≤ 1000; omega) hp w h
    · rename_i hk1
      split at hf
      · rename_i hk
        subst hk
        rw [Bool.and_eq_true, Bool.and_eq_true, Bool.not_eq_true'] at hf
        have hok : okP (valP read (stOf m l) b) x = true := by rw [okP_okD hi hb1]; exact hf.2
        rw [if_neg (by decide), if_pos rfl, if_pos (by rw [hok, Bool.and_true, Bool.and_eq_true, Bool.not_eq_true']; exact hf.1)] at hP
        have hp : (atS (stOf m l).acc (s' : Int)).prom ≤ b := by have := hf.1.1; unfold accpB at this; simp at this; exact this.2
        injection hP with hP
        rw [← hP]
        exact add2_c read ra rn rc B m cnt (stOf m l) f s' b x hs hb1 hw hm hcnt hp hf.1.2 hok w hr h
      · cases hf
theorem add_no {read : List (BitVec 16)} {ra : Option Addr} {rn rc B m cnt : Nat} {l : List Ev} {f : Lit → Option Value} {e : Ev} (hm : m ≤ 12) (hi : Inv m l) (hw : (Lit.int .i64 e.ballot).wf = true) (hf : folS read m l e = false) (w : World) (hr : Rd w ra rn rc (read.map setV2)) (h : StM w B m cnt (.slice ra rn rc) (stOf m l) f) :
    Calls Tryz.prog 61 #[.pointer (some ⟨B + 3, 0, none⟩), evV e] w fun x w' => x = .returned (.bool false) ∧ Below w.heap.size w w' := by
  obtain ⟨k, s, b, x⟩ := e
  unfold folS at hf
  simp only at hf hw
  by_cases hr0 : s < 0 ∨ (m : Int) ≤ s ∨ b < 1
  · exact addn0_c B m cnt _ _ f k s b x hm hr0 w h
  · rw [if_neg hr0] at hf
    obtain ⟨s', rfl⟩ := Int.eq_ofNat_of_zero_le (by omega : 0 ≤ s)
    have hs : s' < m := by omega
    have hb1 : 1 ≤ b := by omega
    by_cases hk1 : k = 1
    · subst hk1
      rw [if_pos rfl] at hf
      refine addn1_c B m cnt _ (stOf m l) f s' b x hs hb1 hm ?_ w h
      show b ≤ (atS (repA m l) (s' : Int)).prom ∨ _
      unfold promB at hf
      by_cases h9 : (atS (repA m l) (s' : Int)).prom < b
      · rw [decide_eq_true h9] at hf; exact .inr (by simpa using hf)
      · exact .inl (by omega)
    · by_cases hk2 : k = 2
      · subst hk2
        rw [if_neg (by decide), if_pos rfl] at hf
        refine addn2_c read ra rn rc B m cnt (stOf m l) f s' b x hs hb1 hw hm ?_ w hr h
        rw [okP_okD hi hb1]; exact hf
      · exact addn9_c B m cnt _ _ f k s' b x hm hs hb1 hk1 hk2 w h

theorem made_acc (m : Nat) (hm : m ≤ 12) : madeCells #[.int .i64 0, .int .i64 0, .string ⟨#[]⟩] (m * 3) = ((List.replicate m acc0).flatMap accC).toArray := by
  apply Array.ext
  · simp [madeCells, flat_len 3 accC accC_len]
  · intro i h1 h2
    have hl : i < m * 3 := by simpa [madeCells] using h1
    obtain ⟨q, r, hr, hi⟩ : ∃ q r, r < 3 ∧ i = q * 3 + r := ⟨i / 3, i % 3, by omega, by omega⟩
    subst hi
    have hq : q < m := by omega
    have hx : (List.replicate m acc0)[q]? = some acc0 := by rw [List.getElem?_replicate, if_pos hq]
    have h3 := flat_at 3 accC accC_len (List.replicate m acc0) q r acc0 hx hr
    have h4 : ((List.replicate m acc0).flatMap accC).toArray[q * 3 + r]? = (accC acc0)[r]? := by simpa using h3
    rw [Array.getElem?_eq_getElem h2] at h4
    have h5 : (accC acc0)[r]? = some ((madeCells #[.int .i64 0, .int .i64 0, .string ⟨#[]⟩] (m * 3))[q * 3 + r]) := by
      simp only [madeCells, Array.getElem_ofFn]
      match r, hr with
      | 0, _ => simp [accC, acc0]
      | 1, _ => simp [accC, acc0, Nat.add_mod]
      | 2, _ => simp [accC, acc0, Nat.add_mod]
    rw [h5] at h4
    exact (Option.some.inj h4).symm
theorem stOf_nil (m : Nat) : stOf m [] = st0 m := rfl
theorem begin_st (m : Nat) (hm : m ≤ 12) (a : Option Addr) (n c : Nat) (w : World) :
    Calls Tryz.prog 59 #[.slice a n c, .int .i64 m] w fun e w' => e = .returned (.pointer (some ⟨w.heap.size + 3, 0, none⟩)) ∧ Below w.heap.size w w' ∧ StM w' w.heap.size m 0 (.slice a n c) (stOf m []) (fun _ => none) := by
  refine (begin_c m hm a n c w).mono fun e w' ⟨h1, h2⟩ => ⟨h1, ?_, ?_⟩
  · rw [h2]; exact ((((Below.refl _ w).alloc (Nat.le_refl _) _).alloc (by simp) _).alloc (by simp; omega) _).alloc (by simp; omega) _
  · rw [made_acc m hm] at h2
    obtain ⟨wA, hA⟩ : ∃ x, w.alloc (.cells ((List.replicate m acc0).flatMap accC).toArray 149) = x := ⟨_, rfl⟩
    obtain ⟨wB, hB⟩ : ∃ x, wA.alloc (.map #[] 0) = x := ⟨_, rfl⟩
    obtain ⟨wC, hC⟩ : ∃ x, wB.alloc (.map #[] 0) = x := ⟨_, rfl⟩
    rw [hA, hB, hC] at h2
    have sA : wA.heap.size = w.heap.size + 1 := by rw [← hA]; simp
    have sB : wB.heap.size = w.heap.size + 2 := by rw [← hB, World.size_alloc, sA]
    have sC : wC.heap.size = w.heap.size + 3 := by rw [← hC, World.size_alloc, sB]
    have bAB : Below wA.heap.size wA wB := by rw [← hB]; exact blA _ _
    have bBC : Below wB.heap.size wB wC := by rw [← hC]; exact blA _ _
    have bCD : Below wC.heap.size wC w' := by rw [h2]; exact blA _ _
    have fB : FM wB Tryz.prog 3 (w.heap.size + 1) 0 (fun _ => none) := by
      have := FM.made wA Tryz.prog 3
      rw [hB, sA] at this; exact this
    have fC : FM wC Tryz.prog 3 (w.heap.size + 2) 0 (fun _ => none) := by
      have := FM.made wB Tryz.prog 3
      rw [hC, sB] at this; exact this
    have hacc : wA.heap[w.heap.size]? = some (.cells ((List.replicate m acc0).flatMap accC).toArray 149 (0, 0)) := by rw [← hA]; exact heap_alloc_new w _
    refine ⟨heap_below bCD (heap_below bBC (heap_below bAB hacc)), by show (repA m []).length = m; rw [repA_len], ?_, (fB.below bBC).below bCD, (fC.below bCD).congr (fun y => rfl), fun b => rfl, fun b b' v v' _ h => (by cases h), fun b r hr => by simp [stOf, repS, repTo] at hr⟩
    have := heap_alloc_new wC (.cells #[.slice a n c, .slice (some ⟨w.heap.size, 0, none⟩) m m, .map (some (w.heap.size + 1)), .map (some (w.heap.size + 2))] 147)
    rw [sC, ← h2] at this
    exact this
end Go.Proofs.YtmjgdnpfgkpaoaaGreatDoor
namespace Go.Proofs.YtmjgdnpfgkpaoaaGreatDoor
open Go.RowKit Go.Maps

/-- what a cell holds -/
noncomputable def cv (B i : Nat) (w : World) : Value := (w.cell? ⟨B, i, none⟩).getD undef
theorem cv_eq {w : World} {B i : Nat} {v : Value} (h : w.cell? ⟨B, i, none⟩ = some v) : cv B i w = v := by unfold cv; rw [h]; rfl
theorem cv_cell {w : World} {B i : Nat} {v : Value} (h : w.cell? ⟨B, i, none⟩ = some v) : w.cell? ⟨B, i, none⟩ = some (cv B i w) := by rw [cv_eq h]; exact h
theorem at_in {l : List Acc} {s : Nat} (hs : s < l.length) : l[s]? = some (atS l s) := by unfold atS; rw [Int.toNat_natCast, List.getD, List.getElem?_eq_getElem hs]; rfl
theorem set_at {l : List Acc} {s : Nat} (hs : s < l.length) : l.set s (atS l s) = l := by
  apply List.ext_getElem?
  intro i
  rw [List.getElem?_set]
  split
  · rename_i h; subst h
    first
    | (rw [at_in hs]; done)
    | (rw [at_in hs]; simp [hs])
  · rfl
theorem step1 {l : List Acc} {s : Nat} {b : Int} {v : ByteArray} {p q : Int} {x : ByteArray} (hs : s < l.length) (ha : atS l s = ⟨p, q, x⟩) : stepA l ⟨1, s, b, v⟩ = l.set s ⟨if p < b then b else p, q, x⟩ := by
  unfold stepA
  simp only [if_true, Int.toNat_natCast]
  rw [ha]
  unfold promB
  by_cases h : p < b
  · rw [if_pos (decide_eq_true h), if_pos h]
  · rw [if_neg (by simp [h]), if_neg h, ← ha, set_at hs]
theorem step2 {l : List Acc} {k : Int} {s : Nat} {b : Int} {v : ByteArray} {p q : Int} {x : ByteArray} (hk : k ≠ 1) (hs : s < l.length) (ha : atS l s = ⟨p, q, x⟩) : stepA l ⟨k, s, b, v⟩ = l.set s (if 1 ≤ b ∧ p ≤ b then ⟨b, b, v⟩ else ⟨p, q, x⟩) := by
  unfold stepA
  simp only [Int.toNat_natCast]
  rw [if_neg hk, ha]
  unfold accpB
  by_cases h : 1 ≤ b ∧ p ≤ b
  · rw [if_pos (by simp [h]), if_pos h]
  · rw [if_neg (by simp; exact fun h1 => Classical.byContradiction fun h2 => h ⟨h1, by simpa using h2⟩), if_neg h, ← ha, set_at hs]

end Go.Proofs.YtmjgdnpfgkpaoaaGreatDoor
namespace Go.Proofs.YtmjgdnpfgkpaoaaGreatDoor
open Go.RowKit Go.Maps

theorem flat_take {α : Type} (k : Nat) (enc : α → List Value) (hk : ∀ x, (enc x).length = k) : ∀ (L : List α) (m : Nat), (L.take m).flatMap enc = (L.flatMap enc).take (m * k) := by
  intro L
  induction L with
  | nil => intro m; simp
  | cons x L ih =>
    intro m
    cases m with
    | zero => simp
    | succ m =>
      rw [List.take_succ_cons, List.flatMap_cons, List.flatMap_cons, ih m, List.take_append, hk x]
      have e1 : (m + 1) * k = k + m * k := by rw [Nat.succ_mul, Nat.add_comm]
      rw [e1, List.take_of_length_le (l := enc x) (by rw [hk x]; omega), Nat.add_sub_cancel_left]
theorem RdK.takeF {k : Nat} {w : World} {a : Option Addr} {n c : Nat} {α : Type} {enc : α → List Value} {L : List α} (h : RdK k w a n c (L.flatMap enc)) (hk : ∀ x, (enc x).length = k) (m : Nat) (hm : m ≤ n) : RdK k w a m c ((L.take m).flatMap enc) := by
  rw [flat_take k enc hk]
  have hl : m * k ≤ n * k := Nat.mul_le_mul_right k hm
  refine ⟨by rw [List.length_take, ← h.len]; omega, by have := h.le; omega, h.max, h.nil, fun hn => ?_⟩
  obtain ⟨b, o, ha, hc⟩ := h.at' (by omega)
  refine ⟨b, o, ha, fun i v hv => hc i v ?_⟩
  rw [List.getElem?_take] at hv
  split at hv
  · exact hv
  · cases hv

end Go.Proofs.YtmjgdnpfgkpaoaaGreatDoor
namespace Go.Proofs.YtmjgdnpfgkpaoaaGreatDoor
open Go.RowKit Go.Maps

theorem valF_hit {l : List Ev} {b : Int} {k : Nat} {e : Ev} (he : l[k]? = some e) (h : ∀ (j : Nat) (z : Ev), j < k → l[j]? = some z → isAcc b z = false) (h1 : isAcc b e = true) : valF l b = some e.value := by
  have hk : k < l.length := (List.getElem?_eq_some_iff.1 he).1
  have e1 : l = l.take k ++ e :: l.drop (k + 1) := by
    rw [← (List.getElem?_eq_some_iff.1 he).2, ← List.drop_eq_getElem_cons hk, List.take_append_drop]
  unfold valF
  rw [e1, List.find?_append, List.find?_eq_none.2 (fun z hz => ?_), List.find?_cons, h1]
  · rfl
  · obtain ⟨j, hj⟩ := List.getElem?_of_mem hz
    rw [List.getElem?_take] at hj
    split at hj
    · rename_i hjk; rw [h j z hjk hj]; decide
    · cases hj
theorem valF_non {l : List Ev} {b : Int} (h : ∀ (j : Nat) (z : Ev), j < l.length → l[j]? = some z → isAcc b z = false) : valF l b = none := by
  unfold valF
  rw [List.find?_eq_none.2 (fun z hz => ?_)]
  · rfl
  · obtain ⟨j, hj⟩ := List.getElem?_of_mem hz
    rw [h j z (List.getElem?_eq_some_iff.1 hj).1 hj]; decide

end Go.Proofs.YtmjgdnpfgkpaoaaGreatDoor
namespace Go.Proofs.YtmjgdnpfgkpaoaaGreatDoor
open Go.RowKit Go.Maps

end Go.Proofs.YtmjgdnpfgkpaoaaGreatDoor
namespace Go.Proofs.YtmjgdnpfgkpaoaaGreatDoor
open Go.RowKit Go.Maps

end Go.Proofs.YtmjgdnpfgkpaoaaGreatDoor
namespace Go.Proofs.YtmjgdnpfgkpaoaaGreatDoor
open Go.RowKit Go.Maps

def flM (p : Nat → Bool) (f : Nat → Ev) (j : Nat) : List Ev := ((List.range j).filter p).map f
theorem flM_len (p : Nat → Bool) (f : Nat → Ev) (j : Nat) : (flM p f j).length ≤ j := by
  unfold flM; rw [List.length_map]; exact Nat.le_trans (List.length_filter_le _ _) (by simp)
theorem flM_succ (p : Nat → Bool) (f : Nat → Ev) (j : Nat) : flM p f (j + 1) = flM p f j ++ if p j then [f j] else [] := by
  unfold flM; rw [List.range_succ, List.filter_append, List.map_append]
  cases h : p j <;> simp [h]
theorem possTo_succ (read : List (BitVec 16)) (n : Nat) (l : List Ev) (k : Nat) : possTo read n l (k + 1) = possTo read n l k ++ possC read n l (k + 1) := by
  unfold possTo; rw [List.range_succ, List.flatMap_append]; simp
theorem possC_len (read : List (BitVec 16)) (n : Nat) (l : List Ev) (b : Nat) : (possC read n l b).length ≤ n + n := by
  unfold possC
  rw [List.length_append]
  refine Nat.add_le_add (flM_len _ _ n) ?_
  split
  · exact flM_len (fun s => folS read n l (evW b s _)) _ n
  · simp
theorem possTo_len (read : List (BitVec 16)) (n : Nat) (l : List Ev) : ∀ k, (possTo read n l k).length ≤ k * (n + n)
  | 0 => by simp [possTo]
  | k + 1 => by
    rw [possTo_succ, List.length_append, Nat.succ_mul]
    exact Nat.add_le_add (possTo_len read n l k) (possC_len read n l (k + 1))

end Go.Proofs.YtmjgdnpfgkpaoaaGreatDoor
namespace Go.Proofs.YtmjgdnpfgkpaoaaGreatDoor
open Go.RowKit Go.Maps

def chV (x : Nat) : Value := .int .u8 x
end Go.Proofs.YtmjgdnpfgkpaoaaGreatDoor
namespace Go.Proofs.YtmjgdnpfgkpaoaaGreatDoor
open Go.RowKit Go.Shelf

theorem Tryz.infoU8 : (Tryz.prog.info? 5).map (fun i => (i.zero, i.size, i.bytes)) = some (some (.int .u8 0), 1, 1) := by kernel_rfl
set_option maxRecDepth 100000 in
set_option maxHeartbeats 1000000 in
theorem cloneb_c (l : List Nat) (a : Option Addr) (n c : Nat) (w : World) (h : Rd w a n c (l.map chV)) (hb : n ≤ 1000000) :
    Calls Tryz.prog 22 #[.slice a n c] w fun e w' => ∃ a' c', e = .returned (.slice a' n c') ∧ Rd w' a' n c' (l.map chV) ∧ Below w.heap.size w w' := by
  have hlen : (l.map chV).length = n := h.len.symm
  cases a with
  | none =>
    have hc := h.nil rfl
    have hn : n = 0 := by have := h.le; omega
    subst hc hn
    have hl : l = [] := by simpa using hlen
    subst hl
    clear h hlen hb
    have q : ∀ (w : World) (a : Option Addr) (n c n' c' : Nat), (binOp .eql 44 (.slice a n c) (.slice none n' c')).run Tryz.prog w = .ok (.bool a.isNone) w := fun w a n c n' c' => Lib.run_eql_slice_nil w _ _ a n c n' c' Tryz.underlying44
    go_enter Tryz.func22, Tryz.ntmps22
    go_wp2
    go_ret
    exact ⟨_, _, rfl, Rd.none_ _, Below.refl _ _⟩
  | some ad =>
    have hh := Lib.hid h
    have hl2 := Lib.hid hlen
    clear h hlen
    have q : ∀ (w : World) (a : Option Addr) (n c n' c' : Nat), (binOp .eql 44 (.slice a n c) (.slice none n' c')).run Tryz.prog w = .ok (.bool a.isNone) w := fun w a n c n' c' => Lib.run_eql_slice_nil w _ _ a n c n' c' Tryz.underlying44
    go_enter Tryz.func22, Tryz.ntmps22
    go_wp2_with (at_builtin; go_must (refine wpList_apps _ _ 44 1 (.int .u8 0) _ _ _ (l.map chV) Tryz.underlying44 Tryz.infoU8 rfl (World.ownsRow_made w #[] 0 (Nat.le_refl _) (Nat.zero_le _) rfl) ((Below.refl _ w).alloc (Nat.le_refl _) _) (Nat.le_refl _) (hh.out.below ((Below.refl _ w).alloc (Nat.le_refl _) _)) (by intro u hu; obtain ⟨_, _, rfl⟩ := List.mem_map.1 hu; rfl) rfl rfl rfl rfl (by unfold maxLen; simp; omega) (by simp; omega) ?_))
    intro v' w1 hown1 hb1 _
    have hown2 : w1.ownsRow w.heap.size 5 1 v' n (l.map chV) := by simpa using hown1
    obtain ⟨a', c', rfl, hr⟩ := rd_of_row hown2
    have HRR := Lib.hid hr
    clear hb hown1 hown2 hr
    go_wp2
    go_ret
    exact ⟨_, _, rfl, HRR.out, hb1⟩

set_option maxRecDepth 100000 in
set_option maxHeartbeats 1000000 in
theorem clonee_c (l : List Ev) (a : Option Addr) (n c : Nat) (w : World) (h : RdK 4 w a n c (l.flatMap evC)) (hb : n ≤ 1000000) :
    Calls Tryz.prog 27 #[.slice a n c] w fun e w' => ∃ a' c', e = .returned (.slice a' n c') ∧ RdK 4 w' a' n c' (l.flatMap evC) ∧ Below w.heap.size w w' := by
  cases a with
  | none =>
    have hc := h.nil rfl
    have hn : n = 0 := by have := h.le; omega
    subst hc hn
    have hl : l.flatMap evC = [] := List.eq_nil_of_length_eq_zero (by rw [← h.len])
    rw [hl]
    clear h hb hl
    have q : ∀ (w : World) (a : Option Addr) (n c n' c' : Nat), (binOp .eql 57 (.slice a n c) (.slice none n' c')).run Tryz.prog w = .ok (.bool a.isNone) w := fun w a n c n' c' => Lib.run_eql_slice_nil w _ _ a n c n' c' Tryz.underlying57
    go_enter Tryz.func27, Tryz.ntmps27
    go_wp2
    go_ret
    exact ⟨_, _, rfl, RdK.none_ _ _, Below.refl _ _⟩
  | some ad =>
    have hh := Lib.hid h
    clear h
    have q : ∀ (w : World) (a : Option Addr) (n c n' c' : Nat), (binOp .eql 57 (.slice a n c) (.slice none n' c')).run Tryz.prog w = .ok (.bool a.isNone) w := fun w a n c n' c' => Lib.run_eql_slice_nil w _ _ a n c n' c' Tryz.underlying57
    go_enter Tryz.func27, Tryz.ntmps27
    go_wp2_with (at_builtin; go_must (refine wpList_appsK 4 _ _ 57 40 (.agg #[.int .i64 0, .int .i64 0, .int .i64 0, .string ⟨#[]⟩]) _ _ _ (l.flatMap evC) Tryz.underlying57 Tryz.infoEv rfl (by decide) (World.ownsRow_made w #[] 0 (Nat.le_refl _) (Nat.zero_le _) rfl) ((Below.refl _ w).alloc (Nat.le_refl _) _) (Nat.le_refl _) (hh.out.below ((Below.refl _ w).alloc (Nat.le_refl _) _)) (ev_one l) rfl rfl rfl rfl (by unfold maxLen; simp; omega) (by simp; omega) ?_))
    intro v' w1 hown1 hb1 _
    have hown2 : w1.ownsRow w.heap.size 68 4 v' n (l.flatMap evC) := by simpa using hown1
    obtain ⟨a', c', rfl, hr⟩ := rdK_of_row hown2
    have HRR := Lib.hid hr
    clear hb hown1 hown2 hr
    go_wp2
    go_ret
    exact ⟨_, _, rfl, HRR.out, hb1⟩
end Go.Proofs.YtmjgdnpfgkpaoaaGreatDoor
namespace Go.Proofs.YtmjgdnpfgkpaoaaGreatDoor
open Go.RowKit Go.Shelf

/-- the number of servers -/
def ofN (s : Int) : Nat := 1 + (s % 5).toNat
def mskI (n : Nat) (z : Int) : Int := z % 2 ^ n
def kepTo (n : Nat) (l : List Int) (k : Nat) : List Int := ((l.take k).map (mskI n)).filter fun z => z != 0
def kepI (n : Nat) (l : List Int) : List Int := kepTo n l (min 8 l.length)
def sysS (n : Nat) (l : List Int) : List (BitVec 16) := madS (kepI n l)
theorem kepTo_succ {n : Nat} {l : List Int} {k : Nat} {z : Int} (h : l[k]? = some z) : kepTo n l (k + 1) = if mskI n z = 0 then kepTo n l k else kepTo n l k ++ [mskI n z] := by
  unfold kepTo
  rw [List.take_add_one, h, List.map_append, List.filter_append]
  by_cases h0 : mskI n z = 0
  · simp [h0]
  · simp [h0]
theorem kepTo_len (n : Nat) (l : List Int) (k : Nat) : (kepTo n l k).length ≤ k := by
  unfold kepTo; exact Nat.le_trans (List.length_filter_le _ _) (by simp; omega)
theorem and_msk (n : Nat) (hn : n ≤ 4) (z : Int) (h0 : 0 ≤ z) (h1 : z < 256) : bits .and .u8 z ((2 ^ (1 + n) - 1) % 256) = mskI (1 + n) z ∧ 0 ≤ mskI (1 + n) z ∧ mskI (1 + n) z < 32 := by
  obtain ⟨k, rfl⟩ := Int.eq_ofNat_of_zero_le h0
  have : ∀ (n : Fin 5) (k : Fin 256), bits .and .u8 (k.val : Int) ((2 ^ (1 + n.val) - 1) % 256) = mskI (1 + n.val) (k.val : Int) ∧ 0 ≤ mskI (1 + n.val) (k.val : Int) ∧ mskI (1 + n.val) (k.val : Int) < 32 := by decide +kernel
  exact this ⟨n, by omega⟩ ⟨k, by omega⟩
theorem kepTo_rng {n : Nat} (hn : n ≤ 4) {l : List Int} (h : ∀ z ∈ l, 0 ≤ z ∧ z < 256) (k : Nat) : ∀ z ∈ kepTo (1 + n) l k, 0 ≤ z ∧ z < 32 ∧ z < 2 ^ (1 + n) ∧ z ≠ 0 := by
  intro z hz
  unfold kepTo at hz
  obtain ⟨h1, h2⟩ := List.mem_filter.1 hz
  obtain ⟨x, hx, rfl⟩ := List.mem_map.1 h1
  have h3 := h x (List.mem_of_mem_take hx)
  have h4 := and_msk n hn x h3.1 h3.2
  refine ⟨h4.2.1, h4.2.2, ?_, by simpa using h2⟩
  unfold mskI; exact Int.emod_lt_of_pos _ (Int.pow_pos (by decide))

end Go.Proofs.YtmjgdnpfgkpaoaaGreatDoor
namespace Go.Proofs.YtmjgdnpfgkpaoaaGreatDoor
open Go.RowKit Go.Maps

theorem wf_small : ∀ q : Nat, q ≤ 4 → (Lit.int .i64 (q : Int)).wf = true
  | 0, _ => by decide
  | 1, _ => by decide
  | 2, _ => by decide
  | 3, _ => by decide
  | 4, _ => by decide
  | q + 5, h => absurd h (by omega)
theorem posQTo_succ (read : List (BitVec 16)) (st : St) (n k : Nat) : posQTo read st n (k + 1) = posQTo read st n k ++ posQC read st n (k + 1) := by
  unfold posQTo; rw [List.range_succ, List.flatMap_append]; simp
theorem posQC_len (read : List (BitVec 16)) (st : St) (n b : Nat) : (posQC read st n b).length ≤ n + n := by
  unfold posQC
  rw [List.length_append]
  refine Nat.add_le_add (flM_len _ _ n) ?_
  split
  · unfold posQB; rw [List.length_map]; exact Nat.le_trans (List.length_filter_le _ _) (by simp)
  · simp
theorem posQTo_len (read : List (BitVec 16)) (st : St) (n : Nat) : ∀ k, (posQTo read st n k).length ≤ k * (n + n)
  | 0 => by simp [posQTo]
  | k + 1 => by
    rw [posQTo_succ, List.length_append, Nat.succ_mul]
    exact Nat.add_le_add (posQTo_len read st n k) (posQC_len read st n (k + 1))

set_option maxRecDepth 100000 in
set_option maxHeartbeats 4000000 in
theorem ppossible_c (read : List (BitVec 16)) (ra : Option Addr) (rn rc : Nat) (B m cnt : Nat) (st : St) (f : Lit → Option Value) (hm : m ≤ 12) (w : World) (hr : Rd w ra rn rc (read.map setV2)) (h : StM w B m cnt (.slice ra rn rc) st f) :
    Calls Tryz.prog 60 #[.pointer (some ⟨B + 3, 0, none⟩)] w fun e w' => ∃ v, e = .returned v ∧ w'.ownsRow w.heap.size 68 4 v (posQ read st m).length ((posQ read st m).flatMap evC) ∧ Below w.heap.size w w' := by
  go_enter Tryz.func60, Tryz.ntmps60
  have H := Lib.hid h
  have HR := Lib.hid hr
  obtain ⟨r0, r1, r2, r3⟩ := open4 h.run
  have hlen0 := h.len
  clear h hr
  go_wp2_with fail
  go_loopw [3, 4] (fun v i wr => ∃ (k : Nat), k ≤ 4 ∧ i = .int .i64 ((k + 1 : Nat) : Int) ∧ wr.ownsRow w.heap.size 68 4 v (posQTo read st m k).length ((posQTo read st m k).flatMap evC) ∧ Below w.heap.size w wr) (fun _ i _ => 6 - (intOf i).toNat)
  case atStart => exact ⟨0, Nat.zero_le _, rfl, World.ownsRow_nil _ _ _ _, Below.refl _ _⟩
  case round =>
    obtain ⟨k, hk, rfl, hown, hb⟩ := hrel
    have hlen := posQTo_len read st m k
    have hlen2 : k * (m + m) ≤ 4 * 24 := Nat.mul_le_mul hk (by omega)
    have HLEN : Hid ((posQTo read st m k).length ≤ 96) := Lib.hid (by omega)
    clear hlen hlen2
    by_cases hlt : k < 4
    · obtain ⟨q, hq⟩ : ∃ q : Nat, k + 1 = q := ⟨_, rfl⟩
      rw [hq]
      have hq4 : (q : Int) ≤ 4 := by omega
      have HQ := Lib.hid hq
      have R1 := (hb.cell (p := ⟨B + 3, 1, none⟩) (cell_lt r1)).trans r1
      go_wp2_with fail
      go_loopw [3, 25] (fun v i wr => ∃ (j : Nat), j ≤ m ∧ i = .int .i64 j ∧ wr.ownsRow w.heap.size 68 4 v (posQTo read st m k ++ flM (fun s => promB (atS st.acc (s : Int)) q) (evP q) j).length ((posQTo read st m k ++ flM (fun s => promB (atS st.acc (s : Int)) q) (evP q) j).flatMap evC) ∧ Below w.heap.size w wr) (fun _ i _ => m - (intOf i).toNat)
      case atStart => exact ⟨0, Nat.zero_le _, rfl, by simpa [flM] using hown, hb⟩
      case round =>
        clear hown hb R1
        obtain ⟨j, hj, rfl, hown, hb⟩ := hrel
        by_cases hlt2 : j < m
        · have hst := H.out.below hb
          obtain ⟨⟨c0, c1, c2⟩, -⟩ := acc_cells hst.acc (s := j) (by rw [hst.len]; exact hlt2)
          obtain ⟨⟨p, qb, v⟩, hacc⟩ : ∃ a, atS st.acc j = a := ⟨_, rfl⟩
          rw [hacc] at c0 c1 c2
          obtain ⟨bb, hbb⟩ : ∃ bb, decide (p < (q : Int)) = bb := ⟨_, rfl⟩
          have HPC := Lib.hid (fun y => promise_c p qb v q y)
          obtain ⟨p', hp'⟩ : ∃ p', (if p < (q : Int) then (q : Int) else p) = p' := ⟨_, rfl⟩
          rw [hbb, hp'] at HPC
          have hsz := hb.size
          have HSUC : Hid (flM (fun s => promB (atS st.acc (s : Int)) q) (evP q) (j + 1) = flM (fun s => promB (atS st.acc (s : Int)) q) (evP q) j ++ if bb then [evP q j] else []) := Lib.hid (by rw [flM_succ]; simp only [hacc, promB, hbb])
          have HFL := Lib.hid (flM_len (fun s => promB (atS st.acc (s : Int)) q) (evP q) j)
          have HB := Lib.hid hb
          have HOWN := Lib.hid hown
          have i0 : (0 : Int) ≤ (j : Int) := by omega
          have i1 : (j : Int) < (m : Int) := by omega
          clear hbb hb hown hacc hst hp'
          go_wp2_with fail
          refine (HPC.out _).mono ?_
          rintro e w3 ⟨rfl, hb3⟩
          have hbw3 : Below w.heap.size w w3 := Below.next (HB.out.alloc hsz _) hb3
          have hbw : Below w.heap.size w (w3.alloc (.cells #[.int .i64 p', .int .i64 qb, .string v] 149)) := hbw3.alloc hbw3.size _
          have hown3 := rowK_below (rowK_below (rowK_below HOWN.out (blA _ _)) hb3) (blA w3 (.cells #[.int .i64 p', .int .i64 qb, .string v] 149))
          have hll : (posQTo read st m k ++ flM (fun s => promB (atS st.acc (s : Int)) q) (evP q) j).length ≤ 108 := by rw [List.length_append]; have := HLEN.out; have := HFL.out; omega
          have HOWN3 := Lib.hid hown3
          have HBW := Lib.hid hbw
          clear hb3 hbw3 c0 c1 c2
          cases bb
          · clear hown3 hbw
            go_wp2_with fail
            go_roundw
            case rel => exact ⟨j + 1, by omega, by go_num, by rw [HSUC.out]; simpa using HOWN3.out, HBW.out⟩
            case measure => simp [intOf]; omega
          · go_wp2_with (at_builtin; go_must (refine wpList_appK 4 _ _ 57 40 (.agg #[.int .i64 0, .int .i64 0, .int .i64 0, .string ⟨#[]⟩]) (evC (evP q j)) _ Tryz.underlying57 Tryz.infoEv rfl (by decide) hown3 hbw (Nat.le_refl _) rfl rfl rfl (by show Value.slice (some ⟨w3.heap.size + 1, 0, none⟩) 1 1 = _; rw [World.size_alloc]) rfl (by intro u hu; exact ev_one [evP q j] u (by simpa using hu)) (by unfold maxLen; omega) (by omega) ?_))
            intro v' w4 hown4 hb4 hg4 hs4
            have HOWN4 := Lib.hid hown4
            have HB4 := Lib.hid hb4
            clear hown3 hbw hown4 hb4 hg4 hs4 hll
            go_wp2_with fail
            go_roundw
            case rel => exact ⟨j + 1, by omega, by go_num, by rw [HSUC.out]; simpa [Nat.add_assoc] using HOWN4.out, HB4.out⟩
            case measure => simp [intOf]; omega
        · obtain rfl : j = m := by omega
          have HB := Lib.hid hb
          have HOWN := Lib.hid hown
          have hqw : (Lit.int .i64 (q : Int)).wf = true := wf_small q (by omega)
          have HV := Lib.hid (value_c read ra rn rc B j cnt st f q hqw wr (HR.out.below hb) (H.out.below hb))
          obtain ⟨⟨dv, fr, ok⟩, hde⟩ : ∃ d, valP read st q = d := ⟨_, rfl⟩
          rw [hde] at HV
          have HDE := Lib.hid hde
          clear hb hown hde
          go_wp2_with fail
          refine HV.out.mono ?_
          rintro e w5 ⟨rfl, hb5⟩
          have HB5 := Lib.hid (Below.next HB.out hb5)
          have HOWN5 := Lib.hid (rowK_below HOWN.out hb5)
          clear hb5
          cases ok
          · have HSTEP : Hid (posQTo read st j (k + 1) = posQTo read st j k ++ flM (fun s => promB (atS st.acc (s : Int)) q) (evP q) j) := Lib.hid (by rw [posQTo_succ, HQ.out]; unfold posQC; rw [HDE.out]; simp [valQ, posQA, flM])
            go_wp2_with fail
            go_roundw
            case rel => exact ⟨k + 1, by omega, by rw [← HQ.out]; go_num, by rw [HSTEP.out]; exact HOWN5.out, HB5.out⟩
            case measure => simp [intOf]; omega
          · have HFL := Lib.hid (flM_len (fun s => promB (atS st.acc (s : Int)) q) (evP q) j)
            cases fr
            · have HSTEP : Hid (posQTo read st j (k + 1) = posQTo read st j k ++ flM (fun s => promB (atS st.acc (s : Int)) q) (evP q) j ++ flM (fun s => accpB (atS st.acc (s : Int)) q) (fun s => evW q s dv) j) := Lib.hid (by rw [posQTo_succ, HQ.out, List.append_assoc]; unfold posQC; rw [HDE.out]; rfl)
              --LOOPB 14 dv
              have R1' := (HB5.out.cell (p := ⟨B + 3, 1, none⟩) (cell_lt r1)).trans r1
              go_wp2_with fail
              go_loopw [3, 62] (fun v i wr => ∃ (j2 : Nat), j2 ≤ j ∧ i = .int .i64 j2 ∧ wr.ownsRow w.heap.size 68 4 v (posQTo read st j k ++ flM (fun s => promB (atS st.acc (s : Int)) q) (evP q) j ++ flM (fun s => accpB (atS st.acc (s : Int)) q) (fun s => evW q s dv) j2).length ((posQTo read st j k ++ flM (fun s => promB (atS st.acc (s : Int)) q) (evP q) j ++ flM (fun s => accpB (atS st.acc (s : Int)) q) (fun s => evW q s dv) j2).flatMap evC) ∧ Below w.heap.size w wr) (fun _ i _ => j - (intOf i).toNat)
              case atStart => exact ⟨0, Nat.zero_le _, rfl, by simpa [flM] using HOWN5.out, HB5.out⟩
              case round =>
                clear R1'
                obtain ⟨j2, hj2, rfl, hown, hb⟩ := hrel
                by_cases hlt3 : j2 < j
                · have hst := H.out.below hb
                  obtain ⟨⟨c0, c1, c2⟩, -⟩ := acc_cells hst.acc (s := j2) (by rw [hst.len]; exact hlt3)
                  obtain ⟨⟨p, qb, v⟩, hacc⟩ : ∃ a, atS st.acc j2 = a := ⟨_, rfl⟩
                  rw [hacc] at c0 c1 c2
                  obtain ⟨bb, hbb⟩ : ∃ bb, decide (1 ≤ (q : Int) ∧ p ≤ (q : Int)) = bb := ⟨_, rfl⟩
                  obtain ⟨p', q', v', hres⟩ : ∃ (p' q' : Int) (v' : ByteArray), (if 1 ≤ (q : Int) ∧ p ≤ (q : Int) then Value.agg #[.int .i64 q, .int .i64 q, .string dv] else .agg #[.int .i64 p, .int .i64 qb, .string v]) = .agg #[.int .i64 p', .int .i64 q', .string v'] := by
                    by_cases h9 : 1 ≤ (q : Int) ∧ p ≤ (q : Int)
                    · exact ⟨_, _, _, if_pos h9⟩
                    · exact ⟨_, _, _, if_neg h9⟩
                  have HPC := Lib.hid (fun y => accept_c p qb v q dv y)
                  rw [hbb, hres] at HPC
                  have hsz := hb.size
                  have HSUC : Hid (flM (fun s => accpB (atS st.acc (s : Int)) q) (fun s => evW q s dv) (j2 + 1) = flM (fun s => accpB (atS st.acc (s : Int)) q) (fun s => evW q s dv) j2 ++ if bb then [evW q j2 dv] else []) := Lib.hid (by rw [flM_succ]; simp only [hacc, accpB, ← hbb, Bool.decide_and])
                  have HFL2 := Lib.hid (flM_len (fun s => accpB (atS st.acc (s : Int)) q) (fun s => evW q s dv) j2)
                  have HB := Lib.hid hb
                  have HOWN := Lib.hid hown
                  have i0 : (0 : Int) ≤ (j2 : Int) := by omega
                  have i1 : (j2 : Int) < (j : Int) := by omega
                  clear hbb hb hown hacc hst hres
                  go_wp2_with fail
                  refine (HPC.out _).mono ?_
                  rintro e w3 ⟨rfl, hb3⟩
                  have hbw3 : Below w.heap.size w w3 := Below.next (HB.out.alloc hsz _) hb3
                  have hbw : Below w.heap.size w (w3.alloc (.cells #[.int .i64 p', .int .i64 q', .string v'] 149)) := hbw3.alloc hbw3.size _
                  have hown3 := rowK_below (rowK_below (rowK_below HOWN.out (blA _ _)) hb3) (blA w3 (.cells #[.int .i64 p', .int .i64 q', .string v'] 149))
                  have hll : (posQTo read st j k ++ flM (fun s => promB (atS st.acc (s : Int)) q) (evP q) j ++ flM (fun s => accpB (atS st.acc (s : Int)) q) (fun s => evW q s dv) j2).length ≤ 120 := by rw [List.length_append, List.length_append]; have := HLEN.out; have := HFL.out; have := HFL2.out; omega
                  have HOWN3 := Lib.hid hown3
                  have HBW := Lib.hid hbw
                  clear hb3 hbw3 c0 c1 c2
                  cases bb
                  · clear hown3 hbw
                    go_wp2_with fail
                    go_roundw
                    case rel => exact ⟨j2 + 1, by omega, by go_num, by rw [HSUC.out]; simpa using HOWN3.out, HBW.out⟩
                    case measure => simp [intOf]; omega
                  · go_wp2_with (at_builtin; go_must (refine wpList_appK 4 _ _ 57 40 (.agg #[.int .i64 0, .int .i64 0, .int .i64 0, .string ⟨#[]⟩]) (evC (evW q j2 dv)) _ Tryz.underlying57 Tryz.infoEv rfl (by decide) hown3 hbw (Nat.le_refl _) rfl rfl rfl (by show Value.slice (some ⟨w3.heap.size + 1, 0, none⟩) 1 1 = _; rw [World.size_alloc]) rfl (by intro u hu; exact ev_one [evW q j2 dv] u (by simpa using hu)) (by unfold maxLen; omega) (by omega) ?_))
                    intro v'' w4 hown4 hb4 hg4 hs4
                    have HOWN4 := Lib.hid hown4
                    have HB4 := Lib.hid hb4
                    clear hown3 hbw hown4 hb4 hg4 hs4 hll
                    go_wp2_with fail
                    go_roundw
                    case rel => exact ⟨j2 + 1, by omega, by go_num, by rw [HSUC.out]; simpa [Nat.add_assoc] using HOWN4.out, HB4.out⟩
                    case measure => simp [intOf]; omega
                · obtain rfl : j2 = j := by omega
                  have HB := Lib.hid hb
                  have HOWN : Hid (wr.ownsRow w.heap.size 68 4 _ (posQTo read st j2 (k + 1)).length ((posQTo read st j2 (k + 1)).flatMap evC)) := Lib.hid (by rw [HSTEP.out]; exact hown)
                  clear hb hown
                  go_wp2_with fail
                  go_roundw
                  case rel => exact ⟨k + 1, by omega, by rw [← HQ.out]; go_num, HOWN.out, HB.out⟩
                  case measure => simp [intOf]; omega
              --ENDB
            · have HI := Lib.hid (Tryz.strconv_Itoa_small q (by omega))
              obtain ⟨x, hx⟩ : ∃ x, valB q = x := ⟨_, rfl⟩
              have HCAT : Hid ((⟨#[118]⟩ : ByteArray) ++ (⟨(Lib.decDigits q).toArray⟩ : ByteArray) = x) := Lib.hid ((cat2 [118] (Lib.decDigits q)).trans hx)
              have HSTEP : Hid (posQTo read st j (k + 1) = posQTo read st j k ++ flM (fun s => promB (atS st.acc (s : Int)) q) (evP q) j ++ flM (fun s => accpB (atS st.acc (s : Int)) q) (fun s => evW q s x) j) := Lib.hid (by rw [posQTo_succ, HQ.out, List.append_assoc]; unfold posQC; rw [HDE.out, ← hx]; rfl)
              have hdl := dec_small q (by omega)
              obtain ⟨dd, hdd⟩ : ∃ dd, Lib.decDigits q = dd := ⟨_, rfl⟩
              rw [hdd] at HI hdl HCAT
              clear hx hdd
              have R1' := (HB5.out.cell (p := ⟨B + 3, 1, none⟩) (cell_lt r1)).trans r1
              go_wp2_with fail
              refine (HI.out _).mono ?_
              rintro e w6 ⟨rfl, rfl⟩
              go_wp2_with fail
              rw [HCAT.out]
              --LOOPB 14 x
              go_loopw [3, 62] (fun v i wr => ∃ (j2 : Nat), j2 ≤ j ∧ i = .int .i64 j2 ∧ wr.ownsRow w.heap.size 68 4 v (posQTo read st j k ++ flM (fun s => promB (atS st.acc (s : Int)) q) (evP q) j ++ flM (fun s => accpB (atS st.acc (s : Int)) q) (fun s => evW q s x) j2).length ((posQTo read st j k ++ flM (fun s => promB (atS st.acc (s : Int)) q) (evP q) j ++ flM (fun s => accpB (atS st.acc (s : Int)) q) (fun s => evW q s x) j2).flatMap evC) ∧ Below w.heap.size w wr) (fun _ i _ => j - (intOf i).toNat)
              case atStart => exact ⟨0, Nat.zero_le _, rfl, by simpa [flM] using HOWN5.out, HB5.out⟩
              case round =>
                clear R1'
                obtain ⟨j2, hj2, rfl, hown, hb⟩ := hrel
                by_cases hlt3 : j2 < j
                · have hst := H.out.below hb
                  obtain ⟨⟨c0, c1, c2⟩, -⟩ := acc_cells hst.acc (s := j2) (by rw [hst.len]; exact hlt3)
                  obtain ⟨⟨p, qb, v⟩, hacc⟩ : ∃ a, atS st.acc j2 = a := ⟨_, rfl⟩
                  rw [hacc] at c0 c1 c2
                  obtain ⟨bb, hbb⟩ : ∃ bb, decide (1 ≤ (q : Int) ∧ p ≤ (q : Int)) = bb := ⟨_, rfl⟩
                  obtain ⟨p', q', v', hres⟩ : ∃ (p' q' : Int) (v' : ByteArray), (if 1 ≤ (q : Int) ∧ p ≤ (q : Int) then Value.agg #[.int .i64 q, .int .i64 q, .string x] else .agg #[.int .i64 p, .int .i64 qb, .string v]) = .agg #[.int .i64 p', .int .i64 q', .string v'] := by
                    by_cases h9 : 1 ≤ (q : Int) ∧ p ≤ (q : Int)
                    · exact ⟨_, _, _, if_pos h9⟩
                    · exact ⟨_, _, _, if_neg h9⟩
                  have HPC := Lib.hid (fun y => accept_c p qb v q x y)
                  rw [hbb, hres] at HPC
                  have hsz := hb.size
                  have HSUC : Hid (flM (fun s => accpB (atS st.acc (s : Int)) q) (fun s => evW q s x) (j2 + 1) = flM (fun s => accpB (atS st.acc (s : Int)) q) (fun s => evW q s x) j2 ++ if bb then [evW q j2 x] else []) := Lib.hid (by rw [flM_succ]; simp only [hacc, accpB, ← hbb, Bool.decide_and])
                  have HFL2 := Lib.hid (flM_len (fun s => accpB (atS st.acc (s : Int)) q) (fun s => evW q s x) j2)
                  have HB := Lib.hid hb
                  have HOWN := Lib.hid hown
                  have i0 : (0 : Int) ≤ (j2 : Int) := by omega
                  have i1 : (j2 : Int) < (j : Int) := by omega
                  clear hbb hb hown hacc hst hres
                  go_wp2_with fail
                  refine (HPC.out _).mono ?_
                  rintro e w3 ⟨rfl, hb3⟩
                  have hbw3 : Below w.heap.size w w3 := Below.next (HB.out.alloc hsz _) hb3
                  have hbw : Below w.heap.size w (w3.alloc (.cells #[.int .i64 p', .int .i64 q', .string v'] 149)) := hbw3.alloc hbw3.size _
                  have hown3 := rowK_below (rowK_below (rowK_below HOWN.out (blA _ _)) hb3) (blA w3 (.cells #[.int .i64 p', .int .i64 q', .string v'] 149))
                  have hll : (posQTo read st j k ++ flM (fun s => promB (atS st.acc (s : Int)) q) (evP q) j ++ flM (fun s => accpB (atS st.acc (s : Int)) q) (fun s => evW q s x) j2).length ≤ 120 := by rw [List.length_append, List.length_append]; have := HLEN.out; have := HFL.out; have := HFL2.out; omega
                  have HOWN3 := Lib.hid hown3
                  have HBW := Lib.hid hbw
                  clear hb3 hbw3 c0 c1 c2
                  cases bb
                  · clear hown3 hbw
                    go_wp2_with fail
                    go_roundw
                    case rel => exact ⟨j2 + 1, by omega, by go_num, by rw [HSUC.out]; simpa using HOWN3.out, HBW.out⟩
                    case measure => simp [intOf]; omega
                  · go_wp2_with (at_builtin; go_must (refine wpList_appK 4 _ _ 57 40 (.agg #[.int .i64 0, .int .i64 0, .int .i64 0, .string ⟨#[]⟩]) (evC (evW q j2 x)) _ Tryz.underlying57 Tryz.infoEv rfl (by decide) hown3 hbw (Nat.le_refl _) rfl rfl rfl (by show Value.slice (some ⟨w3.heap.size + 1, 0, none⟩) 1 1 = _; rw [World.size_alloc]) rfl (by intro u hu; exact ev_one [evW q j2 x] u (by simpa using hu)) (by unfold maxLen; omega) (by omega) ?_))
                    intro v'' w4 hown4 hb4 hg4 hs4
                    have HOWN4 := Lib.hid hown4
                    have HB4 := Lib.hid hb4
                    clear hown3 hbw hown4 hb4 hg4 hs4 hll
                    go_wp2_with fail
                    go_roundw
                    case rel => exact ⟨j2 + 1, by omega, by go_num, by rw [HSUC.out]; simpa [Nat.add_assoc] using HOWN4.out, HB4.out⟩
                    case measure => simp [intOf]; omega
                · obtain rfl : j2 = j := by omega
                  have HB := Lib.hid hb
                  have HOWN : Hid (wr.ownsRow w.heap.size 68 4 _ (posQTo read st j2 (k + 1)).length ((posQTo read st j2 (k + 1)).flatMap evC)) := Lib.hid (by rw [HSTEP.out]; exact hown)
                  clear hb hown
                  go_wp2_with fail
                  go_roundw
                  case rel => exact ⟨k + 1, by omega, by rw [← HQ.out]; go_num, HOWN.out, HB.out⟩
                  case measure => simp [intOf]; omega
              --ENDB
    · obtain rfl : k = 4 := by omega
      have HB := Lib.hid hb
      have HOWN := Lib.hid hown
      go_wp2_with fail
      go_ret
      exact ⟨_, rfl, HOWN.out, HB.out⟩
end Go.Proofs.YtmjgdnpfgkpaoaaGreatDoor
namespace Go.Proofs.YtmjgdnpfgkpaoaaGreatDoor
open Go.RowKit Go.Maps

set_option maxRecDepth 100000 in
set_option maxHeartbeats 4000000 in
theorem checkP_c (read : List (BitVec 16)) (m : Nat) (l : List Ev) (a : Option Addr) (n c : Nat) (a2 : Option Addr) (n2 c2 : Nat) (w : World) (h : Rd w a n c (read.map setV2)) (h2 : RdK 4 w a2 n2 c2 (l.flatMap evC)) (hwf : ∀ e ∈ l, (Lit.int .i64 e.ballot).wf = true) (hl : l.length ≤ 900) (hm : m ≤ 12) (hchk : chkS m [read] = 0) :
    Calls Tryz.prog 26 #[.slice a n c, .int .i64 m, .slice a2 n2 c2] w fun e w' => e = .returned (.tuple #[.int .i64 (chkR read m l).1, .int .i64 (chkR read m l).2]) ∧ Below w.heap.size w w' := by
  have hnl : l.length = n2 := by have := h2.len; rw [flat_len 4 evC evC_len] at this; omega
  have hb0 : Below w.heap.size w (w.alloc (.cells #[.slice a n c] 25)) := (Below.refl _ w).alloc (Nat.le_refl _) _
  have hss : RdSS (w.alloc (.cells #[.slice a n c] 25)) (some ⟨w.heap.size, 0, none⟩) 1 1 [read] := by
    refine ⟨[.slice a n c], Rd.lit _ _ _ 1 _ rfl rfl (by decide), rfl, fun i L hi => ?_⟩
    match i, hi with
    | 0, hi => cases hi; exact ⟨a, n, c, rfl, h.below hb0⟩
    | i + 1, hi => simp at hi
  have HC := Lib.hid (check_c m [read] _ 1 1 _ hss)
  rw [hchk] at HC
  have HB0 := Lib.hid hb0
  have HG := Lib.hid (fun w => begin_st m hm a n c w)
  have HR := Lib.hid h
  have HR2 := Lib.hid h2
  have HN := Lib.hid hnl
  have HWF := Lib.hid hwf
  have hle := h2.le
  have hmx := h2.max
  unfold maxLen at hmx
  rw [hnl] at hl
  clear h h2 hss hb0 hnl hwf hchk
  go_enter Tryz.func26, Tryz.ntmps26
  go_wp2_with fail
  refine HC.out.mono ?_
  rintro e w1 ⟨rfl, hb1⟩
  have HB1 := Lib.hid (Below.next HB0.out (by exact hb1))
  clear hb1
  go_wp2_with fail
  refine (HG.out w1).mono ?_
  rintro e w2 ⟨rfl, hb2, hst2⟩
  have HB2 := Lib.hid hb2
  have HST2 := Lib.hid hst2
  obtain ⟨B, hB⟩ : ∃ B, w1.heap.size = B := ⟨_, rfl⟩
  rw [hB] at HST2 HB2 ⊢
  have HBB := Lib.hid hB
  clear hb2 hst2 hB
  go_wp2_with fail
  go_loopw [24] (fun i wr => ∃ k : Nat, k ≤ n2 ∧ i = .int .i64 k ∧ Hid (GoodTo read m l k) ∧ Below B w1 wr ∧ Hid (∃ f, StM wr B m k (.slice a n c) (stOf m (l.take k)) f)) (fun i _ => n2 - (intOf i).toNat)
  case atStart => exact ⟨0, Nat.zero_le _, rfl, Lib.hid (fun j hj => by omega), HB2.out, Lib.hid ⟨_, HST2.out⟩⟩
  case round =>
    obtain ⟨k, hk, rfl, hgood, hb, hst⟩ := hrel
    obtain ⟨f, hst⟩ := hst.out
    by_cases hlt : k < n2
    · obtain ⟨e, he⟩ : ∃ e, l[k]? = some e := ⟨l[k]'(by have := HN.out; omega), List.getElem?_eq_getElem _⟩
      have hbw : Below w.heap.size w wr := HB1.out.trans (hb.mono (by have := HBB.out; have := HB1.out.size; omega))
      obtain ⟨b, o, ha, hcell⟩ := RdK.cells (HR2.out.below hbw) evC_len (by omega)
      have hc0 : wr.cell? ⟨b, o + k * 4, none⟩ = some (.int .i64 e.kind) := hcell k e he 0 (by omega)
      have hc1 : wr.cell? ⟨b, o + k * 4 + 1, none⟩ = some (.int .i64 e.server) := hcell k e he 1 (by omega)
      have hc2 : wr.cell? ⟨b, o + k * 4 + 2, none⟩ = some (.int .i64 e.ballot) := hcell k e he 2 (by omega)
      have hc3 : wr.cell? ⟨b, o + k * 4 + 3, none⟩ = some (.string e.value) := hcell k e he 3 (by omega)
      have HIN := Lib.hid (good_inv hm (goodTo_good k hgood.out))
      have hwe := HWF.out e (List.mem_of_getElem? he)
      have hlk : (l.take k).length ≤ 1000 := by rw [List.length_take]; omega
      have hbsz : B ≤ wr.heap.size := by have := hb.size; have := HBB.out; omega
      cases hf : folS read m (l.take k) e
      · have hA := Lib.hid (fun wx (hx : Below wr.heap.size wr wx) => add_no (ra := a) (rn := n) (rc := c) (B := B) (cnt := k) (f := f) hm HIN.out hwe hf wx ((HR.out.below hbw).below hx) (hst.below hx))
        have HRE : Hid (chkR read m l = ((k : Int), 0)) := Lib.hid (by
          unfold chkR
          rw [badAt_hit (by have := HN.out; omega) hgood.out (by unfold chkTo; rw [he]; exact hf)])
        have HBW := Lib.hid hbw
        obtain ⟨k0, s0, b0, x0⟩ := e
        unfold evV at hA
        simp only at hA hc0 hc1 hc2 hc3
        subst ha
        clear hcell he hf hgood hst hb hwe hbw
        go_wp2_with fail
        refine (hA.out _ (by first | with_reducible exact Below.refl _ _ | with_reducible exact blA _ _)).mono ?_
        rintro e w5 ⟨rfl, hb5⟩
        have HB5 := Lib.hid (Below.next HBW.out (by first | exact Below.next (blA _ _) hb5 | exact hb5))
        clear hb5
        go_wp2_with fail
        go_ret2
        exact ⟨by rw [HRE.out]; rfl, HB5.out⟩
      · have hA := Lib.hid (fun wx (hx : Below wr.heap.size wr wx) => add_yes (ra := a) (rn := n) (rc := c) (B := B) (cnt := k) (f := f) hm HIN.out hlk (by omega) hwe hf wx ((HR.out.below hbw).below hx) (hst.below hx))
        have HG2 : Hid (GoodTo read m l (k + 1)) := Lib.hid (fun j hj => by
          by_cases h1 : j < k
          · exact hgood.out j h1
          · obtain rfl : j = k := by omega
            unfold chkTo; rw [he]; exact hf)
        have HTK : Hid (l.take (k + 1) = l.take k ++ [e]) := Lib.hid (by rw [List.take_add_one, he]; rfl)
        have HB := Lib.hid hb
        have HBR := Lib.hid hbsz
        obtain ⟨k0, s0, b0, x0⟩ := e
        unfold evV at hA
        simp only at hA hc0 hc1 hc2 hc3
        subst ha
        clear hcell he hf hgood hst hb hwe hbw
        go_wp2_with fail
        refine (hA.out _ (by first | with_reducible exact Below.refl _ _ | with_reducible exact blA _ _)).mono ?_
        rintro e w5 ⟨rfl, hb5, f5, hst5, _⟩
        have HB5 := Lib.hid (HB.out.trans (by first | exact ((blA _ _).mono HBR.out).trans hb5 | exact hb5))
        rw [← HTK.out] at hst5
        have HST5 : Hid (∃ f', StM w5 B m (k + 1) (.slice a n c) (stOf m (l.take (k + 1))) f') := Lib.hid ⟨f5, hst5⟩
        clear hb5 hst5
        go_wp2_with fail
        go_roundw
        case rel => exact ⟨k + 1, by omega, by go_num, HG2, HB5.out, HST5⟩
        case measure => simp [intOf]; omega
    · obtain rfl : k = n2 := by omega
      have HRE : Hid (chkR read m l = (0, 13)) := Lib.hid (by
        unfold chkR
        rw [badAt_none (by rw [HN.out]; exact hgood.out)])
      have HBW := Lib.hid (HB1.out.trans (hb.mono (by have := HBB.out; have := HB1.out.size; omega)))
      clear hgood hst hb
      go_wp2_with fail
      go_ret2
      exact ⟨by rw [HRE.out]; rfl, HBW.out⟩
end Go.Proofs.YtmjgdnpfgkpaoaaGreatDoor
namespace Go.Proofs.YtmjgdnpfgkpaoaaGreatDoor
open Go.RowKit Go.Maps

/-- the row of a slice being built is none of the rows of a run's map -/
def OutC (f : Lit → Option Value) (v : Value) : Prop := ∀ (b : Int) u, f (keyI b) = some u → ∀ g, u.ownBlock = some g → v.ownBlock ≠ some g

theorem poss_bal {read : List (BitVec 16)} {n : Nat} {l : List Ev} {e : Ev} (h : e ∈ possS read n l) : 1 ≤ e.ballot ∧ e.ballot ≤ 4 := by
  unfold possS possTo at h
  obtain ⟨b, hb, h⟩ := List.mem_flatMap.1 h
  have hb4 := List.mem_range.1 hb
  unfold possC at h
  rcases List.mem_append.1 h with h | h
  · unfold possA at h
    obtain ⟨s, _, rfl⟩ := List.mem_map.1 h
    show (1 : Int) ≤ ((b + 1 : Nat) : Int) ∧ ((b + 1 : Nat) : Int) ≤ 4
    omega
  · split at h
    · unfold possB at h
      obtain ⟨s, _, rfl⟩ := List.mem_map.1 h
      show (1 : Int) ≤ ((b + 1 : Nat) : Int) ∧ ((b + 1 : Nat) : Int) ≤ 4
      omega
    · cases h

theorem StM.grown {w w' : World} {B m cnt : Nat} {sl : Value} {st : St} {f : Lit → Option Value} (h : StM w B m cnt sl st f) {v : Value} (hg : w.grownBy w' v.ownBlock) (hv : ∀ g, v.ownBlock = some g → B + 4 ≤ g) (hc : OutC f v) : StM w' B m cnt sl st f := by
  have hB : B < w.heap.size := (Array.getElem?_eq_some_iff.1 h.acc).1
  have hB3 : B + 3 < w.heap.size := (Array.getElem?_eq_some_iff.1 h.run).1
  have hB1 := h.reps.lt
  have hB2 := h.vals.lt
  refine ⟨?_, h.len, ?_, h.reps.at ?_, h.vals.at ?_, fun b => ?_, h.apart, h.srv⟩
  · exact (hg.block B hB (fun e => by have := hv B e.symm; omega)).trans h.acc
  · exact (hg.block _ hB3 (fun e => by have := hv _ e.symm; omega)).trans h.run
  · exact hg.block _ hB1 (fun e => by have := hv _ e.symm; omega)
  · exact hg.block _ hB2 (fun e => by have := hv _ e.symm; omega)
  · have h1 := h.rows b
    cases hf : f (keyI b) with
    | none => rw [hf] at h1; exact h1
    | some u =>
      rw [hf] at h1
      exact rowK_atS h1 fun g hgu => hg.block g (h.rowLt hf hgu).2 (fun e => hc b u hf g hgu e.symm)

/-- the row of events through one event of the run -/
theorem out_frm {B n k : Nat} {e : TypeId} {l : List Value} {f f' : Lit → Option Value} {w w' : World} {v : Value} (hf : Frm B f f' w w') (ho : w.ownsRow (B + 4) e k v n l) (hc : OutC f v) : w'.ownsRow (B + 4) e k v n l ∧ OutC f' v := by
  refine ⟨rowK_atS ho fun g hg => ?_, fun b u hu g hg e => ?_⟩
  · have h1 := World.ownsRow.lt ho g hg
    exact hf.keep g h1.2 (by omega) (by omega) (by omega) (fun b u hu e => hc b u hu g e hg)
  · have h1 := World.ownsRow.lt ho g e
    rcases hf.own b u hu g hg with h2 | ⟨b0, v0, h2, h3⟩
    · omega
    · exact hc b0 v0 h2 g h3 e
/-- the row of events, appended to -/
theorem out_app {B m cnt : Nat} {sl : Value} {st : St} {f : Lit → Option Value} {w : World} {v v' : Value} (h : StM w B m cnt sl st f) (hc : OutC f v) (hv : ∀ g, v'.ownBlock = some g → v.ownBlock = some g ∨ w.heap.size ≤ g) : OutC f v' := by
  intro b u hu g hg e
  rcases hv g e with h1 | h1
  · exact hc b u hu g hg h1
  · have := (h.rowLt hu hg).2
    omega
theorem outC_nil {v : Value} : OutC (fun _ => none) v := fun b u h => by cases h
/-- a block above the run's, none of its rows, through one event -/
theorem cell_frm {B : Nat} {f f' : Lit → Option Value} {w w' : World} (hf : Frm B f f' w w') {k i : Nat} {x : Value} (hk : w.cell? ⟨k, i, none⟩ = some x) (h4 : B + 4 ≤ k) (hc : ∀ (b : Int) v, f (keyI b) = some v → v.ownBlock ≠ some k) : w'.cell? ⟨k, i, none⟩ = some x :=
  (World.cell?_of_block (hf.keep k (cell_lt hk) (by omega) (by omega) (by omega) hc)).trans hk
end Go.Proofs.YtmjgdnpfgkpaoaaGreatDoor
namespace Go.Proofs.YtmjgdnpfgkpaoaaGreatDoor

theorem sys_mem {M : Nat} (hM : M ≤ 4) {l : List Int} (h : ∀ z ∈ l, 0 ≤ z ∧ z < 256) {x : BitVec 16} (hx : x ∈ sysS (1 + M) l) : x.toNat < 2 ^ (1 + M) ∧ x ≠ 0#16 := by
  unfold sysS madS at hx
  have h1 := (minS_good _).2 x hx
  unfold madL at h1
  obtain ⟨z, hz, rfl⟩ := List.mem_map.1 h1
  have hz2 := List.mem_of_mem_take hz
  unfold kepI at hz2
  obtain ⟨h0, h32, hlt, hne⟩ := kepTo_rng hM h _ z hz2
  obtain ⟨k, rfl⟩ := Int.eq_ofNat_of_zero_le h0
  have e : (mad (k : Int)).toNat = k := by
    unfold mad
    rw [show ((k : Int) % 64) = (k : Int) by omega]
    simp; omega
  constructor
  · rw [e]; exact_mod_cast hlt
  · intro h9
    have := congrArg BitVec.toNat h9
    rw [e] at this
    simp at this
    omega
theorem off_not {m : Nat} {f : List (BitVec 16)} (h : ∀ x ∈ f, x.toNat < 2 ^ m) : offB m f = false := by
  unfold offB
  rw [shr_big, decide_eq_false_iff_not]
  intro hle
  have : (supS f).toNat < 2 ^ m := Nat.lt_pow_two_of_testBit _ fun i hi => by
    cases hq : (supS f).toNat.testBit i
    · rfl
    · exfalso
      obtain ⟨x, hx, hxi⟩ := supS_has'.1 (show hasB (supS f) i = true from hq)
      have h1 := h x hx
      rw [hasB_nat] at hxi
      have h2 := Nat.ge_two_pow_of_testBit hxi
      have h3 : 2 ^ m ≤ 2 ^ i := Nat.pow_le_pow_right (by decide) hi
      omega
  omega
theorem z_not {f : List (BitVec 16)} (h : ∀ x ∈ f, x ≠ 0#16) : hasZ f = false := by
  unfold hasZ
  rw [List.any_eq_false]
  intro x hx
  have := h x hx
  simpa using fun e => this e.symm
theorem sys_chk {M : Nat} (hM : M ≤ 4) {l1 l2 : List Int} (h1 : ∀ z ∈ l1, 0 ≤ z ∧ z < 256) (h2 : ∀ z ∈ l2, 0 ≤ z ∧ z < 256) : chkS ((1 + M : Nat) : Int) [sysS (1 + M) l1, sysS (1 + M) l2] = 0 := by
  rw [chk2 (1 + M) (by omega) (by omega), if_neg, if_neg, off_not fun x hx => (sys_mem hM h1 hx).1, off_not fun x hx => (sys_mem hM h2 hx).1, z_not fun x hx => (sys_mem hM h1 hx).2, z_not fun x hx => (sys_mem hM h2 hx).2]
  · rfl
  · rw [show valS (sysS (1 + M) l2) = 0 from made_valid _]; decide
  · rw [show valS (sysS (1 + M) l1) = 0 from made_valid _]; decide
theorem chk_one {m : Nat} (hm : m ≤ 12) {f g : List (BitVec 16)} (h : chkS m [f, g] = 0) : chkS m [f] = 0 := by
  by_cases h1 : 1 ≤ m
  · rw [← chk_nil, chk2 m h1 hm]
    rw [chk2 m h1 hm] at h
    by_cases hf : valS f = 0
    · rw [if_neg (by rw [hf]; decide)] at h ⊢
      rw [if_neg (by decide +kernel)]
      have ho : offB m [] = false := off_not fun x hx => (by cases hx)
      have hz : hasZ [] = false := rfl
      rw [ho, hz, Bool.or_false, Bool.or_false]
      by_cases hg : valS g = 0
      · rw [if_neg (by rw [hg]; decide)] at h
        cases hoo : offB m f
        · rw [hoo, Bool.false_or] at h
          cases hzz : hasZ f
          · rfl
          · rw [hzz, Bool.true_or] at h
            split at h <;> cases h
        · rw [hoo] at h; cases h
      · rw [if_pos hg] at h; exact absurd h hg
    · rw [if_pos hf] at h; exact absurd h hf
  · exfalso; unfold chkS at h; rw [if_pos (by omega)] at h; cases h
theorem good_chk {read : List (BitVec 16)} {m : Nat} {l : List Ev} (h : Good read m l) : chkR read m l = (0, 13) := by
  unfold chkR
  rw [badAt_none (good_app h)]
theorem run_wf {read : List (BitVec 16)} {m : Nat} (hm : m ≤ 12) (ch : List Int) : ∀ e ∈ runS read m ch, (Lit.int .i64 e.ballot).wf = true := by
  have key : ∀ k, ∀ e ∈ runTo read m ch k, 1 ≤ e.ballot ∧ e.ballot ≤ 4 := by
    intro k
    induction k with
    | zero => intro e he; simp [runTo] at he
    | succ k ih =>
      intro e he
      cases hc : ch[k]? with
      | none =>
        unfold runTo at he ih
        rw [List.take_add_one, hc] at he
        simp at he
        exact ih e he
      | some c =>
        rw [runTo_succ hc] at he
        unfold runStep at he
        split at he
        · rename_i x hx
          rcases List.mem_append.1 he with he | he
          · exact ih e he
          · rw [List.mem_singleton] at he; subst he
            unfold pickE at hx
            exact poss_bal (List.mem_of_getElem? hx)
        · exact ih e he
  intro e he
  rw [← runTo_all] at he
  have := key _ e he
  exact WalkArith.wf_i64 (by omega)
end Go.Proofs.YtmjgdnpfgkpaoaaGreatDoor
namespace Go.Proofs.YtmjgdnpfgkpaoaaGreatDoor
open Go.RowKit Go.Maps

set_option maxRecDepth 100000 in
set_option maxHeartbeats 4000000 in
theorem prun_c (read write : List (BitVec 16)) (a : Option Addr) (n c : Nat) (aw : Option Addr) (nw cw : Nat) (m : Nat) (ch : List Nat) (a3 : Option Addr) (n3 c3 : Nat) (w : World) (h : Rd w a n c (read.map setV2)) (hw : Rd w aw nw cw (write.map setV2)) (h3 : Rd w a3 n3 c3 (ch.map chV)) (hch : ∀ x ∈ ch, x < 256) (hl : ch.length ≤ 30) (hm : m ≤ 12) (hchk : chkS m [read, write] = 0) :
    Calls Tryz.prog 21 #[.slice a n c, .slice aw nw cw, .int .i64 m, .slice a3 n3 c3] w fun e w' => ∃ v, e = .returned (.tuple #[v, .int .i64 0]) ∧ w'.ownsRow w.heap.size 68 4 v (runS read m (ch.map Int.ofNat)).length ((runS read m (ch.map Int.ofNat)).flatMap evC) ∧ Below w.heap.size w w' := by
  have hnl : ch.length = n3 := by have := h3.len; simp at this; omega
  have hb0 : Below w.heap.size w (w.alloc (.cells #[.slice a n c, .slice aw nw cw] 25)) := (Below.refl _ w).alloc (Nat.le_refl _) _
  have hss : RdSS (w.alloc (.cells #[.slice a n c, .slice aw nw cw] 25)) (some ⟨w.heap.size, 0, none⟩) 2 2 [read, write] := by
    refine ⟨[.slice a n c, .slice aw nw cw], Rd.lit _ _ _ 2 _ rfl rfl (by decide), rfl, fun i L hi => ?_⟩
    match i, hi with
    | 0, hi => cases hi; exact ⟨a, n, c, rfl, h.below hb0⟩
    | 1, hi => cases hi; exact ⟨aw, nw, cw, rfl, hw.below hb0⟩
    | i + 2, hi => simp at hi
  have HC := Lib.hid (check_c m [read, write] _ 2 2 _ hss)
  rw [hchk] at HC
  have HB0 := Lib.hid hb0
  have HG := Lib.hid (fun w => begin_st m hm a n c w)
  have HR := Lib.hid h
  have HR3 := Lib.hid h3
  have HN := Lib.hid hnl
  have HCH := Lib.hid hch
  have hle := h3.le
  have hmx := h3.max
  unfold maxLen at hmx
  rw [hnl] at hl
  clear h hw h3 hss hb0 hnl hch hchk
  go_enter Tryz.func21, Tryz.ntmps21
  go_wp2_with fail
  refine HC.out.mono ?_
  rintro e w1 ⟨rfl, hb1⟩
  have HB1 := Lib.hid (Below.next HB0.out (by exact hb1))
  clear hb1
  go_wp2_with fail
  refine (HG.out w1).mono ?_
  rintro e w2 ⟨rfl, hb2, hst2⟩
  have HB2 := Lib.hid hb2
  have HST2 := Lib.hid hst2
  obtain ⟨B, hB⟩ : ∃ B, w1.heap.size = B := ⟨_, rfl⟩
  rw [hB] at HST2 HB2 ⊢
  have HBB := Lib.hid hB
  clear hb2 hst2 hB
  go_wp2_with fail
  go_loopw [12, 30] (fun v i wr => ∃ k : Nat, k ≤ n3 ∧ i = .int .i64 k ∧ wr.ownsRow (B + 4) 68 4 v (runTo read m (ch.map Int.ofNat) k).length ((runTo read m (ch.map Int.ofNat) k).flatMap evC) ∧ Below B w1 wr ∧ Hid (∃ f, StM wr B m k (.slice a n c) (stOf m (runTo read m (ch.map Int.ofNat) k)) f ∧ OutC f v)) (fun _ i _ => n3 - (intOf i).toNat)
  case atStart => exact ⟨0, Nat.zero_le _, rfl, World.ownsRow_nil _ _ _ _, HB2.out, Lib.hid ⟨_, HST2.out, outC_nil⟩⟩
  case round =>
    obtain ⟨k, hk, rfl, hown, hb, hst⟩ := hrel
    obtain ⟨f, hst2, hoc⟩ := hst.out
    have hbw : Below w.heap.size w wr := HB1.out.trans (hb.mono (by have := HBB.out; have := HB1.out.size; omega))
    have HB := Lib.hid hb
    have HBW := Lib.hid hbw
    have HOWN := Lib.hid hown
    have HST := Lib.hid hst2
    have HOC := Lib.hid hoc
    have HLT := Lib.hid hown.lt
    by_cases hlt : k < n3
    · obtain ⟨x, hx⟩ : ∃ x, ch[k]? = some x := ⟨ch[k]'(by have := HN.out; omega), List.getElem?_eq_getElem _⟩
      have hx256 := HCH.out x (List.mem_of_getElem? hx)
      have hrd := HR3.out.below hbw
      obtain ⟨b', o, ha, hcell⟩ := hrd.at' (by omega)
      have hc0 := hcell k (chV x) (by simp [hx])
      unfold chV at hc0
      have hsuc : runTo read m (ch.map Int.ofNat) (k + 1) = runStep read m (runTo read m (ch.map Int.ofNat) k) (x : Int) := runTo_succ (by simp [hx])
      have HSUC := Lib.hid hsuc
      obtain ⟨ao, co, rfl, hro⟩ := rdK_of_row hown
      have HLEN := Lib.hid (runTo_len read m (ch.map Int.ofNat) k)
      have HGOOD := Lib.hid (good_inv hm (runTo_good read m (ch.map Int.ofNat) k))
      have HPO := Lib.hid (ppossible_c read a n c B m k _ f hm wr (HR.out.below hbw) HST.out)
      rw [poss_eq HGOOD.out] at HPO
      have hsz := hb.size
      subst ha
      clear hcell hx hb hown hrd hsuc hro hst hst2 hoc hbw
      go_wp2_with fail
      refine HPO.out.mono ?_
      rintro e w3 ⟨vl, rfl, hown2, hb3⟩
      obtain ⟨al, cl, rfl, hrl⟩ := rdK_of_row hown2
      have hc3 := (hb3.cell (p := ⟨b', o + k, none⟩) (cell_lt hc0)).trans hc0
      have HB3 := Lib.hid hb3
      clear hown2 hb3 HPO
      by_cases hz : possS read m (runTo read m (ch.map Int.ofNat) k) = []
      · have HSTO := Lib.hid (runTo_stop hz)
        rw [hz]
        clear hrl hz
        go_wp2_with fail
        go_ret2
        exact ⟨_, rfl, by rw [← HSTO.out]; exact rowK_mono (rowK_below HOWN.out HB3.out) (by have := HBB.out; have := HB1.out.size; omega), Below.next HBW.out HB3.out⟩
      · obtain ⟨L, hL⟩ : ∃ L, (possS read m (runTo read m (ch.map Int.ofNat) k)).length = L := ⟨_, rfl⟩
        have hL0 : 0 < L := by rw [← hL]; exact List.length_pos_iff.2 hz
        obtain ⟨r, hr⟩ : ∃ r, x % L = r := ⟨_, rfl⟩
        have hrL : r < L := by rw [← hr]; exact Nat.mod_lt _ hL0
        obtain ⟨e, he⟩ : ∃ e, (possS read m (runTo read m (ch.map Int.ofNat) k))[r]? = some e := ⟨_, List.getElem?_eq_getElem (by omega)⟩
        have HTO : Hid (runTo read m (ch.map Int.ofNat) (k + 1) = runTo read m (ch.map Int.ofNat) k ++ [e]) := Lib.hid (by
          rw [HSUC.out]; unfold runStep pickE
          rw [hL, show ((x : Int) % (L : Int)).toNat = r by rw [← Int.natCast_emod, Int.toNat_natCast, hr], he])
        have hrem : Int.tmod (x : Int) (L : Int) = (r : Int) := by rw [← hr]; exact (Int.ofNat_tmod x L).symm
        have hmem := List.mem_of_getElem? he
        have hbal := poss_bal hmem
        have HA := Lib.hid (fun wx (hx : Below wr.heap.size wr wx) => add_yes (ra := a) (rn := n) (rc := c) (B := B) (cnt := k) (f := f) (e := e) hm HGOOD.out (by have := HLEN.out; omega) (by omega) (WalkArith.wf_i64 (by omega)) (poss_fol hmem) wx ((HR.out.below HBW.out).below hx) (HST.out.below hx))
        rw [← HTO.out] at HA
        rw [hL] at hrl ⊢
        obtain ⟨b2, o2, ha2, hcell2⟩ := RdK.cells hrl evC_len hL0
        have g0 := hcell2 r e he 0 (by omega)
        have g1 := hcell2 r e he 1 (by omega)
        have g2 := hcell2 r e he 2 (by omega)
        have g3 := hcell2 r e he 3 (by omega)
        obtain ⟨kd, sv, eb, y⟩ := e
        simp only [evC, List.getElem?_cons_zero, List.getElem?_cons_succ, Nat.add_zero] at g0 g1 g2 g3
        subst ha2
        have q0 : (0 : Int) ≤ (r : Int) := by omega
        have q1 : (r : Int) < (L : Int) := by omega
        have q2 : ((L : Int) == 0) = false := by simp; omega
        have hlm := hrl.le
        have hlx := hrl.max
        unfold maxLen at hlx
        clear hz hcell2 he hrl hL hr hmem hbal
        go_wp2_with fail
        refine (HA.out _ (HB3.out.trans ((blA _ _).mono HB3.out.size))).mono ?_
        rintro e w5 ⟨rfl, hb5, f5, hst5, hfr5⟩
        have hsz3 := HB3.out.size
        have hBB := HBB.out
        have hB4 : B + 4 ≤ wr.heap.size := (Array.getElem?_eq_some_iff.1 HST.out.run).1
        have ho5 := out_frm hfr5 (rowK_below (rowK_below HOWN.out HB3.out) (blA _ _)) HOC.out
        have hcl : ∀ (b : Int) v, f (keyI b) = some v → v.ownBlock ≠ some w3.heap.size := fun b v hv e => by
          have := (HST.out.rowLt hv e).2; omega
        have z0 := cell_frm hfr5 (cell_new w3 #[.int .i64 kd, .int .i64 sv, .int .i64 eb, .string y] 68 0 _ rfl) (by omega) hcl
        have z1 := cell_frm hfr5 (cell_new w3 #[.int .i64 kd, .int .i64 sv, .int .i64 eb, .string y] 68 1 _ rfl) (by omega) hcl
        have z2 := cell_frm hfr5 (cell_new w3 #[.int .i64 kd, .int .i64 sv, .int .i64 eb, .string y] 68 2 _ rfl) (by omega) hcl
        have z3 := cell_frm hfr5 (cell_new w3 #[.int .i64 kd, .int .i64 sv, .int .i64 eb, .string y] 68 3 _ rfl) (by omega) hcl
        have hb15 : Below B w1 w5 := HB.out.trans (((HB3.out.trans ((blA _ _).mono HB3.out.size)).mono (by omega)).trans hb5)
        have HB15 := Lib.hid hb15
        have HST5 := Lib.hid hst5
        have HO5 := Lib.hid ho5
        have hown5 := ho5.1
        have hB5 : B + 4 ≤ w5.heap.size := (Array.getElem?_eq_some_iff.1 hst5.run).1
        have hbr : Below (B + 4) w5 w5 := Below.refl _ _
        have hln := HLEN.out
        clear hb5 hst5 hfr5 ho5 hcl hb15 g0 g1 g2 g3 HA hBB hsz3 hrem q0 q1 q2
        go_wp2_with (at_builtin; go_must (refine wpList_appK2 4 _ _ 57 40 (.agg #[.int .i64 0, .int .i64 0, .int .i64 0, .string ⟨#[]⟩]) (evC ⟨kd, sv, eb, y⟩) _ Tryz.underlying57 Tryz.infoEv rfl (by decide) hown5 hbr hB5 rfl rfl rfl rfl rfl (by intro u hu; exact ev_one [⟨kd, sv, eb, y⟩] u (by simpa using hu)) (by unfold maxLen; omega) (by omega) ?_))
        intro v' w6 hown6 hb6 hg6 hs6 hv6
        have HOWN6 : Hid (w6.ownsRow (B + 4) 68 4 v' (runTo read m (ch.map Int.ofNat) (k + 1)).length ((runTo read m (ch.map Int.ofNat) (k + 1)).flatMap evC)) := Lib.hid (by rw [HTO.out]; simpa using hown6)
        have HST6 : Hid (∃ f', StM w6 B m (k + 1) (.slice a n c) (stOf m (runTo read m (ch.map Int.ofNat) (k + 1))) f' ∧ OutC f' v') := Lib.hid ⟨f5, HST5.out.grown hg6 (fun g hg => (hown5.lt g hg).1) HO5.out.2, out_app HST5.out HO5.out.2 hv6⟩
        have HB6 := Lib.hid (HB15.out.trans (hb6.mono (by omega)))
        clear hown5 hbr hown6 hb6 hg6 hs6 hv6 z0 z1 z2 z3
        go_wp2_with fail
        go_roundw
        case rel => exact ⟨k + 1, by omega, by go_num, HOWN6.out, HB6.out, HST6⟩
        case measure => simp [intOf]; omega
    · obtain rfl : k = n3 := by omega
      have HE : Hid (runTo read m (ch.map Int.ofNat) k = runS read m (ch.map Int.ofNat)) := Lib.hid (by rw [← runTo_all, List.length_map, HN.out])
      clear hown hst hst2 hoc hb hbw
      go_wp2_with fail
      go_ret2
      exact ⟨_, rfl, by rw [← HE.out]; exact rowK_mono HOWN.out (by have := HBB.out; have := HB1.out.size; omega), HBW.out⟩
end Go.Proofs.YtmjgdnpfgkpaoaaGreatDoor
namespace Go.Proofs.YtmjgdnpfgkpaoaaGreatDoor
open Go.RowKit

def SmV (v : ByteArray) : Prop := v.size ≤ 100
def SmL (l : List Ev) : Prop := ∀ e ∈ l, SmV e.value
theorem sm_nil : SmV ⟨#[]⟩ := by show (0 : Nat) ≤ 100; decide
theorem sm_valB {b : Nat} (h : b < 10) : SmV (valB b) := by
  have := dec_small b h
  unfold SmV valB
  show (118 :: Lib.decDigits b).toArray.size ≤ 100
  simp; omega
theorem atS_small {l : List Acc} (h : ∀ a ∈ l, SmV a.val) (s : Int) : SmV (atS l s).val := by
  unfold atS
  rw [List.getD_eq_getElem?_getD]
  cases hq : l[s.toNat]? with
  | none => exact sm_nil
  | some a => exact h a (List.mem_of_getElem? hq)
theorem stepA_small {l : List Acc} {e : Ev} (h : ∀ a ∈ l, SmV a.val) (he : SmV e.value) : ∀ a ∈ stepA l e, SmV a.val := by
  intro a ha
  unfold stepA at ha
  split at ha
  · split at ha
    · rcases List.mem_or_eq_of_mem_set ha with h1 | h1
      · exact h a h1
      · rw [h1]; exact atS_small h e.server
    · exact h a ha
  · split at ha
    · rcases List.mem_or_eq_of_mem_set ha with h1 | h1
      · exact h a h1
      · rw [h1]; exact he
    · exact h a ha
theorem repA_small (n : Nat) {l : List Ev} (h : SmL l) : ∀ a ∈ repA n l, SmV a.val := by
  unfold repA
  have : ∀ (l : List Ev) (o : List Acc), (∀ a ∈ o, SmV a.val) → SmL l → ∀ a ∈ l.foldl stepA o, SmV a.val := by
    intro l
    induction l with
    | nil => intro o ho _; exact ho
    | cons e l ih => intro o ho hl; exact ih _ (stepA_small ho (hl e (List.mem_cons_self ..))) fun x hx => hl x (List.mem_cons_of_mem _ hx)
  refine this l _ (fun a ha => ?_) h
  rw [(List.mem_replicate.1 ha).2]; exact sm_nil
theorem repS_small {n : Nat} {l : List Ev} (h : SmL l) (b : Int) : ∀ r ∈ repS n l b, SmV r.value := by
  intro r hr
  unfold repS repTo at hr
  obtain ⟨k, _, hk⟩ := List.mem_flatMap.1 hr
  unfold repE at hk
  split at hk
  · split at hk
    · rw [List.mem_singleton] at hk; subst hk
      exact atS_small (repA_small n fun e he => h e (List.mem_of_mem_take he)) _
    · cases hk
  · cases hk
theorem bestR_small {l : List Rep} (h : ∀ r ∈ l, SmV r.value) : SmV (bestR l).2 := by
  unfold bestR
  have : ∀ (l : List Rep) (o : Int × ByteArray), SmV o.2 → (∀ r ∈ l, SmV r.value) → SmV (l.foldl stepR o).2 := by
    intro l
    induction l with
    | nil => intro o ho _; exact ho
    | cons r l ih =>
      intro o ho hl
      refine ih _ ?_ fun x hx => hl x (List.mem_cons_of_mem _ hx)
      unfold stepR
      split
      · exact hl r (List.mem_cons_self ..)
      · exact ho
  exact this l _ sm_nil h
theorem dem_small {read : List (BitVec 16)} {n : Nat} {l : List Ev} (h : SmL l) (b : Int) : SmV (demS read n l b).1 := by
  unfold demS
  split
  · rename_i v hv
    unfold valF at hv
    cases hf : l.find? (isAcc b) with
    | none => rw [hf] at hv; cases hv
    | some e => rw [hf] at hv; injection hv with hv; rw [← hv]; exact h e (List.mem_of_find?_eq_some hf)
  · unfold pickS
    split
    · exact sm_nil
    · split
      · exact sm_nil
      · split
        · exact sm_nil
        · split
          · exact sm_nil
          · exact bestR_small (repS_small h b)
theorem poss_small {read : List (BitVec 16)} {n : Nat} {l : List Ev} (h : SmL l) {e : Ev} (he : e ∈ possS read n l) : SmV e.value := by
  unfold possS possTo at he
  obtain ⟨b, hb, h1⟩ := List.mem_flatMap.1 he
  have hb4 := List.mem_range.1 hb
  unfold possC at h1
  rcases List.mem_append.1 h1 with h1 | h1
  · unfold possA at h1
    obtain ⟨s, _, rfl⟩ := List.mem_map.1 h1
    exact sm_nil
  · split at h1
    · rename_i v hv
      unfold possB at h1
      obtain ⟨s, _, rfl⟩ := List.mem_map.1 h1
      show SmV v
      unfold demV at hv
      split at hv
      · injection hv with hv; rw [← hv]; exact sm_valB (by omega)
      · split at hv
        · cases hv
        · injection hv with hv; rw [← hv]; exact dem_small h _
    · cases h1
theorem runTo_small (read : List (BitVec 16)) (m : Nat) (ch : List Int) : ∀ k, SmL (runTo read m ch k) := by
  intro k
  induction k with
  | zero => intro e he; simp [runTo] at he
  | succ k ih =>
    intro e he
    cases hc : ch[k]? with
    | none =>
      unfold runTo at he ih
      rw [List.take_add_one, hc] at he
      simp at he
      exact ih e he
    | some c =>
      rw [runTo_succ hc] at he
      unfold runStep at he
      split at he
      · rename_i x hx
        rcases List.mem_append.1 he with he | he
        · exact ih e he
        · rw [List.mem_singleton] at he; subst he
          unfold pickE at hx
          exact poss_small ih (List.mem_of_getElem? hx)
      · exact ih e he
theorem run_small {read : List (BitVec 16)} {m : Nat} (ch : List Int) : ∀ e ∈ runS read m ch, e.value.size ≤ maxLen := by
  intro e he
  rw [← runTo_all] at he
  have := runTo_small read m ch _ e he
  unfold SmV at this
  unfold maxLen; omega

/-- Run, what it hands back being read -/
theorem prunR_c (read write : List (BitVec 16)) (a : Option Addr) (n c : Nat) (aw : Option Addr) (nw cw : Nat) (m : Nat) (ch : List Nat) (a3 : Option Addr) (n3 c3 : Nat) (w : World) (h : Rd w a n c (read.map setV2)) (hw : Rd w aw nw cw (write.map setV2)) (h3 : Rd w a3 n3 c3 (ch.map chV)) (hch : ∀ x ∈ ch, x < 256) (hl : ch.length ≤ 30) (hm : m ≤ 12) (hchk : chkS m [read, write] = 0) :
    Calls Tryz.prog 21 #[.slice a n c, .slice aw nw cw, .int .i64 m, .slice a3 n3 c3] w fun e w' => ∃ a' c', e = .returned (.tuple #[.slice a' (runS read m (ch.map Int.ofNat)).length c', .int .i64 0]) ∧ RdK 4 w' a' (runS read m (ch.map Int.ofNat)).length c' ((runS read m (ch.map Int.ofNat)).flatMap evC) ∧ Below w.heap.size w w' :=
  (prun_c read write a n c aw nw cw m ch a3 n3 c3 w h hw h3 hch hl hm hchk).mono fun e w' ⟨v, h1, h2, h3⟩ => by
    obtain ⟨a', c', rfl, hr⟩ := rdK_of_row h2
    exact ⟨a', c', h1, hr, h3⟩
end Go.Proofs.YtmjgdnpfgkpaoaaGreatDoor
namespace Go.Proofs.YtmjgdnpfgkpaoaaGreatDoor
open Go.RowKit Go.Maps

theorem laidOut37 : laidOutB Tryz.prog = true := by kernel_rfl
set_option maxRecDepth 100000 in
theorem acc_under : ∃ n1 n2 : Field, Tryz.prog.underlying 121 = some (.struct #[n1, n2]) ∧ n1.name ≠ "_" ∧ n2.name ≠ "_" ∧ n1.type = 3 ∧ n2.type = 9 ∧ n1.offset = 0 ∧ n2.offset = 1 := ⟨_, _, Tryz.underlying121, by decide, by decide, rfl, rfl, rfl, rfl⟩
theorem accd_cells : Tryz.prog.cellsOf 121 = 2 := by kernel_rfl
theorem int_cells : Tryz.prog.cellsOf 3 = 1 := by kernel_rfl
theorem str_cells : Tryz.prog.cellsOf 9 = 1 := by kernel_rfl
theorem acc_wide : (match Tryz.prog.underlying 121 with | some (.array _ _) | some (.struct _) => true | _ => false) = true := by kernel_rfl
set_option maxRecDepth 100000 in
theorem kAcc : Keyed Tryz.prog 121 := Keyed.of_law (deep_law_laid laidOut37 (m := 2) (by omega) (of_decide_eq_true (by kernel_rfl)) (by kernel_rfl) acc_wide)
theorem acc_key : Tryz.prog.keyType 121 = true := by kernel_rfl

def keyA (b : Int) (v : ByteArray) : Value := .agg #[.int .i64 b, .string v]
def klA (b : Int) (v : ByteArray) : Lit := .string (keyBytes [.int .i64 b, .string v.data.toList])
theorem keyLits_struct {P : Program} {t : TypeId} {fs : Array Field} (hu : P.underlying t = some (.struct fs)) (D : Nat) (cs : List Value) : P.keyLits (D + 1) t cs = if cs.length = P.cellsOf t ∧ fs.all (·.name != "_") = true then (fs.toList.mapM fun f => P.keyLits D f.type ((cs.drop f.offset).take (P.cellsOf f.type))).map List.flatten else none := by
  conv => lhs; unfold Program.keyLits
  rw [hu]
theorem keyLits_i {P : Program} {t : TypeId} {q : IntKind} (hu : P.underlying t = some (.int q)) (D : Nat) (c : Value) : P.keyLits (D + 1) t [c] = (match c with | .int q' n => if q' = q ∧ (Lit.int q n).wf = true then some [.int q n] else none | _ => none) := by
  conv => lhs; unfold Program.keyLits
  rw [hu]
  cases c <;> rfl
theorem keyLits_s {P : Program} {t : TypeId} (hu : P.underlying t = some .string) (D : Nat) (c : Value) : P.keyLits (D + 1) t [c] = (match c with | .string s => if s.size ≤ maxLen then some [.string s.data.toList] else none | _ => none) := by
  conv => lhs; unfold Program.keyLits
  rw [hu]
  cases c <;> rfl
theorem keyLits_acc (D : Nat) (c0 c1 : Value) : Tryz.prog.keyLits (D + 1) 121 [c0, c1] = (match Tryz.prog.keyLits D 3 [c0], Tryz.prog.keyLits D 9 [c1] with | some a, some b => some (a ++ b) | _, _ => none) := by
  obtain ⟨n1, n2, hu, h1, h2, ht1, ht2, ho1, ho2⟩ := acc_under
  rw [keyLits_struct hu]
  have e1 : (n1.name != "_") = true := by simpa using h1
  have e2 : (n2.name != "_") = true := by simpa using h2
  have e3 : (#[n1, n2] : Array Field).all (·.name != "_") = true := by simp [e1, e2]
  rw [if_pos ⟨by rw [accd_cells]; rfl, e3⟩]
  have e4 : (#[n1, n2] : Array Field).toList = [n1, n2] := rfl
  rw [e4, List.mapM_cons, List.mapM_cons, List.mapM_nil, ht1, ht2, ho1, ho2, int_cells, str_cells]
  show Option.map List.flatten (do let r ← Tryz.prog.keyLits D 3 [c0]; _) = _
  have e5 : ([c0, c1].drop 1).take 1 = [c1] := rfl
  have e6 : ([c0, c1].drop 0).take 1 = [c0] := rfl
  rw [e5]
  generalize Tryz.prog.keyLits D 3 [c0] = A
  generalize Tryz.prog.keyLits D 9 [c1] = B
  cases A <;> cases B <;> simp
theorem keyLits_int (D : Nat) (c : Value) : Tryz.prog.keyLits (D + 1) 3 [c] = (match c with | .int q n => if q = .i64 ∧ (Lit.int .i64 n).wf = true then some [.int .i64 n] else none | _ => none) := keyLits_i Tryz.underlying3 D c
theorem keyLits_str (D : Nat) (c : Value) : Tryz.prog.keyLits (D + 1) 9 [c] = (match c with | .string s => if s.size ≤ maxLen then some [.string s.data.toList] else none | _ => none) := keyLits_s Tryz.underlying9 D c
set_option maxRecDepth 100000 in
theorem acc_size : ∃ n, Tryz.prog.types.size + 1 = n + 3 := ⟨Tryz.prog.types.size - 2, by have : 2 ≤ Tryz.prog.types.size := of_decide_eq_true (by kernel_rfl); omega⟩
set_option maxRecDepth 100000 in
theorem keyA_of {b : Int} {v : ByteArray} (hb : (Lit.int .i64 b).wf = true) (hv : v.size ≤ maxLen) : keyOf Tryz.prog 121 (keyA b v) = some (klA b v) := by
  obtain ⟨n1, n2, hu, _⟩ := acc_under
  obtain ⟨n, hn⟩ := acc_size
  unfold keyOf keyA
  rw [hu]
  simp only
  have hf : (Value.agg #[.int .i64 b, .string v]).formed Tryz.prog 121 = true := by simp [Value.formed, hu, accd_cells]
  rw [acc_key, hf]
  rw [hn]
  have : (Value.agg #[.int .i64 b, .string v]).cells.toList = [.int .i64 b, .string v] := rfl
  rw [this, keyLits_acc, keyLits_int, keyLits_str]
  simp [hb, hv, klA]
set_option maxRecDepth 100000 in
theorem keyA_inv {key : Value} {kl : Lit} (h : keyOf Tryz.prog 121 key = some kl) : ∃ b v, key = keyA b v ∧ kl = klA b v ∧ (Lit.int .i64 b).wf = true ∧ v.size ≤ maxLen := by
  obtain ⟨xs, L, rfl, hl, rfl⟩ := keyOf_top acc_wide h
  obtain ⟨n1, n2, hu, h1, h2, ht1, ht2, ho1, ho2⟩ := acc_under
  obtain ⟨n, hn⟩ := acc_size
  obtain ⟨l⟩ := xs
  have hlen : l.length = 2 := by
    rw [hn, keyLits_struct hu] at hl
    split at hl
    · rename_i hc
      rw [← accd_cells]; exact hc.1
    · cases hl
  match l, hlen with
  | [c0, c1], _ =>
    rw [hn] at hl
    rw [keyLits_acc, keyLits_int, keyLits_str] at hl
    cases c0 with
    | int q b =>
      cases c1 with
      | string v =>
        simp only at hl
        by_cases hq : q = .i64 ∧ (Lit.int .i64 b).wf = true
        · by_cases hv : v.size ≤ maxLen
          · rw [if_pos hq, if_pos hv] at hl
            simp only [Option.some.injEq] at hl
            subst hl
            obtain ⟨rfl, hw⟩ := hq
            exact ⟨b, v, rfl, rfl, hw, hv⟩
          · rw [if_pos hq, if_neg hv] at hl; cases hl
        · rw [if_neg hq] at hl; cases hl
      | _ => first | (simp at hl; done) | (simp only at hl; split at hl <;> simp_all)
    | _ => first | (simp at hl; done) | (simp only at hl; split at hl <;> simp_all)
theorem klA_inj {b b' : Int} {v v' : ByteArray} (hb : (Lit.int .i64 b).wf = true) (hv : v.size ≤ maxLen) (hb' : (Lit.int .i64 b').wf = true) (hv' : v'.size ≤ maxLen) (h : klA b v = klA b' v') : b = b' ∧ v = v' := by
  have h1 := keyA_of hb hv
  rw [h] at h1
  have := kAcc.inj h1 (keyA_of hb' hv')
  unfold keyA at this
  simp at this
  exact this
theorem klA_same {b b' : Int} {v v' : ByteArray} (hb : (Lit.int .i64 b).wf = true) (hv : v.size ≤ maxLen) (hb' : (Lit.int .i64 b').wf = true) (hv' : v'.size ≤ maxLen) : (klA b v).sameKey (klA b' v') = decide (b = b' ∧ v = v') := by
  by_cases h : b = b' ∧ v = v'
  · rw [decide_eq_true h, h.1, h.2]
    exact WideAt.sameKey_self (kAcc.key (keyA_of hb' hv'))
  · rw [decide_eq_false h]
    exact sameKey_ne fun e => h (klA_inj hb hv hb' hv' e)
end Go.Proofs.YtmjgdnpfgkpaoaaGreatDoor

namespace Go.Proofs.YtmjgdnpfgkpaoaaGreatDoor
open Go.RowKit Go.Shelf Go.Sort

theorem Tryz.infoStr : (Tryz.prog.info? 9).map (fun i => (i.zero, i.size, i.bytes)) = some (some (.string ⟨#[]⟩), 1, 16) := by kernel_rfl

theorem sortT_c (B : Nat) (v : Value) (zs : List Str) (w : World) (h : w.ownsRow B 9 1 v zs.length (zs.map encStr)) (hsz : zs.length ≤ 1000) :
    Calls Tryz.prog 62 #[v] w fun e w' => e = .returned (.tuple #[]) ∧ w'.ownsRow B 9 1 v zs.length ((zs.mergeSort fun x y => decide (x ≤ y)).map encStr) ∧ w.grownBy w' v.ownBlock := by
  have hl : (zs.mergeSort fun x y => decide (x ≤ y)).length = zs.length := List.length_mergeSort _
  rcases h.2 with ⟨rfl, h0⟩ | ⟨g, cap, cur, rfl, hbase, hb, h1, h2, h3, h4⟩
  · have hz : zs = [] := List.eq_nil_of_length_eq_zero h0
    subst hz
    refine (Tryz.slices_Sort_string_none none 0 w).mono ?_
    rintro e w' ⟨rfl, rfl⟩
    exact ⟨rfl, by simpa using World.ownsRow_nil _ _ _ _, World.grownBy.refl _ _⟩
  · refine (Tryz.slices_Sort_string g 0 cap zs w (holds_of_block hb (by simpa using h4)) (Array.getElem?_eq_some_iff.1 hb).1 (by omega)).mono ?_
    rintro e w' ⟨rfl, n, os, rfl⟩
    exact ⟨rfl, ownsRow_sorted hl hbase hb h1 h2 h3, grownBy_sorted _⟩

theorem compact_len (zs : List Str) : (Lib.compact zs).length ≤ zs.length := by
  unfold Lib.compact Lib.compactUpTo
  rw [List.length_map]
  exact Nat.le_trans (List.length_filter_le _ _) (by simp)
/-- what Compact hands back is read, and lies in the row that it was given (or is nil) -/
theorem compactT_c (B : Nat) (v : Value) (zs : List Str) (w : World) (h : w.ownsRow B 9 1 v zs.length (zs.map encStr)) (hsz : zs.length ≤ 1000) :
    Calls Tryz.prog 63 #[v] w fun e w' => ∃ a c, e = .returned (.slice a (Lib.compact zs).length c) ∧ Rd w' a (Lib.compact zs).length c ((Lib.compact zs).map encStr) ∧ w.grownBy w' v.ownBlock := by
  rcases h.2 with ⟨rfl, h0⟩ | ⟨g, cap, cur, rfl, hbase, hb, h1, h2, h3, h4⟩
  · have hz : zs = [] := List.eq_nil_of_length_eq_zero h0
    subst hz
    refine (Tryz.slices_Compact_string_empty none 0 w).mono ?_
    rintro e w' ⟨rfl, rfl⟩
    exact ⟨none, 0, rfl, Rd.none_ _, World.grownBy.refl _ _⟩
  · refine (Tryz.slices_Compact_string g 0 cap zs w (holds_of_block hb (by simpa using h4)) (by omega) h1).mono ?_
    rintro e w' ⟨rfl, q, rfl⟩
    have hcl := compact_len zs
    have hl : (Lib.compact zs ++ List.replicate (zs.length - (Lib.compact zs).length) []).length = zs.length := by rw [List.length_append, List.length_replicate]; omega
    have ho := ownsRow_sorted (n := q) (os := #[]) hl hbase hb h1 h2 h3
    have hg := grownBy_sorted (w := w) (g := g) (n := q) (os := #[]) (Lib.compact zs ++ List.replicate (zs.length - (Lib.compact zs).length) []).toArray
    rw [grow_empty] at ho hg
    obtain ⟨a, c, hv, hr⟩ := rd_of_row ho
    injection hv with hv1 hv2 hv3
    subst hv1 hv3
    have hr2 := hr.take (Lib.compact zs).length hcl
    rw [List.map_append, List.take_append_of_le_length (by simp), List.take_of_length_le (by simp)] at hr2
    exact ⟨_, _, rfl, hr2, hg⟩
end Go.Proofs.YtmjgdnpfgkpaoaaGreatDoor
namespace Go.Proofs.YtmjgdnpfgkpaoaaGreatDoor
open Go.RowKit Go.Shelf

theorem str_at {l : List Str} {k : Nat} {x : Str} (h : l[k]? = some x) : (l.map encStr)[k]? = some (.string ⟨x.toArray⟩) := by rw [List.getElem?_map, h]; rfl
theorem takeS {l m : List Str} {k : Nat} {x y : Str} (hl : l.length = m.length) (hx : l[k]? = some x) (hy : m[k]? = some y) (h : l.take k = m.take k) : (x = y → l.take (k + 1) = m.take (k + 1)) ∧ (x ≠ y → l ≠ m) := by
  constructor
  · rintro rfl; rw [List.take_add_one, List.take_add_one, hx, hy, h]
  · rintro hne rfl; rw [hx] at hy; cases hy; exact hne rfl

end Go.Proofs.YtmjgdnpfgkpaoaaGreatDoor
namespace Go.Proofs.YtmjgdnpfgkpaoaaGreatDoor
open Go.RowKit Go.Shelf Go.Sort

theorem less_le' (x y : Str) : (Op.bytesLess x y || x == y) = decide (x ≤ y) := by
  rw [bytesLess_eq, Bool.eq_iff_iff, Bool.or_eq_true, decide_eq_true_eq, decide_eq_true_eq, beq_iff_eq]
  constructor
  · rintro (h | rfl)
    · exact List.not_lt.1 (fun h2 => List.lt_irrefl _ (List.lt_trans h h2))
    · exact List.le_refl _
  · intro h
    by_cases he : x = y
    · exact .inr he
    · exact .inl (List.not_le.1 (fun h2 => he (List.le_antisymm h h2)))
/-- what insert has built behind k elements -/
def insStep (s : Str) (o : List Str × Bool) (x : Str) : List Str × Bool := if o.2 = true then (o.1 ++ [x], true) else if s ≤ x then (if s = x then (o.1 ++ [x], true) else (o.1 ++ [s, x], true)) else (o.1 ++ [x], false)
def insTo (s : Str) (l : List Str) (k : Nat) : List Str × Bool := (l.take k).foldl (insStep s) ([], false)
theorem insTo_succ' {s : Str} {l : List Str} {k : Nat} {x : Str} (h : l[k]? = some x) : insTo s l (k + 1) = insStep s (insTo s l k) x := by
  unfold insTo; rw [List.take_add_one, h]; simp
theorem insTo_succ {s : Str} {l : List Str} {k : Nat} {x : Str} (h : l[k]? = some x) : insTo s l (k + 1) = if (insTo s l k).2 = true then ((insTo s l k).1 ++ [x], true) else if s ≤ x then (if s = x then ((insTo s l k).1 ++ [x], true) else ((insTo s l k).1 ++ [s, x], true)) else ((insTo s l k).1 ++ [x], false) := insTo_succ' h
theorem ins_true (s : Str) : ∀ (l o : List Str), l.foldl (insStep s) (o, true) = (o ++ l, true) := by
  intro l
  induction l with
  | nil => intro o; simp
  | cons x l ih => intro o; rw [List.foldl_cons, show insStep s (o, true) x = (o ++ [x], true) from rfl, ih]; simp
def insEnd (s : Str) (r : List Str × Bool) : List Str := if r.2 = true then r.1 else r.1 ++ [s]
theorem ins_fold (s : Str) : ∀ (l o : List Str), insEnd s (l.foldl (insStep s) (o, false)) = o ++ insS s l := by
  intro l
  induction l with
  | nil => intro o; simp [insS, insEnd]
  | cons x l ih =>
    intro o
    rw [List.foldl_cons]
    have e : insStep s (o, false) x = if s ≤ x then (if s = x then (o ++ [x], true) else (o ++ [s, x], true)) else (o ++ [x], false) := rfl
    rw [e]
    unfold insS
    by_cases h1 : s ≤ x
    · rw [if_pos h1, if_pos h1]
      by_cases h2 : s = x
      · rw [if_pos h2, if_pos h2, ins_true]; simp [insEnd]
      · rw [if_neg h2, if_neg h2, ins_true]; simp [insEnd]
    · rw [if_neg h1, if_neg h1, ih]; simp
theorem insTo_all (s : Str) (l : List Str) : (if (insTo s l l.length).2 = true then (insTo s l l.length).1 else (insTo s l l.length).1 ++ [s]) = insS s l := by
  have := ins_fold s l []
  unfold insTo
  rw [List.take_length]
  simpa [insEnd] using this
theorem insTo_len (s : Str) (l : List Str) : ∀ k, (insTo s l k).1.length ≤ 2 * k := by
  intro k
  induction k with
  | zero => simp [insTo]
  | succ k ih =>
    cases h : l[k]? with
    | none => unfold insTo at ih ⊢; rw [List.take_add_one, h]; simp at ih ⊢; omega
    | some x =>
      rw [insTo_succ h]
      split
      · simp; omega
      · split
        · split
          · simp; omega
          · simp; omega
        · simp; omega
theorem insS_len (s : Str) : ∀ l : List Str, (insS s l).length ≤ l.length + 1 := by
  intro l
  induction l with
  | nil => simp [insS]
  | cons x l ih => unfold insS; split
                   · split <;> simp
                   · simp; omega

end Go.Proofs.YtmjgdnpfgkpaoaaGreatDoor
namespace Go.Proofs.YtmjgdnpfgkpaoaaGreatDoor
open Go.RowKit Go.Shelf Go.Sort

/-- an acceptance of a ballot and value, decided test by test -/
theorem isV_ways (n : Nat) (b : Int) (v : ByteArray) (e : Ev) :
    (isV n b v e = false ∧ ((e.kind == 2) = false ∨ ((e.kind == 2) = true ∧ (e.ballot == b) = false) ∨ ((e.kind == 2) = true ∧ (e.ballot == b) = true ∧ (e.value.toList == v.toList) = false) ∨
      ((e.kind == 2) = true ∧ (e.ballot == b) = true ∧ (e.value.toList == v.toList) = true ∧ decide (e.server < 0) = true ∧ decide (0 ≤ e.server) = false) ∨
      ((e.kind == 2) = true ∧ (e.ballot == b) = true ∧ (e.value.toList == v.toList) = true ∧ decide (e.server < 0) = false ∧ decide (0 ≤ e.server) = true ∧ decide (e.server < n) = false ∧ decide ((n : Int) ≤ e.server) = true))) ∨
    (isV n b v e = true ∧ (e.kind == 2) = true ∧ (e.ballot == b) = true ∧ (e.value.toList == v.toList) = true ∧ 0 ≤ e.server ∧ e.server < n) := by
  unfold isV inB
  cases h1 : (e.kind == 2)
  · left; refine ⟨?_, .inl rfl⟩
    rw [show decide (e.kind = 2) = false by simpa using h1]; rfl
  · rw [show decide (e.kind = 2) = true by simpa using h1]
    cases h2 : (e.ballot == b)
    · left; refine ⟨?_, .inr (.inl ⟨rfl, rfl⟩)⟩
      rw [show decide (e.ballot = b) = false by simpa using h2]; rfl
    · rw [show decide (e.ballot = b) = true by simpa using h2]
      cases h3 : (e.value.toList == v.toList)
      · left; exact ⟨rfl, .inr (.inr (.inl ⟨rfl, rfl, rfl⟩))⟩
      · by_cases h4 : e.server < 0
        · left
          have h4' : decide (0 ≤ e.server) = false := decide_eq_false (by omega)
          exact ⟨by rw [h4']; rfl, .inr (.inr (.inr (.inl ⟨rfl, rfl, rfl, decide_eq_true h4, h4'⟩)))⟩
        · by_cases h5 : e.server < n
          · right; exact ⟨by rw [decide_eq_true (show 0 ≤ e.server by omega), decide_eq_true h5]; rfl, rfl, rfl, rfl, by omega, h5⟩
          · left
            exact ⟨by rw [decide_eq_false h5]; simp, .inr (.inr (.inr (.inr ⟨rfl, rfl, rfl, decide_eq_false h4, decide_eq_true (by omega), decide_eq_false h5, decide_eq_true (by omega)⟩)))⟩
theorem accI_ways (n : Nat) (e : Ev) :
    (accI n e = false ∧ ((e.kind == 2) = false ∨ ((e.kind == 2) = true ∧ decide (e.server < 0) = true) ∨ ((e.kind == 2) = true ∧ decide (e.server < 0) = false ∧ decide ((n : Int) ≤ e.server) = true))) ∨
    (accI n e = true ∧ (e.kind == 2) = true ∧ 0 ≤ e.server ∧ e.server < n) := by
  unfold accI inB
  cases h1 : (e.kind == 2)
  · left; refine ⟨?_, .inl rfl⟩
    rw [show decide (e.kind = 2) = false by simpa using h1]; rfl
  · rw [show decide (e.kind = 2) = true by simpa using h1]
    by_cases h4 : e.server < 0
    · left; exact ⟨by rw [decide_eq_false (show ¬ 0 ≤ e.server by omega)]; rfl, .inr (.inl ⟨rfl, decide_eq_true h4⟩)⟩
    · by_cases h5 : e.server < n
      · right; exact ⟨by rw [decide_eq_true (show 0 ≤ e.server by omega), decide_eq_true h5]; rfl, rfl, by omega, h5⟩
      · left; exact ⟨by rw [decide_eq_false h5]; simp, .inr (.inr ⟨rfl, decide_eq_false h4, decide_eq_true (by omega)⟩)⟩
theorem chrTo_len (write : List (BitVec 16)) (n : Nat) (l : List Ev) : ∀ k, (chrTo write n l k).length ≤ k := by
  intro k
  induction k with
  | zero => simp [chrTo]
  | succ k ih =>
    cases h : l[k]? with
    | none => unfold chrTo at ih ⊢; rw [List.take_add_one, h]; simp at ih ⊢; omega
    | some x =>
      rw [chrTo_succ h]
      unfold chrStep
      split
      · have := insS_len x.value.toList (chrTo write n l k); omega
      · omega

end Go.Proofs.YtmjgdnpfgkpaoaaGreatDoor
namespace Go.Proofs.YtmjgdnpfgkpaoaaGreatDoor
open Go.RowKit Go.Maps

def anyV (m : Nat) (l : List Ev) (b : Int) (v : ByteArray) (k : Nat) : Bool := (l.take k).any (isV m b v)
theorem anyV_succ {m : Nat} {l : List Ev} {b : Int} {v : ByteArray} {k : Nat} {e : Ev} (h : l[k]? = some e) : anyV m l b v (k + 1) = (anyV m l b v k || isV m b v e) := by
  unfold anyV; rw [List.take_add_one, h]; simp
theorem byTo_none {m : Nat} {l : List Ev} {b : Int} {v : ByteArray} : ∀ k, anyV m l b v k = false → byTo m l b v k = 0#16 := by
  intro k
  induction k with
  | zero => intro _; simp [byTo]
  | succ k ih =>
    intro h
    cases he : l[k]? with
    | none => unfold byTo anyV at *; rw [List.take_add_one, he] at h ⊢; simp at h ⊢; exact ih (by simpa using h)
    | some e =>
      rw [anyV_succ he, Bool.or_eq_false_iff] at h
      rw [byTo_succ he, h.2, if_neg (by decide)]; exact ih h.1
theorem if_ff (a b : BitVec 16) : (if false = true then a else b) = b := rfl
/-- the map behind k events -/
def GM (f : Lit → Option Value) (m : Nat) (l : List Ev) (k : Nat) : Prop := ∀ b v, (Lit.int .i64 b).wf = true → v.size ≤ maxLen → f (klA b v) = if anyV m l b v k = true then some (.int .u16 (U (byTo m l b v k))) else none
theorem GM_zero (m : Nat) (l : List Ev) : GM (fun _ => none) m l 0 := fun b v _ _ => by simp [anyV]
theorem isV_accI {m : Nat} {b : Int} {v : ByteArray} {e : Ev} (h : accI m e = false) : isV m b v e = false := by
  unfold accI at h; unfold isV
  rw [Bool.and_eq_false_iff] at h
  rcases h with h | h
  · rw [h]; rfl
  · rw [h, Bool.and_false]
theorem GM_skip {f : Lit → Option Value} {m : Nat} {l : List Ev} {k : Nat} {e : Ev} (h : l[k]? = some e) (hg : GM f m l k) (ha : accI m e = false) : GM f m l (k + 1) := fun b v hb hv => by
  rw [hg b v hb hv, anyV_succ h, byTo_succ h, isV_accI ha, Bool.or_false, if_ff]
theorem isV_self {m : Nat} {e : Ev} (h : accI m e = true) : isV m e.ballot e.value e = true := by
  unfold accI at h; unfold isV
  rw [Bool.and_eq_true] at h
  rw [h.1, h.2, decide_eq_true (rfl : e.ballot = e.ballot)]; simp
theorem isV_other {m : Nat} {b : Int} {v : ByteArray} {e : Ev} (h : ¬(b = e.ballot ∧ v = e.value)) : isV m b v e = false := by
  cases hq : isV m b v e
  · rfl
  · exfalso
    unfold isV at hq
    rw [Bool.and_eq_true, Bool.and_eq_true, Bool.and_eq_true] at hq
    exact h ⟨(of_decide_eq_true hq.1.1.2).symm, (bs_ext (eq_of_beq hq.1.2)).symm⟩
theorem GM_old {f : Lit → Option Value} {m : Nat} {l : List Ev} {k : Nat} (hg : GM f m l k) {b : Int} {v : ByteArray} (hb : (Lit.int .i64 b).wf = true) (hv : v.size ≤ maxLen) : (f (klA b v)).getD (.int .u16 0) = .int .u16 (U (byTo m l b v k)) := by
  rw [hg b v hb hv]
  cases h : anyV m l b v k
  · rw [byTo_none k h]; rfl
  · rfl
theorem GM_put {f : Lit → Option Value} {m : Nat} {l : List Ev} {k : Nat} {e : Ev} (h : l[k]? = some e) (hg : GM f m l k) (ha : accI m e = true) (hb : (Lit.int .i64 e.ballot).wf = true) (hv : e.value.size ≤ maxLen) : GM (updF f (klA e.ballot e.value) (.int .u16 (U (byTo m l e.ballot e.value k ||| bitS e.server.toNat)))) m l (k + 1) := fun b v hb' hv' => by
  unfold updF
  rw [klA_same hb' hv' hb hv]
  by_cases hq : b = e.ballot ∧ v = e.value
  · rw [decide_eq_true hq, if_pos rfl, hq.1, hq.2, anyV_succ h, byTo_succ h, isV_self ha, Bool.or_true, if_pos rfl, if_pos rfl]
  · rw [decide_eq_false hq, if_neg (by decide), hg b v hb' hv', anyV_succ h, byTo_succ h, isV_other hq, Bool.or_false, if_ff]
theorem anyV_all {m : Nat} {l : List Ev} {b : Int} {v : ByteArray} : anyV m l b v l.length = true ↔ ∃ e ∈ l, accI m e = true ∧ e.ballot = b ∧ e.value = v := by
  unfold anyV
  rw [List.take_length, List.any_eq_true]
  constructor
  · rintro ⟨e, he, hi⟩
    unfold isV at hi
    rw [Bool.and_eq_true, Bool.and_eq_true, Bool.and_eq_true] at hi
    refine ⟨e, he, ?_, of_decide_eq_true hi.1.1.2, bs_ext (eq_of_beq hi.1.2)⟩
    unfold accI; rw [hi.1.1.1, hi.2]; rfl
  · rintro ⟨e, he, ha, rfl, rfl⟩
    exact ⟨e, he, isV_self ha⟩

/-- what has been collected when some keys are left -/
structure Coll (write : List (BitVec 16)) (m : Nat) (l : List Ev) (left : Lit → Bool) (out : List Str) : Prop where
  all : ∀ e ∈ l, accI m e = true → left (klA e.ballot e.value) = false → accS write (byS m l e.ballot e.value) = true → e.value.toList ∈ out
  only : ∀ x ∈ out, x ∈ chrS write m l
theorem Coll.start {write : List (BitVec 16)} {m : Nat} {l : List Ev} {D : DataW Value} {f : Lit → Option Value} (hD : ∀ key kl, keyOf Tryz.prog 121 key = some kl → ∀ z, D.atKey kl z = optD (f kl) z) (hg : GM f m l l.length) (hw : ∀ e ∈ l, e.value.size ≤ maxLen ∧ (Lit.int .i64 e.ballot).wf = true) : Coll write m l (Maps.has D) [] := by
  refine ⟨fun e he ha hl _ => ?_, fun x hx => by cases hx⟩
  exfalso
  obtain ⟨hv, hb⟩ := hw e he
  have h1 := Maps.atKey_of_not_has hl .nil
  rw [hD _ _ (keyA_of hb hv), hg _ _ hb hv, if_pos (anyV_all.2 ⟨e, he, ha, rfl, rfl⟩)] at h1
  cases h1
theorem Coll.no {write : List (BitVec 16)} {m : Nat} {l : List Ev} {left : Lit → Bool} {out : List Str} (h : Coll write m l left out) (hw : ∀ e ∈ l, e.value.size ≤ maxLen ∧ (Lit.int .i64 e.ballot).wf = true) {b : Int} {v : ByteArray} (hb : (Lit.int .i64 b).wf = true) (hv : v.size ≤ maxLen) (hn : accS write (byS m l b v) = false) : Coll write m l (fun z => left z && !z.sameKey (klA b v)) out := by
  refine ⟨fun e he ha hl hc => ?_, h.only⟩
  obtain ⟨hv', hb'⟩ := hw e he
  rw [klA_same hb' hv' hb hv] at hl
  by_cases hq : e.ballot = b ∧ e.value = v
  · rw [hq.1, hq.2, hn] at hc; cases hc
  · rw [decide_eq_false hq, Bool.not_false, Bool.and_true] at hl
    exact h.all e he ha hl hc
theorem Coll.yes {write : List (BitVec 16)} {m : Nat} {l : List Ev} {left : Lit → Bool} {out : List Str} (h : Coll write m l left out) (hw : ∀ e ∈ l, e.value.size ≤ maxLen ∧ (Lit.int .i64 e.ballot).wf = true) {b : Int} {v : ByteArray} (hb : (Lit.int .i64 b).wf = true) (hv : v.size ≤ maxLen) (hy : accS write (byS m l b v) = true) (hany : anyV m l b v l.length = true) : Coll write m l (fun z => left z && !z.sameKey (klA b v)) (out ++ [v.toList]) := by
  refine ⟨fun e he ha hl hc => ?_, fun x hx => ?_⟩
  · obtain ⟨hv', hb'⟩ := hw e he
    rw [klA_same hb' hv' hb hv] at hl
    by_cases hq : e.ballot = b ∧ e.value = v
    · rw [hq.2]; simp
    · rw [decide_eq_false hq, Bool.not_false, Bool.and_true] at hl
      exact List.mem_append_left _ (h.all e he ha hl hc)
  · rcases List.mem_append.1 hx with hx | hx
    · exact h.only x hx
    · rw [List.mem_singleton] at hx; subst hx
      obtain ⟨e, he, ha, rfl, rfl⟩ := anyV_all.1 hany
      exact (chrS_mem write m l _).2 ⟨e, he, ha, hy, rfl⟩
theorem Coll.done {write : List (BitVec 16)} {m : Nat} {l : List Ev} {left : Lit → Bool} {out : List Str} (h : Coll write m l left out) (hl : ∀ kl, left kl = false) : Lib.compact (out.mergeSort fun x y => decide (x ≤ y)) = chrS write m l := by
  have hc := compact_to (sort_pw out) (out.mergeSort fun x y => decide (x ≤ y)).length (Nat.le_refl _)
  rw [List.take_length] at hc
  have hcomp : Lib.compact (out.mergeSort fun x y => decide (x ≤ y)) = Lib.compactUpTo (out.mergeSort fun x y => decide (x ≤ y)).toArray (out.mergeSort fun x y => decide (x ≤ y)).length := by unfold Lib.compact; simp
  rw [hcomp]
  refine asc_ext _ _ hc.1 (chrS_asc write m l) fun x => ?_
  rw [hc.2 x, List.mem_mergeSort]
  constructor
  · exact h.only x
  · intro hx
    obtain ⟨e, he, ha, hacc, rfl⟩ := (chrS_mem write m l x).1 hx
    exact h.all e he ha (hl _) hacc
theorem ranges_le {H : Type} {P : Program} {k : TypeId} {R : Value → Option (DataW H × List MemPlace)} {w : World} {b r n : Nat} {D : DataW H} {left : Lit → Bool} {cnt : Nat} (h : w.ranges P k R b r n D left cnt) : cnt ≤ n := by
  obtain ⟨es, clock, since, seen, c0, _, _, hs, _, _, _, hc, _⟩ := h
  rw [← hc]
  refine Nat.le_trans ?_ hs
  unfold leftOf
  exact Array.size_filter_le ..
theorem upon_look_fm {P : Program} {w : World} {o : Oper} {a : Act} {K' : Act → World → Prop} {Q : Exit → Act → World → Prop} (t k e : TypeId) (K : Keyed P k) (ht : P.underlying t = some (.map k e)) (b n : Nat) (f : Lit → Option Value) (z : Value) (hz : ∀ u : World, (zeroValue e).run P u = .ok z u)
    (h : FM w P k b n f) (key : Value) (kl : Lit) (hkey : keyOf P k key = some kl) (hK : K' (a.put o.dst ((f kl).getD z)) w) :
    Oper.upon P o a K' Q ((Sem.run P (Instr.lookup t (.map (some b)) key false) w).andThen fun a w' => Result.ok (Next.value a) w') := by
  have := h.look false K ht (hz w) hkey
  rw [this]
  exact hK
end Go.Proofs.YtmjgdnpfgkpaoaaGreatDoor
namespace Go.Proofs.YtmjgdnpfgkpaoaaGreatDoor
open Go.RowKit Go.Maps Go.WideElems Go.ChangeMaps Go.MapKept

theorem entry_store2 {H : Type} {P : Program} {w : World} {t k e : TypeId} {R : Value → Option (DataW H × List MemPlace)} {b : Nat} {es : Array MapEntry} {clock : Nat} (K : Keyed P k) (ht : P.underlying t = some (.map k e)) {z : Value} (hz : ∀ u : World, (zeroValue e).run P u = .ok z u) (hb : w.heap[b]? = some (.map es clock)) (F : Fit P k R es clock)
    {key : Value} {kl : Lit} (hkey : keyOf P k key = some kl) :
    ∃ (v0 : Value) (st : Nat) (es1 : Array MapEntry) (clock1 : Nat), (Instr.mapEntry t (.map (some b)) key).run P w = .ok (.tuple #[v0, goInt st]) (setBlock w b (.map es1 clock1)) ∧
      (Instr.mapUpdate t (.map (some b)) key v0).run P w = .ok () (setBlock w b (.map es1 clock1)) ∧ (Instr.lookup t (.map (some b)) key false).run P w = .ok v0 w := by
  rcases K.find w hkey es.toList F.keys with ⟨h1, h2⟩ | ⟨j, e0, h1, h2, h3⟩
  · refine ⟨z, clock, es.push ⟨key, z, clock⟩, clock + 1, ?_, ?_, ?_⟩
    · simp [Instr.mapEntry, run_underlying ht, MapKept.run_getObj_map hb, K.check w false hkey, h1, hz, MapKept.run_setObj_map _ hb, Result.andThen, setBlock]
    · simp [Instr.mapUpdate, run_underlying ht, MapKept.run_getObj_map hb, K.check w false hkey, h1, MapKept.run_setObj_map _ hb, Result.andThen, setBlock]
    · have hc : ∀ em, (Instr.checkKey em 10000 k key).run P w = .ok () w := fun em => K.check w em hkey
      simp [Instr.lookup, run_underlying ht, MapKept.run_getObj_map hb, hc, h1, hz, Result.andThen]
  · have hj : es[j]? = some e0 := by simpa using h2
    have hsame : es.modify j (fun e => { e with key := key }) = es := by
      apply Array.ext'
      rw [Array.toList_modify, modify_eq_set _ _ _ _ h2]
      have : ({ e0 with key := key } : MapEntry) = e0 := by rw [← h3]
      rw [this]
      exact set_self _ _ _ h2
    have hsame2 : es.modify j (fun e => { e with key := key, val := e0.val }) = es := by
      apply Array.ext'
      rw [Array.toList_modify, modify_eq_set _ _ _ _ h2]
      have : ({ e0 with key := key, val := e0.val } : MapEntry) = e0 := by rw [← h3]
      rw [this]
      exact set_self _ _ _ h2
    refine ⟨e0.val, e0.born, es, clock, ?_, ?_, ?_⟩
    · simp [Instr.mapEntry, run_underlying ht, MapKept.run_getObj_map hb, K.check w false hkey, h1, hj, h3, K.stays w hkey, hsame, MapKept.run_setObj_map _ hb, Result.andThen, setBlock]
    · simp [Instr.mapUpdate, run_underlying ht, MapKept.run_getObj_map hb, K.check w false hkey, h1, hj, h3, K.stays w hkey, hsame2, MapKept.run_setObj_map _ hb, Result.andThen, setBlock]
    · have hc : ∀ em, (Instr.checkKey em 10000 k key).run P w = .ok () w := fun em => K.check w em hkey
      simp [Instr.lookup, run_underlying ht, MapKept.run_getObj_map hb, hc, h1, Result.andThen]
theorem upon_entry_fm3 {P : Program} {w : World} {o : Oper} {a : Act} {K' : Act → World → Prop} {Q : Exit → Act → World → Prop} (t k e : TypeId) (K : Keyed P k) (ht : P.underlying t = some (.map k e)) (b n : Nat) (f : Lit → Option Value) (z : Value) (hz : ∀ u : World, (zeroValue e).run P u = .ok z u)
    (h : FM w P k b n f) (hn : n < maxLen) (key : Value) (kl : Lit) (hkey : keyOf P k key = some kl)
    (hK : ∀ v0 st w', Ent w' P k t b (n + 1) f kl st → FM w' P k b (n + 1) (updF f kl ((f kl).getD z)) → w.grownBy w' (some b) → w'.heap.size = w.heap.size → K' (a.put o.dst (.tuple #[v0, .int .i64 (st : Nat)])) w') :
    Oper.upon P o a K' Q ((Sem.run P (Instr.mapEntry t (.map (some b)) key) w).andThen fun a w' => Result.ok (Next.value a) w') := by
  obtain ⟨v0, st, w1, h1, h2, h3, h4⟩ := h.entry K ht hz hn hkey
  have hl := h.look false K ht (hz w) hkey
  obtain ⟨D, ho, hf⟩ := h
  have ho' := ho
  obtain ⟨es, clock, hb, F, hs, rfl⟩ := ho'
  obtain ⟨v1, st1, es1, clock1, q1, q2, q3⟩ := entry_store2 K ht hz hb F hkey
  have hw1 : w1 = setBlock w b (.map es1 clock1) := by rw [h1] at q1; injection q1
  have hv1 : v1 = (f kl).getD z := by
    rw [hl] at q3
    injection q3 with q3
    exact q3.symm
  obtain ⟨w', hrun2, r1, r2⟩ := ho.update K ht hn (val := v1) hkey (d := .held v1) (ps := []) rfl
  have e : w' = w1 := by rw [hw1]; rw [q2] at hrun2; injection hrun2 with _ h2; exact h2.symm
  have hfm := FM.putD K ho hf hkey r1
  rw [h1]
  refine hK v0 st w1 h2 ?_ h3 h4
  rw [← hv1, ← e]; exact hfm
theorem updF_look {f : Lit → Option Value} {kl : Lit} {v z : Value} (h : kl.sameKey kl = true) : (updF f kl v kl).getD z = v := by unfold updF; rw [if_pos h]; rfl
end Go.Proofs.YtmjgdnpfgkpaoaaGreatDoor
namespace Go.Proofs.YtmjgdnpfgkpaoaaGreatDoor
open Go.RowKit Go.Maps Go.Shelf

theorem below_grow {w w' : World} (h : Below w.heap.size w w') : w.grownBy w' none := ⟨h.os, h.tape, h.output, h.size, fun k hk _ => h.block k hk⟩
theorem zSetV (w : World) : (zeroValue 27).run Tryz.prog w = .ok (.int .u16 0) w := by kernel_rfl

set_option maxRecDepth 100000 in
set_option maxHeartbeats 4000000 in
theorem pchosen_c (write : List (BitVec 16)) (m : Nat) (l : List Ev) (a : Option Addr) (n c : Nat) (a2 : Option Addr) (n2 c2 : Nat) (w : World) (h : Rd w a n c (write.map setV2)) (h2 : RdK 4 w a2 n2 c2 (l.flatMap evC)) (hwf : ∀ e ∈ l, e.value.size ≤ maxLen ∧ (Lit.int .i64 e.ballot).wf = true) (hl : l.length ≤ 900) (hm : m ≤ 12) :
    Calls Tryz.prog 23 #[.slice a n c, .int .i64 m, .slice a2 n2 c2] w fun e w' => ∃ a3 c3, e = .returned (.slice a3 (chrS write m l).length c3) ∧ Rd w' a3 (chrS write m l).length c3 ((chrS write m l).map encStr) ∧ Below w.heap.size w w' := by
  have hnl : l.length = n2 := by have := h2.len; rw [flat_len 4 evC evC_len] at this; omega
  have hmx := h2.max
  have hle := h2.le
  unfold maxLen at hmx
  have HW := Lib.hid h
  have HR := Lib.hid h2
  have HN := Lib.hid hnl
  have HWF := Lib.hid hwf
  rw [hnl] at hl
  have hmm := @run_makeMap Tryz.prog
  clear h h2 hnl hwf
  go_enter Tryz.func23, Tryz.ntmps23
  go_wp2_with fail
  have HF0 := Lib.hid (FM.made w Tryz.prog 121)
  have HB0 := Lib.hid (blA w (.map #[] 0))
  go_loopw [16] (fun i wr => ∃ k : Nat, k ≤ n2 ∧ i = .int .i64 k ∧ Below w.heap.size w wr ∧ Hid (∃ f, FM wr Tryz.prog 121 w.heap.size k f ∧ GM f m l k)) (fun i _ => n2 - (intOf i).toNat)
  case atStart => exact ⟨0, Nat.zero_le _, rfl, HB0.out, Lib.hid ⟨_, HF0.out, GM_zero m l⟩⟩
  case round =>
    obtain ⟨k, hk, rfl, hb, hf⟩ := hrel
    obtain ⟨f, hfm, hgm⟩ := hf.out
    have HB := Lib.hid hb
    have HFM := Lib.hid hfm
    have HGM := Lib.hid hgm
    by_cases hlt : k < n2
    · obtain ⟨b, o, ha, hcell⟩ := RdK.cells (HR.out.below hb) evC_len (by omega)
      obtain ⟨e, he⟩ : ∃ e, l[k]? = some e := ⟨_, List.getElem?_eq_getElem (by have := HN.out; omega)⟩
      have g0 : wr.cell? ⟨b, o + k * 4, none⟩ = some (.int .i64 e.kind) := hcell k e he 0 (by omega)
      have g1 : wr.cell? ⟨b, o + k * 4 + 1, none⟩ = some (.int .i64 e.server) := hcell k e he 1 (by omega)
      have g2 : wr.cell? ⟨b, o + k * 4 + 2, none⟩ = some (.int .i64 e.ballot) := hcell k e he 2 (by omega)
      have g3 : wr.cell? ⟨b, o + k * 4 + 3, none⟩ = some (.string e.value) := hcell k e he 3 (by omega)
      obtain ⟨hev, heb⟩ := HWF.out e (List.mem_of_getElem? he)
      subst ha
      rcases accI_ways m e with ⟨hA, hw⟩ | ⟨hA, hk2, hs0, hsm⟩
      · have HGM2 := Lib.hid (GM_skip he hgm hA)
        clear hcell he hA hfm hgm hf hev heb
        obtain ⟨ek, es, eb, ev⟩ := e
        simp only at hw g0 g1 g2 g3
        have HB2 := Lib.hid (hb.alloc hb.size (.cells #[.int .i64 ek, .int .i64 es, .int .i64 eb, .string ev] 68))
        have HFM2 := Lib.hid (fmA1 (o := .cells #[.int .i64 ek, .int .i64 es, .int .i64 eb, .string ev] 68) HFM.out)
        have hw2 : (ek == 2) = false ∨ ((ek == 2) = true ∧ decide (0 ≤ es) = false) ∨ ((ek == 2) = true ∧ decide (0 ≤ es) = true ∧ decide (es < (m : Int)) = false) := by
          rcases hw with h1 | ⟨h1, h2⟩ | ⟨h1, h2, h3⟩
          · exact .inl h1
          · exact .inr (.inl ⟨h1, decide_eq_false (by have := of_decide_eq_true h2; omega)⟩)
          · exact .inr (.inr ⟨h1, decide_eq_true (by have := of_decide_eq_false h2; omega), decide_eq_false (by have := of_decide_eq_true h3; omega)⟩)
        clear hw
        rcases hw2 with h1 | ⟨h1, h2⟩ | ⟨h1, h2, h3⟩
        all_goals
          go_wp2_with fail
          go_roundw
          case rel => exact ⟨k + 1, by omega, by go_num, HB2.out, Lib.hid ⟨f, HFM2.out.mono (by omega), HGM2.out⟩⟩
          case measure => simp [intOf]; omega
      · obtain ⟨ns, hns⟩ := Int.eq_ofNat_of_zero_le hs0
        rw [hns] at g1 hsm
        have hput := GM_put he hgm hA heb hev
        rw [show e.server.toNat = ns by omega] at hput
        have HOLD := Lib.hid (GM_old hgm heb hev)
        obtain ⟨x, hx⟩ : ∃ x, byTo m l e.ballot e.value k = x := ⟨_, rfl⟩
        rw [hx] at hput HOLD
        have HPUT := Lib.hid hput
        have hkey9 : keyOf Tryz.prog 121 (.agg #[.int .i64 e.ballot, .string e.value]) = some (klA e.ballot e.value) := keyA_of heb hev
        have HKEY := Lib.hid hkey9
        have HK9 : Hid (k < maxLen) := Lib.hid (by unfold maxLen; omega)
        clear hkey9
        have hns12 : ns < 12 := by omega
        have hnsm : ns < m := by omega
        clear hcell he hA hfm hgm hf hev heb hput hx hns hs0 hsm
        obtain ⟨ek, es, eb, ev⟩ := e
        simp only at hk2 g0 g1 g2 g3 HOLD HPUT HKEY
        go_wp2_with fail
        generalize hWA : wr.alloc (.cells #[.int .i64 ek, .int .i64 ns, .int .i64 eb, .string ev] 68) = WA
        have hBA : Below wr.heap.size wr WA := by rw [← hWA]; exact blA _ _
        have hbox : WA.heap[wr.heap.size]? = some (.cells #[.int .i64 ek, .int .i64 ns, .int .i64 eb, .string ev] 68 (0, 0)) := by rw [← hWA]; exact heap_alloc_new wr _
        obtain ⟨e0, e1, e2, e3⟩ := open4 hbox
        have HFA := Lib.hid (HFM.out.below hBA)
        have HBA := Lib.hid (Below.next HB.out hBA)
        have hszB : w.heap.size < wr.heap.size := HFM.out.lt
        obtain ⟨BX, hBX⟩ : ∃ BX, wr.heap.size = BX := ⟨_, rfl⟩
        rw [hBX] at e0 e1 e2 e3 hszB ⊢
        have hBXA : BX < WA.heap.size := cell_lt e0
        have HLK2 : Hid ((updF f (klA eb ev) (.int .u16 (U x)) (klA eb ev)).getD (.int .u16 0) = .int .u16 (U x)) := Lib.hid (updF_look (WideAt.sameKey_self (kAcc.key HKEY.out)))
        have KS : Hid (∀ y : World, (∀ j, j < WA.heap.size → j ≠ w.heap.size → y.heap[j]? = WA.heap[j]?) → y.cell? ⟨BX, 1, none⟩ = some (.int .i64 ns) ∧ y.cell? ⟨BX, 2, none⟩ = some (.int .i64 eb) ∧ y.cell? ⟨BX, 3, none⟩ = some (.string ev)) := Lib.hid (fun y hy => by
          have kc : ∀ i, y.cell? ⟨BX, i, none⟩ = WA.cell? ⟨BX, i, none⟩ := fun i => World.cell?_of_block (hy BX hBXA (by omega))
          exact ⟨(kc 1).trans e1, (kc 2).trans e2, (kc 3).trans e3⟩)
        clear hWA hBA hbox e0 g0 g1 g2 g3 hb hBX
        go_region_held3 (fun w' => w'.cell? ⟨BX, 1, none⟩ = some (.int .i64 ns) ∧ w'.cell? ⟨BX, 2, none⟩ = some (.int .i64 eb) ∧ w'.cell? ⟨BX, 3, none⟩ = some (.string ev))
          (first | exact hSF | exact hSE | (refine KS.out _ ?_; intro j _ _; rfl))
          (first
            | ((with_reducible refine upon_look_fm 119 121 27 kAcc Tryz.underlying119 w.heap.size k f (.int .u16 0) zSetV ?_ (.agg #[.int .i64 eb, .string ev]) (klA eb ev) HKEY.out ?_); (exact HFA.out.at rfl); rw [HOLD.out])
            | ((with_reducible refine upon_look_fm 119 121 27 kAcc Tryz.underlying119 w.heap.size (k + 1) (updF f (klA eb ev) (.int .u16 (U x))) (.int .u16 0) zSetV ?_ (.agg #[.int .i64 eb, .string ev]) (klA eb ev) HKEY.out ?_); (exact HFME.out.at rfl); rw [HLK2.out])
            | ((with_reducible refine upon_entry_fm3 119 121 27 kAcc Tryz.underlying119 w.heap.size k f (.int .u16 0) zSetV ?_ ?_ (.agg #[.int .i64 eb, .string ev]) (klA eb ev) HKEY.out ?_); (exact HFA.out.at rfl); (exact HK9.out); intro v0 sE wE hentE hfmE hgE hsE; have hszE : wE.heap.size = WA.heap.size := by { rw [hsE]; rfl }; rw [HOLD.out] at hfmE; have HFME := Lib.hid hfmE; have HFE : Hid (∀ j, j < WA.heap.size → j ≠ w.heap.size → wE.heap[j]? = WA.heap[j]?) := Lib.hid (fun j h1 h3 => hgE.block j (by simpa using h1) (by simpa using h3)); have hSE := KS.out wE HFE.out; have HEN := Lib.hid hentE; have HGE := Lib.hid hgE; clear hentE hgE hsE hfmE)
            | ((with_reducible refine upon_estore_fm 119 121 w.heap.size (k + 1) sE f (klA eb ev) ?_ (.int .u16 (U (x ||| bitS ns))) ?_); (exact HEN.out.at rfl); intro wF hfmF hgF hsF; have hSF := KS.out wF (fun j h1 h2 => (hgF.block j (by omega) (by simpa using h2)).trans (HFE.out j h1 h2)); have HFF := Lib.hid hfmF; have HGF := Lib.hid hgF; clear hfmF hgF))
        all_goals
          go_wp2_with fail
          have hbE : Below w.heap.size w wE := (below_drew HBA.out).grown HGE.out (by show w.heap.size ≤ WA.heap.size; omega) (fun j hj => by injection hj with hj; omega)
          have HBF := Lib.hid (hbE.grown HGF.out (by omega) (fun j hj => by injection hj with hj; omega))
          clear hbE hSE hSF
          go_roundw
          case rel => exact ⟨k + 1, by omega, by go_num, HBF.out, Lib.hid ⟨_, HFF.out, HPUT.out⟩⟩
          case measure => simp [intOf]; omega
    · obtain rfl : k = n2 := by omega
      rw [← HN.out] at hgm
      have HGM := Lib.hid hgm
      obtain ⟨D, hD1, hD2⟩ := hfm
      have HD1 := Lib.hid hD1
      have HCO := Lib.hid (Coll.start (write := write) hD2 hgm HWF.out)
      have HD2 := Lib.hid hD2
      have HLT := Lib.hid hD1.lt
      clear hgm hf hb hD2 hD1
      have hown := HD1.out
      go_wp2_with (at_range; refine wpList_range_own _ rfl _ 119 rfl 121 27 kAcc Tryz.underlying119 heldR w.heap.size k D rfl hown ?_; intro w0 hrg0 hg0 hs0)
      go_frame
      have hbW0 : Below w.heap.size w w0 := HB.out.grown hg0 (by have := HLT.out; omega) (fun j hj => by cases hj)
      obtain ⟨R, hRe⟩ : ∃ R, wr.heap.size = R := ⟨_, rfl⟩
      rw [hRe] at hrg0 hs0 ⊢
      have HBR := Lib.hid hbW0
      have HRG := Lib.hid hrg0
      have HS0 := Lib.hid hs0
      have hwR : w.heap.size < R := by have := HLT.out; omega
      have HCL := Lib.hid (ranges_le hrg0)
      clear hrg0 hg0 hs0 hbW0 hown hRe
      go_loopw [10] (fun v wq => ∃ (left : Lit → Bool) (cnt : Nat) (out : List Str) (oz : Nat), wq.ranges Tryz.prog 121 heldR w.heap.size R k D left cnt ∧ wq.ownsRow (R + 1) 9 1 v oz (out.map encStr) ∧ Below w.heap.size w wq ∧ R + 1 ≤ wq.heap.size ∧ Hid (Coll write m l left out) ∧ oz + cnt ≤ k ∧ Hid (out.length = oz)) (fun _ wq => wq.rangeLeft w.heap.size R)
      case atStart => exact ⟨_, _, [], 0, HRG.out, World.ownsRow_nil _ _ _ _, HBR.out, by rw [HS0.out]; exact Nat.le_refl _, HCO, by rw [Nat.zero_add]; exact HCL.out, rfl⟩
      case round =>
        obtain ⟨left, cnt, out, oz, hrg, hown, hb, hsz, hco, hoz, hol⟩ := hrel
        go_wp2_with (at_next; refine wpList_next_ranges _ rfl _ rfl 121 kAcc heldR (fun p : Int × ByteArray => .agg #[.int .i64 p.1, .string p.2]) (fun v : Value => v) (fun key kl hkey => by obtain ⟨b, v, rfl, _⟩ := keyA_inv hkey; exact ⟨(b, v), rfl⟩) (fun v y _ => ⟨v, rfl⟩) w.heap.size R k D left cnt rfl hrg ?_ ?_)
        · intro hc0 hl0
          have hdone := hco.out.done hl0
          have hlen : oz ≤ 900 := by omega
          have hown' : wr.ownsRow (R + 1) 9 1 u10 out.length (out.map encStr) := by rw [hol.out]; exact hown
          obtain ⟨ao, co, rfl, hro⟩ := rd_of_row hown
          have HSO := Lib.hid (sortT_c (R + 1) _ out wr hown' (by rw [hol.out]; omega))
          have HOL := Lib.hid hown'.lt
          have HBW := Lib.hid hb
          have HDN := Lib.hid hdone
          have hsl : (out.mergeSort fun x y => decide (x ≤ y)).length = oz := (List.length_mergeSort _).trans hol.out
          have HSL := Lib.hid hsl
          have HOLN := Lib.hid hol.out
          clear hrg hown hown' hro hb hco hdone hsl hol hl0 hc0
          go_wp2_with fail
          refine HSO.out.mono ?_
          rintro e w1 ⟨rfl, hown1, hg1⟩
          have hb1 := HBW.out.grown hg1 HBW.out.size (fun j hj => by have := (HOL.out j hj).1; omega)
          rw [HOLN.out] at hown1
          have HCO2 := Lib.hid (compactT_c (R + 1) (.slice ao oz co) (out.mergeSort fun x y => decide (x ≤ y)) w1 (by rw [HSL.out]; exact hown1) (by rw [HSL.out]; omega))
          have HOL1 := Lib.hid hown1.lt
          rw [HDN.out] at HCO2
          have HB1 := Lib.hid hb1
          clear hb1 hown1 hg1 HSO
          go_wp2_with fail
          refine HCO2.out.mono ?_
          rintro e w2 ⟨a3, c3, rfl, hr3, hg3⟩
          have HB3 := Lib.hid (HB1.out.grown hg3 HB1.out.size (fun j hj => by have := (HOL1.out j hj).1; omega))
          have HR3 := Lib.hid hr3
          clear hr3 hg3 HCO2
          go_wp2_with fail
          go_ret
          exact ⟨a3, c3, rfl, HR3.out, HB3.out⟩
        · intro pb pv cv kl d pl w1 cnt1 hkey hlk hR hat hrg1 hlt1 hg1 hs1 hen
          obtain ⟨kb, kv, hk1, rfl, hkb, hkv⟩ := keyA_inv hkey
          unfold keyA at hk1
          simp only [Value.agg.injEq, Array.mk.injEq, List.cons.injEq, Value.int.injEq, Value.string.injEq, and_true, true_and] at hk1
          obtain ⟨rfl, rfl⟩ := hk1
          have hd : d = .held cv := by unfold heldR at hR; injection hR with hR; injection hR with hR _; exact hR.symm
          have h9 := HD2.out _ _ hkey .nil
          rw [hat, hd, HGM.out _ _ hkb hkv] at h9
          obtain ⟨hany, hcv⟩ : anyV m l pb pv l.length = true ∧ cv = .int .u16 (U (byS m l pb pv)) := by
            cases hq : anyV m l pb pv l.length
            · rw [hq, if_neg (by decide)] at h9; cases h9
            · rw [hq, if_pos rfl] at h9
              refine ⟨rfl, ?_⟩
              have h8 : DataW.held cv = DataW.held (.int .u16 (U (byTo m l pb pv l.length))) := h9
              injection h8
          obtain ⟨s, hs⟩ : ∃ s, byS m l pb pv = s := ⟨_, rfl⟩
          rw [hs] at hcv
          have HS := Lib.hid hs
          rw [hcv] at hen ⊢
          have hb1 := hb.grown hg1 (by omega) (fun j hj => by injection hj with hj; omega)
          have hown1 := rowK_atS hown fun g hg => hg1.block g (hown.lt g hg).2 (fun e => by injection e with e; have := (hown.lt g hg).1; omega)
          have HAC := Lib.hid (fun wx h => accepts_c write s a n c wx h)
          obtain ⟨ac, hac⟩ : ∃ ac, accS write s = ac := ⟨_, rfl⟩
          rw [hac] at HAC
          have HCO3 : Hid (Coll write m l (fun z => left z && !z.sameKey (klA pb pv)) (if ac = true then out ++ [pv.toList] else out)) := Lib.hid (by
            cases ac
            · exact hco.out.no HWF.out hkb hkv (by rw [HS.out]; exact hac)
            · exact hco.out.yes HWF.out hkb hkv (by rw [HS.out]; exact hac) hany)
          have HRG1 := Lib.hid hrg1
          have HB1 := Lib.hid hb1
          have HO1 := Lib.hid hown1
          have HLE := Lib.hid (hrg.left_eq)
          have HOLN := Lib.hid hol.out
          have hs1a : wr.heap.size ≤ w1.heap.size := by omega
          clear hs1 hkey hlk hR hat hrg1 hg1 hd h9 hcv hs hac hrg hown hb hco hb1 hown1 hkb hkv hany hol
          go_wp2_with fail
          obtain ⟨W1, hW1⟩ : ∃ W1, w1.alloc (.cells #[.int .i64 pb, .string pv] 121) = W1 := ⟨_, rfl⟩
          have hbA : Below w1.heap.size w1 W1 := by rw [← hW1]; exact blA _ _
          have q1 : W1.cell? ⟨w1.heap.size, 1, none⟩ = some (.string pv) := by rw [← hW1]; exact cell_new w1 _ _ 1 _ rfl
          rw [hW1]
          obtain ⟨BX, hBX⟩ : ∃ BX, w1.heap.size = BX := ⟨_, rfl⟩
          rw [hBX] at q1 ⊢
          have HBX := Lib.hid hBX
          have HBA := Lib.hid hbA
          have Q1 := Lib.hid q1
          clear hW1 hbA hBX q1
          refine (HAC.out W1 (HW.out.below (Below.next HB1.out HBA.out))).mono ?_
          rintro e w4 ⟨rfl, hb4⟩
          have HB14 := Lib.hid (Below.next HBA.out hb4)
          have HRG4 := Lib.hid (HRG1.out.kept (below_grow HB14.out) (by simp) (by simp))
          have HO4 := Lib.hid (rowK_below HO1.out HB14.out)
          have HB4 := Lib.hid (Below.next HB1.out HB14.out)
          have q4 : w4.cell? ⟨BX, 1, none⟩ = some (.string pv) := (hb4.cell (p := ⟨BX, 1, none⟩) (cell_lt Q1.out)).trans Q1.out
          have hs4 := hb4.size
          have hsA := HBA.out.size
          clear hb4
          cases ac
          · clear q4
            go_wp2_with fail
            go_roundw
            case rel => exact ⟨_, cnt1, out, oz, HRG4.out, HO4.out, HB4.out, by omega, HCO3, by omega, HOLN⟩
            case measure => rw [HRG4.out.left_eq, HLE.out]; omega
          · have hown4 := HO4.out
            have hbr : Below (R + 1) w4 w4 := Below.refl _ _
            have hR4 : R + 1 ≤ w4.heap.size := by omega
            go_wp2_with (at_builtin; go_must (refine wpList_app _ _ 41 16 (.string ⟨#[]⟩) (.string pv) _ Tryz.underlying41 Tryz.infoStr rfl hown4 hbr hR4 rfl rfl rfl rfl rfl (by unfold maxLen; omega) (by omega) ?_))
            intro v' w6 hown6 hb6 hg6 hs6
            have HO6 : Hid (w6.ownsRow (R + 1) 9 1 v' (oz + 1) ((out ++ [pv.toList]).map encStr)) := Lib.hid (by
              have e : encStr pv.toList = .string pv := by unfold encStr; rw [bs_mk]
              rw [List.map_append, List.map_cons, List.map_nil, e]; exact hown6)
            have HRG6 := Lib.hid (HRG4.out.kept hg6 (fun e => by have := (HO4.out.lt _ e.symm).1; omega) (fun e => by have := (HO4.out.lt _ e.symm).1; omega))
            have HB6 := Lib.hid (HB4.out.trans (hb6.mono (by omega)))
            have HOL6 : Hid ((out ++ [pv.toList]).length = oz + 1) := Lib.hid (by rw [List.length_append, HOLN.out]; rfl)
            have hs66 : R + 1 ≤ w6.heap.size := by omega
            clear hown4 hbr hown6 hb6 hg6 q4
            go_wp2_with fail
            go_roundw
            case rel => exact ⟨_, cnt1, _, oz + 1, HRG6.out, HO6.out, HB6.out, hs66, HCO3, by omega, HOL6⟩
            case measure => rw [HRG6.out.left_eq, HLE.out]; omega
end Go.Proofs.YtmjgdnpfgkpaoaaGreatDoor
namespace Go.Proofs.YtmjgdnpfgkpaoaaGreatDoor
open Go.RowKit Go.Shelf

/-- a family without the empty set, not empty -/
def okR (l : List (BitVec 16)) : Bool := match l with
  | [] => false
  | x :: _ => x != 0#16
set_option maxRecDepth 100000 in
set_option maxHeartbeats 2000000 in
theorem readable_c (l : List Int) (hw : ∀ z ∈ l, 0 ≤ z ∧ z < 256) (h6 : l.length ≤ 6) (a : Option Addr) (n c : Nat) (w : World) (h : Rd w a n c (l.map (Value.int .u8))) :
    Calls Tryz.prog 13 #[.slice a n c] w fun e w' => ∃ a' n' c', e = .returned (.tuple #[.slice a' n' c', .bool (okR (madS l))]) ∧ Rd w' a' n' c' ((madS l).map setV2) ∧ Below w.heap.size w w' := by
  have hnl : l.length = n := by have := h.len; simp at this; omega
  have HM := Lib.hid (made9_c l hw a n c w h)
  have hn : ¬ (6 : Int) < n := by omega
  obtain ⟨L, hL⟩ : ∃ L, madS l = L := ⟨_, rfl⟩
  rw [hL] at HM ⊢
  clear h hw hL
  go_enter Tryz.func13, Tryz.ntmps13
  go_wp2_with fail
  refine HM.out.mono ?_
  rintro e w1 ⟨v, rfl, hown, hb⟩
  obtain ⟨nl, hnl2⟩ : ∃ nl, L.length = nl := ⟨_, rfl⟩
  obtain ⟨a', c', rfl, hr⟩ := hown.rdn nl (by rw [List.length_map]; exact hnl2)
  have HR := Lib.hid hr
  have HB := Lib.hid hb
  clear hown hb HM
  cases L with
  | nil =>
    have h0 : nl = 0 := by rw [← hnl2]; rfl
    subst h0
    clear hr hnl2
    go_wp2_with fail
    go_region
    all_goals
      go_wp2_with fail
      go_ret2
      exact ⟨a', 0, c', rfl, HR.out.below (below_drew (Below.refl _ _)), below_drew HB.out⟩
  | cons x L =>
    have h0 : 0 < nl := by rw [← hnl2]; simp
    obtain ⟨b, o, ha, hc⟩ := hr.at' h0
    subst ha
    have c0 : w1.cell? ⟨b, o, none⟩ = some (.int .u16 (U x)) := hc 0 _ rfl
    have h1 : (0 : Int) < (nl : Int) := by omega
    have hm := hr.max
    have hle := hr.le
    unfold maxLen at hm
    clear hr hc hnl2
    go_wp2_with fail
    go_region
    all_goals
      go_wp2_with fail
      go_ret2
      exact ⟨_, nl, c', rfl, HR.out.below (below_drew (Below.refl _ _)), below_drew HB.out⟩
end Go.Proofs.YtmjgdnpfgkpaoaaGreatDoor
namespace Go.Proofs.YtmjgdnpfgkpaoaaGreatDoor
open Go.RowKit Go.Shelf

/-- a family of at most six sets, or none -/
def rdS (l : List Int) : List (BitVec 16) := if 6 < l.length then [] else madS l
theorem rd_ok {l : List Int} (h : okR (rdS l) = true) : l.length ≤ 6 ∧ rdS l = madS l := by
  unfold rdS at h ⊢
  split at h
  · cases h
  · rename_i h6
    exact ⟨by omega, by rw [if_neg h6]⟩
theorem u8_bdT {W : World} {a : Option Addr} {n c : Nat} {l : List Int} (h : IsInts .u8 W a n c l) : ∀ z ∈ l, 0 ≤ z ∧ z < 256 := fun z hz => by
  have := h.wf z hz
  simp [Lit.wf, IntKind.min, IntKind.max, IntKind.bits, IntKind.signed] at this
  omega
set_option maxRecDepth 100000 in
set_option maxHeartbeats 2000000 in
theorem readable_a (l : List Int) (hw : ∀ z ∈ l, 0 ≤ z ∧ z < 256) (a : Option Addr) (n c : Nat) (w : World) (h : Rd w a n c (l.map (Value.int .u8))) :
    Calls Tryz.prog 13 #[.slice a n c] w fun e w' => ∃ a' n' c', e = .returned (.tuple #[.slice a' n' c', .bool (okR (rdS l))]) ∧ Rd w' a' n' c' ((rdS l).map setV2) ∧ Below w.heap.size w w' := by
  have hnl : l.length = n := by have := h.len; simp at this; omega
  by_cases h6 : 6 < n
  · have e : rdS l = [] := by unfold rdS; rw [if_pos (by omega)]
    rw [e]
    have hn : (6 : Int) < n := by omega
    clear h hw hnl e
    go_enter Tryz.func13, Tryz.ntmps13
    go_wp2_with fail
    go_ret2
    exact ⟨none, 0, 0, rfl, Rd.none_ _, Below.refl _ _⟩
  · have e : rdS l = madS l := by unfold rdS; rw [if_neg (by omega)]
    rw [e]
    exact readable_c l hw (by omega) a n c w h
theorem ok_quoA {l : List Int} (h : okR (madS l) = true) : madS l ≠ [] ∧ hasZ (madS l) = false := by
  refine ⟨fun e => (by rw [e] at h; cases h), good_head (madS_good l) (.inr ?_)⟩
  unfold okR at h
  cases hm : madS l with
  | nil => rw [hm] at h; cases h
  | cons x L => rw [hm] at h; simpa using h
theorem madS_lenA (l : List Int) : (madS l).length ≤ l.length := by
  have := minS_len (madL l (min 20 l.length))
  rw [madL_len (by omega)] at this
  unfold madS; omega
theorem lt_hasA {x : BitVec 16} (h : x.toNat < 64) {i : Nat} (hi : hasB x i = true) : i < 6 := by
  apply Classical.byContradiction
  intro hc
  unfold hasB at hi
  rw [BitVec.getLsbD, Nat.testBit_lt_two_pow (Nat.lt_of_lt_of_le h (Nat.pow_le_pow_right (n := 2) (by decide) (by omega : 6 ≤ i)))] at hi
  cases hi
end Go.Proofs.YtmjgdnpfgkpaoaaGreatDoor
namespace Go.Proofs.YtmjgdnpfgkpaoaaGreatDoor
open Go.ChangeShapes Go.WideShapes Go.RowKit
section
variable {H : Type} {enc : TypeId × Value → H} {P : Program} {w : World} {base : Nat} {spare : Nat → Bool} {held : Bool}
theorem trod_array2 {t e : TypeId} {fuel : Nat} {c0 c1 : Value} {x : DataW H × List MemPlace} (ht : P.underlying t = some (.array 2 e)) (hce : P.cellsOf e = 1)
    (h : DataW.trod enc P w base spare held fuel t [c0, c1] = some x) :
    ∃ y0 y1 n, x = (.agg [y0.1, y1.1], y0.2 ++ y1.2) ∧ DataW.trod enc P w base spare held n e [c0] = some y0 ∧ DataW.trod enc P w base spare held n e [c1] = some y1 := by
  cases fuel with
  | zero => simp [DataW.trod] at h
  | succ n =>
    unfold DataW.trod at h
    rw [ht] at h
    have r2 : List.range 2 = [0, 1] := rfl
    simp [r2, hce] at h
    obtain ⟨_, h⟩ := h
    cases h0 : DataW.trod enc P w base spare held n e [c0] with
    | none => simp [h0] at h
    | some y0 =>
      cases h1 : DataW.trod enc P w base spare held n e [c1] with
      | none => simp [h0, h1] at h
      | some y1 =>
        simp [h0, h1] at h
        exact ⟨y0, y1, n, h.symm, h0, h1⟩
theorem list2 {α : Type} (l : List α) (h : (⟨l⟩ : Array α).size = 2) : ∃ a b, l = [a, b] := by
  match l, h with
  | [a, b], _ => exact ⟨a, b, rfl⟩
theorem open_two8 {b0 : Nat} {t e : TypeId} {v : Value} {d : DataW H} {p : List MemPlace} (ht : P.underlying t = some (.array 2 e)) (he : P.underlying e = some (.int .u8)) (hce : P.cellsOf e = 1) (hct : P.cellsOf t = 2)
    (hv : Value.okWide P w .any b0 t v) (h : DataW.Trod enc P w base spare held t v d p) : ∃ s0 s1 : Int, v = .agg #[.int .u8 s0, .int .u8 s1] ∧ (0 ≤ s0 ∧ s0 < 256) ∧ 0 ≤ s1 ∧ s1 < 256 := by
  obtain ⟨cs, rfl, hsz⟩ : ∃ cs, v = .agg cs ∧ cs.size = P.cellsOf t := by
    have := hv
    unfold Value.okWide at this
    rw [ht] at this
    obtain ⟨cs, h1, h2, _⟩ := this
    exact ⟨cs, h1, h2⟩
  rw [hct] at hsz
  obtain ⟨l⟩ := cs
  obtain ⟨c0, c1, rfl⟩ := list2 l hsz
  obtain ⟨fuel, hf⟩ := h
  obtain ⟨y0, y1, m, hx, h0, h1⟩ := trod_array2 ht hce hf
  obtain ⟨x0, e0, _, w0⟩ := DataW.trod_int he h0
  obtain ⟨x1, e1, _, w1⟩ := DataW.trod_int he h1
  simp at e0 e1
  subst e0 e1
  have b0 : 0 ≤ x0 ∧ x0 < 256 := by
    simp [Lit.wf, IntKind.min, IntKind.max, IntKind.bits, IntKind.signed] at w0; omega
  have b1 : 0 ≤ x1 ∧ x1 < 256 := by
    simp [Lit.wf, IntKind.min, IntKind.max, IntKind.bits, IntKind.signed] at w1; omega
  exact ⟨x0, x1, rfl, b0, b1⟩
end
end Go.Proofs.YtmjgdnpfgkpaoaaGreatDoor
namespace Go.Proofs.YtmjgdnpfgkpaoaaGreatDoor
open Go.RowKit Go.Shelf

theorem bytes_ofT {W : World} {a : Option Addr} {n c : Nat} {z : List Int} (h : IsInts .u8 W a n c z) : ∃ ch : List Nat, Rd W a n c (ch.map chV) ∧ (∀ x ∈ ch, x < 256) ∧ ch.length = n := by
  have hb := u8_bdT h
  have e : (z.map Int.toNat).map Int.ofNat = z := by
    rw [List.map_map]
    conv => rhs; rw [← List.map_id z]
    refine List.map_congr_left fun x hx => ?_
    have := hb x hx
    show (((Int.toNat x) : Nat) : Int) = x
    omega
  refine ⟨z.map Int.toNat, ?_, fun x hx => ?_, by rw [List.length_map]; exact h.len⟩
  · have := h.rd
    rw [← e, List.map_map] at this
    exact this
  · obtain ⟨y, hy, rfl⟩ := List.mem_map.1 hx
    have := hb y hy; omega
def EvsOkT (l : List Ev) : Prop := ∀ e ∈ l, e.value.size ≤ maxLen ∧ (Lit.int .i64 e.ballot).wf = true
theorem atk_okT (q0 r w : BitVec 16) : EvsOkT (atkTo q0 r w 2) := by
  intro e he
  have he2 : e ∈ blkS q0 w 1 ++ blkS r w 2 := he
  have hv : ∀ b, b = 1 ∨ b = 2 → (valB b).size ≤ maxLen := by
    intro b hb
    have := dec_small b (by omega)
    unfold valB
    show (118 :: Lib.decDigits b).toArray.size ≤ _
    simp
    unfold maxLen; omega
  have hz : (⟨#[]⟩ : ByteArray).size ≤ maxLen := by show (0 : Nat) ≤ _; omega
  unfold blkS at he2
  rcases List.mem_append.1 he2 with h | h <;> rcases List.mem_append.1 h with h | h <;> obtain ⟨s, _, rfl⟩ := List.mem_map.1 h
  · exact ⟨hz, by show (Lit.int .i64 ((1 : Nat) : Int)).wf = true; decide⟩
  · exact ⟨hv 1 (.inl rfl), by show (Lit.int .i64 ((1 : Nat) : Int)).wf = true; decide⟩
  · exact ⟨hz, by show (Lit.int .i64 ((2 : Nat) : Int)).wf = true; decide⟩
  · exact ⟨hv 2 (.inr rfl), by show (Lit.int .i64 ((2 : Nat) : Int)).wf = true; decide⟩
theorem atk_lenT (q0 r w : BitVec 16) : (atkTo q0 r w 2).length ≤ 64 := by
  show (blkS q0 w 1 ++ blkS r w 2).length ≤ 64
  rw [List.length_append, blk_len, blk_len]
  have := cnt_le q0; have := cnt_le w; have := cnt_le r
  omega
/-- how many servers stand ahead of one -/
def rnkT (s : BitVec 16) (k : Nat) : Nat := (memTo s k).length
theorem rnk_succ (s : BitVec 16) (k : Nat) : rnkT s (k + 1) = rnkT s k + (if hasB s k = true then 1 else 0) := cntTo_succ s k
theorem rnk_six {s : BitVec 16} (h : ∀ i, hasB s i = true → i < 6) : rnkT s 6 = cnt s := by
  have e : ∀ k, 6 ≤ k → k ≤ 16 → rnkT s k = rnkT s 6 := by
    intro k h1 h2
    induction k with
    | zero => omega
    | succ k ih =>
      by_cases hk : k + 1 = 6
      · rw [hk]
      · rw [rnk_succ, if_neg (fun hc => by have := h k hc; omega), ih (by omega) (by omega)]; rfl
  exact (e 16 (by omega) (by omega)).symm
theorem ne_cnt {s : BitVec 16} (h : s ≠ 0#16) : 0 < cnt s := by
  obtain ⟨k, _, _, _, h4⟩ := memS_step s h
  unfold cnt
  rw [h4]; simp
/-- the set without one of its servers -/
theorem drop_sub {s : BitVec 16} {i : Nat} (hi : hasB s i = true) : subB s (s &&& ~~~bitS i) = true ∧ s &&& ~~~bitS i ≠ s := by
  have h16 := hasB_lt hi
  refine ⟨(subB_iff _ _).2 fun j hj => ?_, fun e => ?_⟩
  · rw [hasB_and, Bool.and_eq_true] at hj; exact hj.1
  · have := congrArg (hasB · i) e
    simp only [hasB_and, hi] at this
    rw [hasB_notQ _ _ h16, hasB_bit _ _ h16] at this
    simp at this

set_option maxRecDepth 100000 in
set_option maxHeartbeats 4000000 in
theorem topPhases_w (a : Option Addr) (len cap : Nat) (z : List Int) (a2 : Option Addr) (len2 cap2 : Nat) (z2 : List Int) (dp0 dp1 : Int) (w : World) (ht : HasTab w) (w0 : IsInts .u8 w a len cap z) (w2 : IsInts .u8 w a2 len2 cap2 z2) (wd : (0 ≤ dp0 ∧ dp0 < 256) ∧ 0 ≤ dp1 ∧ dp1 < 256) :
    Calls Tryz.prog 5 #[.slice a len cap, .slice a2 len2 cap2, .agg #[.int .u8 dp0, .int .u8 dp1]] w fun e w' => e = .returned (.bool true) ∧ Below w.heap.size w w' := by
  obtain ⟨ch, hch, hch256, hchl⟩ := bytes_ofT w2
  have HT := Lib.hid ht
  have HCH := Lib.hid hch
  have HC256 := Lib.hid hch256
  have HCL := Lib.hid hchl
  have HL1 := Lib.hid w0.rd
  have HM1 := Lib.hid (fun w h => readable_a z (u8_bdT w0) a len cap w h)
  have HA := Lib.hid (fun w h => awake39_c w h)
  have hle2 := hch.le
  have hmx2 := hch.max
  unfold maxLen at hmx2
  have HDP := Lib.hid wd
  obtain ⟨R, hR⟩ : ∃ R, rdS z = R := ⟨_, rfl⟩
  rw [hR] at HM1
  obtain ⟨o1, ho1⟩ : ∃ o, okR R = o := ⟨_, rfl⟩
  rw [ho1] at HM1
  have HR0 := Lib.hid hR
  have HO1 := Lib.hid ho1
  obtain ⟨wA, hwA⟩ : ∃ wA, w.alloc (.cells #[.int .u8 dp0, .int .u8 dp1] 54) = wA := ⟨_, rfl⟩
  have hbA : Below w.heap.size w wA := by rw [← hwA]; exact (Below.refl _ w).alloc (Nat.le_refl _) _
  have hbx : Rd wA (some ⟨w.heap.size, 0, none⟩) 2 2 [.int .u8 dp0, .int .u8 dp1] := by rw [← hwA]; exact Rd.lit w _ _ 2 _ rfl rfl (by decide)
  have RBX := Lib.hid hbx
  have HBA := Lib.hid hbA
  have HTA := Lib.hid (HT.out.below hbA)
  have HCA := Lib.hid (HCH.out.below hbA)
  have HLA := Lib.hid (HL1.out.below hbA)
  clear w0 w2 ht hch hch256 hchl wd hR ho1 hbx HT HCH HL1
  go_enter Tryz.func5, Tryz.ntmps5
  go_upto_region 1 with fail
  clear hwA hbA
  go_wp2_with fail
  refine (HM1.out _ HLA.out).mono ?_
  rintro e w1 ⟨b1, n1, d1, rfl, r1, c1⟩
  have c2 := Below.next HBA.out c1
  have R1 := Lib.hid r1
  have HT1 := Lib.hid (HTA.out.below c1)
  have HC1 := Lib.hid (HCA.out.below c1)
  have RB1 := Lib.hid (RBX.out.below c1)
  clear r1 HM1 c1 HTA HCA RBX HLA
  go_wp2_with fail
  refine (HA.out _ HT1.out).mono ?_
  rintro e w4 ⟨rfl, c4⟩
  have c5 := Below.next c2 c4
  have R1c := Lib.hid (R1.out.below c4)
  have HTc := Lib.hid (HT1.out.below c4)
  have HCc := Lib.hid (HC1.out.below c4)
  have RBc := Lib.hid (RB1.out.below c4)
  clear R1 HT1 HC1 RB1 c2 c4
  by_cases hall : o1 = true ∧ len2 ≤ 25
  · obtain ⟨h1, h25⟩ := hall
    subst h1
    have hR1 := rd_ok (l := z) (by rw [HR0.out]; exact HO1.out)
    have hRm : R = madS z := by rw [← HR0.out]; exact hR1.2
    have hRl : R.length ≤ 6 := by rw [hRm]; exact Nat.le_trans (madS_lenA z) hR1.1
    have hok := ok_quoA (l := z) (by rw [← hRm]; exact HO1.out)
    have hRv : valS R = 0 := by rw [hRm]; exact made_valid z
    have hDu : DuB R (dualU R) := du_of hRv (by rw [hRm]; exact fun x hx i hi => lt_hasA (madS_lt z x hx) hi) (by rw [hRm]; exact hok.1) (by rw [hRm]; exact hok.2)
    obtain ⟨D, hD⟩ : ∃ D, dualU R = D := ⟨_, rfl⟩
    rw [hD] at hDu
    have HD := Lib.hid hDu
    have hn1 : R.length = n1 := by have := R1c.out.len; simp at this; omega
    have hn1b : n1 ≤ 6 := by omega
    obtain ⟨nD, hnD⟩ : ∃ nD, D.length = nD := ⟨_, rfl⟩
    have hnD64 : nD ≤ 64 := by rw [← hnD]; exact hDu.len
    have hnD0 : 0 < nD := by rw [← hnD]; exact List.length_pos_iff.2 hDu.ne
    have HND := Lib.hid hnD
    have h25b : ¬ (25 : Int) < (len2 : Int) := by omega
    obtain ⟨ev, hev⟩ : ∃ ev, runS R 6 (ch.map Int.ofNat) = ev := ⟨_, rfl⟩
    have hevl : ev.length ≤ 25 := by
      rw [← hev, ← runTo_all]
      have := runTo_len R 6 (ch.map Int.ofNat) (ch.map Int.ofNat).length
      rw [List.length_map, HCL.out] at this
      rw [List.length_map, HCL.out]
      omega
    have HG : Hid (Good R 6 ev) := Lib.hid (by rw [← hev]; exact run_good R 6 _ _ .nil)
    have HWF : Hid (EvsOkT ev) := Lib.hid (by rw [← hev]; exact fun e he => ⟨run_small _ e he, run_wf (by omega) _ e he⟩)
    have hcn1 : (chrS D 6 ev).length ≤ 1 := chosen_one (by omega) HG.out hDu.hit
    have HDU := Lib.hid (fun a n c w ht h => tdual_c R hRv a n c w ht h)
    unfold DuR at HDU
    rw [hDu.eq] at HDU
    have HRUN := Lib.hid (fun a n c aw nw cw a3 n3 c3 w h hw h3 => prunR_c R D a n c aw nw cw 6 ch a3 n3 c3 w h hw h3 HC256.out (by rw [HCL.out]; omega) (by omega) hDu.chk)
    rw [hev] at HRUN
    have HCHO := Lib.hid (fun a n c a2 n2 c2 w h h2 => pchosen_c D 6 ev a n c a2 n2 c2 w h h2 HWF.out (by omega) (by omega))
    have HAT := Lib.hid (fun a n c a2 n2 c2 w h h2 ht => attack_c R D 6 a n c a2 n2 c2 w h h2 ht)
    rw [show attS R D 6 = ([], 13) by unfold attS; rw [if_neg (by rw [hDu.chk]; decide), du_none hDu]] at HAT
    have HCS := Lib.hid (fun l a n c w h hb => clones_c l a n c w h hb)
    have HCB := Lib.hid (fun w h => cloneb_c ch a2 len2 cap2 w h (by omega))
    obtain ⟨cn, hcn⟩ : ∃ cn, (chrS D 6 ev).length = cn := ⟨_, rfl⟩
    obtain ⟨nE, hnE⟩ : ∃ nE, ev.length = nE := ⟨_, rfl⟩
    rw [hnE] at HRUN
    rw [hcn] at HCHO hcn1
    simp only [hnD] at HDU
    rw [show ((6 : Nat) : Int) = 6 from rfl] at HRUN HCHO
    have hcn2 : ¬ (1 : Int) < (cn : Int) := by omega
    have hnDi : ((nD : Int) == 0) = false := by simp; omega
    have HR6 := Lib.hid hRl
    clear hR1 hRm hRl hok hRv hDu hD hn1 hnD hev hcn hnE hevl HR0 HO1 HWF HG
    go_wp2_with fail
    refine (HCS.out R b1 n1 d1 w4 R1c.out (by omega)).mono ?_
    rintro e wva1 ⟨a5, e5, rfl, rR5, ha1⟩
    have bva1 := Below.next c5 ha1
    have R1c_a1 := Lib.hid (R1c.out.below ha1)
    have HTc_a1 := Lib.hid (HTc.out.below ha1)
    have HCc_a1 := Lib.hid (HCc.out.below ha1)
    have RBc_a1 := Lib.hid (RBc.out.below ha1)
    have R5 := Lib.hid rR5
    clear rR5 ha1
    go_wp2_with fail
    refine (HDU.out a5 n1 e5 wva1 HTc_a1.out R5.out).mono ?_
    rintro e wva2 ⟨aD, dD, rfl, rRD, ha2⟩
    have bva2 := Below.next bva1 ha2
    have R1c_a2 := Lib.hid (R1c_a1.out.below ha2)
    have HTc_a2 := Lib.hid (HTc_a1.out.below ha2)
    have HCc_a2 := Lib.hid (HCc_a1.out.below ha2)
    have RBc_a2 := Lib.hid (RBc_a1.out.below ha2)
    have RD := Lib.hid rRD
    clear rRD ha2
    go_wp2_with fail
    refine (HCS.out R b1 n1 d1 wva2 R1c_a2.out (by omega)).mono ?_
    rintro e wva3 ⟨a6, e6, rfl, rR6, ha3⟩
    have bva3 := Below.next bva2 ha3
    have R1c_a3 := Lib.hid (R1c_a2.out.below ha3)
    have HTc_a3 := Lib.hid (HTc_a2.out.below ha3)
    have HCc_a3 := Lib.hid (HCc_a2.out.below ha3)
    have RBc_a3 := Lib.hid (RBc_a2.out.below ha3)
    have RD_a3 := Lib.hid (RD.out.below ha3)
    have R6 := Lib.hid rR6
    clear rR6 ha3
    go_wp2_with fail
    refine (HCS.out D aD nD dD wva3 RD_a3.out (by omega)).mono ?_
    rintro e wva4 ⟨a7, e7, rfl, rR7, ha4⟩
    have bva4 := Below.next bva3 ha4
    have R1c_a4 := Lib.hid (R1c_a3.out.below ha4)
    have HTc_a4 := Lib.hid (HTc_a3.out.below ha4)
    have HCc_a4 := Lib.hid (HCc_a3.out.below ha4)
    have RBc_a4 := Lib.hid (RBc_a3.out.below ha4)
    have RD_a4 := Lib.hid (RD_a3.out.below ha4)
    have R6_a4 := Lib.hid (R6.out.below ha4)
    have R7 := Lib.hid rR7
    clear rR7 ha4
    go_wp2_with fail
    refine (HCB.out wva4 HCc_a4.out).mono ?_
    rintro e wva5 ⟨a8, e8, rfl, rR8, ha5⟩
    have bva5 := Below.next bva4 ha5
    have R1c_a5 := Lib.hid (R1c_a4.out.below ha5)
    have HTc_a5 := Lib.hid (HTc_a4.out.below ha5)
    have RBc_a5 := Lib.hid (RBc_a4.out.below ha5)
    have RD_a5 := Lib.hid (RD_a4.out.below ha5)
    have R6_a5 := Lib.hid (R6_a4.out.below ha5)
    have R7_a5 := Lib.hid (R7.out.below ha5)
    have R8 := Lib.hid rR8
    clear rR8 ha5
    go_wp2_with fail
    refine (HRUN.out a6 n1 e6 a7 nD e7 a8 len2 e8 wva5 R6_a5.out R7_a5.out R8.out).mono ?_
    rintro e wva6 ⟨aE, eE, rfl, rRE, ha6⟩
    have bva6 := Below.next bva5 ha6
    have R1c_a6 := Lib.hid (R1c_a5.out.below ha6)
    have HTc_a6 := Lib.hid (HTc_a5.out.below ha6)
    have RBc_a6 := Lib.hid (RBc_a5.out.below ha6)
    have RD_a6 := Lib.hid (RD_a5.out.below ha6)
    have RE := Lib.hid rRE
    clear rRE ha6
    go_wp2_with fail
    refine (HCS.out D aD nD dD wva6 RD_a6.out (by omega)).mono ?_
    rintro e wva7 ⟨a9, e9, rfl, rR9, ha7⟩
    have bva7 := Below.next bva6 ha7
    have R1c_a7 := Lib.hid (R1c_a6.out.below ha7)
    have HTc_a7 := Lib.hid (HTc_a6.out.below ha7)
    have RBc_a7 := Lib.hid (RBc_a6.out.below ha7)
    have RD_a7 := Lib.hid (RD_a6.out.below ha7)
    have RE_a7 := Lib.hid (RE.out.below ha7)
    have R9 := Lib.hid rR9
    clear rR9 ha7
    go_wp2_with fail
    refine (HCHO.out a9 nD e9 aE nE eE wva7 R9.out RE_a7.out).mono ?_
    rintro e wva8 ⟨a10, e10, rfl, rR10, ha8⟩
    have bva8 := Below.next bva7 ha8
    have R1c_a8 := Lib.hid (R1c_a7.out.below ha8)
    have HTc_a8 := Lib.hid (HTc_a7.out.below ha8)
    have RBc_a8 := Lib.hid (RBc_a7.out.below ha8)
    have RD_a8 := Lib.hid (RD_a7.out.below ha8)
    have R10 := Lib.hid rR10
    clear rR10 ha8
    go_wp2_with fail
    refine (HCS.out R b1 n1 d1 wva8 R1c_a8.out (by omega)).mono ?_
    rintro e wva9 ⟨a11, e11, rfl, rR11, ha9⟩
    have bva9 := Below.next bva8 ha9
    have R1c_a9 := Lib.hid (R1c_a8.out.below ha9)
    have HTc_a9 := Lib.hid (HTc_a8.out.below ha9)
    have RBc_a9 := Lib.hid (RBc_a8.out.below ha9)
    have RD_a9 := Lib.hid (RD_a8.out.below ha9)
    have R11 := Lib.hid rR11
    clear rR11 ha9
    go_wp2_with fail
    refine (HCS.out D aD nD dD wva9 RD_a9.out (by omega)).mono ?_
    rintro e wva10 ⟨a12, e12, rfl, rR12, ha10⟩
    have bva10 := Below.next bva9 ha10
    have R1c_a10 := Lib.hid (R1c_a9.out.below ha10)
    have HTc_a10 := Lib.hid (HTc_a9.out.below ha10)
    have RBc_a10 := Lib.hid (RBc_a9.out.below ha10)
    have RD_a10 := Lib.hid (RD_a9.out.below ha10)
    have R11_a10 := Lib.hid (R11.out.below ha10)
    have R12 := Lib.hid rR12
    clear rR12 ha10
    go_wp2_with fail
    refine (HAT.out a11 n1 e11 a12 nD e12 wva10 R11_a10.out R12.out HTc_a10.out).mono ?_
    rintro e wva11 ⟨a13, e13, rfl, rR13, ha11⟩
    have bva11 := Below.next bva10 ha11
    have R1c_a11 := Lib.hid (R1c_a10.out.below ha11)
    have HTc_a11 := Lib.hid (HTc_a10.out.below ha11)
    have RBc_a11 := Lib.hid (RBc_a10.out.below ha11)
    have RD_a11 := Lib.hid (RD_a10.out.below ha11)
    have R13 := Lib.hid rR13
    clear rR13 ha11
    obtain ⟨wS, hwS⟩ : ∃ wS, wva11 = wS := ⟨_, rfl⟩
    have RS1 := Lib.hid (R1c_a11.out)
    have RSD := Lib.hid (RD_a11.out)
    have RSB := Lib.hid (RBc_a11.out)
    have HTS := Lib.hid (HTc_a11.out)
    have BS := Lib.hid (bva11)
    rw [hwS] at RS1 RSD RSB HTS BS ⊢
    clear hwS
    obtain ⟨⟨hp0, hp0b⟩, hp1, hp1b⟩ := HDP.out
    obtain ⟨j, hj⟩ : ∃ j : Nat, dp0 % (nD : Int) = j := ⟨(dp0 % nD).toNat, by have := Int.emod_nonneg dp0 (b := nD) (by omega); omega⟩
    have hjl : j < nD := by have := Int.emod_lt_of_pos dp0 (b := nD) (by omega); omega
    have htm : dp0.tmod (nD : Int) = j := by rw [Int.tmod_eq_emod_of_nonneg hp0]; exact hj
    have hjD : j < D.length := by rw [HND.out]; exact hjl
    obtain ⟨bD, oD, haD, hcellD⟩ := RSD.out.at' (by omega)
    have hcD := hcellD j _ (at_cell hjD)
    have hsD : D.getD j 0#16 ∈ D := by rw [getD_at hjD]; exact List.getElem_mem hjD
    obtain ⟨s, hs⟩ : ∃ s, D.getD j 0#16 = s := ⟨_, rfl⟩
    rw [hs] at hcD hsD
    obtain ⟨bx, ox, hax, hcx⟩ := RSB.out.at' (by omega)
    have e0 := hcx 0 _ rfl
    have e1 := hcx 1 _ rfl
    cases hax
    rw [Nat.zero_add] at e0 e1
    have hs0 : 0 < cnt s := ne_cnt (HD.out.nz s hsD)
    obtain ⟨k0, hk0⟩ : ∃ k0 : Nat, dp1 % (cnt s : Int) = k0 := ⟨(dp1 % cnt s).toNat, by have := Int.emod_nonneg dp1 (b := cnt s) (by omega); omega⟩
    have hk0l : k0 < cnt s := by have := Int.emod_lt_of_pos dp1 (b := cnt s) (by omega); omega
    have htm2 : dp1.tmod (cnt s : Int) = k0 := by rw [Int.tmod_eq_emod_of_nonneg hp1]; exact hk0
    have HSD := Lib.hid hsD
    have HSZ := Lib.hid (fun w => size8_c s w)
    obtain ⟨ks, hks⟩ : ∃ ks, cnt s = ks := ⟨_, rfl⟩
    have HKS := Lib.hid hks
    rw [hks] at HSZ hs0 hk0l htm2
    have hksi : ((ks : Int) == 0) = false := by simp; omega
    have haD' := haD
    subst haD'
    clear hj hjD hcellD hs hcx hsD hk0 hks
    go_wp2_with fail
    go_quiet ((go_at_call 25; exact Calls.quiet_of_same (HSZ.out _)))
    obtain ⟨wN, hwN⟩ : ∃ wN, wS.drewN nq = wN := ⟨_, rfl⟩
    have hRN1 := rd_drewN RS1.out nq
    have hBN := below_drewN (q := nq) BS.out
    have hSN : Below wS.heap.size wS (wS.drewN nq) := below_drewN (q := nq) (Below.refl _ _)
    have hTN := HTS.out.below hSN
    rw [hwN] at hRN1 hBN hTN ⊢
    have RN1 := Lib.hid hRN1
    have BN := Lib.hid hBN
    have HTN := Lib.hid hTN
    clear hwN hRN1 hBN hSN hTN hcD e0 e1 BS HTS RS1 RSD RSB
    go_wp2_with fail
    go_loop [15, 16, 98] (fun t v i => ∃ (q r : Nat), q ≤ 6 ∧ t = .int .u16 (U s) ∧ v = .int .i64 r ∧ i = .int .i64 q ∧ Hid (rnkT s q + r = k0)) (fun _ _ i => 6 - (intOf i).toNat)
    case atStart => exact ⟨0, k0, by omega, rfl, rfl, rfl, Lib.hid (by simp [rnkT, memTo])⟩
    case round =>
      obtain ⟨q, r, hq, rfl, rfl, rfl, hrk⟩ := hrel
      by_cases hlt : q < 6
      · have HS := Lib.hid (rnk_succ s q)
        cases hb : hasB s q
        · have HB := Lib.hid hb
          have hb0 : b01 (hasB s q) = 0 := by rw [hb]; rfl
          clear hb
          go_wp2_with fail
          go_round
          case rel => exact ⟨q + 1, r, by omega, rfl, rfl, by go_num, Lib.hid (by rw [HS.out, HB.out, if_neg (by decide)]; exact hrk.out)⟩
          case measure => simp [intOf]; omega
        · have HB := Lib.hid hb
          have hb0 : b01 (hasB s q) = 1 := by rw [hb]; rfl
          clear hb
          by_cases hr : r = 0
          · subst hr
            obtain ⟨s', hs'⟩ : ∃ s', s &&& ~~~bitS q = s' := ⟨_, rfl⟩
            have hsub := drop_sub HB.out
            rw [hs'] at hsub
            cases hz : (s' == 0#16)
            · obtain ⟨hlc, pp, hdis⟩ := HD.out.less s HSD.out s' hsub.1 hsub.2 (by simpa using hz)
              obtain ⟨rr, qq⟩ := pp
              have hg := att_good (m := 6) (by omega) hlc hdis
              have hcho := att_chosen (m := 6) (by omega) hlc hdis (R.getD 0 0#16)
              have hC1 : chkS (6 : Nat) [R] = 0 := chk_one (by omega) hlc
              have HAT2 := Lib.hid (fun a n c a2 n2 c2 w h h2 ht => attack_c R [s'] 6 a n c a2 n2 c2 w h h2 ht)
              rw [show attS R [s'] 6 = (atkTo (R.getD 0 0#16) rr qq 2, 0) by unfold attS; rw [if_neg (by rw [hlc]; decide), hdis]] at HAT2
              have hokE := atk_okT (R.getD 0 0#16) rr qq
              have hevl := atk_lenT (R.getD 0 0#16) rr qq
              obtain ⟨ev2, hev2⟩ : ∃ ev2, atkTo (R.getD 0 0#16) rr qq 2 = ev2 := ⟨_, rfl⟩
              rw [hev2] at HAT2 hg hcho hokE hevl
              have HCK := Lib.hid (fun a n c a2 n2 c2 w h h2 => checkP_c R 6 ev2 a n c a2 n2 c2 w h h2 (fun e he => (hokE e he).2) (by omega) (by omega) hC1)
              rw [good_chk hg] at HCK
              have HCHO2 := Lib.hid (fun a n c a2 n2 c2 w h h2 => pchosen_c [s'] 6 ev2 a n c a2 n2 c2 w h h2 hokE (by omega) (by omega))
              rw [hcho] at HCHO2
              simp only [List.length_cons, List.length_nil, Nat.zero_add, Nat.reduceAdd] at HCHO2
              have HCE := Lib.hid (fun a n c w h hb => clonee_c ev2 a n c w h hb)
              obtain ⟨nE2, hnE2⟩ : ∃ nE2, ev2.length = nE2 := ⟨_, rfl⟩
              rw [hnE2] at HAT2 hevl
              rw [show ((6 : Nat) : Int) = 6 from rfl] at HCK HCHO2
              obtain ⟨wL, hwL⟩ : ∃ wL, wN.alloc (.cells #[.int .u16 (U s')] 27) = wL := ⟨_, rfl⟩
              have hbL : Below wN.heap.size wN wL := by rw [← hwL]; exact (Below.refl _ wN).alloc (Nat.le_refl _) _
              have hrL : Rd wL (some ⟨wN.heap.size, 0, none⟩) 1 1 ([s'].map setV2) := by rw [← hwL]; exact Rd.lit wN _ _ 1 _ rfl rfl (by decide)
              have RL := Lib.hid hrL
              have RM1 := Lib.hid (RN1.out.below hbL)
              have HTM := Lib.hid (HTN.out.below hbL)
              have bM := Below.next BN.out hbL
              clear hsub hlc hdis hg hcho hC1 hokE hev2 hnE2 hrL hbL
              go_upto_region 26 with fail
              clear hwL
              go_wp2_with fail
              refine (HCS.out R b1 n1 d1 wL RM1.out (by omega)).mono ?_
              rintro e wvb1 ⟨a15, e15, rfl, rR15, hb1⟩
              have bvb1 := Below.next bM hb1
              have RM1_b1 := Lib.hid (RM1.out.below hb1)
              have RL_b1 := Lib.hid (RL.out.below hb1)
              have HTM_b1 := Lib.hid (HTM.out.below hb1)
              have R15 := Lib.hid rR15
              clear rR15 hb1
              go_wp2_with fail
              refine (HCS.out [s'] _ 1 1 wvb1 RL_b1.out (by omega)).mono ?_
              rintro e wvb2 ⟨a16, e16, rfl, rR16, hb2⟩
              have bvb2 := Below.next bvb1 hb2
              have RM1_b2 := Lib.hid (RM1_b1.out.below hb2)
              have RL_b2 := Lib.hid (RL_b1.out.below hb2)
              have HTM_b2 := Lib.hid (HTM_b1.out.below hb2)
              have R15_b2 := Lib.hid (R15.out.below hb2)
              have R16 := Lib.hid rR16
              clear rR16 hb2
              go_wp2_with fail
              refine (HAT2.out a15 n1 e15 a16 1 e16 wvb2 R15_b2.out R16.out HTM_b2.out).mono ?_
              rintro e wvb3 ⟨a17, e17, rfl, rR17, hb3⟩
              have bvb3 := Below.next bvb2 hb3
              have RM1_b3 := Lib.hid (RM1_b2.out.below hb3)
              have RL_b3 := Lib.hid (RL_b2.out.below hb3)
              have R17 := Lib.hid rR17
              clear rR17 hb3
              go_wp2_with fail
              refine (HCS.out R b1 n1 d1 wvb3 RM1_b3.out (by omega)).mono ?_
              rintro e wvb4 ⟨a18, e18, rfl, rR18, hb4⟩
              have bvb4 := Below.next bvb3 hb4
              have RL_b4 := Lib.hid (RL_b3.out.below hb4)
              have R17_b4 := Lib.hid (R17.out.below hb4)
              have R18 := Lib.hid rR18
              clear rR18 hb4
              go_wp2_with fail
              refine (HCE.out a17 nE2 e17 wvb4 R17_b4.out (by omega)).mono ?_
              rintro e wvb5 ⟨a19, e19, rfl, rR19, hb5⟩
              have bvb5 := Below.next bvb4 hb5
              have RL_b5 := Lib.hid (RL_b4.out.below hb5)
              have R17_b5 := Lib.hid (R17_b4.out.below hb5)
              have R18_b5 := Lib.hid (R18.out.below hb5)
              have R19 := Lib.hid rR19
              clear rR19 hb5
              go_wp2_with fail
              refine (HCK.out a18 n1 e18 a19 nE2 e19 wvb5 R18_b5.out R19.out).mono ?_
              rintro e wvb6 ⟨rfl, hb6⟩
              have bvb6 := Below.next bvb5 hb6
              have RL_b6 := Lib.hid (RL_b5.out.below hb6)
              have R17_b6 := Lib.hid (R17_b5.out.below hb6)
              clear hb6
              go_wp2_with fail
              refine (HCHO2.out _ 1 1 a17 nE2 e17 wvb6 RL_b6.out R17_b6.out).mono ?_
              rintro e wvb7 ⟨a20, e20, rfl, rR20, hb7⟩
              have bvb7 := Below.next bvb6 hb7
              have R20 := Lib.hid rR20
              clear rR20 hb7
              go_wp2_with fail
              go_ret
              exact ⟨rfl, bvb7⟩
            · clear hsub
              go_wp2_with fail
              go_ret
              exact ⟨rfl, BN.out⟩
          · obtain ⟨r', rfl⟩ : ∃ r', r = r' + 1 := ⟨r - 1, by omega⟩
            have hkr : r' + 1 ≤ 64 := by have := hrk.out; have := cnt_le s; have := HKS.out; omega
            clear hr
            go_wp2_with fail
            go_round
            case rel => exact ⟨q + 1, r', by omega, rfl, by go_num, by go_num, Lib.hid (by rw [HS.out, HB.out, if_pos rfl]; have := hrk.out; omega)⟩
            case measure => simp [intOf]; omega
      · exfalso
        obtain rfl : q = 6 := by omega
        have h1 := hrk.out
        rw [rnk_six (HD.out.six s HSD.out), HKS.out] at h1
        omega
  · cases o1
    · clear hall
      go_wp2_with fail
      refine (HA.out _ HTc.out).mono ?_
      rintro e w6 ⟨rfl, c6⟩
      have c7 := Below.next c5 c6
      clear c5 c6
      go_wp2_with fail
      go_ret
      exact ⟨rfl, c7⟩
    · have h6 : (25 : Int) < (len2 : Int) := by
        have : ¬ len2 ≤ 25 := fun e => hall ⟨rfl, e⟩
        omega
      clear hall
      go_wp2_with fail
      refine (HA.out _ HTc.out).mono ?_
      rintro e w6 ⟨rfl, c6⟩
      have c7 := Below.next c5 c6
      clear c5 c6
      go_wp2_with fail
      go_ret
      exact ⟨rfl, c7⟩
end Go.Proofs.YtmjgdnpfgkpaoaaGreatDoor
