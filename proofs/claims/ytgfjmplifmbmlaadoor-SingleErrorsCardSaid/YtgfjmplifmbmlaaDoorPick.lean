/- single.pick, Pick. -/
import Derived.Test.YtgfjmplifmbmlaaDoorR8v
import Derived.Test.YtgfjmplifmbmlaaDoorSin1
import Derived.Deep.RegionHeld3
namespace Go.Proofs.YtgfjmplifmbmlaaDoor
open Go.RowKit Go.Shelf

set_option maxRecDepth 100000 in
set_option maxHeartbeats 2000000 in
theorem pick_c (read : List (BitVec 16)) (l : List Rep) (a : Option Addr) (n c : Nat) (a2 : Option Addr) (n2 c2 : Nat) (w : World) (h : Rd w a n c (read.map setV2)) (h2 : RdK 3 w a2 n2 c2 (l.flatMap repC))
    (hok : ∀ r ∈ l, 0 ≤ r.server ∧ r.server < 12) :
    Calls Tryd.prog 32 #[.slice a n c, .slice a2 n2 c2] w fun e w' => ∃ sv : Int, e = .returned (.tuple #[.agg #[.int .i64 sv, .int .i64 (bestR l).1, .string (bestR l).2], .bool (accS read (seenR l))]) ∧ Below w.heap.size w w' := by
  have hnl : l.length = n2 := by have := h2.len; rw [flat_len 3 repC repC_len] at this; omega
  have hm := h2.max
  have hle := h2.le
  unfold maxLen at hm
  have HR := Lib.hid h
  have HR2 := Lib.hid h2
  have HN := Lib.hid hnl
  have HOK := Lib.hid hok
  clear h h2 hnl hok
  go_enter Tryd.func32, Tryd.ntmps32
  go_wp2_with fail
  go_loopw [7, 12] (fun v i wr => ∃ (k : Nat) (s : BitVec 16) (sv : Int), k ≤ n2 ∧ i = .int .i64 k ∧ v = .int .u16 (U s) ∧ Hid (s = seenR (l.take k)) ∧ wr.heap[w.heap.size + 1]? = some (.cells #[.int .i64 sv, .int .i64 (bestR (l.take k)).1, .string (bestR (l.take k)).2] 33 (0, 0)) ∧ wr.heap[w.heap.size]? = some (.cells #[.int .i64 0, .int .i64 0, .string ⟨#[]⟩] 33 (0, 0)) ∧ Below w.heap.size w wr) (fun _ i _ => n2 - (intOf i).toNat)
  case atStart => exact ⟨0, 0#16, 0, Nat.zero_le _, rfl, rfl, rfl, by have := heap_alloc_new (w.alloc (.cells #[.int .i64 0, .int .i64 0, .string ⟨#[]⟩] 33)) (.cells #[.int .i64 0, .int .i64 0, .string ⟨#[]⟩] 33); rw [World.size_alloc] at this; exact this, heap_alloc_at (heap_alloc_new w _) _, ((Below.refl _ w).alloc (Nat.le_refl _) _).alloc (by simp) _⟩
  case round =>
    obtain ⟨k, s, sv, hk, rfl, rfl, hs, hbest, hres, hb⟩ := hrel
    by_cases hlt : k < n2
    · obtain ⟨r, hr⟩ : ∃ r, l[k]? = some r := ⟨l[k]'(by have := HN.out; omega), List.getElem?_eq_getElem _⟩
      obtain ⟨b, o, ha, hcell⟩ := RdK.cells (HR2.out.below hb) repC_len (by omega)
      have hc0 : wr.cell? ⟨b, o + k * 3, none⟩ = some (.int .i64 r.server) := hcell k r hr 0 (by omega)
      have hc1 : wr.cell? ⟨b, o + k * 3 + 1, none⟩ = some (.int .i64 r.ballot) := hcell k r hr 1 (by omega)
      have hc2 : wr.cell? ⟨b, o + k * 3 + 2, none⟩ = some (.string r.value) := hcell k r hr 2 (by omega)
      obtain ⟨hr0, hr12⟩ := HOK.out r (List.mem_of_getElem? hr)
      obtain ⟨m, hsm⟩ := Int.eq_ofNat_of_zero_le hr0
      rw [hsm] at hc0 hr12
      have HS := Lib.hid (seenR_take hr)
      have HB := Lib.hid (bestR_take hr)
      have hsee : Hid (seeR s r = s ||| bitS m) := by show _ = _; unfold seeR; rw [hsm]; rfl
      obtain ⟨⟨bb, bv⟩, hbb⟩ : ∃ p, bestR (l.take k) = p := ⟨_, rfl⟩
      rw [hbb] at hbest HB
      have hf0 : wr.frozen? ⟨w.heap.size + 1, 0, none⟩ = false := by simp [World.frozen?, hbest]
      have hf1 : wr.frozen? ⟨w.heap.size + 1, 1, none⟩ = false := by simp [World.frozen?, hbest]
      have hf2 : wr.frozen? ⟨w.heap.size + 1, 2, none⟩ = false := by simp [World.frozen?, hbest]
      have hx0 : wr.cell? ⟨w.heap.size + 1, 0, none⟩ = some (.int .i64 sv) := cell_of_row _ _ 0 _ _ _ hbest
      have hx1 : wr.cell? ⟨w.heap.size + 1, 1, none⟩ = some (.int .i64 bb) := cell_of_row _ _ 1 _ _ _ hbest
      have hx2 : wr.cell? ⟨w.heap.size + 1, 2, none⟩ = some (.string bv) := cell_of_row _ _ 2 _ _ _ hbest
      have hsz : w.heap.size + 1 < wr.heap.size := cell_lt hx0
      obtain ⟨rb, hrb⟩ : ∃ x, r.ballot = x := ⟨_, rfl⟩
      obtain ⟨rv, hrv⟩ : ∃ x, r.value = x := ⟨_, rfl⟩
      rw [hrb] at hc1
      rw [hrv] at hc2
      have HBE := Lib.hid hbest
      have HRB := Lib.hid hrb
      have HRV := Lib.hid hrv
      subst ha
      clear hcell hsm hr0 hrb hrv hbest hbb hr
      by_cases hgt : bb < rb
      · go_wp2_with fail
        go_roundw
        case rel => exact ⟨k + 1, s ||| bitS m, m, by omega, by go_num, rfl, by show _ = _; rw [HS.out, ← hs.out, hsee.out], by rw [HB.out, stepR, if_pos (by show bb < r.ballot; rw [HRB.out]; exact hgt), HRB.out, HRV.out]; exact heap_alloc_at (heap_set_at (heap_set_at (heap_set_at HBE.out 0 _) 1 _) 2 _) _, heap_alloc_at (heap_set_other (by omega) _ _ (heap_set_other (by omega) _ _ (heap_set_other (by omega) _ _ hres))) _, (((hb.setCell (by show w.heap.size ≤ w.heap.size + 1; omega) _).setCell (by show w.heap.size ≤ w.heap.size + 1; omega) _).setCell (by show w.heap.size ≤ w.heap.size + 1; omega) _).alloc (by simp; omega) _⟩
        case measure => simp [intOf]; omega
      · go_wp2_with fail
        go_roundw
        case rel => exact ⟨k + 1, s ||| bitS m, sv, by omega, by go_num, rfl, by show _ = _; rw [HS.out, ← hs.out, hsee.out], by rw [HB.out, stepR, if_neg (by show ¬ bb < r.ballot; rw [HRB.out]; exact hgt)]; exact heap_alloc_at HBE.out _, heap_alloc_at hres _, hb.alloc (by omega) _⟩
        case measure => simp [intOf]; omega
    · have hE : Hid (l.take k = l) := List.take_of_length_le (by have := HN.out; omega)
      rw [hE.out] at hbest
      have hs2 : Hid (s = seenR l) := by show _ = _; rw [hs.out, hE.out]
      obtain ⟨⟨bb, bv⟩, hbb⟩ : ∃ p, bestR l = p := ⟨_, rfl⟩
      rw [hbb] at hbest
      have HBB := Lib.hid hbb
      have hx := hbest
      obtain ⟨⟨hx0, hx1, hx2⟩, _⟩ := open3 hx
      have HRES := Lib.hid hres
      clear hs hbest hE hbb hres hx
      go_wp2_with fail
      go_region_held3 (fun w' => w'.cell? ⟨w.heap.size + 1, 0, none⟩ = some (.int .i64 sv) ∧ w'.cell? ⟨w.heap.size + 1, 1, none⟩ = some (.int .i64 bb) ∧ w'.cell? ⟨w.heap.size + 1, 2, none⟩ = some (.string bv)) (go_keep)
        ((go_at_call 48; refine (accepts_c read s a n c _ (HR.out.below (below_drew hb))).mono ?_; (rintro e w3 ⟨rfl, hb2⟩; have hb3 := below_undrew hb2; obtain ⟨q0, q1, q2⟩ := keep3 hb3 hx0 hx1 hx2; have hres3 := heap_below hb3 HRES.out; obtain ⟨⟨y0, y1, y2⟩, f0, f1, f2⟩ := open3 hres3; have hb4 := Below.next hb hb3; have HRES3 := Lib.hid hres3; clear hb2 hb3 hres3)))
      go_wp2_with fail
      have hz := heap_set_at (heap_set_at (heap_set_at HRES3.out 0 (.int .i64 sv)) 1 (.int .i64 bb)) 2 (.string bv)
      have hb5 := ((hb4.setCell (p := ⟨w.heap.size, 0, none⟩) (Nat.le_refl _) (.int .i64 sv)).setCell (p := ⟨w.heap.size, 1, none⟩) (Nat.le_refl _) (.int .i64 bb)).setCell (p := ⟨w.heap.size, 2, none⟩) (Nat.le_refl _) (.string bv)
      clear f0 f1 f2 y0 y1 y2 q0 q1 q2
      obtain ⟨w4, hw4⟩ : ∃ w4, (((w3.setCell ⟨w.heap.size, 0, none⟩ (.int .i64 sv)).setCell ⟨w.heap.size, 1, none⟩ (.int .i64 bb)).setCell ⟨w.heap.size, 2, none⟩ (.string bv)) = w4 := ⟨_, rfl⟩
      rw [hw4] at hz hb5 ⊢
      obtain ⟨⟨z0, z1, z2⟩, _⟩ := open3 (x := .int .i64 sv) (y := .int .i64 bb) (z := .string bv) hz
      exact bodyPost_ret (v := .tuple #[.agg #[.int .i64 sv, .int .i64 bb, .string bv], .bool (accS read s)]) (by simp [results, Tryd.results32, go_sem, z0, z1, z2]) rfl ⟨sv, by rw [HBB.out, hs2.out], hb5⟩
end Go.Proofs.YtgfjmplifmbmlaaDoor
