/- The reference's Same of events. -/
import Derived.Test.YtgfjmplifmbmlaaDoorAtk
import Derived.Laws.StructEq
namespace Go.Proofs.YtgfjmplifmbmlaaDoor
open Go.RowKit Go.Shelf

theorem ev_ne {p q : Ev} (h : p ≠ q) : (p.kind == q.kind) = false ∨ ((p.kind == q.kind) = true ∧ (p.server == q.server) = false) ∨ ((p.kind == q.kind) = true ∧ (p.server == q.server) = true ∧ (p.ballot == q.ballot) = false) ∨
    ((p.kind == q.kind) = true ∧ (p.server == q.server) = true ∧ (p.ballot == q.ballot) = true ∧ (p.value.toList == q.value.toList) = false) := by
  obtain ⟨a, b, c, d⟩ := p
  obtain ⟨a', b', c', d'⟩ := q
  simp only
  cases h1 : (a == a')
  · exact .inl rfl
  · cases h2 : (b == b')
    · exact .inr (.inl ⟨rfl, rfl⟩)
    · cases h3 : (c == c')
      · exact .inr (.inr (.inl ⟨rfl, rfl, rfl⟩))
      · refine .inr (.inr (.inr ⟨rfl, rfl, rfl, ?_⟩))
        have e1 := eq_of_beq h1; have e2 := eq_of_beq h2; have e3 := eq_of_beq h3
        subst e1 e2 e3
        rw [ByteArray.toList_eq, ByteArray.toList_eq]
        refine beq_eq_false_iff_ne.2 (fun e => h ?_)
        have : d = d' := ByteArray.ext (Array.toList_inj.1 e)
        rw [this]
theorem same_at {α : Type} [DecidableEq α] {l m : List α} {k : Nat} (hl : l.length = m.length) {x y : α} (hx : l[k]? = some x) (hy : m[k]? = some y) (h : l.take k = m.take k) :
    (x = y → l.take (k + 1) = m.take (k + 1)) ∧ (x ≠ y → l ≠ m) := by
  constructor
  · rintro rfl; rw [List.take_add_one, List.take_add_one, hx, hy, h]
  · rintro hne rfl; rw [hx] at hy; cases hy; exact hne rfl

set_option maxRecDepth 100000 in
set_option maxHeartbeats 2000000 in
theorem sameE_c (l m : List Ev) (a : Option Addr) (n c : Nat) (a2 : Option Addr) (n2 c2 : Nat) (w : World) (h : RdK 4 w a n c (l.flatMap evC)) (h2 : RdK 4 w a2 n2 c2 (m.flatMap evC)) :
    Calls Tryd.prog 21 #[.slice a n c, .slice a2 n2 c2] w fun e w' => e = .returned (.bool (decide (l = m))) ∧ Below w.heap.size w w' := by
  have hnl : l.length = n := by have := h.len; rw [flat_len 4 evC evC_len] at this; omega
  have hnl2 : m.length = n2 := by have := h2.len; rw [flat_len 4 evC evC_len] at this; omega
  have hm := h.max
  have hle := h.le
  have hm2 := h2.max
  have hle2 := h2.le
  unfold maxLen at hm hm2
  have HR := Lib.hid h
  have HN := Lib.hid hnl
  have HR2 := Lib.hid h2
  have HN2 := Lib.hid hnl2
  clear h hnl h2 hnl2
  by_cases hnn : n = n2
  · subst hnn
    go_enter Tryd.func21, Tryd.ntmps21
    go_wp2_with fail
    go_loopw [5] (fun i wr => ∃ k : Nat, k ≤ n ∧ i = .int .i64 k ∧ Hid (l.take k = m.take k) ∧ Below w.heap.size w wr) (fun i _ => n - (intOf i).toNat)
    case atStart => exact ⟨0, Nat.zero_le _, rfl, rfl, Below.refl _ _⟩
    case round =>
      obtain ⟨k, hk, rfl, ht, hb⟩ := hrel
      by_cases hlt : k < n
      · obtain ⟨p, hp⟩ : ∃ r, l[k]? = some r := ⟨l[k]'(by have := HN.out; omega), List.getElem?_eq_getElem _⟩
        obtain ⟨q, hq⟩ : ∃ r, m[k]? = some r := ⟨m[k]'(by have := HN2.out; omega), List.getElem?_eq_getElem _⟩
        obtain ⟨b, o, ha, hcell⟩ := RdK.cells (HR.out.below hb) evC_len (by omega)
        have c0 : wr.cell? ⟨b, o + k * 4, none⟩ = some (.int .i64 p.kind) := hcell k p hp 0 (by omega)
        have c1 : wr.cell? ⟨b, o + k * 4 + 1, none⟩ = some (.int .i64 p.server) := hcell k p hp 1 (by omega)
        have c2 : wr.cell? ⟨b, o + k * 4 + 2, none⟩ = some (.int .i64 p.ballot) := hcell k p hp 2 (by omega)
        have c3 : wr.cell? ⟨b, o + k * 4 + 3, none⟩ = some (.string p.value) := hcell k p hp 3 (by omega)
        obtain ⟨b2, o2, ha2, hcell2⟩ := RdK.cells (HR2.out.below hb) evC_len (by omega)
        have d0 : wr.cell? ⟨b2, o2 + k * 4, none⟩ = some (.int .i64 q.kind) := hcell2 k q hq 0 (by omega)
        have d1 : wr.cell? ⟨b2, o2 + k * 4 + 1, none⟩ = some (.int .i64 q.server) := hcell2 k q hq 1 (by omega)
        have d2 : wr.cell? ⟨b2, o2 + k * 4 + 2, none⟩ = some (.int .i64 q.ballot) := hcell2 k q hq 2 (by omega)
        have d3 : wr.cell? ⟨b2, o2 + k * 4 + 3, none⟩ = some (.string q.value) := hcell2 k q hq 3 (by omega)
        obtain ⟨s1, s2⟩ := same_at (by rw [HN.out, HN2.out]) hp hq ht.out
        have S1 := Lib.hid s1
        have S2 := Lib.hid s2
        subst ha ha2
        clear hcell hcell2 hp hq s1 s2
        by_cases he : p = q
        · subst he
          have ht2 : Hid (l.take (k + 1) = m.take (k + 1)) := S1.out rfl
          obtain ⟨pk, ps, pb, pv⟩ := p
          simp only at c0 c1 c2 c3 d0 d1 d2 d3
          clear S1 S2 ht
          go_wp2_with fail
          go_quiet (fail)
          go_wp2_with fail
          go_roundw
          case rel => exact ⟨k + 1, by omega, by go_num, ht2, below_drewN hb⟩
          case measure => simp [intOf]; omega
        · have hE : Hid (decide (l = m) = false) := decide_eq_false (S2.out he)
          have hne := ev_ne he
          obtain ⟨pk, ps, pb, pv⟩ := p
          obtain ⟨qk, qs, qb, qv⟩ := q
          simp only at c0 c1 c2 c3 d0 d1 d2 d3 hne
          clear S1 S2 he ht
          rcases hne with h1 | ⟨h1, h2⟩ | ⟨h1, h2, h3⟩ | ⟨h1, h2, h3, h4⟩
          all_goals
            go_wp2_with fail
            go_quiet (fail)
            go_wp2_with fail
            go_ret
            exact ⟨ret_bool hE.out.symm, below_drewN hb⟩
      · have hE : Hid (decide (l = m) = true) := by
          show _ = _
          rw [decide_eq_true_iff]
          have := ht.out
          rw [List.take_of_length_le (by have := HN.out; omega), List.take_of_length_le (by have := HN2.out; omega)] at this
          exact this
        clear ht
        go_wp2_with fail
        go_ret
        exact ⟨ret_bool hE.out.symm, hb⟩
  · have hE : Hid (decide (l = m) = false) := by
      show _ = _
      rw [decide_eq_false_iff_not]
      rintro rfl
      exact hnn (by rw [← HN.out, HN2.out])
    have hne : ((n : Int) != (n2 : Int)) = true := by rw [bne_iff_ne]; omega
    clear hnn
    go_enter Tryd.func21, Tryd.ntmps21
    go_wp2_with fail
    go_ret
    exact ⟨ret_bool hE.out.symm, Below.refl _ _⟩
end Go.Proofs.YtgfjmplifmbmlaaDoor
