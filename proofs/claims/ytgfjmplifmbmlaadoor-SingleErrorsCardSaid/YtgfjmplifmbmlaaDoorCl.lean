/- slices.Clone of sets. -/
import Derived.Test.YtgfjmplifmbmlaaDoorFam2
import Derived.Lib.SliceRun
import Derived.Deep.OwnRows
namespace Go.Proofs.YtgfjmplifmbmlaaDoor
open Go.RowKit Go.Shelf

theorem Tryd.infoSet2 : (Tryd.prog.info? 30).map (fun i => (i.zero, i.size, i.bytes)) = some (some (.int .u16 0), 1, 2) := by kernel_rfl
set_option maxRecDepth 100000 in
set_option maxHeartbeats 1000000 in
theorem clones_c (l : List (BitVec 16)) (a : Option Addr) (n c : Nat) (w : World) (h : Rd w a n c (l.map setV2)) (hb : n ≤ 1000000) :
    Calls Tryd.prog 12 #[.slice a n c] w fun e w' => ∃ a' c', e = .returned (.slice a' n c') ∧ Rd w' a' n c' (l.map setV2) ∧ Below w.heap.size w w' := by
  have hlen : (l.map setV2).length = n := h.len.symm
  cases a with
  | none =>
    have hc := h.nil rfl
    have hn : n = 0 := by have := h.le; omega
    subst hc hn
    have hl : l = [] := by simpa using hlen
    subst hl
    clear h hlen hb
    have q : ∀ (w : World) (a : Option Addr) (n c n' c' : Nat), (binOp .eql 22 (.slice a n c) (.slice none n' c')).run Tryd.prog w = .ok (.bool a.isNone) w := fun w a n c n' c' => Lib.run_eql_slice_nil w _ _ a n c n' c' Tryd.underlying22
    go_enter Tryd.func12, Tryd.ntmps12
    go_wp2
    go_ret
    exact ⟨_, _, rfl, Rd.none_ _, Below.refl _ _⟩
  | some ad =>
    have hh := Lib.hid h
    have hl2 := Lib.hid hlen
    clear h hlen
    have q : ∀ (w : World) (a : Option Addr) (n c n' c' : Nat), (binOp .eql 22 (.slice a n c) (.slice none n' c')).run Tryd.prog w = .ok (.bool a.isNone) w := fun w a n c n' c' => Lib.run_eql_slice_nil w _ _ a n c n' c' Tryd.underlying22
    go_enter Tryd.func12, Tryd.ntmps12
    go_wp2_with (at_builtin; go_must (refine wpList_apps _ _ 22 2 (.int .u16 0) _ _ _ (l.map setV2) Tryd.underlying22 Tryd.infoSet2 rfl (World.ownsRow_made w #[] 0 (Nat.le_refl _) (Nat.zero_le _) rfl) ((Below.refl _ w).alloc (Nat.le_refl _) _) (Nat.le_refl _) (hh.out.below ((Below.refl _ w).alloc (Nat.le_refl _) _)) (by intro u hu; obtain ⟨_, _, rfl⟩ := List.mem_map.1 hu; rfl) rfl rfl rfl rfl (by unfold maxLen; simp; omega) (by simp; omega) ?_))
    intro v' w1 hown1 hb1 _
    have hown2 : w1.ownsRow w.heap.size 30 1 v' n (l.map setV2) := by simpa using hown1
    obtain ⟨a', c', rfl, hr⟩ := rd_of_row hown2
    have HRR := Lib.hid hr
    clear hb hown1 hown2 hr
    go_wp2
    go_ret
    exact ⟨_, _, rfl, HRR.out, hb1⟩
end Go.Proofs.YtgfjmplifmbmlaaDoor
