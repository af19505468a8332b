/- Texts laid together. The reference's reader: node (printed by rdr.py). The reference's reader: node, whole (printed by rdr2.py). The reference's Parse. The reference's Same. A handed slice of integers, as a law's frame opens it. Layer 20: the law Parse, walked. -/
import Derived.Test.YtflpkkebampmfaaDoorGIntersectParse1
import Derived.Test.YtflpkkebampmfaaDoorGIntersectParse8
import Derived.Test.YtflpkkebampmfaaDoorGIntersectParse9
import Derived.Laws.BytesString
namespace Go.Proofs.YtflpkkebampmfaaDoor
open Go.RowKit Go.Shelf

/-- what a call of node leaves -/
def Rdd (f : Nat) (T : Byts) (i : Nat) (ns : List Cho) (bad : Bool) (B : Nat) (v : Value) (W : World) (e : Ending) (w' : World) : Prop :=
  ∃ i' v' ns' bad' z, KeepP B v v' W w' ∧ RN w' B T i' v' ns' bad' ∧ (i ≤ i' ∧ i' ≤ T.length) ∧ ns'.length + (T.length - i') ≤ ns.length + (T.length - i) ∧ e = .returned (.int .i64 z) ∧ (bad = true → bad' = true) ∧
    (bad = false → (bad' = false → pnode f (T.drop i) ns = some (T.drop i', ns') ∧ z = ((ns'.length - 1 : Nat) : Int)) ∧ (bad' = true → pnode f (T.drop i) ns = none))

/-- the digits of a server, with a bracket -/
def nbr (n : Nat) : Byts := Lib.decDigits n ++ [40]
/-- the search for a number, from above, down to k -/
def Srch (T : Byts) (i : Nat) (k : Int) (sv : Int) (i' : Nat) : Prop :=
  (sv = -3 ∧ i' = i ∧ -1 ≤ k ∧ k ≤ 11 ∧ ∀ n : Nat, k < n → n < 12 → stripP (nbr n) (T.drop i) = none) ∨ (∃ n : Nat, n < 12 ∧ sv = n ∧ k = (n : Int) - 1 ∧ numP (T.drop i) = some (n, T.drop i') ∧ i ≤ i' ∧ i' ≤ T.length)

theorem conv_one (c : Nat) (w : World) : (convert 83 9 (.slice (some ⟨w.heap.size, 0, none⟩) 1 1)).run Tryd.prog (w.alloc (.cells #[.int .u8 c] 5)) = .ok (.string ⟨#[UInt8.ofNat c]⟩) (w.alloc (.cells #[.int .u8 c] 5)) := by
  rw [run_convert_bytes_string _ _ _ _ _ _ _ Tryd.underlying83 Tryd.underlying5 Tryd.underlying9]
  rw [run_bytesToString _ _ _ _ [(c : Int)] (by
    have := run_loadCells_list (P := Tryd.prog) (w := w.alloc (.cells #[.int .u8 c] 5)) ⟨w.heap.size, 0, none⟩ [.int .u8 c] (fun j v hj => by
      match j, hj with
      | 0, hj => cases hj; rw [Addr.add_lit]; exact cell_of_row _ _ 0 _ _ _ (heap_alloc_new w _))
    exact this)]
  rfl


theorem nb_lt : ∀ n : Fin 12, n.val < 10 → mkB (nbr n.val) = (⟨#[UInt8.ofNat (48 + n.val % 10)]⟩ : ByteArray) ++ (⟨#[40]⟩ : ByteArray) := by decide +kernel
theorem nb_ge : ∀ n : Fin 12, 10 ≤ n.val → mkB (nbr n.val) = ((⟨#[49]⟩ : ByteArray) ++ (⟨#[UInt8.ofNat (48 + n.val % 10)]⟩ : ByteArray)) ++ (⟨#[40]⟩ : ByteArray) := by decide +kernel
theorem nbr_len : ∀ n : Fin 12, (nbr n.val).length ≤ 3 := by decide +kernel
theorem num_none_all {s : Byts} (h : ∀ n : Nat, n < 12 → stripP (nbr n) s = none) : numP s = none := by
  cases hq : numP s with
  | none => rfl
  | some p =>
    obtain ⟨n, r⟩ := p
    obtain ⟨hn, e⟩ := numP_some hq
    have := h n hn
    rw [e] at this
    unfold nbr at this
    rw [strip_app] at this; cases this
theorem num_strip {s r : Byts} {n : Nat} (hn : n < 12) (h : stripP (nbr n) s = some r) : numP s = some (n, r) := by
  rw [strip_some h]; exact numP_app hn r
theorem KeepP.appj {B : Nat} {w2 wA : World} {ob : Obj} {av : Option Addr} {n cv gg n' cap j : Nat} {xs : List Value} (hB : B < w2.heap.size) (hg : (w2.alloc ob).drew.grownBy wA (Value.slice av n cv).ownBlock) (hown : w2.ownsRow (B + 1) 39 3 (.slice av n cv) n xs) (hat : (Value.slice av n cv).ownBlock = some gg ∨ gg = w2.heap.size + 1) (u : Value) :
    KeepP B (.slice av n cv) (.slice (some ⟨gg, 0, none⟩) n' cap) w2 (wA.setCell ⟨B, j, none⟩ u) := by
  have h := KeepP.app (n' := n') (cap := cap) hB hg hown hat (Value.int .i64 0)
  refine ⟨?_, fun k hk hkB hv => ?_, h.own⟩
  · have hb2 := (below_drew ((Below.refl B w2).alloc (Nat.le_of_lt hB) ob)).grown hg (by show B ≤ (w2.alloc ob).heap.size; simp; omega) (fun k hk => by have := (hown.lt k hk).1; omega)
    exact hb2.setCell (p := ⟨B, j, none⟩) (Nat.le_refl _) _
  · have := h.blk k hk hkB hv
    rw [Below.heap_setCell _ _ _ _ hkB] at this ⊢
    exact this
/-- an append in the text's order: what lies elsewhere is kept -/
theorem KeepP.grow {B : Nat} {w2 wA : World} {v v' : Value} {n j : Nat} {xs : List Value} (hB : B < w2.heap.size) (hg : w2.grownBy wA v.ownBlock) (hown : w2.ownsRow (B + 1) 39 3 v n xs) (hv : ∀ g, v'.ownBlock = some g → v.ownBlock = some g ∨ w2.heap.size ≤ g) (u : Value) :
    KeepP B v v' w2 (wA.setCell ⟨B, j, none⟩ u) := by
  refine ⟨?_, fun k hk hkB hvk => ?_, hv⟩
  · exact ((Below.refl B w2).grown hg (Nat.le_of_lt hB) (fun k hk => by have := (hown.lt k hk).1; omega)).setCell (p := ⟨B, j, none⟩) (Nat.le_refl _) _
  · rw [Below.heap_setCell _ _ _ _ hkB]
    exact hg.block k hk (fun e => hvk e.symm)

theorem rd_join {f : Nat} {T : Byts} {i n i0 i1 i2 i3 i4 : Nat} {ns ns1 ns3 : List Cho} {bad1 bad2 bad3 bad4 : Bool} {z1 z2 : Int} (hx : stripP [120] (T.drop i) = none) (hy : stripP [121] (T.drop i) = none) (hq : numP (T.drop i) = some (n, T.drop i0))
    (h1 : (bad1 = false → pnode f (T.drop i0) ns = some (T.drop i1, ns1) ∧ z1 = ((ns1.length - 1 : Nat) : Int)) ∧ (bad1 = true → pnode f (T.drop i0) ns = none)) (hi1 : i1 ≤ T.length)
    (ht : i2 = tkAt [44, 32] T i1) (hb2 : bad2 = (bad1 || !(stripP [44, 32] (T.drop i1)).isSome)) (h3 : bad2 = true → bad3 = true)
    (h3' : bad2 = false → (bad3 = false → pnode f (T.drop i2) ns1 = some (T.drop i3, ns3) ∧ z2 = ((ns3.length - 1 : Nat) : Int)) ∧ (bad3 = true → pnode f (T.drop i2) ns1 = none)) (hi3 : i3 ≤ T.length)
    (ht4 : i4 = tkAt [41] T i3) (hb4 : bad4 = (bad3 || !(stripP [41] (T.drop i3)).isSome)) :
    (bad4 = false → pnode (f + 1) (T.drop i) ns = some (T.drop i4, ns3 ++ [⟨n, z1, z2⟩])) ∧ (bad4 = true → pnode (f + 1) (T.drop i) ns = none) := by
  cases bad1 with
  | true =>
    have hn := pn_1 hx hy hq (h1.2 rfl)
    have e2 : bad2 = true := by rw [hb2]; rfl
    have e4 : bad4 = true := by rw [hb4, h3 e2]; rfl
    rw [e4]; exact ⟨fun h => (by cases h), fun _ => hn⟩
  | false =>
    obtain ⟨g1, rfl⟩ := h1.1 rfl
    cases h2 : stripP [44, 32] (T.drop i1) with
    | none =>
      have hn := pn_2 hx hy hq g1 h2
      have e2 : bad2 = true := by rw [hb2, h2]; rfl
      have e4 : bad4 = true := by rw [hb4, h3 e2]; rfl
      rw [e4]; exact ⟨fun h => (by cases h), fun _ => hn⟩
    | some r3 =>
      obtain ⟨k1, k2, rfl⟩ := tk_some hi1 h2
      have e2 : bad2 = false := by rw [hb2, h2]; rfl
      rw [← k1, ← ht] at h2
      have h3' := h3' e2
      cases bad3 with
      | true =>
        have hn := pn_3 hx hy hq g1 h2 (h3'.2 rfl)
        have e4 : bad4 = true := by rw [hb4]; rfl
        rw [e4]; exact ⟨fun h => (by cases h), fun _ => hn⟩
      | false =>
        obtain ⟨g3, rfl⟩ := h3'.1 rfl
        cases h4 : stripP [41] (T.drop i3) with
        | none =>
          have hn := pn_4 hx hy hq g1 h2 g3 h4
          have e4 : bad4 = true := by rw [hb4, h4]; rfl
          rw [e4]; exact ⟨fun h => (by cases h), fun _ => hn⟩
        | some r5 =>
          obtain ⟨j1, j2, rfl⟩ := tk_some hi3 h4
          have hn := pn_5 hx hy hq g1 h2 g3 h4
          have e4 : bad4 = false := by rw [hb4, h4]; rfl
          rw [e4, ht4, j1]; exact ⟨fun _ => hn, fun h => (by cases h)⟩

set_option maxRecDepth 100000 in
set_option maxHeartbeats 4000000 in
theorem rd_x (f : Nat) (T : Byts) (hT : T.length ≤ 1000) (i : Nat) (hi : i ≤ T.length) (r : Byts) (B : Nat) (v : Value) (ns : List Cho) (W : World) (h : RN W B T i v ns false) (hx : stripP [120] (T.drop i) = some r) (hl : ns.length ≤ 8000) :
    Calls Tryd.prog 41 #[.pointer (some ⟨B, 0, none⟩)] W fun e w' => Rdd (f + 1) T i ns false B v W e w' := by
  have heq : pnode (f + 1) (T.drop i) ns = some (r, ns ++ [⟨-1, 0, 0⟩]) := pn_x hx
  obtain ⟨k1, k2, hr⟩ := tk_some hi hx
  have hk2 : i + 1 ≤ T.length := k2
  have HEQ : Hid (pnode (f + 1) (T.drop i) ns = some (T.drop (i + 1), ns ++ [⟨-1, 0, 0⟩])) := Lib.hid (by rw [heq, hr]; rfl)
  obtain ⟨av, cv, rfl, _⟩ := rdK_of_row h.row
  have q2 := cell_of_row _ _ 2 _ _ _ h.blk
  have q3 := cell_of_row _ _ 3 _ _ _ h.blk
  have H := Lib.hid h
  have HTX : Hid (∀ u : World, RN u B T i (.slice av ns.length cv) ns false → Calls Tryd.prog 65 #[.pointer (some ⟨B, 0, none⟩), .string ⟨#[120]⟩] u fun e w' => e = .returned (.bool true) ∧ RN w' B T (i + 1) (.slice av ns.length cv) ns false ∧ KeepP B (.slice av ns.length cv) (.slice av ns.length cv) u w') := Lib.hid (fun u hu => by
    have := rtake_p [120] T hT (by decide) i hi B _ ns false u hu
    rw [k1, hx] at this
    exact this)
  have d1 : decide ((8191 : Int) ≤ (ns.length : Int)) = false := decide_eq_false (by omega)
  clear heq k1 k2 hr h hx
  go_enter Tryd.func41, Tryd.ntmps41
  go_wp2_with fail
  with_reducible refine (HTX.out W H.out).mono ?_
  rintro e w2 ⟨rfl, hr2, hkk2⟩
  have HR := Lib.hid hr2
  have HK := Lib.hid hkk2
  clear hr2 hkk2 q2 q3
  have q2 := cell_of_row _ _ 2 _ _ _ HR.out.blk
  have hlt := HR.out.lt
  have hown := HR.out.row
  go_wp2_with (at_builtin; go_must (refine wpList_appK2 3 _ _ 31 24 (.agg #[.int .i64 0, .int .i64 0, .int .i64 0]) (choC ⟨-1, 0, 0⟩) _ Tryd.underlying31 Tryd.infoCho rfl (by decide) hown (Below.refl (B + 1) w2) hlt rfl rfl rfl rfl rfl (by intro u hu; unfold choC at hu; simp at hu; rcases hu with rfl | rfl <;> rfl) (by unfold maxLen; omega) (by omega) ?_))
  intro v' w4 hown4 hb4 hg4 hs4 hv4
  obtain ⟨a4, c4, rfl, _⟩ := rdK_of_row hown4
  have hB4 : w4.heap[B]? = some (.cells #[.string (mkB T), .int .i64 ((i + 1 : Nat) : Int), .slice av ns.length cv, .bool false] 81 (0, 0)) := by
    rw [hg4.block B hlt (fun e => by have := (HR.out.row.lt B e.symm).1; omega)]
    exact HR.out.blk
  have p2 := cell_of_row _ _ 2 _ _ _ hB4
  have z2 := frozen_row hB4 2
  have HO4 := Lib.hid hown4
  have HG4 := Lib.hid hg4
  have HV4 := Lib.hid hv4
  have HB4 := Lib.hid hB4
  clear hown hown4 hb4 hg4 hs4 hv4 hB4 q2
  go_wp2_with fail
  go_ret
  refine ⟨i + 1, .slice a4 (ns.length + 1) c4, ns ++ [⟨-1, 0, 0⟩], false, _, HK.out.trans (KeepP.grow (n := ns.length) hlt HG4.out HR.out.row HV4.out _), ⟨?_, ?_⟩, ⟨by omega, hk2⟩, by simp; omega, rfl, fun h => (by cases h), fun _ => ⟨fun _ => ⟨HEQ.out, by simp⟩, fun h => (by cases h)⟩⟩
  · rw [heap_set_at HB4.out]; rfl
  · have hrow := HO4.out
    rw [show (ns ++ [(⟨-1, 0, 0⟩ : Cho)]).length = ns.length + 1 by simp, show (ns ++ [(⟨-1, 0, 0⟩ : Cho)]).flatMap choC = ns.flatMap choC ++ choC ⟨-1, 0, 0⟩ by rw [List.flatMap_append]; rfl]
    exact rowK_at hrow fun g hg => Below.heap_setCell _ _ _ _ (by have := (hrow.lt g hg).1; show g ≠ B; omega)

set_option maxRecDepth 100000 in
set_option maxHeartbeats 4000000 in
theorem rd_y (f : Nat) (T : Byts) (hT : T.length ≤ 1000) (i : Nat) (hi : i ≤ T.length) (r : Byts) (B : Nat) (v : Value) (ns : List Cho) (W : World) (h : RN W B T i v ns false) (h0 : stripP [120] (T.drop i) = none) (hx : stripP [121] (T.drop i) = some r) (hl : ns.length ≤ 8000) :
    Calls Tryd.prog 41 #[.pointer (some ⟨B, 0, none⟩)] W fun e w' => Rdd (f + 1) T i ns false B v W e w' := by
  have heq : pnode (f + 1) (T.drop i) ns = some (r, ns ++ [⟨-2, 0, 0⟩]) := pn_y h0 hx
  obtain ⟨k1, k2, hr⟩ := tk_some hi hx
  have hk2 : i + 1 ≤ T.length := k2
  have HEQ : Hid (pnode (f + 1) (T.drop i) ns = some (T.drop (i + 1), ns ++ [⟨-2, 0, 0⟩])) := Lib.hid (by rw [heq, hr]; rfl)
  obtain ⟨av, cv, rfl, _⟩ := rdK_of_row h.row
  have q2 := cell_of_row _ _ 2 _ _ _ h.blk
  have q3 := cell_of_row _ _ 3 _ _ _ h.blk
  have H := Lib.hid h
  have HTX : Hid (∀ u : World, RN u B T i (.slice av ns.length cv) ns false → Calls Tryd.prog 65 #[.pointer (some ⟨B, 0, none⟩), .string ⟨#[120]⟩] u fun e w' => e = .returned (.bool false) ∧ RN w' B T i (.slice av ns.length cv) ns false ∧ KeepP B (.slice av ns.length cv) (.slice av ns.length cv) u w') := Lib.hid (fun u hu => by
    have := rtake_p [120] T hT (by decide) i hi B _ ns false u hu
    rw [tk_none h0, h0] at this
    exact this)
  have HTY : Hid (∀ u : World, RN u B T i (.slice av ns.length cv) ns false → Calls Tryd.prog 65 #[.pointer (some ⟨B, 0, none⟩), .string ⟨#[121]⟩] u fun e w' => e = .returned (.bool true) ∧ RN w' B T (i + 1) (.slice av ns.length cv) ns false ∧ KeepP B (.slice av ns.length cv) (.slice av ns.length cv) u w') := Lib.hid (fun u hu => by
    have := rtake_p [121] T hT (by decide) i hi B _ ns false u hu
    rw [k1, hx] at this
    exact this)
  have d1 : decide ((8191 : Int) ≤ (ns.length : Int)) = false := decide_eq_false (by omega)
  clear heq k1 k2 hr h hx h0
  go_enter Tryd.func41, Tryd.ntmps41
  go_wp2_with fail
  with_reducible refine (HTX.out W H.out).mono ?_
  rintro e w2 ⟨rfl, hr2, hkk2⟩
  have HRa := Lib.hid hr2
  have HKa := Lib.hid hkk2
  clear hr2 hkk2 q2 q3
  go_wp2_with fail
  with_reducible refine (HTY.out w2 HRa.out).mono ?_
  rintro e w3 ⟨rfl, hr3, hk3⟩
  have HR := Lib.hid hr3
  have HK := Lib.hid (HKa.out.trans hk3)
  clear hr3 hk3
  have q2 := cell_of_row _ _ 2 _ _ _ HR.out.blk
  have hlt := HR.out.lt
  have hown := HR.out.row
  go_wp2_with (at_builtin; go_must (refine wpList_appK2 3 _ _ 31 24 (.agg #[.int .i64 0, .int .i64 0, .int .i64 0]) (choC ⟨-2, 0, 0⟩) _ Tryd.underlying31 Tryd.infoCho rfl (by decide) hown (Below.refl (B + 1) w3) hlt rfl rfl rfl rfl rfl (by intro u hu; unfold choC at hu; simp at hu; rcases hu with rfl | rfl <;> rfl) (by unfold maxLen; omega) (by omega) ?_))
  intro v' w4 hown4 hb4 hg4 hs4 hv4
  obtain ⟨a4, c4, rfl, _⟩ := rdK_of_row hown4
  have hB4 : w4.heap[B]? = some (.cells #[.string (mkB T), .int .i64 ((i + 1 : Nat) : Int), .slice av ns.length cv, .bool false] 81 (0, 0)) := by
    rw [hg4.block B hlt (fun e => by have := (HR.out.row.lt B e.symm).1; omega)]
    exact HR.out.blk
  have p2 := cell_of_row _ _ 2 _ _ _ hB4
  have z2 := frozen_row hB4 2
  have HO4 := Lib.hid hown4
  have HG4 := Lib.hid hg4
  have HV4 := Lib.hid hv4
  have HB4 := Lib.hid hB4
  clear hown hown4 hb4 hg4 hs4 hv4 hB4 q2
  go_wp2_with fail
  go_ret
  refine ⟨i + 1, .slice a4 (ns.length + 1) c4, ns ++ [⟨-2, 0, 0⟩], false, _, HK.out.trans (KeepP.grow (n := ns.length) hlt HG4.out HR.out.row HV4.out _), ⟨?_, ?_⟩, ⟨by omega, hk2⟩, by simp; omega, rfl, fun h => (by cases h), fun _ => ⟨fun _ => ⟨HEQ.out, by simp⟩, fun h => (by cases h)⟩⟩
  · rw [heap_set_at HB4.out]; rfl
  · have hrow := HO4.out
    rw [show (ns ++ [(⟨-2, 0, 0⟩ : Cho)]).length = ns.length + 1 by simp, show (ns ++ [(⟨-2, 0, 0⟩ : Cho)]).flatMap choC = ns.flatMap choC ++ choC ⟨-2, 0, 0⟩ by rw [List.flatMap_append]; rfl]
    exact rowK_at hrow fun g hg => Below.heap_setCell _ _ _ _ (by have := (hrow.lt g hg).1; show g ≠ B; omega)
end Go.Proofs.YtflpkkebampmfaaDoor
namespace Go.Proofs.YtflpkkebampmfaaDoor
open Go.RowKit Go.Shelf

/-- a store into a newer block of the call's own -/
theorem KeepP.setc {B C : Nat} {v v' : Value} {w w' : World} (h : KeepP B v v' w w') {i : Nat} {u : Value} (hBC : B < C) (hC : w.heap.size ≤ C) : KeepP B v v' w (w'.setCell ⟨C, i, none⟩ u) :=
  ⟨h.bel.setCell (p := ⟨C, i, none⟩) (Nat.le_of_lt hBC) _, fun k hk hkB hv => by rw [Below.heap_setCell _ _ _ _ (by show k ≠ C; omega)]; exact h.blk k hk hkB hv, h.own⟩

set_option maxRecDepth 100000 in
set_option maxHeartbeats 16000000 in
theorem rnode20_p (T : Byts) (hT : T.length ≤ 1000) (B : Nat) :
    ∀ (f i : Nat) (ns : List Cho) (bad : Bool) (v : Value) (W0 : World), T.length - i < f → i ≤ T.length → ns.length + (T.length - i) ≤ 8000 → RN W0 B T i v ns bad →
    Calls Tryd.prog 41 #[.pointer (some ⟨B, 0, none⟩)] W0 fun e w' => Rdd f T i ns bad B v W0 e w' := by
  intro f
  induction f with
  | zero => intro i ns bad v W0 h; omega
  | succ f ih =>
    intro i ns bad v W0 hf hi hsz h
    have hl : ns.length ≤ 8000 := by omega
    have d1 : decide ((8191 : Int) ≤ (ns.length : Int)) = false := decide_eq_false (by omega)
    cases bad with
    | true =>
      obtain ⟨av, cv, rfl, _⟩ := rdK_of_row h.row
      have q2 := cell_of_row _ _ 2 _ _ _ h.blk
      have q3 := cell_of_row _ _ 3 _ _ _ h.blk
      have H := Lib.hid h
      clear h ih
      go_enter Tryd.func41, Tryd.ntmps41
      go_wp2_with fail
      go_ret
      exact ⟨i, _, ns, true, 0, KeepP.refl _ _ _, H.out, ⟨Nat.le_refl _, hi⟩, Nat.le_refl _, rfl, fun _ => rfl, fun h => (by cases h)⟩
    | false =>
    cases h0 : stripP [120] (T.drop i) with
    | some r => exact rd_x f T hT i hi r B v ns W0 h h0 hl
    | none =>
    cases h1 : stripP [121] (T.drop i) with
    | some r => exact rd_y f T hT i hi r B v ns W0 h h0 h1 hl
    | none =>
    have HIH := Lib.hid ih
    have HX := Lib.hid h0
    have HY := Lib.hid h1
    obtain ⟨av, cv, rfl, _⟩ := rdK_of_row h.row
    have q2 := cell_of_row _ _ 2 _ _ _ h.blk
    have q3 := cell_of_row _ _ 3 _ _ _ h.blk
    have H := Lib.hid h
    have HTX : Hid (∀ u : World, RN u B T i (.slice av ns.length cv) ns false → Calls Tryd.prog 65 #[.pointer (some ⟨B, 0, none⟩), .string ⟨#[120]⟩] u fun e w' => e = .returned (.bool false) ∧ RN w' B T i (.slice av ns.length cv) ns false ∧ KeepP B (.slice av ns.length cv) (.slice av ns.length cv) u w') := Lib.hid (fun u hu => by
      have := rtake_p [120] T hT (by decide) i hi B _ ns false u hu
      rw [tk_none h0, h0] at this
      exact this)
    have HTY : Hid (∀ u : World, RN u B T i (.slice av ns.length cv) ns false → Calls Tryd.prog 65 #[.pointer (some ⟨B, 0, none⟩), .string ⟨#[121]⟩] u fun e w' => e = .returned (.bool false) ∧ RN w' B T i (.slice av ns.length cv) ns false ∧ KeepP B (.slice av ns.length cv) (.slice av ns.length cv) u w') := Lib.hid (fun u hu => by
      have := rtake_p [121] T hT (by decide) i hi B _ ns false u hu
      rw [tk_none h1, h1] at this
      exact this)
    have HTC : Hid (∀ (j : Nat) (u : World) (v : Value) (ms : List Cho) (b : Bool), j ≤ T.length → RN u B T j v ms b → Calls Tryd.prog 65 #[.pointer (some ⟨B, 0, none⟩), .string ⟨#[44, 32]⟩] u fun e w' => e = .returned (.bool (stripP [44, 32] (T.drop j)).isSome) ∧ RN w' B T (tkAt [44, 32] T j) v ms b ∧ KeepP B v v u w') := Lib.hid (fun j u v ms b hj hu => rtake_p [44, 32] T hT (by decide) j hj B v ms b u hu)
    have HTE : Hid (∀ (j : Nat) (u : World) (v : Value) (ms : List Cho) (b : Bool), j ≤ T.length → RN u B T j v ms b → Calls Tryd.prog 65 #[.pointer (some ⟨B, 0, none⟩), .string ⟨#[41]⟩] u fun e w' => e = .returned (.bool (stripP [41] (T.drop j)).isSome) ∧ RN w' B T (tkAt [41] T j) v ms b ∧ KeepP B v v u w') := Lib.hid (fun j u v ms b hj hu => rtake_p [41] T hT (by decide) j hj B v ms b u hu)
    have HTN : Hid (∀ (n : Nat) (u : World), n < 12 → RN u B T i (.slice av ns.length cv) ns false → Calls Tryd.prog 65 #[.pointer (some ⟨B, 0, none⟩), .string (mkB (nbr n))] u fun e w' => e = .returned (.bool (stripP (nbr n) (T.drop i)).isSome) ∧ RN w' B T (tkAt (nbr n) T i) (.slice av ns.length cv) ns false ∧ KeepP B (.slice av ns.length cv) (.slice av ns.length cv) u w') := Lib.hid (fun n u hn hu => rtake_p (nbr n) T hT (by have := nbr_len ⟨n, hn⟩; simp only at this; omega) i hi B _ ns false u hu)
    obtain ⟨j0, hi0, hz0, hz1, hz2⟩ := info_parts Tryd.infoCho
    have HSIZE : Hid (T.length - i < f + 1 ∧ ns.length + (T.length - i) ≤ 8000) := Lib.hid ⟨hf, hsz⟩
    clear h ih h0 h1
    go_enter Tryd.func41, Tryd.ntmps41
    go_wp2_with fail
    with_reducible refine (HTX.out W0 H.out).mono ?_
    rintro e w2 ⟨rfl, hr2, hk2⟩
    have HR2 := Lib.hid hr2
    have HK2 := Lib.hid hk2
    clear hr2 hk2 q2 q3
    go_wp2_with fail
    with_reducible refine (HTY.out w2 HR2.out).mono ?_
    rintro e W ⟨rfl, hr3, hk3⟩
    have HR3 := Lib.hid hr3
    have HK3 := Lib.hid (HK2.out.trans hk3)
    have HRX : Hid (W0.heap.size ≤ W.heap.size) := Lib.hid HK3.out.bel.size
    clear hr3 hk3 HTX HTY
    go_wp2_with fail
    generalize hW4 : W.alloc _ = W4
    have hc4 : W4.heap[W.heap.size]? = some (.cells #[.int .i64 (-3), .int .i64 0, .int .i64 0] 39 (0, 0)) := by rw [← hW4]; exact heap_alloc_new _ _
    have hb4 : Below W.heap.size W W4 := by rw [← hW4]; exact (Below.refl _ _).alloc (Nat.le_refl _) _
    have HR4 := Lib.hid (HR3.out.below hb4)
    have hown : (Value.slice av ns.length cv).ownBlock ≠ some W.heap.size := fun e => by have := (HR3.out.row.lt _ e).2; omega
    have HOWN := Lib.hid hown
    have HBW := Lib.hid HR3.out.lt
    have HK4 := Lib.hid (HK3.out.trans (KeepP.of_below (Nat.le_of_lt HR3.out.lt) hb4))
    have HC4 := Lib.hid hc4
    clear hc4 hW4 hb4 hown
    go_loopw [4, 5] (fun k d wr => ∃ z sv i0, k = .int .i64 z ∧ Srch T i z sv i0 ∧ RN wr B T i0 (.slice av ns.length cv) ns false ∧ wr.heap[W.heap.size]? = some (.cells #[.int .i64 sv, .int .i64 0, .int .i64 0] 39 (0, 0)) ∧ KeepP B (.slice av ns.length cv) (.slice av ns.length cv) W0 wr) (fun k _ _ => (intOf k + 1).toNat)
    case atStart => exact ⟨11, -3, i, rfl, .inl ⟨rfl, rfl, by decide, by decide, fun n h1 h2 => by omega⟩, HR4.out, HC4.out, HK4.out⟩
    case round =>
      obtain ⟨z, sv, i0, rfl, hs, hr, hc, hk⟩ := hrel
      have x0 := cell_of_row _ _ 0 _ _ _ hc
      have x0z := frozen_row hc 0
      have HR := Lib.hid hr
      have HCC := Lib.hid hc
      have HKK := Lib.hid hk
      clear hc hk HR4 HC4 HK4
      rcases hs with ⟨rfl, rfl, hz0', hz1', hno⟩ | ⟨n, hn, rfl, rfl, hq, hle0, hle0'⟩
      · by_cases hneg : z = -1
        · subst hneg
          have HNN := Lib.hid (pn_0 (f := f) (ns := ns) HX.out HY.out (num_none_all (fun n hn => hno n (by omega) hn)))
          have x3 := cell_of_row _ _ 3 _ _ _ hr.blk
          have x3z := frozen_row hr.blk 3
          clear hr hno hz0' hz1'
          go_wp2_with fail
          go_ret
          exact ⟨i0, _, ns, true, 0, HKK.out.trans (KeepP.put _ _ _), HR.out.spoil, ⟨Nat.le_refl _, hi⟩, Nat.le_refl _, rfl, fun _ => rfl, fun _ => ⟨fun h => (by cases h), fun _ => HNN.out⟩⟩
        · obtain ⟨n, rfl⟩ := Int.eq_ofNat_of_zero_le (show 0 ≤ z by omega)
          have hn12 : n < 12 := by omega
          obtain ⟨D, hD⟩ : ∃ D : ByteArray, (⟨#[UInt8.ofNat (48 + n % 10)]⟩ : ByteArray) = D := ⟨_, rfl⟩
          have hDs : D.size = 1 := by rw [← hD]; rfl
          have hcv : (convert 83 9 (.slice (some ⟨wr.heap.size, 0, none⟩) 1 1)).run Tryd.prog (wr.alloc (.cells #[.int .u8 (48 + (n : Int) % 10)] 5)) = .ok (.string D) (wr.alloc (.cells #[.int .u8 (48 + (n : Int) % 10)] 5)) := by
            have := conv_one (48 + n % 10) wr
            rw [hD, show ((48 + n % 10 : Nat) : Int) = 48 + (n : Int) % 10 by omega] at this
            exact this
          obtain ⟨w5, hw5⟩ : ∃ w5, w5 = wr.alloc (.cells #[.int .u8 (48 + (n : Int) % 10)] 5) := ⟨_, rfl⟩
          have hb5 : Below wr.heap.size wr w5 := by rw [hw5]; exact (Below.refl _ _).alloc (Nat.le_refl _) _
          have HR5 := Lib.hid (hr.below hb5)
          have HC5 := Lib.hid (heap_below hb5 HCC.out)
          have HK5 := Lib.hid (HKK.out.trans (KeepP.of_below (Nat.le_of_lt hr.lt) hb5))
          have HNO := Lib.hid hno
          have hwr : wrap64 ((n : Int) - 1) = (n : Int) - 1 := by unfold wrap64; omega
          have HT0 := Lib.hid (HTN.out n w5 hn12 HR5.out)
          have HND := Lib.hid (show n < 10 → mkB (nbr n) = D ++ (⟨#[40]⟩ : ByteArray) from fun h => by have := nb_lt ⟨n, hn12⟩ h; simp only at this; rw [this, hD])
          have HNG := Lib.hid (show 10 ≤ n → mkB (nbr n) = ((⟨#[49]⟩ : ByteArray) ++ D) ++ (⟨#[40]⟩ : ByteArray) from fun h => by have := nb_ge ⟨n, hn12⟩ h; simp only at this; rw [this, hD])
          have HWR := Lib.hid hwr
          clear hr hno hb5 hD hneg hz0' hz1'
          by_cases hlt10 : n < 10
          · have dd : decide ((10 : Int) ≤ (n : Int)) = false := decide_eq_false (by omega)
            have HT1 := HT0.out
            rw [HND.out hlt10] at HT1
            cases hq : stripP (nbr n) (T.drop i0) with
            | none =>
              rw [hq] at HT1
              have HT2 := Lib.hid HT1
              have HQQ := Lib.hid hq
              clear hq HT1 hlt10
              go_wp2_with fail
              rw [← hw5]
              clear hw5 hcv
              refine HT2.out.mono ?_
              rintro e w6 ⟨rfl, hr6, hk6⟩
              have HC6 := Lib.hid (heap_keepP hk6 HC5.out (by have := HBW.out; omega) HOWN.out)
              have HK6 := Lib.hid (HK5.out.trans hk6)
              have HR6 := Lib.hid hr6
              clear hr6 hk6
              have hR6 := HR6.out
              rw [tk_none HQQ.out] at hR6
              have HR7 := Lib.hid hR6
              clear hR6
              go_wp2_with fail
              go_roundw
              case rel => exact ⟨(n : Int) - 1, -3, i0, by first | rfl | (rw [HWR.out]), .inl ⟨rfl, rfl, by omega, by omega, fun m h1 h2 => by
                by_cases hm : m = n
                · subst hm; exact HQQ.out
                · exact HNO.out m (by omega) h2⟩, HR7.out, HC6.out, HK6.out⟩
              case measure => simp [intOf] <;> omega
            | some r =>
              rw [hq] at HT1
              have HT2 := Lib.hid HT1
              have HQQ := Lib.hid hq
              clear hq HT1 hlt10
              go_wp2_with fail
              rw [← hw5]
              clear hw5 hcv
              refine HT2.out.mono ?_
              rintro e w6 ⟨rfl, hr6, hk6⟩
              have HC6 := Lib.hid (heap_keepP hk6 HC5.out (by have := HBW.out; omega) HOWN.out)
              have HK6 := Lib.hid (HK5.out.trans hk6)
              have HR6 := Lib.hid hr6
              clear hr6 hk6
              obtain ⟨k1, k2, k3⟩ := tk_some hi HQQ.out
              have HNU := Lib.hid (num_strip hn12 (by rw [HQQ.out, k3] : stripP (nbr n) (T.drop i0) = some (T.drop (i0 + (nbr n).length))))
              have hR6 := HR6.out
              rw [k1] at hR6
              have HR7 := Lib.hid hR6
              have HKL := Lib.hid k2
              have y0 := frozen_row HC6.out 0
              have y0c := cell_of_row _ _ 0 _ _ _ HC6.out
              clear hR6 k1 k2 k3 x0 x0z
              go_wp2_with fail
              clear y0 y0c
              go_roundw
              case rel => exact ⟨(n : Int) - 1, n, i0 + (nbr n).length, by first | rfl | (rw [HWR.out]), .inr ⟨n, hn12, rfl, rfl, HNU.out, Nat.le_add_right _ _, HKL.out⟩, ⟨heap_set_other (by have := HBW.out; omega) _ _ HR7.out.blk, rowK_at HR7.out.row fun g hg => Below.heap_setCell _ _ _ _ (by show g ≠ W.heap.size; exact fun e => HOWN.out (e ▸ hg))⟩, by rw [heap_set_at HC6.out]; rfl, HK6.out.setc HBW.out HRX.out⟩
              case measure => simp [intOf] <;> omega
          · have dd : decide ((10 : Int) ≤ (n : Int)) = true := decide_eq_true (by omega)
            have HT1 := HT0.out
            rw [HNG.out (by omega)] at HT1
            cases hq : stripP (nbr n) (T.drop i0) with
            | none =>
              rw [hq] at HT1
              have HT2 := Lib.hid HT1
              have HQQ := Lib.hid hq
              clear hq HT1 hlt10
              go_wp2_with fail
              rw [← hw5]
              clear hw5 hcv
              refine HT2.out.mono ?_
              rintro e w6 ⟨rfl, hr6, hk6⟩
              have HC6 := Lib.hid (heap_keepP hk6 HC5.out (by have := HBW.out; omega) HOWN.out)
              have HK6 := Lib.hid (HK5.out.trans hk6)
              have HR6 := Lib.hid hr6
              clear hr6 hk6
              have hR6 := HR6.out
              rw [tk_none HQQ.out] at hR6
              have HR7 := Lib.hid hR6
              clear hR6
              go_wp2_with fail
              go_roundw
              case rel => exact ⟨(n : Int) - 1, -3, i0, by first | rfl | (rw [HWR.out]), .inl ⟨rfl, rfl, by omega, by omega, fun m h1 h2 => by
                by_cases hm : m = n
                · subst hm; exact HQQ.out
                · exact HNO.out m (by omega) h2⟩, HR7.out, HC6.out, HK6.out⟩
              case measure => simp [intOf] <;> omega
            | some r =>
              rw [hq] at HT1
              have HT2 := Lib.hid HT1
              have HQQ := Lib.hid hq
              clear hq HT1 hlt10
              go_wp2_with fail
              rw [← hw5]
              clear hw5 hcv
              refine HT2.out.mono ?_
              rintro e w6 ⟨rfl, hr6, hk6⟩
              have HC6 := Lib.hid (heap_keepP hk6 HC5.out (by have := HBW.out; omega) HOWN.out)
              have HK6 := Lib.hid (HK5.out.trans hk6)
              have HR6 := Lib.hid hr6
              clear hr6 hk6
              obtain ⟨k1, k2, k3⟩ := tk_some hi HQQ.out
              have HNU := Lib.hid (num_strip hn12 (by rw [HQQ.out, k3] : stripP (nbr n) (T.drop i0) = some (T.drop (i0 + (nbr n).length))))
              have hR6 := HR6.out
              rw [k1] at hR6
              have HR7 := Lib.hid hR6
              have HKL := Lib.hid k2
              have y0 := frozen_row HC6.out 0
              have y0c := cell_of_row _ _ 0 _ _ _ HC6.out
              clear hR6 k1 k2 k3 x0 x0z
              go_wp2_with fail
              clear y0 y0c
              go_roundw
              case rel => exact ⟨(n : Int) - 1, n, i0 + (nbr n).length, by first | rfl | (rw [HWR.out]), .inr ⟨n, hn12, rfl, rfl, HNU.out, Nat.le_add_right _ _, HKL.out⟩, ⟨heap_set_other (by have := HBW.out; omega) _ _ HR7.out.blk, rowK_at HR7.out.row fun g hg => Below.heap_setCell _ _ _ _ (by show g ≠ W.heap.size; exact fun e => HOWN.out (e ▸ hg))⟩, by rw [heap_set_at HC6.out]; rfl, HK6.out.setc HBW.out HRX.out⟩
              case measure => simp [intOf] <;> omega
      · have HQ := Lib.hid hq
        have hnl := num_len hq
        rw [List.length_drop, List.length_drop] at hnl
        have HLE0 : Hid (i + 2 ≤ i0 ∧ i0 ≤ T.length) := Lib.hid (by omega)
        have dn : decide ((n : Int) < 0) = false := decide_eq_false (by omega)
        have x1z := frozen_row HCC.out 1
        have HI1 := Lib.hid (HIH.out i0 ns false _ wr (by have := HSIZE.out; omega) (by omega) (by have := HSIZE.out; omega) hr)
        clear hq hnl hr
        go_wp2_with fail
        all_goals
          with_reducible refine HI1.out.mono ?_
          rintro e w8 ⟨i1, v1, ns1, b1, zf, hk8, hr8, hle1, hsz1, rfl, _, hf1⟩
          have HF1 := Lib.hid (hf1 rfl)
          have HLE1 := Lib.hid hle1
          have HSZ1 := Lib.hid hsz1
          have HC8 := Lib.hid (heap_keepP hk8 HCC.out (by have := HBW.out; omega) HOWN.out)
          have hown1 : v1.ownBlock ≠ some W.heap.size := fun e => by
            rcases hk8.own _ e with h1 | h1
            · exact HOWN.out h1
            · have := (Array.getElem?_eq_some_iff.1 HCC.out).1; omega
          have HOWN1 := Lib.hid hown1
          have HK8 := Lib.hid (HKK.out.trans hk8)
          have HR8 := Lib.hid hr8
          have y1 := frozen_row HC8.out 1
          have y1c := cell_of_row _ _ 1 _ _ _ HC8.out
          clear hf1 hle1 hsz1 hk8 hr8 hown1 HI1 HKK HCC x0 x0z x1z
          go_wp2_with fail
          clear y1 y1c
          generalize hw9 : w8.setCell _ _ = w9
          have HR9 : Hid (RN w9 B T i1 v1 ns1 b1) := Lib.hid (by
            rw [← hw9]
            exact ⟨heap_set_other (by have := HBW.out; omega) _ _ HR8.out.blk, rowK_at HR8.out.row fun g hg => Below.heap_setCell _ _ _ _ (by show g ≠ W.heap.size; exact fun e => HOWN1.out (e ▸ hg))⟩)
          have HC9 : Hid (w9.heap[W.heap.size]? = some (.cells #[.int .i64 n, .int .i64 zf, .int .i64 0] 39 (0, 0))) := Lib.hid (by rw [← hw9, heap_set_at HC8.out]; rfl)
          have HK9 := Lib.hid (by have := HK8.out.setc (i := 1) (u := .int .i64 zf) HBW.out HRX.out; rw [hw9] at this; exact this)
          have HTC1 := Lib.hid (HTC.out i1 w9 v1 ns1 b1 HLE1.out.2 HR9.out)
          clear hw9 HC8 HK8 HR8
          cases hq2 : stripP [44, 32] (T.drop i1) with
          | some r3 =>
            have HTC2 : Hid (Calls Tryd.prog 65 #[.pointer (some ⟨B, 0, none⟩), .string ⟨#[44, 32]⟩] w9 fun e w' => e = .returned (.bool true) ∧ RN w' B T (tkAt [44, 32] T i1) v1 ns1 b1 ∧ KeepP B v1 v1 w9 w') := Lib.hid (by
              have := HTC1.out
              rw [hq2] at this
              exact this)
            have HLE2 : Hid (i1 ≤ tkAt [44, 32] T i1 ∧ tkAt [44, 32] T i1 ≤ T.length) := Lib.hid (by
              obtain ⟨e1, e2, _⟩ := tk_some HLE1.out.2 hq2; rw [e1]; exact ⟨Nat.le_add_right _ _, e2⟩)
            have hb2 : True := trivial
            have HBAD2 : Hid (b1 = (b1 || !(stripP [44, 32] (T.drop i1)).isSome)) := Lib.hid (by rw [hq2]; simp)
            have HB2V := Lib.hid hb2
            obtain ⟨i2, hi2⟩ : ∃ i2, tkAt [44, 32] T i1 = i2 := ⟨_, rfl⟩
            rw [hi2] at HTC2 HLE2
            have HTK2 := Lib.hid hi2.symm
            clear hq2 HTC1 hi2 hb2
            go_wp2_with fail
            with_reducible refine HTC2.out.mono ?_
            rintro e w10 ⟨rfl, hr10, hk10⟩
            have HC10 := Lib.hid (heap_keepP hk10 HC9.out (by have := HBW.out; omega) HOWN1.out)
            have HK10 := Lib.hid (HK9.out.trans hk10)
            have HR10 := Lib.hid hr10
            have HI2 := Lib.hid (HIH.out i2 ns1 b1 v1 w10 (by have := HSIZE.out; have := HLE0.out; have := HLE1.out; have := HLE2.out; omega) HLE2.out.2 (by have := HSIZE.out; have := HLE0.out; have := HLE1.out; have := HLE2.out; have := HSZ1.out; omega) HR10.out)
            have HCA := Lib.hid HC10.out
            have HKA := Lib.hid HK10.out
            clear hr10 hk10 HC10 HK10 HC9 HK9
            go_wp2_with fail
            with_reducible refine HI2.out.mono ?_
            rintro e w12 ⟨i3, v3, ns3, b3, zs, hk12, hr12, hle3, hsz3, rfl, hm3, hf3⟩
            have HF3 := Lib.hid (And.intro hm3 hf3)
            have HLE3 := Lib.hid hle3
            have HSZ3 := Lib.hid hsz3
            have HC12 := Lib.hid (heap_keepP hk12 HCA.out (by have := HBW.out; omega) HOWN1.out)
            have hown3 : v3.ownBlock ≠ some W.heap.size := fun e => by
              rcases hk12.own _ e with h1 | h1
              · exact HOWN1.out h1
              · have := (Array.getElem?_eq_some_iff.1 HCA.out).1; omega
            have HOWN3 := Lib.hid hown3
            have HK12 := Lib.hid (HKA.out.trans hk12)
            have HR12 := Lib.hid hr12
            have y2 := frozen_row HC12.out 2
            have y2c := cell_of_row _ _ 2 _ _ _ HC12.out
            clear hf3 hm3 hle3 hsz3 hk12 hr12 hown3 HI2 HCA HKA
            go_wp2_with fail
            clear y2 y2c
            generalize hw13 : w12.setCell _ _ = w13
            have HR13 : Hid (RN w13 B T i3 v3 ns3 b3) := Lib.hid (by
              rw [← hw13]
              exact ⟨heap_set_other (by have := HBW.out; omega) _ _ HR12.out.blk, rowK_at HR12.out.row fun g hg => Below.heap_setCell _ _ _ _ (by show g ≠ W.heap.size; exact fun e => HOWN3.out (e ▸ hg))⟩)
            have HC13 : Hid (w13.heap[W.heap.size]? = some (.cells #[.int .i64 n, .int .i64 zf, .int .i64 zs] 39 (0, 0))) := Lib.hid (by rw [← hw13, heap_set_at HC12.out]; rfl)
            have HK13 := Lib.hid (by have := HK12.out.setc (i := 2) (u := .int .i64 zs) HBW.out HRX.out; rw [hw13] at this; exact this)
            have HTE1 := Lib.hid (HTE.out i3 w13 v3 ns3 b3 HLE3.out.2 HR13.out)
            clear hw13 HC12 HK12 HR12
            cases hq6 : stripP [41] (T.drop i3) with
            | some r5 =>
              have HTE2 : Hid (Calls Tryd.prog 65 #[.pointer (some ⟨B, 0, none⟩), .string ⟨#[41]⟩] w13 fun e w' => e = .returned (.bool true) ∧ RN w' B T (tkAt [41] T i3) v3 ns3 b3 ∧ KeepP B v3 v3 w13 w') := Lib.hid (by
                have := HTE1.out
                rw [hq6] at this
                exact this)
              have HQ6 := Lib.hid hq6
              have HTK4 : Hid (i3 ≤ tkAt [41] T i3 ∧ tkAt [41] T i3 ≤ T.length) := Lib.hid (by
                obtain ⟨e1, e2, _⟩ := tk_some HLE3.out.2 hq6; rw [e1]; exact ⟨Nat.le_add_right _ _, e2⟩)
              obtain ⟨i4, hi4⟩ : ∃ i4, tkAt [41] T i3 = i4 := ⟨_, rfl⟩
              rw [hi4] at HTE2 HTK4
              have HI4 := Lib.hid hi4
              clear hq6 HTE1 hi4
              go_wp2_with fail
              with_reducible refine HTE2.out.mono ?_
              rintro e w14 ⟨rfl, hr14, hk14⟩
              obtain ⟨a3, c3, rfl, _⟩ := rdK_of_row hr14.row
              have HC := Lib.hid (heap_keepP hk14 HC13.out (by have := HBW.out; omega) HOWN3.out)
              have HP := Lib.hid hr14
              have HK := Lib.hid (HK13.out.trans hk14)
              clear hr14 hk14
              go_wp2_with fail
              have HJ := Lib.hid (rd_join (f := f) (bad4 := b3) (n := n) HX.out HY.out HQ.out HF1.out HLE1.out.2 HTK2.out HBAD2.out HF3.out.1 HF3.out.2 HLE3.out.2 HI4.out.symm (by rw [HQ6.out]; simp))
              have HLE : Hid (i ≤ i4 ∧ i4 ≤ T.length ∧ ns3.length + 1 + (T.length - i4) ≤ ns.length + (T.length - i)) := Lib.hid (by
                have g1 := HLE1.out; have g3 := HLE3.out; have g4 := HTK4.out; have g5 := HSZ1.out; have g6 := HSZ3.out; have g0 := HLE0.out; have g2 := HLE2.out
                exact ⟨by omega, g4.2, by omega⟩)
              have hl3 : ns3.length ≤ 8000 := by have g5 := HSZ1.out; have g6 := HSZ3.out; have g0 := HLE0.out; have g2 := HLE2.out; have g1 := HLE1.out; have g7 := HSIZE.out; omega
              have p2 := cell_of_row _ _ 2 _ _ _ HP.out.blk
              have z2 := frozen_row HP.out.blk 2
              have y0 := cell_of_row _ _ 0 _ _ _ HC.out
              have y1 := cell_of_row _ _ 1 _ _ _ HC.out
              have y2 := cell_of_row _ _ 2 _ _ _ HC.out
              have p2b : (w14.alloc (Obj.cells #[.int .i64 n, .int .i64 zf, .int .i64 zs] 39)).cell? ⟨B, 2, none⟩ = some (.slice a3 ns3.length c3) := cell_of_row _ _ 2 _ _ _ (heap_alloc_at HP.out.blk _)
              have hBs := HP.out.lt
              have KA : Hid (∀ x y : World, x.grownBy y (Value.slice a3 ns3.length c3).ownBlock → x.heap[B]? = w14.heap[B]? → w14.heap.size ≤ x.heap.size → y.heap[B]? = some (.cells #[.string (mkB T), .int .i64 ((i4 : Nat) : Int), .slice a3 ns3.length c3, .bool b3] 81 (0, 0))) := Lib.hid (fun x y hg hx hsx => by
                rw [hg.block B (by have := HP.out.lt; omega) (fun e => by have := (HP.out.row.lt B e.symm).1; omega), hx]
                exact HP.out.blk)
              go_region_law (first
                | (refine step_append_lies _ (by rfl) _ _ _ (by rfl) (B + 1) 39 j0 _ 3 24 Tryd.underlying31 hi0 hz0 hz1 hz2 rfl (by omega) (.slice a3 ns3.length c3) ns3.length _ (by rfl) ((HP.out.row.alloc _).drew) ⟨w14.heap.size, 0, none⟩ 1 1 [.int .i64 n, .int .i64 zf, .int .i64 zs] (by rfl) (by rfl) (World.news_of_block (cs := #[.int .i64 n, .int .i64 zf, .int .i64 zs]) (t := 39) (fr := (0, 0)) (heap_alloc_new w14 _)) (by simp [Value.oneCell']) (by omega) (by unfold maxLen; omega) (by omega) (by simp; omega) (w14.heap.size + 1) (by simp) ?_; intro gg cap wA hownA hgrow hat hlt; have hA := KA.out _ _ hgrow (Below.heap_alloc w14 _ B (by omega)) (by simp); have pA := cell_of_row _ _ 2 _ _ _ hA; have zA := frozen_row hA 2; have HA := Lib.hid hA; have HOA := Lib.hid hownA; have HGA := Lib.hid hgrow; have HAT := Lib.hid hat; clear hA hownA hgrow hat))
              all_goals
                go_wp2_with fail
                go_ret
                refine ⟨i4, .slice (some ⟨gg, 0, none⟩) (ns3.length + 1) cap, ns3 ++ [⟨n, zf, zs⟩], b3, _, HK.out.trans (KeepP.appj (by omega) HGA.out HP.out.row HAT.out _), ⟨?_, ?_⟩, ⟨by have := HLE.out; omega, by have := HLE.out; omega⟩, by have := HLE.out; simp; omega, rfl, fun h => (by cases h), fun _ => ⟨fun hb => ⟨HJ.out.1 hb, by simp⟩, fun hb => HJ.out.2 hb⟩⟩
                · rw [heap_set_at HA.out]; rfl
                · have hrow := HOA.out
                  rw [show (ns3 ++ [(⟨n, zf, zs⟩ : Cho)]).length = ns3.length + 1 by simp, show (ns3 ++ [(⟨n, zf, zs⟩ : Cho)]).flatMap choC = (ns3).flatMap choC ++ [.int .i64 n, .int .i64 zf, .int .i64 zs] by rw [List.flatMap_append]; rfl]
                  exact rowK_at hrow fun g hg => Below.heap_setCell _ _ _ _ (by have := (hrow.lt g hg).1; show g ≠ B; omega)
            | none =>
              have HTE2 : Hid (Calls Tryd.prog 65 #[.pointer (some ⟨B, 0, none⟩), .string ⟨#[41]⟩] w13 fun e w' => e = .returned (.bool false) ∧ RN w' B T (tkAt [41] T i3) v3 ns3 b3 ∧ KeepP B v3 v3 w13 w') := Lib.hid (by
                have := HTE1.out
                rw [hq6] at this
                exact this)
              have HQ6 := Lib.hid hq6
              have HTK4 : Hid (i3 ≤ tkAt [41] T i3 ∧ tkAt [41] T i3 ≤ T.length) := Lib.hid (by
                rw [tk_none hq6]; exact ⟨Nat.le_refl _, HLE3.out.2⟩)
              obtain ⟨i4, hi4⟩ : ∃ i4, tkAt [41] T i3 = i4 := ⟨_, rfl⟩
              rw [hi4] at HTE2 HTK4
              have HI4 := Lib.hid hi4
              clear hq6 HTE1 hi4
              go_wp2_with fail
              with_reducible refine HTE2.out.mono ?_
              rintro e w14 ⟨rfl, hr14, hk14⟩
              obtain ⟨a3, c3, rfl, _⟩ := rdK_of_row hr14.row
              have HC14 := Lib.hid (heap_keepP hk14 HC13.out (by have := HBW.out; omega) HOWN3.out)
              have HR14 := Lib.hid hr14
              have HK14 := Lib.hid (HK13.out.trans hk14)
              have x3 := cell_of_row _ _ 3 _ _ _ hr14.blk
              have x3z := frozen_row hr14.blk 3
              clear hr14 hk14
              go_wp2_with fail
              clear x3 x3z
              generalize hw15 : w14.setCell _ _ = w15
              obtain ⟨b4, hb4⟩ : ∃ b4 : Bool, b4 = true := ⟨_, rfl⟩
              have HP : Hid (RN w15 B T i4 (.slice a3 ns3.length c3) ns3 b4) := Lib.hid (by rw [← hw15, hb4]; exact HR14.out.spoil)
              have HB4V := Lib.hid hb4
              have HC : Hid (w15.heap[W.heap.size]? = some (.cells #[.int .i64 n, .int .i64 zf, .int .i64 zs] 39 (0, 0))) := Lib.hid (by rw [← hw15]; exact heap_set_other (by have := HBW.out; omega) _ _ HC14.out)
              have HK := Lib.hid (HK14.out.trans (by rw [← hw15]; exact KeepP.put _ _ _ : KeepP B (.slice a3 ns3.length c3) (.slice a3 ns3.length c3) w14 w15))
              clear hw15 HR14 HC14 HK14 hb4
              have HJ := Lib.hid (rd_join (f := f) (bad4 := b4) (n := n) HX.out HY.out HQ.out HF1.out HLE1.out.2 HTK2.out HBAD2.out HF3.out.1 HF3.out.2 HLE3.out.2 HI4.out.symm (by rw [HQ6.out, HB4V.out]; simp))
              have HLE : Hid (i ≤ i4 ∧ i4 ≤ T.length ∧ ns3.length + 1 + (T.length - i4) ≤ ns.length + (T.length - i)) := Lib.hid (by
                have g1 := HLE1.out; have g3 := HLE3.out; have g4 := HTK4.out; have g5 := HSZ1.out; have g6 := HSZ3.out; have g0 := HLE0.out; have g2 := HLE2.out
                exact ⟨by omega, g4.2, by omega⟩)
              have hl3 : ns3.length ≤ 8000 := by have g5 := HSZ1.out; have g6 := HSZ3.out; have g0 := HLE0.out; have g2 := HLE2.out; have g1 := HLE1.out; have g7 := HSIZE.out; omega
              have p2 := cell_of_row _ _ 2 _ _ _ HP.out.blk
              have z2 := frozen_row HP.out.blk 2
              have y0 := cell_of_row _ _ 0 _ _ _ HC.out
              have y1 := cell_of_row _ _ 1 _ _ _ HC.out
              have y2 := cell_of_row _ _ 2 _ _ _ HC.out
              have p2b : (w15.alloc (Obj.cells #[.int .i64 n, .int .i64 zf, .int .i64 zs] 39)).cell? ⟨B, 2, none⟩ = some (.slice a3 ns3.length c3) := cell_of_row _ _ 2 _ _ _ (heap_alloc_at HP.out.blk _)
              have hBs := HP.out.lt
              have KA : Hid (∀ x y : World, x.grownBy y (Value.slice a3 ns3.length c3).ownBlock → x.heap[B]? = w15.heap[B]? → w15.heap.size ≤ x.heap.size → y.heap[B]? = some (.cells #[.string (mkB T), .int .i64 ((i4 : Nat) : Int), .slice a3 ns3.length c3, .bool b4] 81 (0, 0))) := Lib.hid (fun x y hg hx hsx => by
                rw [hg.block B (by have := HP.out.lt; omega) (fun e => by have := (HP.out.row.lt B e.symm).1; omega), hx]
                exact HP.out.blk)
              go_region_law (first
                | (refine step_append_lies _ (by rfl) _ _ _ (by rfl) (B + 1) 39 j0 _ 3 24 Tryd.underlying31 hi0 hz0 hz1 hz2 rfl (by omega) (.slice a3 ns3.length c3) ns3.length _ (by rfl) ((HP.out.row.alloc _).drew) ⟨w15.heap.size, 0, none⟩ 1 1 [.int .i64 n, .int .i64 zf, .int .i64 zs] (by rfl) (by rfl) (World.news_of_block (cs := #[.int .i64 n, .int .i64 zf, .int .i64 zs]) (t := 39) (fr := (0, 0)) (heap_alloc_new w15 _)) (by simp [Value.oneCell']) (by omega) (by unfold maxLen; omega) (by omega) (by simp; omega) (w15.heap.size + 1) (by simp) ?_; intro gg cap wA hownA hgrow hat hlt; have hA := KA.out _ _ hgrow (Below.heap_alloc w15 _ B (by omega)) (by simp); have pA := cell_of_row _ _ 2 _ _ _ hA; have zA := frozen_row hA 2; have HA := Lib.hid hA; have HOA := Lib.hid hownA; have HGA := Lib.hid hgrow; have HAT := Lib.hid hat; clear hA hownA hgrow hat))
              all_goals
                go_wp2_with fail
                go_ret
                refine ⟨i4, .slice (some ⟨gg, 0, none⟩) (ns3.length + 1) cap, ns3 ++ [⟨n, zf, zs⟩], b4, _, HK.out.trans (KeepP.appj (by omega) HGA.out HP.out.row HAT.out _), ⟨?_, ?_⟩, ⟨by have := HLE.out; omega, by have := HLE.out; omega⟩, by have := HLE.out; simp; omega, rfl, fun h => (by cases h), fun _ => ⟨fun hb => ⟨HJ.out.1 hb, by simp⟩, fun hb => HJ.out.2 hb⟩⟩
                · rw [heap_set_at HA.out]; rfl
                · have hrow := HOA.out
                  rw [show (ns3 ++ [(⟨n, zf, zs⟩ : Cho)]).length = ns3.length + 1 by simp, show (ns3 ++ [(⟨n, zf, zs⟩ : Cho)]).flatMap choC = (ns3).flatMap choC ++ [.int .i64 n, .int .i64 zf, .int .i64 zs] by rw [List.flatMap_append]; rfl]
                  exact rowK_at hrow fun g hg => Below.heap_setCell _ _ _ _ (by have := (hrow.lt g hg).1; show g ≠ B; omega)
          | none =>
            have HTC2 : Hid (Calls Tryd.prog 65 #[.pointer (some ⟨B, 0, none⟩), .string ⟨#[44, 32]⟩] w9 fun e w' => e = .returned (.bool false) ∧ RN w' B T (tkAt [44, 32] T i1) v1 ns1 b1 ∧ KeepP B v1 v1 w9 w') := Lib.hid (by
              have := HTC1.out
              rw [hq2] at this
              exact this)
            have HLE2 : Hid (i1 ≤ tkAt [44, 32] T i1 ∧ tkAt [44, 32] T i1 ≤ T.length) := Lib.hid (by
              rw [tk_none hq2]; exact ⟨Nat.le_refl _, HLE1.out.2⟩)
            obtain ⟨b2, hb2⟩ : ∃ b2 : Bool, b2 = true := ⟨_, rfl⟩
            have HBAD2 : Hid (b2 = (b1 || !(stripP [44, 32] (T.drop i1)).isSome)) := Lib.hid (by rw [hb2]; rw [hq2]; simp)
            have HB2V := Lib.hid hb2
            obtain ⟨i2, hi2⟩ : ∃ i2, tkAt [44, 32] T i1 = i2 := ⟨_, rfl⟩
            rw [hi2] at HTC2 HLE2
            have HTK2 := Lib.hid hi2.symm
            clear hq2 HTC1 hi2 hb2
            go_wp2_with fail
            with_reducible refine HTC2.out.mono ?_
            rintro e w10 ⟨rfl, hr10, hk10⟩
            have HC10 := Lib.hid (heap_keepP hk10 HC9.out (by have := HBW.out; omega) HOWN1.out)
            have HK10 := Lib.hid (HK9.out.trans hk10)
            have HR10 := Lib.hid hr10
            have x3 := cell_of_row _ _ 3 _ _ _ hr10.blk
            have x3z := frozen_row hr10.blk 3
            clear hr10 hk10
            go_wp2_with fail
            clear x3 x3z
            generalize hw11 : w10.setCell _ _ = w11
            have HRA : Hid (RN w11 B T i2 v1 ns1 b2) := Lib.hid (by rw [← hw11, HB2V.out]; exact HR10.out.spoil)
            have HCA : Hid (w11.heap[W.heap.size]? = some (.cells #[.int .i64 n, .int .i64 zf, .int .i64 0] 39 (0, 0))) := Lib.hid (by rw [← hw11]; exact heap_set_other (by have := HBW.out; omega) _ _ HC10.out)
            have HKA := Lib.hid (HK10.out.trans (by rw [← hw11]; exact KeepP.put _ _ _ : KeepP B v1 v1 w10 w11))
            have HI2 := Lib.hid (HIH.out i2 ns1 b2 v1 w11 (by have := HSIZE.out; have := HLE0.out; have := HLE1.out; have := HLE2.out; omega) HLE2.out.2 (by have := HSIZE.out; have := HLE0.out; have := HLE1.out; have := HLE2.out; have := HSZ1.out; omega) HRA.out)
            clear hw11 HR10 HC10 HK10 HC9 HK9 HRA
            with_reducible refine HI2.out.mono ?_
            rintro e w12 ⟨i3, v3, ns3, b3, zs, hk12, hr12, hle3, hsz3, rfl, hm3, hf3⟩
            have HF3 := Lib.hid (And.intro hm3 hf3)
            have HLE3 := Lib.hid hle3
            have HSZ3 := Lib.hid hsz3
            have HC12 := Lib.hid (heap_keepP hk12 HCA.out (by have := HBW.out; omega) HOWN1.out)
            have hown3 : v3.ownBlock ≠ some W.heap.size := fun e => by
              rcases hk12.own _ e with h1 | h1
              · exact HOWN1.out h1
              · have := (Array.getElem?_eq_some_iff.1 HCA.out).1; omega
            have HOWN3 := Lib.hid hown3
            have HK12 := Lib.hid (HKA.out.trans hk12)
            have HR12 := Lib.hid hr12
            have y2 := frozen_row HC12.out 2
            have y2c := cell_of_row _ _ 2 _ _ _ HC12.out
            clear hf3 hm3 hle3 hsz3 hk12 hr12 hown3 HI2 HCA HKA
            go_wp2_with fail
            clear y2 y2c
            generalize hw13 : w12.setCell _ _ = w13
            have HR13 : Hid (RN w13 B T i3 v3 ns3 b3) := Lib.hid (by
              rw [← hw13]
              exact ⟨heap_set_other (by have := HBW.out; omega) _ _ HR12.out.blk, rowK_at HR12.out.row fun g hg => Below.heap_setCell _ _ _ _ (by show g ≠ W.heap.size; exact fun e => HOWN3.out (e ▸ hg))⟩)
            have HC13 : Hid (w13.heap[W.heap.size]? = some (.cells #[.int .i64 n, .int .i64 zf, .int .i64 zs] 39 (0, 0))) := Lib.hid (by rw [← hw13, heap_set_at HC12.out]; rfl)
            have HK13 := Lib.hid (by have := HK12.out.setc (i := 2) (u := .int .i64 zs) HBW.out HRX.out; rw [hw13] at this; exact this)
            have HTE1 := Lib.hid (HTE.out i3 w13 v3 ns3 b3 HLE3.out.2 HR13.out)
            clear hw13 HC12 HK12 HR12
            cases hq6 : stripP [41] (T.drop i3) with
            | some r5 =>
              have HTE2 : Hid (Calls Tryd.prog 65 #[.pointer (some ⟨B, 0, none⟩), .string ⟨#[41]⟩] w13 fun e w' => e = .returned (.bool true) ∧ RN w' B T (tkAt [41] T i3) v3 ns3 b3 ∧ KeepP B v3 v3 w13 w') := Lib.hid (by
                have := HTE1.out
                rw [hq6] at this
                exact this)
              have HQ6 := Lib.hid hq6
              have HTK4 : Hid (i3 ≤ tkAt [41] T i3 ∧ tkAt [41] T i3 ≤ T.length) := Lib.hid (by
                obtain ⟨e1, e2, _⟩ := tk_some HLE3.out.2 hq6; rw [e1]; exact ⟨Nat.le_add_right _ _, e2⟩)
              obtain ⟨i4, hi4⟩ : ∃ i4, tkAt [41] T i3 = i4 := ⟨_, rfl⟩
              rw [hi4] at HTE2 HTK4
              have HI4 := Lib.hid hi4
              clear hq6 HTE1 hi4
              go_wp2_with fail
              with_reducible refine HTE2.out.mono ?_
              rintro e w14 ⟨rfl, hr14, hk14⟩
              obtain ⟨a3, c3, rfl, _⟩ := rdK_of_row hr14.row
              have HC := Lib.hid (heap_keepP hk14 HC13.out (by have := HBW.out; omega) HOWN3.out)
              have HP := Lib.hid hr14
              have HK := Lib.hid (HK13.out.trans hk14)
              clear hr14 hk14
              go_wp2_with fail
              have HJ := Lib.hid (rd_join (f := f) (bad4 := b3) (n := n) HX.out HY.out HQ.out HF1.out HLE1.out.2 HTK2.out HBAD2.out HF3.out.1 HF3.out.2 HLE3.out.2 HI4.out.symm (by rw [HQ6.out]; simp))
              have HLE : Hid (i ≤ i4 ∧ i4 ≤ T.length ∧ ns3.length + 1 + (T.length - i4) ≤ ns.length + (T.length - i)) := Lib.hid (by
                have g1 := HLE1.out; have g3 := HLE3.out; have g4 := HTK4.out; have g5 := HSZ1.out; have g6 := HSZ3.out; have g0 := HLE0.out; have g2 := HLE2.out
                exact ⟨by omega, g4.2, by omega⟩)
              have hl3 : ns3.length ≤ 8000 := by have g5 := HSZ1.out; have g6 := HSZ3.out; have g0 := HLE0.out; have g2 := HLE2.out; have g1 := HLE1.out; have g7 := HSIZE.out; omega
              have p2 := cell_of_row _ _ 2 _ _ _ HP.out.blk
              have z2 := frozen_row HP.out.blk 2
              have y0 := cell_of_row _ _ 0 _ _ _ HC.out
              have y1 := cell_of_row _ _ 1 _ _ _ HC.out
              have y2 := cell_of_row _ _ 2 _ _ _ HC.out
              have p2b : (w14.alloc (Obj.cells #[.int .i64 n, .int .i64 zf, .int .i64 zs] 39)).cell? ⟨B, 2, none⟩ = some (.slice a3 ns3.length c3) := cell_of_row _ _ 2 _ _ _ (heap_alloc_at HP.out.blk _)
              have hBs := HP.out.lt
              have KA : Hid (∀ x y : World, x.grownBy y (Value.slice a3 ns3.length c3).ownBlock → x.heap[B]? = w14.heap[B]? → w14.heap.size ≤ x.heap.size → y.heap[B]? = some (.cells #[.string (mkB T), .int .i64 ((i4 : Nat) : Int), .slice a3 ns3.length c3, .bool b3] 81 (0, 0))) := Lib.hid (fun x y hg hx hsx => by
                rw [hg.block B (by have := HP.out.lt; omega) (fun e => by have := (HP.out.row.lt B e.symm).1; omega), hx]
                exact HP.out.blk)
              go_region_law (first
                | (refine step_append_lies _ (by rfl) _ _ _ (by rfl) (B + 1) 39 j0 _ 3 24 Tryd.underlying31 hi0 hz0 hz1 hz2 rfl (by omega) (.slice a3 ns3.length c3) ns3.length _ (by rfl) ((HP.out.row.alloc _).drew) ⟨w14.heap.size, 0, none⟩ 1 1 [.int .i64 n, .int .i64 zf, .int .i64 zs] (by rfl) (by rfl) (World.news_of_block (cs := #[.int .i64 n, .int .i64 zf, .int .i64 zs]) (t := 39) (fr := (0, 0)) (heap_alloc_new w14 _)) (by simp [Value.oneCell']) (by omega) (by unfold maxLen; omega) (by omega) (by simp; omega) (w14.heap.size + 1) (by simp) ?_; intro gg cap wA hownA hgrow hat hlt; have hA := KA.out _ _ hgrow (Below.heap_alloc w14 _ B (by omega)) (by simp); have pA := cell_of_row _ _ 2 _ _ _ hA; have zA := frozen_row hA 2; have HA := Lib.hid hA; have HOA := Lib.hid hownA; have HGA := Lib.hid hgrow; have HAT := Lib.hid hat; clear hA hownA hgrow hat))
              all_goals
                go_wp2_with fail
                go_ret
                refine ⟨i4, .slice (some ⟨gg, 0, none⟩) (ns3.length + 1) cap, ns3 ++ [⟨n, zf, zs⟩], b3, _, HK.out.trans (KeepP.appj (by omega) HGA.out HP.out.row HAT.out _), ⟨?_, ?_⟩, ⟨by have := HLE.out; omega, by have := HLE.out; omega⟩, by have := HLE.out; simp; omega, rfl, fun h => (by cases h), fun _ => ⟨fun hb => ⟨HJ.out.1 hb, by simp⟩, fun hb => HJ.out.2 hb⟩⟩
                · rw [heap_set_at HA.out]; rfl
                · have hrow := HOA.out
                  rw [show (ns3 ++ [(⟨n, zf, zs⟩ : Cho)]).length = ns3.length + 1 by simp, show (ns3 ++ [(⟨n, zf, zs⟩ : Cho)]).flatMap choC = (ns3).flatMap choC ++ [.int .i64 n, .int .i64 zf, .int .i64 zs] by rw [List.flatMap_append]; rfl]
                  exact rowK_at hrow fun g hg => Below.heap_setCell _ _ _ _ (by have := (hrow.lt g hg).1; show g ≠ B; omega)
            | none =>
              have HTE2 : Hid (Calls Tryd.prog 65 #[.pointer (some ⟨B, 0, none⟩), .string ⟨#[41]⟩] w13 fun e w' => e = .returned (.bool false) ∧ RN w' B T (tkAt [41] T i3) v3 ns3 b3 ∧ KeepP B v3 v3 w13 w') := Lib.hid (by
                have := HTE1.out
                rw [hq6] at this
                exact this)
              have HQ6 := Lib.hid hq6
              have HTK4 : Hid (i3 ≤ tkAt [41] T i3 ∧ tkAt [41] T i3 ≤ T.length) := Lib.hid (by
                rw [tk_none hq6]; exact ⟨Nat.le_refl _, HLE3.out.2⟩)
              obtain ⟨i4, hi4⟩ : ∃ i4, tkAt [41] T i3 = i4 := ⟨_, rfl⟩
              rw [hi4] at HTE2 HTK4
              have HI4 := Lib.hid hi4
              clear hq6 HTE1 hi4
              go_wp2_with fail
              with_reducible refine HTE2.out.mono ?_
              rintro e w14 ⟨rfl, hr14, hk14⟩
              obtain ⟨a3, c3, rfl, _⟩ := rdK_of_row hr14.row
              have HC14 := Lib.hid (heap_keepP hk14 HC13.out (by have := HBW.out; omega) HOWN3.out)
              have HR14 := Lib.hid hr14
              have HK14 := Lib.hid (HK13.out.trans hk14)
              have x3 := cell_of_row _ _ 3 _ _ _ hr14.blk
              have x3z := frozen_row hr14.blk 3
              clear hr14 hk14
              go_wp2_with fail
              clear x3 x3z
              generalize hw15 : w14.setCell _ _ = w15
              obtain ⟨b4, hb4⟩ : ∃ b4 : Bool, b4 = true := ⟨_, rfl⟩
              have HP : Hid (RN w15 B T i4 (.slice a3 ns3.length c3) ns3 b4) := Lib.hid (by rw [← hw15, hb4]; exact HR14.out.spoil)
              have HB4V := Lib.hid hb4
              have HC : Hid (w15.heap[W.heap.size]? = some (.cells #[.int .i64 n, .int .i64 zf, .int .i64 zs] 39 (0, 0))) := Lib.hid (by rw [← hw15]; exact heap_set_other (by have := HBW.out; omega) _ _ HC14.out)
              have HK := Lib.hid (HK14.out.trans (by rw [← hw15]; exact KeepP.put _ _ _ : KeepP B (.slice a3 ns3.length c3) (.slice a3 ns3.length c3) w14 w15))
              clear hw15 HR14 HC14 HK14 hb4
              have HJ := Lib.hid (rd_join (f := f) (bad4 := b4) (n := n) HX.out HY.out HQ.out HF1.out HLE1.out.2 HTK2.out HBAD2.out HF3.out.1 HF3.out.2 HLE3.out.2 HI4.out.symm (by rw [HQ6.out, HB4V.out]; simp))
              have HLE : Hid (i ≤ i4 ∧ i4 ≤ T.length ∧ ns3.length + 1 + (T.length - i4) ≤ ns.length + (T.length - i)) := Lib.hid (by
                have g1 := HLE1.out; have g3 := HLE3.out; have g4 := HTK4.out; have g5 := HSZ1.out; have g6 := HSZ3.out; have g0 := HLE0.out; have g2 := HLE2.out
                exact ⟨by omega, g4.2, by omega⟩)
              have hl3 : ns3.length ≤ 8000 := by have g5 := HSZ1.out; have g6 := HSZ3.out; have g0 := HLE0.out; have g2 := HLE2.out; have g1 := HLE1.out; have g7 := HSIZE.out; omega
              have p2 := cell_of_row _ _ 2 _ _ _ HP.out.blk
              have z2 := frozen_row HP.out.blk 2
              have y0 := cell_of_row _ _ 0 _ _ _ HC.out
              have y1 := cell_of_row _ _ 1 _ _ _ HC.out
              have y2 := cell_of_row _ _ 2 _ _ _ HC.out
              have p2b : (w15.alloc (Obj.cells #[.int .i64 n, .int .i64 zf, .int .i64 zs] 39)).cell? ⟨B, 2, none⟩ = some (.slice a3 ns3.length c3) := cell_of_row _ _ 2 _ _ _ (heap_alloc_at HP.out.blk _)
              have hBs := HP.out.lt
              have KA : Hid (∀ x y : World, x.grownBy y (Value.slice a3 ns3.length c3).ownBlock → x.heap[B]? = w15.heap[B]? → w15.heap.size ≤ x.heap.size → y.heap[B]? = some (.cells #[.string (mkB T), .int .i64 ((i4 : Nat) : Int), .slice a3 ns3.length c3, .bool b4] 81 (0, 0))) := Lib.hid (fun x y hg hx hsx => by
                rw [hg.block B (by have := HP.out.lt; omega) (fun e => by have := (HP.out.row.lt B e.symm).1; omega), hx]
                exact HP.out.blk)
              go_region_law (first
                | (refine step_append_lies _ (by rfl) _ _ _ (by rfl) (B + 1) 39 j0 _ 3 24 Tryd.underlying31 hi0 hz0 hz1 hz2 rfl (by omega) (.slice a3 ns3.length c3) ns3.length _ (by rfl) ((HP.out.row.alloc _).drew) ⟨w15.heap.size, 0, none⟩ 1 1 [.int .i64 n, .int .i64 zf, .int .i64 zs] (by rfl) (by rfl) (World.news_of_block (cs := #[.int .i64 n, .int .i64 zf, .int .i64 zs]) (t := 39) (fr := (0, 0)) (heap_alloc_new w15 _)) (by simp [Value.oneCell']) (by omega) (by unfold maxLen; omega) (by omega) (by simp; omega) (w15.heap.size + 1) (by simp) ?_; intro gg cap wA hownA hgrow hat hlt; have hA := KA.out _ _ hgrow (Below.heap_alloc w15 _ B (by omega)) (by simp); have pA := cell_of_row _ _ 2 _ _ _ hA; have zA := frozen_row hA 2; have HA := Lib.hid hA; have HOA := Lib.hid hownA; have HGA := Lib.hid hgrow; have HAT := Lib.hid hat; clear hA hownA hgrow hat))
              all_goals
                go_wp2_with fail
                go_ret
                refine ⟨i4, .slice (some ⟨gg, 0, none⟩) (ns3.length + 1) cap, ns3 ++ [⟨n, zf, zs⟩], b4, _, HK.out.trans (KeepP.appj (by omega) HGA.out HP.out.row HAT.out _), ⟨?_, ?_⟩, ⟨by have := HLE.out; omega, by have := HLE.out; omega⟩, by have := HLE.out; simp; omega, rfl, fun h => (by cases h), fun _ => ⟨fun hb => ⟨HJ.out.1 hb, by simp⟩, fun hb => HJ.out.2 hb⟩⟩
                · rw [heap_set_at HA.out]; rfl
                · have hrow := HOA.out
                  rw [show (ns3 ++ [(⟨n, zf, zs⟩ : Cho)]).length = ns3.length + 1 by simp, show (ns3 ++ [(⟨n, zf, zs⟩ : Cho)]).flatMap choC = (ns3).flatMap choC ++ [.int .i64 n, .int .i64 zf, .int .i64 zs] by rw [List.flatMap_append]; rfl]
                  exact rowK_at hrow fun g hg => Below.heap_setCell _ _ _ _ (by have := (hrow.lt g hg).1; show g ≠ B; omega)
end Go.Proofs.YtflpkkebampmfaaDoor
namespace Go.Proofs.YtflpkkebampmfaaDoor
open Go.RowKit Go.Shelf

set_option maxRecDepth 100000 in
set_option maxHeartbeats 4000000 in
theorem rparse_c (s : Byts) (hs : s.length ≤ 1000) (w : World) :
    Calls Tryd.prog 17 #[.string (mkB s)] w fun e w' => ∃ a c, e = .returned (.tuple #[treV a (parC s).1.nodes.length c (parC s).1.root, .int .i64 (parC s).2]) ∧ TM w' a (parC s).1.nodes.length c (parC s).1.nodes ∧ Below w.heap.size w w' := by
  obtain ⟨R, hR⟩ : ∃ R, parC s = R := ⟨_, rfl⟩
  rw [hR]
  have HR := Lib.hid hR
  clear hR
  obtain ⟨W3, hW3⟩ : ∃ W3, W3 = w.alloc (.cells #[.slice none 0 0, .int .i64 0] 33) := ⟨_, rfl⟩
  have hSz := mkB_size s
  obtain ⟨S, hS⟩ : ∃ S, mkB s = S := ⟨_, rfl⟩
  rw [hS] at hSz
  obtain ⟨W4, hW4⟩ : ∃ W4, W4 = W3.alloc (.cells #[.string S, .int .i64 0, .slice none 0 0, .bool false] 81) := ⟨_, rfl⟩
  have hs3 : W3.heap.size = w.heap.size + 1 := by rw [hW3]; simp
  have hb3 : Below w.heap.size w W3 := by rw [hW3]; exact (Below.refl _ w).alloc (Nat.le_refl _) _
  have hb4 : Below W3.heap.size W3 W4 := by rw [hW4]; exact (Below.refl _ _).alloc (Nat.le_refl _) _
  have g3 : W3.heap[w.heap.size]? = some (.cells #[.slice none 0 0, .int .i64 0] 33 (0, 0)) := by rw [hW3]; exact heap_alloc_new _ _
  have g4 := heap_below hb4 g3
  have hpn : RN W4 (w.heap.size + 1) s 0 (.slice none 0 0) [] false := ⟨by rw [hW4, ← hs3, hS]; exact heap_alloc_new _ _, World.ownsRow_nil _ _ _ _⟩
  have hbw := Below.next hb3 hb4
  have hnode := rnode20_p s hs (w.heap.size + 1) (s.length + 1) 0 [] false (.slice none 0 0) W4 (by omega) (Nat.zero_le _) (by simp; omega) hpn
  have HND := Lib.hid hnode
  have HG4 := Lib.hid g4
  have HBW := Lib.hid hbw
  have HSL : Hid (S.size = s.length) := hSz
  clear hnode hpn hbw g4 g3 hb4 hb3 hSz
  rw [hS]
  go_enter Tryd.func17, Tryd.ntmps17
  go_wp2_with fail
  rw [← hW3, ← hW4]
  with_reducible refine HND.out.mono ?_
  rintro e w6 ⟨r, v6, ns6, bad, z, hk6, hp6, hle, hsz, rfl, _, hres⟩
  have hres := hres rfl
  rw [List.drop_zero] at hres
  have hg6 : w6.heap[w.heap.size]? = some (.cells #[.slice none 0 0, .int .i64 0] 33 (0, 0)) := (hk6.bel.block _ (by omega)).trans HG4.out
  have HG6 := Lib.hid hg6
  have t0 := cell_of_row _ _ 0 _ _ _ hg6
  have t1 := cell_of_row _ _ 1 _ _ _ hg6
  have z0 := frozen_row hg6 0
  have z1 := frozen_row hg6 1
  have HB6 := Lib.hid (HBW.out.trans (hk6.bel.mono (by omega)))
  obtain ⟨a6, c6, rfl, hr6⟩ := rdK_of_row hp6.row
  have q1 := cell_of_row _ _ 1 _ _ _ hp6.blk
  have q2 := cell_of_row _ _ 2 _ _ _ hp6.blk
  have q3 := cell_of_row _ _ 3 _ _ _ hp6.blk
  have HP6 := Lib.hid hp6
  have hln : ns6.length ≤ 1000 := by simp at hsz; omega
  have HLE := Lib.hid hle
  clear hk6 hg6 hp6 HND hW3 hW4 HG4 hsz
  have hbad : R = (⟨[], 0⟩, 2) ∨ (bad = false ∧ r = s.length ∧ R = (⟨ns6, z⟩, 0)) := by
    cases bad with
    | true => exact .inl (HR.out.symm.trans (parC_none (hres.2 rfl)))
    | false =>
      obtain ⟨g1, g2⟩ := hres.1 rfl
      by_cases hr0 : r = s.length
      · refine .inr ⟨rfl, hr0, ?_⟩
        rw [hr0, List.drop_length] at g1
        rw [g2]
        exact HR.out.symm.trans (parC_hit g1 (by omega))
      · exact .inl (HR.out.symm.trans (parC_rest g1 (fun e => hr0 (by have := congrArg List.length e; rw [List.length_drop] at this; simp at this; omega))))
  by_cases hok : bad = false ∧ r = s.length
  · obtain ⟨rfl, rfl⟩ := hok
    obtain ⟨g1, g2⟩ := hres.1 rfl
    rw [List.drop_length] at g1
    subst g2
    have HPV : Hid (R = (⟨ns6, ((ns6.length - 1 : Nat) : Int)⟩, 0)) := Lib.hid (HR.out.symm.trans (parC_hit g1 (by omega)))
    clear g1
    obtain ⟨z, hz⟩ : ∃ z : Int, ((ns6.length - 1 : Nat) : Int) = z := ⟨_, rfl⟩
    rw [hz] at HPV ⊢
    clear hz
    have d1 : decide ((8191 : Int) < (ns6.length : Int)) = false := decide_eq_false (by omega)
    have e1 : (((s.length : Nat) : Int) != ((S.size : Nat) : Int)) = false := by rw [HSL.out]; simp
    have HR6 := Lib.hid hr6
    obtain ⟨m6, hm6⟩ : ∃ m, ns6.length = m := ⟨_, rfl⟩
    have HM := Lib.hid hm6
    obtain ⟨sl, hsl⟩ : ∃ sl, s.length = sl := ⟨_, rfl⟩
    rw [hm6] at q2 d1
    rw [hsl] at q1 e1
    clear hbad hres hr6 hm6 hsl
    go_wp2_with fail
    clear t0 t1 z0 z1
    generalize hWF : (w6.setCell _ _).setCell _ _ = WF
    have e1 : WF.heap[w.heap.size]? = some (.cells #[.slice a6 m6 c6, .int .i64 z] 33 (0, 0)) := by
      rw [← hWF]; exact heap_set_at (heap_set_at HG6.out 0 _) 1 _
    have HBF : Hid (Below w.heap.size w WF) := Lib.hid (by
      rw [← hWF]
      exact (HB6.out.setCell (p := ⟨w.heap.size, 0, none⟩) (Nat.le_refl _) _).setCell (p := ⟨w.heap.size, 1, none⟩) (Nat.le_refl _) _)
    have hrow : WF.ownsRow (w.heap.size + 1 + 1) 39 3 (.slice a6 ns6.length c6) ns6.length (ns6.flatMap choC) := by
      rw [← hWF]
      refine rowK_at HP6.out.row fun g hg => ?_
      have hgl := (HP6.out.row.lt g hg).1
      rw [Below.heap_setCell _ _ _ _ (by show g ≠ w.heap.size; omega), Below.heap_setCell _ _ _ _ (by show g ≠ w.heap.size; omega)]
    obtain ⟨a', c', hv, hr'⟩ := rdK_of_row hrow
    cases hv
    have f0 := cell_of_row _ _ 0 _ _ _ e1
    have f1 := cell_of_row _ _ 1 _ _ _ e1
    have hR2 := HPV.out
    have hm := HM.out
    clear hWF e1 hrow
    subst hR2
    subst hm
    refine bodyPost_ret (v := .tuple #[.agg #[.slice a6 ns6.length c6, .int .i64 z], .int .i64 0]) ?_ rfl ⟨a6, c6, rfl, hr', HBF.out⟩
    rw [results_cell_tmp rfl]
    go_simp
  · have HPV : Hid (R = (⟨[], 0⟩, 2)) := Lib.hid (by
      rcases hbad with h | h
      · exact h
      · exact absurd ⟨h.1, h.2.1⟩ hok)
    have hcase : bad = true ∨ (bad = false ∧ (((r : Nat) : Int) != ((S.size : Nat) : Int)) = true) := by
      cases bad with
      | true => exact .inl rfl
      | false => exact .inr ⟨rfl, by rw [bne_iff_ne, HSL.out]; intro e; exact hok ⟨rfl, by omega⟩⟩
    clear hbad hres hok hr6
    rcases hcase with rfl | ⟨rfl, e1⟩
    all_goals
      go_wp2_with fail
      clear t0 t1 z0 z1
      generalize hWF : (w6.setCell _ _).setCell _ _ = WF
      have e1 : WF.heap[w.heap.size]? = some (.cells #[.slice none 0 0, .int .i64 0] 33 (0, 0)) := by
        rw [← hWF]; exact heap_set_at (heap_set_at HG6.out 0 _) 1 _
      have HBF : Hid (Below w.heap.size w WF) := Lib.hid (by
        rw [← hWF]
        exact (HB6.out.setCell (p := ⟨w.heap.size, 0, none⟩) (Nat.le_refl _) _).setCell (p := ⟨w.heap.size, 1, none⟩) (Nat.le_refl _) _)
      have f0 := cell_of_row _ _ 0 _ _ _ e1
      have f1 := cell_of_row _ _ 1 _ _ _ e1
      have hR2 := HPV.out
      clear hWF e1
      subst hR2
      refine bodyPost_ret (v := .tuple #[.agg #[.slice none 0 0, .int .i64 0], .int .i64 2]) ?_ rfl ⟨none, 0, rfl, RdK.none_ 3 _, HBF.out⟩
      rw [results_cell_tmp rfl]
      go_simp
end Go.Proofs.YtflpkkebampmfaaDoor
namespace Go.Proofs.YtflpkkebampmfaaDoor
open Go.RowKit Go.Shelf

set_option maxRecDepth 100000 in
set_option maxHeartbeats 2000000 in
theorem same20_c (t : Tre) (a : Option Addr) (n c : Nat) (a2 : Option Addr) (c2 : Nat) (w : World) (h : TM w a n c t.nodes) (h2 : TM w a2 n c2 t.nodes) :
    Calls Tryd.prog 14 #[.agg #[.slice a n c, .int .i64 t.root], .agg #[.slice a2 n c2, .int .i64 t.root]] w fun e w' => e = .returned (.bool true) ∧ Below w.heap.size w w' := by
  have hnl := TM.len h
  have hm := RdK.max h
  have hle := RdK.le h
  have hm2 := RdK.max h2
  have hle2 := RdK.le h2
  unfold maxLen at hm hm2
  obtain ⟨W2, hW2⟩ : ∃ W2, W2 = (w.alloc (.cells #[.slice a n c, .int .i64 t.root] 33)).alloc (.cells #[.slice a2 n c2, .int .i64 t.root] 33) := ⟨_, rfl⟩
  obtain ⟨hb2, hc⟩ := args22 w _ _ _ _ _ _ hW2
  have HB2 := Lib.hid hb2
  have HC := Lib.hid hc
  have H1 := Lib.hid (RdK.below h hb2)
  have H2 := Lib.hid (RdK.below h2 hb2)
  have HN := Lib.hid hnl
  clear h h2 hb2 hc hnl
  go_enter Tryd.func14, Tryd.ntmps14
  go_wp2_with fail
  rw [← hW2]
  clear hW2
  go_loopw [5] (fun i wr => ∃ k : Nat, k ≤ n ∧ i = .int .i64 k ∧ Below W2.heap.size W2 wr) (fun i _ => n - (intOf i).toNat)
  case atStart => exact ⟨0, Nat.zero_le _, rfl, Below.refl _ _⟩
  case round =>
    obtain ⟨k, hk, rfl, hb⟩ := hrel
    obtain ⟨⟨q0, q1⟩, q2, q3⟩ := HC.out wr hb
    by_cases hlt : k < n
    · obtain ⟨x, hx⟩ : ∃ x, t.nodes[k]? = some x := ⟨_, List.getElem?_eq_getElem (by have := HN.out; omega)⟩
      obtain ⟨b, o, ha, hat⟩ := TM.at3 (RdK.below H1.out hb) (by omega)
      obtain ⟨b', o', ha', hat'⟩ := TM.at3 (RdK.below H2.out hb) (by omega)
      obtain ⟨m0, m1, m2⟩ := hat k x hx
      obtain ⟨p0, p1, p2⟩ := hat' k x hx
      have HB := Lib.hid hb
      subst ha ha'
      clear hat hat' hx hb
      go_wp2_with fail
      go_quiet (fail)
      go_wp2_with fail
      go_roundw
      case rel => exact ⟨k + 1, by omega, by go_num, below_drewN HB.out⟩
      case measure => simp [intOf]; omega
    · obtain rfl : k = n := by omega
      go_wp2_with fail
      go_ret
      exact ⟨rfl, Below.next HB2.out hb⟩
end Go.Proofs.YtflpkkebampmfaaDoor
namespace Go.Proofs.YtflpkkebampmfaaDoor
open Go.RowKit

inductive IsInts (k : IntKind) (W : World) : Option Addr → Nat → Nat → List Int → Prop
  | nil : IsInts k W none 0 0 []
  | row {a : Addr} {len cap : Nat} {zs : List Int} (hl : len ≤ cap) (hm : cap ≤ maxLen) (hz : zs.length = cap)
      (hcell : ∀ i, i < zs.length → W.cell? (a.add i) = some (.int k (zs.getD i 0))) (hwz : ∀ n ∈ zs, (Lit.int k n).wf = true) : IsInts k W (some a) len cap (zs.take len)

theorem IsInts.rd {k : IntKind} {W : World} {a : Option Addr} {n c : Nat} {l : List Int} (h : IsInts k W a n c l) : Rd W a n c (l.map (Value.int k)) := by
  cases h with
  | nil => exact Rd.none_ W
  | @row a len cap zs hl hm hz hcell hwz =>
    refine ⟨by simp; omega, hl, hm, fun h => (by cases h), fun hn => ?_⟩
    have h0 := hcell 0 (by omega)
    have ha : a = ⟨a.block, a.off, none⟩ := by
      have : a.add 0 = a := by simp [Addr.add]
      rw [this] at h0
      unfold World.cell? at h0
      cases hs : a.spot with
      | none => cases a; simp_all
      | some s => rw [hs] at h0; split at h0 <;> simp at h0
    refine ⟨a.block, a.off, by rw [← ha], fun i v hv => ?_⟩
    have hi := (List.getElem?_eq_some_iff.1 hv).1
    have hi : i < n ∧ i < zs.length := by simp at hi; omega
    have h1 := hcell i (by omega)
    rw [ha] at h1
    rw [Addr.add_lit] at h1
    rw [h1]
    rw [List.getElem?_map, List.getElem?_take_of_lt hi.1, List.getElem?_eq_getElem hi.2] at hv
    simp at hv
    simp [List.getD, List.getElem?_eq_getElem hi.2, hv]
theorem IsInts.wf {k : IntKind} {W : World} {a : Option Addr} {n c : Nat} {l : List Int} (h : IsInts k W a n c l) : ∀ z ∈ l, (Lit.int k z).wf = true := by
  cases h with
  | nil => intro z hz; cases hz
  | row hl hm hz hcell hwz => exact fun z hz => hwz z (List.mem_of_mem_take hz)
theorem IsInts.len {k : IntKind} {W : World} {a : Option Addr} {n c : Nat} {l : List Int} (h : IsInts k W a n c l) : l.length = n := by
  cases h with
  | nil => rfl
  | row hl hm hz hcell hwz => simp; omega
end Go.Proofs.YtflpkkebampmfaaDoor
namespace Go.Proofs.YtflpkkebampmfaaDoor
open Go.RowKit Go.Shelf

set_option maxRecDepth 100000 in
set_option maxHeartbeats 4000000 in
theorem parse_w (s : ByteArray) (w : World) (ht : HasTab w) (hr : HasRng w) (hy : HasSyn w) (w0 : s.size ≤ maxLen) :
    Calls Tryd.prog 4 #[.string s] w fun e w' => e = .returned (.bool true) ∧ Below w.heap.size w w' := by
  have HA := Lib.hid (fun u (hb : Below w.heap.size w u) => awake20_c u (ht.below hb) (hr.below hb) (hy.below hb))
  have HE := Lib.hid (fun u (hb : Below w.heap.size w u) => And.intro (hr.below hb) (hy.below hb))
  clear ht hr hy
  by_cases h1 : (1000 : Int) < (s.size : Int)
  · have d1 : decide ((1000 : Int) < (s.size : Int)) = true := decide_eq_true h1
    clear h1
    go_enter Tryd.func4, Tryd.ntmps4
    go_wp2_with fail
    with_reducible refine (HA.out w (Below.refl _ _)).mono ?_
    rintro e w1 ⟨rfl, b1⟩
    go_wp2_with fail
    with_reducible refine (HA.out w1 b1).mono ?_
    rintro e w2 ⟨rfl, b2⟩
    go_wp2_with fail
    go_ret
    exact ⟨rfl, Below.next b1 b2⟩
  have d1 : decide ((1000 : Int) < (s.size : Int)) = false := decide_eq_false h1
  have hl : s.data.toList.length ≤ 1000 := by
    have h2 := mkB_size s.data.toList
    rw [mkB_of] at h2
    omega
  have HP := Lib.hid (fun u (hb : Below w.heap.size w u) => parse_c s.data.toList hl u (HE.out u hb).1 (HE.out u hb).2)
  have HQ := Lib.hid (fun u => rparse_c s.data.toList hl u)
  rw [mkB_of] at HP HQ
  obtain ⟨⟨⟨nodes, root⟩, er⟩, hR⟩ : ∃ R, parC s.data.toList = R := ⟨_, rfl⟩
  rw [hR] at HP HQ
  unfold treV at HP HQ
  simp only at HP HQ
  have HS := Lib.hid (fun a n c a2 c2 u h h2 => same20_c ⟨nodes, root⟩ a n c a2 c2 u h h2)
  simp only at HS
  obtain ⟨m, hm⟩ : ∃ m, nodes.length = m := ⟨_, rfl⟩
  rw [hm] at HP HQ
  have he : (er == er) = true := by simp
  clear h1 hl hR hm w0
  go_enter Tryd.func4, Tryd.ntmps4
  go_wp2_with fail
  with_reducible refine (HA.out w (Below.refl _ _)).mono ?_
  rintro e w1 ⟨rfl, b1⟩
  have HB1 := Lib.hid b1
  clear b1
  go_wp2_with fail
  with_reducible refine (HP.out w1 HB1.out).mono ?_
  rintro e w2 ⟨a2, c2, rfl, hm2, b2⟩
  have HM2 := Lib.hid hm2
  have HB2 := Lib.hid (Below.next HB1.out b2)
  clear hm2 b2
  go_wp2_with fail
  obtain ⟨W3, hW3⟩ : ∃ W3, W3 = w2.alloc (.cells #[.slice a2 m c2, .int .i64 root] 33) := ⟨_, rfl⟩
  rw [← hW3]
  have hb3 : Below w2.heap.size w2 W3 := by rw [hW3]; exact (Below.refl _ _).alloc (Nat.le_refl _) _
  have g3 : W3.heap[w2.heap.size]? = some (.cells #[.slice a2 m c2, .int .i64 root] 33 (0, 0)) := by rw [hW3]; exact heap_alloc_new _ _
  have HG3 := Lib.hid g3
  have HM3 := Lib.hid (RdK.below HM2.out hb3)
  have HB3 := Lib.hid (Below.next HB2.out hb3)
  clear hb3 g3 hW3
  with_reducible refine (HQ.out W3).mono ?_
  rintro e w4 ⟨a4, c4, rfl, hm4, b4⟩
  have HM4 := Lib.hid hm4
  have HM34 := Lib.hid (RdK.below HM3.out b4)
  have HG4 := Lib.hid (heap_below b4 HG3.out)
  have HB4 := Lib.hid (Below.next HB3.out b4)
  obtain ⟨W5, hW5⟩ : ∃ W5, W5 = w4.alloc (.cells #[.slice a4 m c4, .int .i64 root] 33) := ⟨_, rfl⟩
  have hb5 : Below w4.heap.size w4 W5 := by rw [hW5]; exact (Below.refl _ _).alloc (Nat.le_refl _) _
  have g5 : W5.heap[w4.heap.size]? = some (.cells #[.slice a4 m c4, .int .i64 root] 33 (0, 0)) := by rw [hW5]; exact heap_alloc_new _ _
  have g35 := heap_below hb5 HG4.out
  have t0 := cell_of_row _ _ 0 _ _ _ g35
  have t1 := cell_of_row _ _ 1 _ _ _ g35
  rw [hW5] at t0 t1
  have HM5 := Lib.hid (RdK.below HM34.out hb5)
  have HM45 := Lib.hid (RdK.below HM4.out hb5)
  have HB5 := Lib.hid (Below.next HB4.out hb5)
  have HW5 := Lib.hid hW5
  clear hm4 b4 hb5 g5 g35 hW5
  go_wp2_with fail
  rw [← HW5.out]
  with_reducible refine (HS.out a2 m c2 a4 c4 W5 HM5.out HM45.out).mono ?_
  rintro e w6 ⟨rfl, b6⟩
  go_wp2_with fail
  go_ret
  exact ⟨rfl, Below.next HB5.out b6⟩
end Go.Proofs.YtflpkkebampmfaaDoor
