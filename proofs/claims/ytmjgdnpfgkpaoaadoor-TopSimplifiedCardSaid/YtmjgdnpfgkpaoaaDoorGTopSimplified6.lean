/- Texts laid together. The reference's Made of layer 10. A region that draws its order: some operations that only read are taken first; the rest is walked by hand. Over any program. expr.write: the nodes of a tree in postorder. -/
import Derived.Test.YtmjgdnpfgkpaoaaDoorGTopSimplified1
import Derived.Test.YtmjgdnpfgkpaoaaDoorGTopSimplified4
import Derived.Test.YtmjgdnpfgkpaoaaDoorGTopSimplified5
import Derived.Deep.RegionHeld3
import Derived.Deep.AppendLies
import Derived.Deep.RegionLaw
import Derived.OrdersHeld
import Derived.Deep.RegionHeld
namespace Go.Proofs.YtmjgdnpfgkpaoaaDoor
open Go.RowKit Go.Shelf

theorem Tryd.infoNod : (Tryd.prog.info? 58).map (fun i => (i.zero, i.size, i.bytes)) = some (some (.agg #[.int .i64 0, .int .i64 0, .int .i64 0, .slice none 0 0, .slice none 0 0]), 5, 72) := by kernel_rfl

theorem w4_val (z : Int) (h : 0 ≤ z ∧ z < 256) : IntKind.i64.wrap (1 + IntKind.i64.wrap ((IntKind.u8.wrap (z.tdiv 16)).tmod 4)) = 1 + z / 16 % 4 := by
  obtain ⟨n, rfl⟩ := Int.eq_ofNat_of_zero_le h.1
  have key : ∀ n : Fin 256, IntKind.i64.wrap (1 + IntKind.i64.wrap ((IntKind.u8.wrap ((n.val : Int).tdiv 16)).tmod 4)) = 1 + (n.val : Int) / 16 % 4 := by decide +kernel
  exact key ⟨n, by omega⟩

theorem fin_heap {w : World} {R X : Nat} {p q : Value} {t : TypeId} (hX : R ≠ X) (h : w.heap[R]? = some (.cells #[p, q] t (0, 0))) (x y u : Value) : (((w.setCell ⟨X, 1, none⟩ x).setCell ⟨R, 0, none⟩ y).setCell ⟨R, 1, none⟩ u).heap[R]? = some (.cells #[y, u] t (0, 0)) := by
  have h1 := (Below.heap_setCell w ⟨X, 1, none⟩ x R hX).trans h
  have h2 : ((w.setCell ⟨X, 1, none⟩ x).setCell ⟨R, 0, none⟩ y).heap[R]? = some (.cells #[y, q] t (0, 0)) := by rw [heap_set_at h1]; rfl
  rw [heap_set_at h2]; rfl
theorem fin_other {w : World} {G R X : Nat} {o : Obj} (hX : G ≠ X) (hR : G ≠ R) (h : w.heap[G]? = some o) (x y u : Value) : (((w.setCell ⟨X, 1, none⟩ x).setCell ⟨R, 0, none⟩ y).setCell ⟨R, 1, none⟩ u).heap[G]? = some o :=
  (Below.heap_setCell _ ⟨R, 1, none⟩ _ G hR).trans ((Below.heap_setCell _ ⟨R, 0, none⟩ _ G hR).trans ((Below.heap_setCell _ ⟨X, 1, none⟩ _ G hX).trans h))
theorem srv_xm {w : World} {G : Nat} {t : TypeId} {fr : Nat × Nat} (h : w.heap[G]? = some (.cells #[.int .i64 1, .int .i64 0, .int .i64 0, .slice none 0 0, .slice none 0 0] t fr)) : XM w (some ⟨G, 0, none⟩) 1 1 [srv0] := by
  refine XM.of_rdK (V := [⟨1, 0, 0, .slice none 0 0, .slice none 0 0⟩]) ⟨rfl, Nat.le_refl _, by unfold maxLen; omega, fun h => (by cases h), fun _ => ⟨_, _, rfl, fun i v hv => ?_⟩⟩ rfl ?_
  · rw [Nat.zero_add]
    exact (cell_of_row _ _ i _ _ _ h).trans (by simpa [nodVC] using hv)
  · intro i p nd hp hn
    match i, hp, hn with
    | 0, hp, hn => cases hp; cases hn; exact ⟨rfl, rfl, rfl, ⟨none, 0, 0, rfl, Rd.none_ _⟩, ⟨none, 0, 0, rfl, Rd.none_ _⟩⟩

set_option maxRecDepth 100000 in
set_option maxHeartbeats 8000000 in
theorem made_r (ps : List Pce) (hok : ∀ p ∈ ps, p.ok) (a : Option Addr) (n c : Nat) (w : World) (h : PM w a n c ps) :
    Calls Tryd.prog 5 #[.agg #[.slice a n c]] w fun e w' => ∃ a' c', e = .returned (.agg #[.slice a' (madX ps).nodes.length c', .int .i64 (madX ps).root]) ∧ XMR w.heap.size w'.heap.size w' a' (madX ps).nodes.length c' (madX ps).nodes ∧ Below w.heap.size w w' := by
  have hle := h.le
  have hm := h.max
  unfold maxLen at hm
  have HN := Lib.hid h.len
  have HPM := Lib.hid h
  have HOK := Lib.hid hok
  clear h hok
  go_enter Tryd.func5, Tryd.ntmps5
  go_wp2_with fail
  generalize hWS : ((w.alloc _).alloc _).alloc _ = WS
  have hS : WS.heap.size = w.heap.size + 3 := by rw [← hWS]; simp
  have hbS : Below w.heap.size w WS := by rw [← hWS]; exact (((Below.refl _ w).alloc (Nat.le_refl _) _).alloc (by simp) _).alloc (by simp; omega) _
  have gD : WS.heap[w.heap.size]? = some (.cells #[.slice a n c] 24 (0, 0)) := by
    rw [← hWS]; exact heap_alloc_at (heap_alloc_at (heap_alloc_new _ _) _) _
  have gR : WS.heap[w.heap.size + 1]? = some (.cells #[.slice none 0 0, .int .i64 0] 28 (0, 0)) := by
    rw [← hWS]
    have := heap_alloc_new (w.alloc (Obj.cells #[.slice a n c] 24)) (.cells #[.slice none 0 0, .int .i64 0] 28)
    rw [World.size_alloc] at this
    exact heap_alloc_at this _
  have gX : WS.heap[w.heap.size + 1 + 1]? = some (.cells #[.slice none 0 0, .int .i64 0] 28 (0, 0)) := by
    rw [← hWS]
    have := heap_alloc_new ((w.alloc (Obj.cells #[.slice a n c] 24)).alloc (.cells #[.slice none 0 0, .int .i64 0] 28)) (.cells #[.slice none 0 0, .int .i64 0] 28)
    rw [World.size_alloc, World.size_alloc] at this; exact this
  have HGD := Lib.hid gD
  have HGR := Lib.hid gR
  have HGX := Lib.hid gX
  have HBS := Lib.hid hbS
  have HSS := Lib.hid hS
  clear hWS gD gR gX hbS hS
  go_loopw [4] (fun i wr => ∃ k v, k ≤ mad9 ps ∧ i = .int .i64 ((k : Nat) : Int) ∧ wr.heap[w.heap.size + 1 + 1]? = some (.cells #[v, .int .i64 0] 28 (0, 0)) ∧ XW wr (w.heap.size + 1 + 1) v 58 (madT ps k) ∧ Below (w.heap.size + 1 + 1) WS wr) (fun i _ => mad9 ps - (intOf i).toNat)
  case atStart => exact ⟨0, _, Nat.zero_le _, rfl, HGX.out, XW.nil _ _ _, Below.refl _ _⟩
  case round =>
    obtain ⟨k, v, hk, rfl, hX, hxw, hb⟩ := hrel
    have hD := (hb.block w.heap.size (by omega)).trans HGD.out
    have qD := cell_of_row _ _ 0 _ _ _ hD
    by_cases hlt : k < mad9 ps
    · have h9 : k < 9 ∧ k < n := by unfold mad9 at hlt; have := HN.out; omega
      obtain ⟨p, hp⟩ : ∃ p, ps[k]? = some p := ⟨_, List.getElem?_eq_getElem (by have := HN.out; omega)⟩
      obtain ⟨hpk, hpz⟩ := HOK.out p (List.mem_of_getElem? hp)
      have hbw : Below w.heap.size w wr := HBS.out.trans (hb.mono (by omega))
      obtain ⟨b, o, ha, hat⟩ := (HPM.out.below hbw).at' (by omega)
      have hM := hat k p hp
      obtain ⟨a4, n4, c4, m4, r4⟩ := hM.ks
      have m0 := hM.c0
      have m1 := hM.c1
      have m2 := hM.c2
      have m3 := hM.c3
      have HTS : Hid (madT ps (k + 1) = madT ps k ++ [madN p k]) := Lib.hid (by rw [madT_succ, List.getD_eq_getElem?_getD, hp]; rfl)
      subst ha
      obtain ⟨kind, server, need, heavy, kids⟩ := p
      simp only at m0 m1 m2 m3 hpk hpz
      have R4 := Lib.hid r4
      have HB := Lib.hid hb
      have HX := Lib.hid hX
      have HXW := Lib.hid hxw
      have HPZ := Lib.hid hpz
      clear hM hat hp r4 hb hX hxw hbw hpz
      obtain ⟨hpk1, hpk2, hpk3⟩ := hpk
      have hd1 : decide ((k : Int) < (n : Int)) = true := decide_eq_true (by omega)
      have hd2 : decide ((k : Int) < 9) = true := decide_eq_true (by omega)
      by_cases hsv : k = 0 ∨ kind % 3 = 0
      · have hmn : madN ⟨kind, server, need, heavy, kids⟩ k = ⟨1, server % 6, 0, [], []⟩ := by unfold madN; rw [if_pos hsv]
        rw [hmn] at HTS
        have hsm : IntKind.i64.wrap (server % 6) = server % 6 := by unfold IntKind.wrap; simp [IntKind.bits, IntKind.signed]; omega
        have HSM := Lib.hid hsm
        obtain ⟨z, hz⟩ : ∃ z, z = wr.alloc (.cells #[.int .u8 kind, .int .u8 server, .int .u8 need, .bool heavy, .slice a4 n4 c4] 55) := ⟨_, rfl⟩
        have hbz : Below wr.heap.size wr z := by rw [hz]; exact (Below.refl _ _).alloc (Nat.le_refl _) _
        have gX := heap_below hbz HX.out
        have hxw := HXW.out.below hbz
        have hp : NodC z (w.heap.size + 1 + 1) v ⟨1, server % 6, 0, .slice none 0 0, .slice none 0 0⟩ ⟨1, server % 6, 0, [], []⟩ := by exact NodC.srv _ _ _ _ _
        have hsel : (k = 0 ∧ ((k : Int) == 0) = true) ∨ (((k : Int) == 0) = false ∧ (kind % 3 == 0) = true) := by
          by_cases h0 : k = 0
          · exact .inl ⟨h0, by subst h0; rfl⟩
          · have h3 : kind % 3 = 0 := hsv.resolve_left h0
            exact .inr ⟨by rw [beq_eq_false_iff_ne]; omega, by rw [h3]; rfl⟩
        obtain ⟨V', hV1, hV2, hV3⟩ := hxw.row
        rw [madT_len] at hV2
        obtain ⟨av, cv, rfl, _⟩ := rdK_of_row hV2
        have x0 := cell_of_row _ _ 0 _ _ _ gX
        have HGX2 := Lib.hid gX
        have hXl : w.heap.size + 1 + 1 < z.heap.size := (Array.getElem?_eq_some_iff.1 gX).1
        have HP := Lib.hid hp
        have HV1 := Lib.hid hV1
        have HV3 := Lib.hid hV3
        have HBZ := Lib.hid hbz
        rw [hz] at x0
        have HZS : Hid (z.heap.size = wr.heap.size + 1) := Lib.hid (by rw [hz]; simp)
        have HZ := Lib.hid hz
        clear gX hbz hxw hp hV1 hV3 hmn hsm hsv hz
        have hkk := hk
        rcases hsel with ⟨h0, e1⟩ | ⟨e1, e2⟩
        all_goals try (subst h0; clear e1; simp only [Nat.zero_mul, Nat.add_zero] at m0 m1 m2 m3 m4)
        all_goals
          go_wp2_with (at_builtin; rw [← HZ.out, ← HZS.out]; go_must (refine wpList_appK2 5 _ _ 26 72 (.agg #[.int .i64 0, .int .i64 0, .int .i64 0, .slice none 0 0, .slice none 0 0]) (nodVC ⟨1, server % 6, 0, .slice none 0 0, .slice none 0 0⟩) _ Tryd.underlying26 Tryd.infoNod rfl (by decide) hV2 (Below.refl (w.heap.size + 1 + 1 + 1) z) hXl rfl rfl rfl rfl rfl (by intro u hu; unfold nodVC at hu; simp at hu; rcases hu with rfl | rfl | rfl | rfl | rfl <;> rfl) (by unfold maxLen; omega) (by omega) ?_))
          intro v' w4 hown4 hb4 hg4 hs4 hv4
          obtain ⟨a5, c5, rfl, _⟩ := rdK_of_row hown4
          have hX4 := (hg4.block (w.heap.size + 1 + 1) hXl (fun e => by have := (hV2.lt _ e.symm).1; omega)).trans HGX2.out
          have p0 := cell_of_row _ _ 0 _ _ _ hX4
          have z0 := frozen_row hX4 0
          have HO4 := Lib.hid hown4
          have HG4 := Lib.hid hg4
          have HB4 := Lib.hid hb4
          have HVV4 := Lib.hid hv4
          have HX4 := Lib.hid hX4
          clear hown4 hb4 hg4 hs4 hv4 hX4 x0
          go_wp2_with fail
          go_roundw
          case rel => first | exact ⟨k + 1, .slice a5 (k + 1) c5, by omega, by go_num, by rw [heap_set_at HX4.out]; rfl, by rw [HTS.out]; exact (XW.push HV1.out HV3.out (by rw [madT_len]; exact HO4.out) HP.out HG4.out HVV4.out).set 0 _, ((HB.out.trans (HBZ.out.mono (by have := (Array.getElem?_eq_some_iff.1 HX.out).1; omega))).trans (HB4.out.mono (Nat.le_succ _))).setCell (p := ⟨w.heap.size + 1 + 1, 0, none⟩) (Nat.le_refl _) _⟩ | exact ⟨0 + 1, .slice a5 (0 + 1) c5, by omega, by go_num, by rw [heap_set_at HX4.out]; rfl, by rw [HTS.out]; exact (XW.push HV1.out HV3.out (by rw [madT_len]; exact HO4.out) HP.out HG4.out HVV4.out).set 0 _, ((HB.out.trans (HBZ.out.mono (by have := (Array.getElem?_eq_some_iff.1 HX.out).1; omega))).trans (HB4.out.mono (Nat.le_succ _))).setCell (p := ⟨w.heap.size + 1 + 1, 0, none⟩) (Nat.le_refl _) _⟩
          case measure => simp [intOf] <;> omega
      · have hk0 : ¬ k = 0 := fun e => hsv (.inl e)
        have hk3 : ¬ kind % 3 = 0 := fun e => hsv (.inr e)
        have e1 : ((k : Int) == 0) = false := by rw [beq_eq_false_iff_ne]; omega
        have e2 : (kind % 3 == 0) = false := by simpa using hk3
        have hmk : mk5 ⟨kind, server, need, heavy, kids⟩ ≤ 5 ∧ mk5 ⟨kind, server, need, heavy, kids⟩ ≤ n4 := by
          have h1 := R4.out.len
          simp at h1
          unfold mk5; simp only; omega
        have hmk2 : ∀ j, j < n4 → j < 5 → j < mk5 ⟨kind, server, need, heavy, kids⟩ := fun j h1 h2 => by
          have h3 := R4.out.len
          simp at h3
          unfold mk5; simp only; omega
        have HMK := Lib.hid hmk
        have HMK2 := Lib.hid hmk2
        clear hmk hmk2
        go_wp2_with fail
        generalize hW2 : (wr.alloc _).alloc _ = W2
        have gP : W2.heap[wr.heap.size]? = some (.cells #[.int .u8 kind, .int .u8 server, .int .u8 need, .bool heavy, .slice a4 n4 c4] 55 (0, 0)) := by rw [← hW2]; exact heap_alloc_at (heap_alloc_new _ _) _
        have gN : W2.heap[wr.heap.size + 1]? = some (.cells #[.int .i64 2, .int .i64 0, .int .i64 0, .slice none 0 0, .slice none 0 0] 58 (0, 0)) := by
          rw [← hW2]
          have := heap_alloc_new (wr.alloc (Obj.cells #[.int .u8 kind, .int .u8 server, .int .u8 need, .bool heavy, .slice a4 n4 c4] 55)) (.cells #[.int .i64 2, .int .i64 0, .int .i64 0, .slice none 0 0, .slice none 0 0] 58)
          rw [World.size_alloc] at this; exact this
        have hb2 : Below wr.heap.size wr W2 := by rw [← hW2]; exact ((Below.refl _ _).alloc (Nat.le_refl _) _).alloc (by simp) _
        have hs2 : W2.heap.size = wr.heap.size + 2 := by rw [← hW2]; simp
        have GP := Lib.hid gP
        have GN := Lib.hid gN
        have HB2 := Lib.hid hb2
        have HS2 := Lib.hid hs2
        have R42 := Lib.hid (R4.out.below hb2)
        clear hW2 gP gN hb2 hs2
        obtain ⟨W0, hW0⟩ : ∃ W0, W0 = wr := ⟨_, rfl⟩
        subst hW0
        go_loopw [7] (fun i wq => ∃ j wv kv, j ≤ mk5 ⟨kind, server, need, heavy, kids⟩ ∧ i = .int .i64 ((j : Nat) : Int) ∧ wq.heap[W0.heap.size + 1]? = some (.cells #[.int .i64 2, .int .i64 0, .int .i64 0, wv, kv] 58 (0, 0)) ∧ wq.ownsRow (W0.heap.size + 1 + 1) 3 1 wv (mwtTo ⟨kind, server, need, heavy, kids⟩ j).length ((mwtTo ⟨kind, server, need, heavy, kids⟩ j).map (Value.int .i64)) ∧ wq.ownsRow (W0.heap.size + 1 + 1) 3 1 kv j ((mkdTo ⟨kind, server, need, heavy, kids⟩ k j).map (Value.int .i64)) ∧ (∀ g, wv.ownBlock = some g → kv.ownBlock ≠ some g) ∧ Below (W0.heap.size + 1) W2 wq) (fun i _ => mk5 ⟨kind, server, need, heavy, kids⟩ - (intOf i).toNat)
        case atStart => exact ⟨0, _, _, Nat.zero_le _, rfl, GN.out, by unfold mwtTo; simp; exact World.ownsRow_nil _ _ _ _, by unfold mkdTo; simp; exact World.ownsRow_nil _ _ _ _, fun g hg => (by cases hg), Below.refl _ _⟩
        case round =>
          obtain ⟨j, wv, kv, hj, rfl, hbk, hrw, hrk, hdis, hbq⟩ := hrel
          have hP := (hbq.block W0.heap.size (by omega)).trans GP.out
          have q2 := cell_of_row _ _ 2 _ _ _ hP
          have q3 := cell_of_row _ _ 3 _ _ _ hP
          have q4 := cell_of_row _ _ 4 _ _ _ hP
          by_cases hltj : j < mk5 ⟨kind, server, need, heavy, kids⟩
          · have hmk := HMK.out
            obtain ⟨z, hz⟩ : ∃ z, kids[j]? = some z := ⟨_, List.getElem?_eq_getElem (by have h1 := R4.out.len; simp at h1; omega)⟩
            have hzr := HPZ.out z (List.mem_of_getElem? hz)
            have t1 : decide ((j : Int) < (n4 : Int)) = true := decide_eq_true (by omega)
            have t2 : decide ((j : Int) < 5) = true := decide_eq_true (by omega)
            obtain ⟨b4, o4, ha4, hcell4⟩ := (R4.out).at' (by omega)
            have hc40 := hcell4 j (.int .u8 z) (by rw [List.getElem?_map, hz]; rfl)
            have hb4lt : b4 < W0.heap.size := cell_lt hc40
            have KC4 : Hid (∀ u : World, Below (W0.heap.size + 1) W2 u → u.cell? ⟨b4, o4 + j, none⟩ = some (.int .u8 z)) := Lib.hid (fun u hu => by
              rw [World.cell?_of_block (w := W2) (w' := u) (a := ⟨b4, o4 + j, none⟩) (hu.block _ (by show b4 < W0.heap.size + 1; omega))]
              exact cell_keep HB2.out hc40)
            have hc4 := KC4.out wr hbq
            obtain ⟨ak, ck, rfl, _⟩ := rd_of_row hrk
            have HBK := Lib.hid hbk
            have HRK := Lib.hid hrk
            have HRW := Lib.hid hrw
            have HDIS := Lib.hid hdis
            have HBQ := Lib.hid hbq
            have HKS := Lib.hid (mkdTo_succ (p := ⟨kind, server, need, heavy, kids⟩) (i := k) hz)
            have HWSS := Lib.hid (fun hh => mwtTo_succ (p := ⟨kind, server, need, heavy, kids⟩) hz hh)
            subst ha4
            clear hcell4 hz hbk hrw hrk hdis hbq hP
            have HVAL : Hid ((IntKind.i64.wrap z).tmod (k : Int) = z % (k : Int)) := Lib.hid (by
              rw [show IntKind.i64.wrap z = z by unfold IntKind.wrap; simp [IntKind.bits, IntKind.signed]; omega, Int.tmod_eq_emod_of_nonneg (by omega)])
            clear hc40 hb4lt
            have p4 := cell_of_row _ _ 4 _ _ _ HBK.out
            have z4 := frozen_row HBK.out 4
            have p4b : (wr.alloc (Obj.cells #[.int .i64 ((IntKind.i64.wrap z).tmod (k : Int))] 3)).cell? ⟨W0.heap.size + 1, 4, none⟩ = some (.slice ak j ck) := cell_of_row _ _ 4 _ _ _ (heap_alloc_at HBK.out _)
            have hNn : W0.heap.size + 1 < wr.heap.size := (Array.getElem?_eq_some_iff.1 HBK.out).1
            have KA : Hid (∀ x y : World, x.grownBy y (Value.slice ak j ck).ownBlock → x.heap[W0.heap.size + 1]? = wr.heap[W0.heap.size + 1]? → wr.heap.size ≤ x.heap.size → y.heap[W0.heap.size + 1]? = some (.cells #[.int .i64 2, .int .i64 0, .int .i64 0, wv, .slice ak j ck] 58 (0, 0))) := Lib.hid (fun x y hg hx hsx => by
              rw [hg.block _ (by omega) (fun e => by have := (HRK.out.lt _ e.symm).1; omega), hx]
              exact HBK.out)
            obtain ⟨ii, hi0, hz0, hz1, hz2⟩ := info_parts Tryd.infoInt
            go_wp2_with fail
            go_region_law (first
              | (refine step_append_lies _ (by rfl) _ _ _ (by rfl) (W0.heap.size + 1 + 1) 3 ii _ 1 8 Tryd.underlying56 hi0 hz0 hz1 hz2 rfl (by omega) (.slice ak j ck) j _ (by rfl) ((HRK.out.alloc _).drew) ⟨wr.heap.size, 0, none⟩ 1 1 [.int .i64 ((IntKind.i64.wrap z).tmod (k : Int))] (by rfl) (by rfl) (World.news_of_block (cs := #[.int .i64 ((IntKind.i64.wrap z).tmod (k : Int))]) (t := 3) (fr := (0, 0)) (heap_alloc_new wr _)) (by simp [Value.oneCell']) (by omega) (by unfold maxLen; omega) (by omega) (by simp; omega) (wr.heap.size + 1) (by simp) ?_; intro gg cap wA hownA hgrow hat hlt; have hA := KA.out _ _ hgrow (Below.heap_alloc wr _ _ (by omega)) (by simp); have pA := cell_of_row _ _ 4 _ _ _ hA; have zA := frozen_row hA 4; have HA := Lib.hid hA; have HOA := Lib.hid hownA; have HGA := Lib.hid hgrow; have HAT := Lib.hid hat; clear hA hownA hgrow hat p4 z4 p4b))
            all_goals
              generalize hw5 : wA.setCell _ _ = w5
              have hbk5 : w5.heap[W0.heap.size + 1]? = some (.cells #[.int .i64 2, .int .i64 0, .int .i64 0, wv, .slice (some ⟨gg, 0, none⟩) (j + 1) cap] 58 (0, 0)) := by rw [← hw5, heap_set_at HA.out]; rfl
              have hrk5 : w5.ownsRow (W0.heap.size + 1 + 1) 3 1 (.slice (some ⟨gg, 0, none⟩) (j + 1) cap) (j + 1) ((mkdTo ⟨kind, server, need, heavy, kids⟩ k (j + 1)).map (Value.int .i64)) := by
                rw [← hw5, HKS.out, List.map_append]
                have hrow := HOA.out
                rw [HVAL.out] at hrow
                exact rowK_at hrow fun g hg => Below.heap_setCell _ _ _ _ (by have := (hrow.lt g hg).1; show g ≠ W0.heap.size + 1; omega)
              have hrw5 : w5.ownsRow (W0.heap.size + 1 + 1) 3 1 wv (mwtTo ⟨kind, server, need, heavy, kids⟩ j).length ((mwtTo ⟨kind, server, need, heavy, kids⟩ j).map (Value.int .i64)) := rowK_at HRW.out fun g hg => by
                have hgl := HRW.out.lt g hg
                rw [← hw5, Below.heap_setCell _ _ _ _ (by show g ≠ W0.heap.size + 1; omega), HGA.out.block g (by show g < (wr.alloc _).heap.size; simp; omega) (fun e => HDIS.out g hg e.symm)]
                exact Below.heap_alloc wr _ g hgl.2
              have hdis5 : ∀ g, wv.ownBlock = some g → (Value.slice (some ⟨gg, 0, none⟩) (j + 1) cap).ownBlock ≠ some g := fun g hg e => by
                have hgl := (HRW.out.lt g hg).2
                have e2 : gg = g := by simpa [Value.ownBlock] using e
                rcases HAT.out with h1 | h1
                · exact HDIS.out g hg (e2 ▸ h1)
                · omega
              have hbq5 : Below (W0.heap.size + 1) W2 w5 := by
                rw [← hw5]
                exact ((HBQ.out.trans (below_drew ((Below.refl (W0.heap.size + 1) wr).alloc (by omega) _))).grown HGA.out (by show W0.heap.size + 1 ≤ (wr.alloc _).heap.size; simp; omega) (fun g hg => by have := (HRK.out.lt g hg).1; omega)).setCell (p := ⟨W0.heap.size + 1, 4, none⟩) (Nat.le_refl _) _
              have hP5 := (hbq5.block W0.heap.size (by omega)).trans GP.out
              have s3 := cell_of_row _ _ 3 _ _ _ hP5
              have s4 := cell_of_row _ _ 4 _ _ _ hP5
              have hc5 := KC4.out w5 hbq5
              have HBK5 := Lib.hid hbk5
              have HRK5 := Lib.hid hrk5
              have HRW5 := Lib.hid hrw5
              have HDIS5 := Lib.hid hdis5
              have HBQ5 := Lib.hid hbq5
              clear hw5 hbk5 hrk5 hrw5 hdis5 hbq5 hP5 HA HOA HGA HAT pA zA hc4 q2 q3 q4
              cases heavy with
              | false =>
                go_wp2_with fail
                go_roundw
                case rel => exact ⟨j + 1, wv, _, by omega, by go_num, HBK5.out, by have := HRW5.out; rw [mwtTo_light _ rfl] at this ⊢; exact this, HRK5.out, HDIS5.out, HBQ5.out⟩
                case measure => simp [intOf] <;> omega
              | true =>
                have hml : ∀ j, j ≤ mk5 ⟨kind, server, need, true, kids⟩ → (mwtTo ⟨kind, server, need, true, kids⟩ j).length = j := fun j hj => by
                  unfold mwtTo; rw [if_pos rfl, List.length_map, List.length_take]; unfold mk5 at hj; simp only at hj ⊢; omega
                have hrw6 := HRW5.out
                rw [hml j (by omega)] at hrw6
                obtain ⟨aw, cw, rfl, _⟩ := rd_of_row hrw6
                have HRW6 := Lib.hid hrw6
                obtain ⟨kv5, hkv5⟩ : ∃ kv5, kv5 = Value.slice (some ⟨gg, 0, none⟩) (j + 1) cap := ⟨_, rfl⟩
                rw [← hkv5] at HBK5 HRK5 HDIS5
                have HBK := Lib.hid HBK5.out
                have HML := Lib.hid (hml (j + 1) (by omega))
                clear hrw6 hml hkv5 HRW HRW5 HRK HDIS HBQ HBK5
                have p4 := cell_of_row _ _ 3 _ _ _ HBK.out
                have z4 := frozen_row HBK.out 3
                have p4b : (w5.alloc (Obj.cells #[.int .i64 (IntKind.i64.wrap (1 + IntKind.i64.wrap ((IntKind.u8.wrap (z.tdiv 16)).tmod 4)))] 3)).cell? ⟨W0.heap.size + 1, 3, none⟩ = some (.slice aw j cw) := cell_of_row _ _ 3 _ _ _ (heap_alloc_at HBK.out _)
                have hNn : W0.heap.size + 1 < w5.heap.size := (Array.getElem?_eq_some_iff.1 HBK.out).1
                have KA : Hid (∀ x y : World, x.grownBy y (Value.slice aw j cw).ownBlock → x.heap[W0.heap.size + 1]? = w5.heap[W0.heap.size + 1]? → w5.heap.size ≤ x.heap.size → y.heap[W0.heap.size + 1]? = some (.cells #[.int .i64 2, .int .i64 0, .int .i64 0, .slice aw j cw, kv5] 58 (0, 0))) := Lib.hid (fun x y hg hx hsx => by
                  rw [hg.block _ (by omega) (fun e => by have := (HRW6.out.lt _ e.symm).1; omega), hx]
                  exact HBK.out)
                obtain ⟨ii, hi0, hz0, hz1, hz2⟩ := info_parts Tryd.infoInt
                go_wp2_with fail
                go_region_law (first
                  | (refine step_append_lies _ (by rfl) _ _ _ (by rfl) (W0.heap.size + 1 + 1) 3 ii _ 1 8 Tryd.underlying56 hi0 hz0 hz1 hz2 rfl (by omega) (.slice aw j cw) j _ (by rfl) ((HRW6.out.alloc _).drew) ⟨w5.heap.size, 0, none⟩ 1 1 [.int .i64 (IntKind.i64.wrap (1 + IntKind.i64.wrap ((IntKind.u8.wrap (z.tdiv 16)).tmod 4)))] (by rfl) (by rfl) (World.news_of_block (cs := #[.int .i64 (IntKind.i64.wrap (1 + IntKind.i64.wrap ((IntKind.u8.wrap (z.tdiv 16)).tmod 4)))]) (t := 3) (fr := (0, 0)) (heap_alloc_new w5 _)) (by simp [Value.oneCell']) (by omega) (by unfold maxLen; omega) (by omega) (by simp; omega) (w5.heap.size + 1) (by simp) ?_; intro gg cap wA hownA hgrow hat hlt; have hA := KA.out _ _ hgrow (Below.heap_alloc w5 _ _ (by omega)) (by simp); have pA := cell_of_row _ _ 3 _ _ _ hA; have zA := frozen_row hA 3; have HA := Lib.hid hA; have HOA := Lib.hid hownA; have HGA := Lib.hid hgrow; have HAT := Lib.hid hat; clear hA hownA hgrow hat p4 z4 p4b))
                all_goals
                  generalize hw7 : wA.setCell _ _ = w7
                  have hbk7 : w7.heap[W0.heap.size + 1]? = some (.cells #[.int .i64 2, .int .i64 0, .int .i64 0, .slice (some ⟨gg, 0, none⟩) (j + 1) cap, kv5] 58 (0, 0)) := by rw [← hw7, heap_set_at HA.out]; rfl
                  have hrw7 : w7.ownsRow (W0.heap.size + 1 + 1) 3 1 (.slice (some ⟨gg, 0, none⟩) (j + 1) cap) (mwtTo ⟨kind, server, need, true, kids⟩ (j + 1)).length ((mwtTo ⟨kind, server, need, true, kids⟩ (j + 1)).map (Value.int .i64)) := by
                    rw [HML.out, ← hw7, HWSS.out (by trivial), List.map_append]
                    have hrow := HOA.out
                    rw [w4_val z hzr] at hrow
                    exact rowK_at hrow fun g hg => Below.heap_setCell _ _ _ _ (by have := (hrow.lt g hg).1; show g ≠ W0.heap.size + 1; omega)
                  have hrk7 : w7.ownsRow (W0.heap.size + 1 + 1) 3 1 kv5 (j + 1) ((mkdTo ⟨kind, server, need, true, kids⟩ k (j + 1)).map (Value.int .i64)) := rowK_at HRK5.out fun g hg => by
                    have hgl := HRK5.out.lt g hg
                    rw [← hw7, Below.heap_setCell _ _ _ _ (by show g ≠ W0.heap.size + 1; omega), HGA.out.block g (by show g < (w5.alloc _).heap.size; simp; omega) (fun e => HDIS5.out g e.symm hg)]
                    exact Below.heap_alloc w5 _ g hgl.2
                  have hdis7 : ∀ g, (Value.slice (some ⟨gg, 0, none⟩) (j + 1) cap).ownBlock = some g → kv5.ownBlock ≠ some g := fun g e hg => by
                    have hgl := (HRK5.out.lt g hg).2
                    have e2 : gg = g := by simpa [Value.ownBlock] using e
                    rcases HAT.out with h1 | h1
                    · exact HDIS5.out gg h1 (e2 ▸ hg)
                    · omega
                  have hbq7 : Below (W0.heap.size + 1) W2 w7 := by
                    rw [← hw7]
                    exact ((HBQ5.out.trans (below_drew ((Below.refl (W0.heap.size + 1) w5).alloc (by omega) _))).grown HGA.out (by show W0.heap.size + 1 ≤ (w5.alloc _).heap.size; simp; omega) (fun g hg => by have := (HRW6.out.lt g hg).1; omega)).setCell (p := ⟨W0.heap.size + 1, 3, none⟩) (Nat.le_refl _) _
                  have HBK7 := Lib.hid hbk7
                  have HRW7 := Lib.hid hrw7
                  have HRK7 := Lib.hid hrk7
                  have HDIS7 := Lib.hid hdis7
                  have HBQ7 := Lib.hid hbq7
                  clear hw7 hbk7 hrw7 hrk7 hdis7 hbq7 HA HOA HGA HAT pA zA
                  go_wp2_with fail
                  go_roundw
                  case rel => exact ⟨j + 1, _, kv5, by omega, by go_num, HBK7.out, HRW7.out, HRK7.out, HDIS7.out, HBQ7.out⟩
                  case measure => simp [intOf] <;> omega
          · have hjm : j = mk5 ⟨kind, server, need, heavy, kids⟩ := by omega
            have hnt : ¬ (j < n4 ∧ j < 5) := fun e => hltj (HMK2.out j e.1 e.2)
            have hkp : ∀ q : Pce, (∀ z ∈ q.kids, 0 ≤ z ∧ z < 256) → ∀ l, l ≤ (madK q k).kids.length → 0 ≤ sumTo (madK q k) l ∧ sumTo (madK q k) l ≤ 1000000 := fun q hq l hl => by
              have h1 := sum_bd (nd := madK q k) (mwt_rng q hq (mk5 q)) (mwt_len q k (mk5 q)) l hl
              have h2 : (madK q k).kids.length ≤ 5 := by show (mkdTo q k (mk5 q)).length ≤ 5; rw [mkdTo_len q k _ (by unfold mk5; omega)]; unfold mk5; omega
              omega
            obtain ⟨aw, cw, rfl, hrdw⟩ := rd_of_row hrw
            obtain ⟨ak, ck, rfl, hrdk⟩ := rd_of_row hrk
            subst hjm
            obtain ⟨J, hJ⟩ : ∃ J, mk5 ⟨kind, server, need, heavy, kids⟩ = J := ⟨_, rfl⟩
            obtain ⟨L, hL⟩ : ∃ L, (mwtTo ⟨kind, server, need, heavy, kids⟩ (mk5 ⟨kind, server, need, heavy, kids⟩)).length = L := ⟨_, rfl⟩
            have HSUM : Hid (∀ y : World, Below wr.heap.size wr y → Calls Tryd.prog 15 #[.agg #[.int .i64 2, .int .i64 0, .int .i64 0, .slice aw L cw, .slice ak J ck]] y fun e w' => e = .returned (.int .i64 (sumN (madK ⟨kind, server, need, heavy, kids⟩ k))) ∧ Below wr.heap.size wr w') := Lib.hid (fun y hy => by
              rw [← hJ, ← hL]
              refine Calls.mono ?_ (fun e w' (h : e = _ ∧ Below y.heap.size y w') => ⟨h.1, Below.next hy h.2⟩)
              exact rsum_c (madK ⟨kind, server, need, heavy, kids⟩ k) (mwt_len _ k _) (hkp _ HPZ.out) (fun l hl => rfl) aw _ cw ak _ ck y (hrdw.below hy) (hrdk.below hy))
            have hsb := sum_madK ⟨kind, server, need, heavy, kids⟩ HPZ.out k
            have hne : (madN ⟨kind, server, need, heavy, kids⟩ k).need = need % (sumN (madK ⟨kind, server, need, heavy, kids⟩ k) + 2) := by unfold madN; rw [if_neg hsv]
            have hnk : (madN ⟨kind, server, need, heavy, kids⟩ k).kind = 2 ∧ (madN ⟨kind, server, need, heavy, kids⟩ k).server = 0 ∧ (madN ⟨kind, server, need, heavy, kids⟩ k).weights = mwtTo ⟨kind, server, need, heavy, kids⟩ (mk5 ⟨kind, server, need, heavy, kids⟩) ∧ (madN ⟨kind, server, need, heavy, kids⟩ k).kids = mkdTo ⟨kind, server, need, heavy, kids⟩ k (mk5 ⟨kind, server, need, heavy, kids⟩) := by unfold madN; rw [if_neg hsv]; exact ⟨rfl, rfl, rfl, rfl⟩
            obtain ⟨SM, hSM⟩ : ∃ SM, sumN (madK ⟨kind, server, need, heavy, kids⟩ k) = SM := ⟨_, rfl⟩
            rw [hSM] at HSUM hsb hne
            have HNE := Lib.hid hne
            have HNK := Lib.hid hnk
            rw [hJ]
            rw [hL] at hrw
            rw [hJ] at hrk
            rw [hL] at hrdw
            rw [hJ] at hrdk hnt
            have HBK := Lib.hid hbk
            have HRW := Lib.hid hrw
            have HRK := Lib.hid hrk
            have HRDW := Lib.hid hrdw
            have HRDK := Lib.hid hrdk
            have HBQ := Lib.hid hbq
            have hP := (hbq.block W0.heap.size (by omega)).trans GP.out
            have HP9 := Lib.hid hP
            have HLE := Lib.hid hL
            have HJE := Lib.hid hJ
            have KS : Hid (∀ y : World, Below wr.heap.size wr y → y.heap[W0.heap.size + 1]? = some (.cells #[.int .i64 2, .int .i64 0, .int .i64 0, .slice aw L cw, .slice ak J ck] 58 (0, 0)) ∧ y.cell? ⟨W0.heap.size, 2, none⟩ = some (.int .u8 need)) := Lib.hid (fun y hy => by
              have := heap_below hy HBK.out
              rw [hL, hJ] at this
              exact ⟨this, (cell_of_row _ _ 2 _ _ _ (heap_below hy hP)).trans rfl⟩)
            clear hbk hrw hrk hrdw hrdk hbq hP hL hJ hSM hne hnk hkp hdis HMK HMK2 R42 q2 q3 q4
            have hwr : wrap64 (SM + 2) = SM + 2 := by unfold wrap64; omega
            have hwr2 : IntKind.i64.wrap (SM + 2) = SM + 2 := by unfold IntKind.wrap; simp [IntKind.bits, IntKind.signed]; omega
            have HWR2 := Lib.hid hwr2
            clear hwr2 hwr
            have HVAL : Hid ((IntKind.i64.wrap need).tmod (SM + 2) = need % (SM + 2)) := Lib.hid (by
              rw [show IntKind.i64.wrap need = need by unfold IntKind.wrap; simp [IntKind.bits, IntKind.signed]; omega, Int.tmod_eq_emod_of_nonneg (by omega)])
            have hterm : ¬ J < n4 ∨ (J < n4 ∧ (5 : Int) ≤ (J : Int)) := by
              by_cases h1 : J < n4
              · exact .inr ⟨h1, by omega⟩
              · exact .inl h1
            have qq4 := (cell_of_row _ _ 4 _ _ _ HP9.out).trans (show _ = some (Value.slice a4 n4 c4) from rfl)
            clear hnt hltj
            rcases hterm with t1 | ⟨t1, t2⟩
            all_goals
              go_wp2_with fail
              refine wp_region_store (fun y => Below wr.heap.size wr y) (fun z => ∃ y, Below wr.heap.size wr y ∧ z = y.setCell ⟨W0.heap.size + 1, 2, none⟩ (.int .i64 ((IntKind.i64.wrap need).tmod (SM + 2)))) [] 8 (by kernel_rfl) (by kernel_rfl) (by kernel_rfl) (below_drew (Below.refl _ _)) ?_
              simp only [List.take_succ_cons, List.take_zero]
              repeat (refine wpT_step (fun K hK => ?_); go_simp; apply Exists.intro; refine ⟨fun y hy => ?_, ?_, hK _ ?_⟩; (first | exact rfl | (refine (HSUM.out y hy).mono ?_; rintro e w3 ⟨rfl, h3⟩; exact ⟨rfl, h3⟩) | (obtain ⟨hn, q2⟩ := KS.out y hy; have n0 := cell_of_row _ _ 0 _ _ _ hn; have n1 := cell_of_row _ _ 1 _ _ _ hn; have n2 := cell_of_row _ _ 2 _ _ _ hn; have n3 := cell_of_row _ _ 3 _ _ _ hn; have n4' := cell_of_row _ _ 4 _ _ _ hn; clear hn; go_simp; first | exact rfl | exact ⟨rfl, hy⟩ | exact hy)); (first | exact late_not rfl | (focus (intro _ z hz; go_simp; done))); clear hK K)
              refine wpT_step (fun K hK => ?_)
              go_simp
              refine ⟨.int .i64 ((IntKind.i64.wrap need).tmod (SM + 2)), fun y hy => ?_, ?_, hK _ ?_⟩
              · go_simp
                rw [if_neg (by rw [HWR2.out]; omega), HWR2.out]
                exact ⟨rfl, rfl⟩
              · exact late_not rfl
              clear hK K
              repeat (refine wpT_step (fun K hK => ?_); go_simp; apply Exists.intro; refine ⟨fun y hy => ?_, ?_, hK _ ?_⟩; (first | exact rfl | (obtain ⟨hn, q2⟩ := KS.out y hy; have n2 := cell_of_row _ _ 2 _ _ _ hn; clear hn; go_simp; first | exact rfl | exact ⟨rfl, hy⟩ | exact hy)); (first | exact late_not rfl | (focus (intro _ z hz; go_simp; done))); clear hK K)
              refine wpT_nil ?_
              refine ⟨_, rfl, by go_simp, fun y hy => ?_, ?_⟩
              · obtain ⟨hn, q2⟩ := KS.out y hy
                have n2 := cell_of_row _ _ 2 _ _ _ hn
                have f2 := frozen_row hn 2
                clear hn
                refine ⟨_, ?_, y, hy, rfl⟩
                go_simp
              · rintro z ⟨y, hy, rfl⟩
                obtain ⟨hn, _⟩ := KS.out y hy
                have hby : Below W0.heap.size W0 y := (HB2.out.trans (HBQ.out.mono (Nat.le_succ _))).trans (hy.mono (by have := HBQ.out.size; have := HS2.out; omega))
                have hry := HRDW.out.below hy
                have hrk := HRDK.out.below hy
                have c1 : Clear L (blkV (W0.heap.size + 1)) aw := Clear.lower HRW.out (fun g hg => by rw [blkV_own] at hg; cases hg; omega)
                have c2 : Clear J (blkV (W0.heap.size + 1)) ak := Clear.lower HRK.out (fun g hg => by rw [blkV_own] at hg; cases hg; omega)
                have hXW0 : w.heap.size + 1 + 1 < W0.heap.size := (Array.getElem?_eq_some_iff.1 HX.out).1
                generalize hz : y.setCell _ _ = z
                have gN : z.heap[W0.heap.size + 1]? = some (.cells #[.int .i64 2, .int .i64 0, .int .i64 ((IntKind.i64.wrap need).tmod (SM + 2)), .slice aw L cw, .slice ak J ck] 58 (0, 0)) := by rw [← hz, heap_set_at hn]; rfl
                have hbz : Below W0.heap.size W0 z := by rw [← hz]; exact hby.setCell (p := ⟨W0.heap.size + 1, 2, none⟩) (Nat.le_succ _) _
                have gX := (hbz.block _ hXW0).trans HX.out
                have hxw := HXW.out.below hbz
                have hp : NodC z (w.heap.size + 1 + 1) v ⟨2, 0, need % (SM + 2), .slice aw L cw, .slice ak J ck⟩ (madN ⟨kind, server, need, heavy, kids⟩ k) := by
                  obtain ⟨n1, n2, n3, n5⟩ := HNK.out
                  obtain ⟨V0, _, hr0, _⟩ := HXW.out.row
                  refine ⟨n1.symm, n2.symm, by rw [HNE.out], ⟨aw, L, cw, rfl, ?_, Clear.lower HRW.out (fun g hg => by have := (hr0.lt g hg).2; omega), fun Y hY => Clear.lower HRW.out (fun g hg => by rw [blkV_own] at hg; cases hg; omega)⟩, ⟨ak, J, ck, rfl, ?_, Clear.lower HRK.out (fun g hg => by have := (hr0.lt g hg).2; omega), fun Y hY => Clear.lower HRK.out (fun g hg => by rw [blkV_own] at hg; cases hg; omega)⟩⟩
                  · rw [n3, ← hz]; exact hry.setOther c1 _ _
                  · rw [n5, HJE.out, ← hz]; exact hrk.setOther c2 _ _
                have n0 := cell_of_row _ _ 0 _ _ _ gN
                have n1 := cell_of_row _ _ 1 _ _ _ gN
                have n2 := cell_of_row _ _ 2 _ _ _ gN
                have n3 := cell_of_row _ _ 3 _ _ _ gN
                have n5 := cell_of_row _ _ 4 _ _ _ gN
                obtain ⟨V', hV1, hV2, hV3⟩ := hxw.row
                rw [madT_len] at hV2
                obtain ⟨av, cv, rfl, _⟩ := rdK_of_row hV2
                have x0 := cell_of_row _ _ 0 _ _ _ gX
                have HGX2 := Lib.hid gX
                have hXl : w.heap.size + 1 + 1 < z.heap.size := (Array.getElem?_eq_some_iff.1 gX).1
                have HP := Lib.hid hp
                have HV1 := Lib.hid hV1
                have HV3 := Lib.hid hV3
                have HBZ := Lib.hid hbz
                clear hn hby hry hrk c1 c2 gN gX hbz hxw hp hz hV1 hV3 hXW0 qq4
                go_simp
                go_wp2_with (at_builtin; go_must (refine wpList_appK2 5 _ _ 26 72 (.agg #[.int .i64 0, .int .i64 0, .int .i64 0, .slice none 0 0, .slice none 0 0]) (nodVC ⟨2, 0, need % (SM + 2), .slice aw L cw, .slice ak J ck⟩) _ Tryd.underlying26 Tryd.infoNod rfl (by decide) hV2 (Below.refl (w.heap.size + 1 + 1 + 1) z) hXl rfl rfl rfl rfl rfl (by intro u hu; unfold nodVC at hu; simp at hu; rcases hu with rfl | rfl | rfl | rfl | rfl <;> rfl) (by unfold maxLen; omega) (by omega) ?_))
                intro v' w4 hown4 hb4 hg4 hs4 hv4
                obtain ⟨a5, c5, rfl, _⟩ := rdK_of_row hown4
                have hX4 := (hg4.block (w.heap.size + 1 + 1) hXl (fun e => by have := (hV2.lt _ e.symm).1; omega)).trans HGX2.out
                have p0 := cell_of_row _ _ 0 _ _ _ hX4
                have z0 := frozen_row hX4 0
                have HO4 := Lib.hid hown4
                have HG4 := Lib.hid hg4
                have HB4 := Lib.hid hb4
                have HVV4 := Lib.hid hv4
                have HX4 := Lib.hid hX4
                clear hown4 hb4 hg4 hs4 hv4 hX4 x0 n0 n1 n2 n3 n5
                go_wp2_with fail
                go_roundw
                case rel => exact ⟨k + 1, .slice a5 (k + 1) c5, by omega, by go_num, by rw [heap_set_at HX4.out]; rfl, by rw [HTS.out]; exact (XW.push HV1.out HV3.out (by rw [madT_len]; exact HO4.out) HP.out HG4.out HVV4.out).set 0 _, ((HB.out.trans (HBZ.out.mono (by have := (Array.getElem?_eq_some_iff.1 HX.out).1; omega))).trans (HB4.out.mono (Nat.le_succ _))).setCell (p := ⟨w.heap.size + 1 + 1, 0, none⟩) (Nat.le_refl _) _⟩
                case measure => simp [intOf] <;> omega
    · have hkm : mad9 ps = k := by omega
      have hn9 := HN.out
      unfold mad9 at hkm
      obtain ⟨av, cv, hv, hxm⟩ := hxw.xm
      rw [madT_len] at hv hxm
      subst hv
      have x0 := cell_of_row _ _ 0 _ _ _ hX
      have x1 := cell_of_row _ _ 1 _ _ _ hX
      have f0 := frozen_row hX 0
      have f1 := frozen_row hX 1
      have hR := (hb.block (w.heap.size + 1) (by omega)).trans HGR.out
      have r0 := cell_of_row _ _ 0 _ _ _ hR
      have r1 := cell_of_row _ _ 1 _ _ _ hR
      have s0 := frozen_row hR 0
      have s1 := frozen_row hR 1
      have HR := Lib.hid hR
      clear hR
      have HXM := Lib.hid hxm
      have HXW := Lib.hid hxw
      have HX := Lib.hid hX
      have HB := Lib.hid hb
      have HD := Lib.hid hD
      clear hxm hxw hX hb hD
      by_cases hn0 : n = 0
      · have hk0 : k = 0 := by omega
        subst hk0
        subst hn0
        obtain ⟨z, hz⟩ : ∃ z, z = wr.alloc (.cells #[.int .i64 1, .int .i64 0, .int .i64 0, .slice none 0 0, .slice none 0 0] 58) := ⟨_, rfl⟩
        have hbz : Below wr.heap.size wr z := by rw [hz]; exact (Below.refl _ _).alloc (Nat.le_refl _) _
        have gX := heap_below hbz HX.out
        have gZ : z.heap[wr.heap.size]? = some (.cells #[.int .i64 1, .int .i64 0, .int .i64 0, .slice none 0 0, .slice none 0 0] 58 (0, 0)) := by rw [hz]; exact heap_alloc_new _ _
        have y0 := cell_of_row _ _ 0 _ _ _ gX
        have y1 := cell_of_row _ _ 1 _ _ _ gX
        have g0 := frozen_row gX 0
        have g1 := frozen_row gX 1
        have gR := heap_below hbz HR.out
        have i0 := cell_of_row _ _ 0 _ _ _ gR
        have i1 := cell_of_row _ _ 1 _ _ _ gR
        have j0 := frozen_row gR 0
        have j1 := frozen_row gR 1
        have HGX3 := Lib.hid gX
        have HGZ := Lib.hid gZ
        have HBZ := Lib.hid hbz
        rw [hz] at y0 y1 g0 g1 i0 i1 j0 j1
        have HZ := Lib.hid hz
        clear gX gZ hbz hz gR
        go_wp2_with fail
        rw [← HZ.out]
        have hXl : w.heap.size + 1 + 1 < wr.heap.size := (Array.getElem?_eq_some_iff.1 HX.out).1
        have hps : ps = [] := List.length_eq_zero_iff.1 HN.out
        subst hps
        have k1 := (Below.heap_setCell z ⟨w.heap.size + 1 + 1, 0, none⟩ (.slice (some ⟨wr.heap.size, 0, none⟩) 1 1) (w.heap.size + 1) (by show w.heap.size + 1 ≠ w.heap.size + 1 + 1; omega)).trans (heap_below HBZ.out HR.out)
        have k2 := (Below.heap_setCell z ⟨w.heap.size + 1 + 1, 0, none⟩ (.slice (some ⟨wr.heap.size, 0, none⟩) 1 1) wr.heap.size (by show wr.heap.size ≠ w.heap.size + 1 + 1; omega)).trans HGZ.out
        refine bodyPost_ret (v := .agg #[.slice (some ⟨wr.heap.size, 0, none⟩) 1 1, .int .i64 0]) ?_ rfl ⟨_, _, rfl, fun u2 hg2 => srv_xm ((hg2 wr.heap.size (by omega) (Array.getElem?_eq_some_iff.1 (fin_other (by omega) (by omega) k2 _ _ _)).1).trans (fin_other (by omega) (by omega) k2 _ _ _)), ?_⟩
        · exact results_cell_row rfl _ _ _ _ _ _ _ rfl (fin_heap (by omega) k1 _ _ _) Tryd.underlying28 rfl (by kernel_rfl)
        · exact ((((HBS.out.trans ((HB.out.trans (HBZ.out.mono (by omega))).mono (by omega))).setCell (p := ⟨w.heap.size + 1 + 1, 0, none⟩) (by show w.heap.size ≤ w.heap.size + 1 + 1; omega) _).setCell (p := ⟨w.heap.size + 1 + 1, 1, none⟩) (by show w.heap.size ≤ w.heap.size + 1 + 1; omega) _).setCell (p := ⟨w.heap.size + 1, 0, none⟩) (by show w.heap.size ≤ w.heap.size + 1; omega) _).setCell (p := ⟨w.heap.size + 1, 1, none⟩) (by show w.heap.size ≤ w.heap.size + 1; omega) _
      · have hk0 : ((k : Int) == 0) = false := by rw [beq_eq_false_iff_ne]; omega
        have HMX : Hid (madX ps = ⟨madT ps k, (k : Int) - 1⟩) := Lib.hid (by
          unfold madX mad9
          rw [if_neg (fun e => hn0 (by rw [← hn9, e]; rfl)), hkm])
        have hterm : ¬ k < n ∨ (k < n ∧ (9 : Int) ≤ (k : Int)) := by
          by_cases h1 : k < n
          · exact .inr ⟨h1, by omega⟩
          · exact .inl h1
        rcases hterm with t1 | ⟨t1, t2⟩
        all_goals
          go_wp2_with fail
          obtain ⟨a9, c9, h9, hx9⟩ := (((HXW.out.set 1 (.int .i64 ((k : Int) - 1))).setAt (w.heap.size + 1) (Nat.le_succ _) 0 (.slice av k cv)).setAt (w.heap.size + 1) (Nat.le_succ _) 1 (.int .i64 ((k : Int) - 1))).xmr
          rw [madT_len] at h9 hx9
          cases h9
          refine bodyPost_ret (v := .agg #[.slice av k cv, .int .i64 ((k : Int) - 1)]) ?_ rfl ⟨av, cv, by rw [HMX.out]; show _ = Ending.returned (.agg #[.slice av (madT ps k).length cv, _]); rw [madT_len], by rw [HMX.out]; show XMR _ _ _ av (madT ps k).length cv _; rw [madT_len]; exact hx9.mono (by omega) (Nat.le_refl _), ?_⟩
          · exact results_cell_row rfl _ _ _ _ _ _ _ rfl (fin_heap (by omega) HR.out _ _ _) Tryd.underlying28 rfl (by kernel_rfl)
          · exact (((HBS.out.trans (HB.out.mono (by omega))).setCell (p := ⟨w.heap.size + 1 + 1, 1, none⟩) (by show w.heap.size ≤ w.heap.size + 1 + 1; omega) _).setCell (p := ⟨w.heap.size + 1, 0, none⟩) (by show w.heap.size ≤ w.heap.size + 1; omega) _).setCell (p := ⟨w.heap.size + 1, 1, none⟩) (by show w.heap.size ≤ w.heap.size + 1; omega) _

theorem made_c (ps : List Pce) (hok : ∀ p ∈ ps, p.ok) (a : Option Addr) (n c : Nat) (w : World) (h : PM w a n c ps) :
    Calls Tryd.prog 5 #[.agg #[.slice a n c]] w fun e w' => ∃ a' c', e = .returned (.agg #[.slice a' (madX ps).nodes.length c', .int .i64 (madX ps).root]) ∧ XM w' a' (madX ps).nodes.length c' (madX ps).nodes ∧ Below w.heap.size w w' :=
  (made_r ps hok a n c w h).mono fun _ _ ⟨a', c', h1, h2, h3⟩ => ⟨a', c', h1, h2.xm, h3⟩
end Go.Proofs.YtmjgdnpfgkpaoaaDoor
namespace Go.Proofs.YtmjgdnpfgkpaoaaDoor
open Go.RowKit
section
variable {P : Program} {ops : Array Oper} {md : Region.Mode} {S : World → Prop}

def takesB (md : Region.Mode) (ops : Array Oper) : List Nat → Array Bool → Bool
  | [], _ => true
  | i :: L, listed => (Region.free md ops listed i && (Region.ready md ops listed).contains i) && takesB md ops L (listed.setIfInBounds i true)
def afterT : List Nat → Array Bool → Array Bool
  | [], listed => listed
  | i :: L, listed => afterT L (listed.setIfInBounds i true)
def wpTk (P : Program) (ops : Array Oper) (S : World → Prop) (K : Act → Prop) : List Nat → Act → Prop
  | [], a => K a
  | i :: L, a => ∃ o, ops[i]? = some o ∧ if Region.wanted o (yielded ops a.tmps) = true then ∃ v, (∀ w, S w → (execOp a.eval o).run P w = .ok (.value v) w) ∧ wpTk P ops S K L (a.put o.dst v) else wpTk P ops S K L (a.put o.dst undef)
theorem wpTk_nil {K : Act → Prop} {a : Act} (h : K a) : wpTk P ops S K [] a := h
theorem wpTk_cons {K : Act → Prop} {i : Nat} {L : List Nat} {a : Act} {o : Oper} (ho : ops[i]? = some o)
    (h : ∀ K' : Act → Prop, (∀ a, wpTk P ops S K L a → K' a) → if Region.wanted o (yielded ops a.tmps) = true then ∃ v, (∀ w, S w → (execOp a.eval o).run P w = .ok (.value v) w) ∧ K' (a.put o.dst v) else K' (a.put o.dst undef)) : wpTk P ops S K (i :: L) a :=
  ⟨o, ho, h _ (fun _ h => h)⟩
theorem held_takes {Q : Exit → Act → World → Prop} {f : Nat} {w : World} (hsel : Region.noSelect ops = true) (hQ : ∀ c a d v w, Q (.panic c) (a.put d v) w → Q (.panic c) a w) (hS : S w) :
    ∀ (L : List Nat) (listed : Array Bool) (a : Act), takesB md ops L listed = true → wpTk P ops S (fun a' => wpAnyH P md ops Q S f (afterT L listed) a' w) L a → wpAnyH P md ops Q S (f + L.length) listed a w
  | [], listed, a, _, h => h
  | i :: L, listed, a, hB, h => by
    obtain ⟨o, ho, h⟩ := h
    unfold takesB at hB
    simp only [Bool.and_eq_true] at hB
    rw [List.length_cons, ← Nat.add_assoc]
    by_cases hw : Region.wanted o (yielded ops a.tmps) = true
    · rw [if_pos hw] at h
      obtain ⟨v, hv, h⟩ := h
      exact wpAnyH_take ho hsel hB.1.1 hB.1.2 (fun c a w => hQ c a _ _ w) (.inl ⟨hw, hv⟩) hS (held_takes hsel hQ hS L _ _ hB.2 h)
    · rw [if_neg hw] at h
      have hw' : Region.wanted o (yielded ops a.tmps) = false := by simpa using hw
      exact wpAnyH_take ho hsel hB.1.1 hB.1.2 (fun c a w => hQ c a _ _ w) (.inr ⟨hw', rfl⟩) hS (held_takes hsel hQ hS L _ _ hB.2 h)
theorem wp_region_takes {id : Nat} {Q : Exit → Act → World → Prop} {a : Act} {w : World} {l : List Oper} (S : World → Prop) (L : List Nat) (f : Nat) (hm : P.follows .mixedOrders = true) (hf : (f + L.length == l.length) = true)
    (hB : (Region.noSelect l.toArray && takesB .any l.toArray L (Array.replicate l.length false)) = true) (hQ : ∀ c a d v w, Q (.panic c) (a.put d v) w → Q (.panic c) a w) (hS : S w.drew)
    (h : wpTk P l.toArray S (fun a' => wpAnyH P .any l.toArray Q S f (afterT L (Array.replicate l.length false)) a' w.drew) L a) : (Code.region id l.toArray true).wp P Q a w := by
  simp only [Bool.and_eq_true] at hB
  have e : l.toArray.size = f + L.length := by rw [List.size_toArray]; exact (eq_of_beq hf).symm
  refine wp_region_held_drew hm hS (fun _ => ?_)
  rw [e]
  have := held_takes (md := .any) (f := f) (w := w.drew) hB.1 hQ hS L (Array.replicate l.length false) a hB.2 h
  rw [show f + L.length = l.length from eq_of_beq hf] at this ⊢
  exact this
/-- whichever comes up -/
theorem held_ready {Q : Exit → Act → World → Prop} {rs : List Nat} {f : Nat} {listed : Array Bool} {a : Act} {w : World} (hr : (Region.ready md ops listed == rs) = true) (hne : rs ≠ [])
    (h : AllReadyH P md ops Q S f listed a w rs) : wpAnyH P md ops Q S (f + 1) listed a w := wpAnyH_ready (eq_of_beq hr) hne h
end
end Go.Proofs.YtmjgdnpfgkpaoaaDoor
namespace Go.Proofs.YtmjgdnpfgkpaoaaDoor
open Go.RowKit Go.Shelf

def noE : Nat → Prop := fun _ => False
def WrC (x : Xpr) (ys : List Xpr) (w0 : World) (OB B : Nat) (f : Nat) : Prop :=
  ∀ (a : Option Addr) (n c : Nat) (la : Option Addr) (ln lc : Nat), XM w0 a n c x.nodes → LM w0 la ln lc ys → ∀ (i : Nat), i < f → i < x.nodes.length → ∀ (w : World) (S : Nat → Prop) (v : Value) (nodes : List Nod), WrI w0 OB B noE S v nodes w → nodes.length + (treF x.nodes (subL ys) f i).sz ≤ 1000 →
    Calls Tryd.prog 69 #[.pointer (some ⟨OB, 0, none⟩), .agg #[.slice a n c, .int .i64 x.root], .int .i64 i, .slice la ln lc] w fun e w' => e = .returned (.tuple #[]) ∧ WrO OB B noE S v nodes ((treF x.nodes (subL ys) f i).post nodes.length) w w'

set_option maxRecDepth 100000 in
set_option maxHeartbeats 8000000 in
theorem write_step (x : Xpr) (hx : xprE x = 0) (ys : List Xpr) (hys : ∀ y ∈ ys, xprE y = 0) (w0 : World) (OB B : Nat) (hB : w0.heap.size ≤ B) (hOB : B ≤ OB) (hrec : ∀ y ∈ ys, WrC y [] w0 OB B (y.root.toNat + 1)) (f : Nat) (ih : WrC x ys w0 OB B f) : WrC x ys w0 OB B (f + 1) := by
  intro a n c la ln lc h1 h2 i hif hil w S v nodes hI hsz
  obtain ⟨nd, hnd⟩ : ∃ nd, x.nodes[i]? = some nd := ⟨_, List.getElem?_eq_getElem hil⟩
  have ok := (xprE_ok hx).node i nd hnd
  have hl := h1.len
  obtain ⟨b, o, ha, hat⟩ := h1.at' (by omega)
  have hM := hat i nd hnd
  obtain ⟨aw, nw, cw, m3, rw3⟩ := hM.ws
  obtain ⟨ak, nk, ck, m4, rk4⟩ := hM.ks
  have m0 := cell_keep hI.bel hM.c0
  have m1 := cell_keep hI.bel hM.c1
  have m2 := cell_keep hI.bel hM.c2
  have m3 := cell_keep hI.bel m3
  have m4 := cell_keep hI.bel m4
  have hbl : b < w.heap.size := cell_lt m0
  have m0 : ∀ ob, (w.alloc ob).cell? ⟨b, o + i * 5, none⟩ = some (.int .i64 nd.kind) := fun ob => (World.cell?_alloc_lt _ _ _ hbl).trans m0
  have m1 : ∀ ob, (w.alloc ob).cell? ⟨b, o + i * 5 + 1, none⟩ = some (.int .i64 nd.server) := fun ob => (World.cell?_alloc_lt _ _ _ hbl).trans m1
  have m2 : ∀ ob, (w.alloc ob).cell? ⟨b, o + i * 5 + 2, none⟩ = some (.int .i64 nd.need) := fun ob => (World.cell?_alloc_lt _ _ _ hbl).trans m2
  have m3 : ∀ ob, (w.alloc ob).cell? ⟨b, o + i * 5 + 3, none⟩ = some (.slice aw nw cw) := fun ob => (World.cell?_alloc_lt _ _ _ hbl).trans m3
  have m4 : ∀ ob, (w.alloc ob).cell? ⟨b, o + i * 5 + 4, none⟩ = some (.slice ak nk ck) := fun ob => (World.cell?_alloc_lt _ _ _ hbl).trans m4
  have hH1 := Lib.hid h1
  have hH2 := Lib.hid h2
  have HI := Lib.hid hI
  have hln := h2.len
  have hwl := rw3.len
  have hkl := rk4.len
  rw [List.length_map] at hwl hkl
  by_cases hsub : nd.kind = 1 ∧ nd.server < (ln : Int)
  · obtain ⟨hk1, hsv⟩ := hsub
    obtain ⟨sn, hsn⟩ := Int.eq_ofNat_of_zero_le ok.server.1
    obtain ⟨y, hy⟩ : ∃ y, ys[sn]? = some y := ⟨_, List.getElem?_eq_getElem (by omega)⟩
    have hym := List.mem_of_getElem? hy
    have yok := xprE_ok (hys y hym)
    have hT : treF x.nodes (subL ys) (f + 1) i = treX y := treF_sub _ f i nd hnd hk1 (by rw [hsn, Int.toNat_natCast]; unfold subL; rw [hy]; rfl)
    obtain ⟨b2, o2, ha2, hc2⟩ := h2.at' (by omega)
    obtain ⟨a3, n3, c3, y0, hxm, y1⟩ := hc2 sn y hy
    have y0 := cell_keep hI.bel y0
    have y1 := cell_keep hI.bel y1
    have hB2 : b2 < w.heap.size := cell_lt y0
    rw [hT] at hsz ⊢
    obtain ⟨kind, server, need, ws, ks⟩ := nd
    simp only at m0 m1 m2 m3 rw3 m4 rk4 hwl hkl hk1 hsv hsn
    subst hk1 hsn
    have hroot := yok.root
    have hr0 : ((y.root.toNat : Nat) : Int) = y.root := Int.toNat_of_nonneg hroot.1
    have HR : Hid (∀ W2 : World, Below w.heap.size w W2 → Calls Tryd.prog 69 #[.pointer (some ⟨OB, 0, none⟩), .agg #[.slice a3 n3 c3, .int .i64 y.root], .int .i64 y.root, .slice none 0 0] W2 fun e w' => e = .returned (.tuple #[]) ∧ WrO OB B noE S v nodes ((treX y).post nodes.length) W2 w') := Lib.hid (fun W2 hb => by
      have := hrec y hym a3 n3 c3 none 0 0 hxm (LM.none_ _) y.root.toNat (Nat.lt_succ_self _) (by omega) W2 S v nodes (hI.below hb hI.bel.size) hsz
      rw [hr0] at this
      exact this)
    have HOBL : Hid (OB < w.heap.size) := Lib.hid hI.ob_lt
    have HVL : Hid (∀ g, v.ownBlock = some g → g < w.heap.size) := Lib.hid (fun g hg => (hI.xb.lt_own g hg).2)
    have hb2B : b2 < B := by
      have : b2 < w0.heap.size := cell_lt (hc2 sn y hy).choose_spec.choose_spec.choose_spec.1
      omega
    subst ha ha2
    have hin : i < n := by omega
    have e2 : decide ((sn : Int) < (ln : Int)) = true := decide_eq_true hsv
    have hsln : sn < ln := by omega
    have hbi : decide ((i : Int) < (n : Int)) = true := decide_eq_true (by omega)
    clear hwl hkl hln hl rw3 rk4 ok hM hat hnd h1 h2 hI hrec hys hym yok hc2 hxm hroot hr0 hT hsz ih hy hsv HI hH1 hH2
    go_enter Tryd.func69, Tryd.ntmps69
    go_wp2_with fail
    generalize hW2 : (w.alloc _).alloc _ = W2
    have gN : W2.heap[w.heap.size + 1]? = some (.cells #[.int .i64 1, .int .i64 (sn : Int), .int .i64 need, .slice aw nw cw, .slice ak nk ck] 58 (0, 0)) := by
      rw [← hW2]
      have := heap_alloc_new (w.alloc (Obj.cells #[.slice (some ⟨b, o, none⟩) n c, .int .i64 x.root] 28)) (.cells #[.int .i64 1, .int .i64 (sn : Int), .int .i64 need, .slice aw nw cw, .slice ak nk ck] 58)
      rw [World.size_alloc] at this; exact this
    have hb2 : Below w.heap.size w W2 := by rw [← hW2]; exact ((Below.refl _ _).alloc (Nat.le_refl _) _).alloc (by simp) _
    have hs2 : W2.heap.size = w.heap.size + 2 := by rw [← hW2]; simp
    have k1 := cell_of_row _ _ 1 _ _ _ gN
    have k2 := cell_keep hb2 y0
    have k3 := cell_keep hb2 y1
    have HB2 := Lib.hid hb2
    have HS2 := Lib.hid hs2
    clear hW2 gN hb2 hs2 m0 m1 m2 m3 m4 y0 y1
    refine wp_region_noPanic ?_
    refine wp_region_takes (fun u => u.cell? ⟨w.heap.size + 1, 1, none⟩ = some (.int .i64 (sn : Int)) ∧ u.cell? ⟨b2, o2 + sn * 2, none⟩ = some (.slice a3 n3 c3) ∧ u.cell? ⟨b2, o2 + sn * 2 + 1, none⟩ = some (.int .i64 y.root)) [0, 1, 2, 3, 4, 5, 6, 7, 8, 9, 10, 11] 1 (by kernel_rfl) (by kernel_rfl) (by kernel_rfl) (fun _ _ _ _ _ h => h) ⟨k1, k2, k3⟩ ?_
    repeat (refine wpTk_cons rfl (fun K hK => ?_); go_simp; apply Exists.intro; refine ⟨fun u q1 q2 q3 => ?_, hK _ ?_⟩; (first | exact rfl | (go_simp; done) | (go_simp; exact rfl)); clear hK K)
    refine wpTk_nil ?_
    refine held_ready (rs := [12]) (by kernel_rfl) (by simp) ?_
    refine AllReadyH.cons rfl (fun K hK => ?_) AllReadyH.nil
    go_simp
    with_reducible refine (HR.out _ (below_drew HB2.out)).mono ?_
    rintro e w5 ⟨rfl, hO⟩
    obtain ⟨_, _, _, _, hkb, _, _⟩ := id hO
    have HO := Lib.hid (hO.pre (by have := HOBL.out; omega) (below_drew HB2.out))
    have j1 : w5.cell? ⟨w.heap.size + 1, 1, none⟩ = some (.int .i64 (sn : Int)) := by
      rw [World.cell?_of_block (w := W2) (w' := w5) (a := ⟨w.heap.size + 1, 1, none⟩) (hkb.blk _ (by show w.heap.size + 1 < W2.heap.size; have := HS2.out; omega) (by have := HOBL.out; show w.heap.size + 1 ≠ OB; omega) (fun e => by have := HVL.out _ e; simp at this; omega))]
      exact k1
    have j2 : w5.cell? ⟨b2, o2 + sn * 2, none⟩ = some (.slice a3 n3 c3) := by
      rw [World.cell?_of_block (w := W2) (w' := w5) (a := ⟨b2, o2 + sn * 2, none⟩) (hkb.bel.block _ hb2B)]; exact k2
    have j3 : w5.cell? ⟨b2, o2 + sn * 2 + 1, none⟩ = some (.int .i64 y.root) := by
      rw [World.cell?_of_block (w := W2) (w' := w5) (a := ⟨b2, o2 + sn * 2 + 1, none⟩) (hkb.bel.block _ hb2B)]; exact k3
    clear hO hkb
    go_simp
    refine hK.out _ _ ⟨j1, j2, j3⟩ (fun hh => ?_)
    clear hh hK K j1 j2 j3 k1 k2 k3
    try simp only [Act.put, List.setIfInBounds_toArray, List.set_cons_zero, List.set_cons_succ]
    refine wpAnyH_done (by kernel_rfl) (NoPanic.normal ?_) _
    go_wp2_with fail
    refine bodyPost_ret (results_none rfl _ _ _) rfl ?_
    exact ⟨rfl, HO.out⟩
  · have hnone : nd.kind = 1 → subL ys nd.server.toNat = none := fun hk => by
      have h5 : ¬ nd.server < (ln : Int) := fun h => hsub ⟨hk, h⟩
      have := ok.server
      unfold subL
      rw [List.getElem?_eq_none (by omega)]; rfl
    have hplain := treF_plain hx (subL ys) f i nd hnd hnone nodes.length
    obtain ⟨kind, server, need, ws, ks⟩ := nd
    simp only at m0 m1 m2 m3 rw3 m4 rk4 hwl hkl hsub hplain
    obtain ⟨KT, hKT⟩ : ∃ KT, KT = kidT x.nodes (subL ys) f ks := ⟨_, rfl⟩
    have hKl : KT.length = nk := by rw [hKT, kidT_len]; exact hkl.symm
    have hKz := ETs.sz_ge KT
    rw [← hKT] at hplain
    rw [hplain.2] at hsz
    have hnw : nw ≤ 1000 := by rcases ok.arity with h5 | h5 <;> simp only at h5
                               · rw [h5] at hwl; simp at hwl; omega
                               · omega
    have hsel : ((kind == 1) = true ∧ decide (server < (ln : Int)) = false) ∨ (kind == 1) = false := by
      by_cases hk : kind = 1
      · exact .inl ⟨by simp [hk], decide_eq_false fun h => hsub ⟨hk, h⟩⟩
      · exact .inr (by simpa using hk)
    have HPL := Lib.hid hplain
    have HCL := Lib.hid (fun w2 (hw2 : Below w.heap.size w w2) => clone_c ws aw nw cw w2 ((rw3.below hI.bel).below hw2) (by omega))
    have HWL := Lib.hid hwl
    have HKL := Lib.hid hkl
    have HLN := Lib.hid hln
    have HHL := Lib.hid hl
    have HKT := Lib.hid hKT
    have HW3 := Lib.hid rw3
    have HK4 := Lib.hid rk4
    have HOK := Lib.hid ok
    subst ha
    have hin : i < n := by omega
    have hbi : decide ((i : Int) < (n : Int)) = true := decide_eq_true (by omega)
    have hkr : ∀ z ∈ ks, 0 ≤ z ∧ z < (i : Int) := ok.kids
    have HKR := Lib.hid hkr
    have HKs := Lib.hid hKl
    have hnk : nk ≤ 1000 := by omega
    have HSZ := Lib.hid hsz
    clear hkr hKl hsz hKz hwl hkl hln hl hplain hKT rw3 rk4 ok hM hat hnd h1 h2 hI hrec hys
    rcases hsel with ⟨e1, e2⟩ | e1
    all_goals
      go_enter Tryd.func69, Tryd.ntmps69
      go_wp2_with fail
      generalize hW2 : (w.alloc _).alloc _ = W2
      have gX : W2.heap[w.heap.size]? = some (.cells #[.slice (some ⟨b, o, none⟩) n c, .int .i64 x.root] 28 (0, 0)) := by rw [← hW2]; exact heap_alloc_at (heap_alloc_new _ _) _
      have gN : W2.heap[w.heap.size + 1]? = some (.cells #[.int .i64 kind, .int .i64 server, .int .i64 need, .slice aw nw cw, .slice ak nk ck] 58 (0, 0)) := by
        rw [← hW2]
        have := heap_alloc_new (w.alloc (Obj.cells #[.slice (some ⟨b, o, none⟩) n c, .int .i64 x.root] 28)) (.cells #[.int .i64 kind, .int .i64 server, .int .i64 need, .slice aw nw cw, .slice ak nk ck] 58)
        rw [World.size_alloc] at this; exact this
      have hb2 : Below w.heap.size w W2 := by rw [← hW2]; exact ((Below.refl _ _).alloc (Nat.le_refl _) _).alloc (by simp) _
      have hs2 : W2.heap.size = w.heap.size + 2 := by rw [← hW2]; simp
      have GX := Lib.hid gX
      have GN := Lib.hid gN
      have HB2 := Lib.hid hb2
      have HS2 := Lib.hid hs2
      have HC2 := Lib.hid (HCL.out W2 hb2)
      clear hW2 gX gN hb2 hs2 HCL m0 m1 m2 m3 m4
      with_reducible refine HC2.out.mono ?_
      rintro e w3 ⟨wv, rfl, hrw, hb3⟩
      obtain ⟨aw2, cw2, rfl, _⟩ := rd_of_row hrw
      have gN3 := heap_below hb3 GN.out
      have p3 := cell_of_row _ _ 3 _ _ _ gN3
      have p4 := cell_of_row _ _ 4 _ _ _ gN3
      have z3 := frozen_row gN3 3
      have z4 := frozen_row gN3 4
      have HRW := Lib.hid hrw
      have HB3 := Lib.hid hb3
      have GN3 := Lib.hid gN3
      clear hrw hb3 gN3 HC2
      go_wp2_with fail
      generalize hW4 : (w3.setCell _ _).setCell _ _ = W4
      have hN3 : w.heap.size + 1 < w3.heap.size := (Array.getElem?_eq_some_iff.1 GN3.out).1
      have gN4 : W4.heap[w.heap.size + 1]? = some (.cells #[.int .i64 kind, .int .i64 server, .int .i64 need, .slice aw2 nw cw2, .slice none 0 0] 58 (0, 0)) := by
        rw [← hW4]
        have h5 : (w3.setCell ⟨w.heap.size + 1, 4, none⟩ (.slice none 0 0)).heap[w.heap.size + 1]? = some (.cells #[.int .i64 kind, .int .i64 server, .int .i64 need, .slice aw nw cw, .slice none 0 0] 58 (0, 0)) := by rw [heap_set_at GN3.out]; rfl
        rw [heap_set_at h5]; rfl
      have hs3 : W4.heap.size = w3.heap.size := by rw [← hW4]; simp
      have hk4 : ∀ g, g ≠ w.heap.size + 1 → W4.heap[g]? = w3.heap[g]? := fun g hg => by
        rw [← hW4, Below.heap_setCell _ ⟨w.heap.size + 1, 3, none⟩ _ g (by exact hg), Below.heap_setCell _ ⟨w.heap.size + 1, 4, none⟩ _ g (by exact hg)]
      have hb4 : Below w.heap.size w W4 := by
        rw [← hW4]
        exact ((HB2.out.trans (HB3.out.mono (by have := HS2.out; omega))).setCell (p := ⟨w.heap.size + 1, 4, none⟩) (Nat.le_succ _) _).setCell (p := ⟨w.heap.size + 1, 3, none⟩) (Nat.le_succ _) _
      have hrw4 : W4.ownsRow (w.heap.size + 2) 3 1 (.slice aw2 nw cw2) nw (ws.map (Value.int .i64)) := by
        rw [← HS2.out]
        exact rowK_at HRW.out fun g hg => hk4 g (by have := (HRW.out.lt g hg).1; have := HS2.out; omega)
      obtain ⟨r0, hL0⟩ := WrL.start (W2 := W2) (N := w.heap.size + 1) (s := w.heap.size + 2) (SW := fun g => (Value.slice aw2 nw cw2).ownBlock = some g) HI.out hOB hb4 gN4 (fun g g1 g2 g3 => by rw [hk4 g g3]; exact HB3.out.block g (by have := HS2.out; omega)) ⟨by omega, by omega⟩ (SlS.of_row hrw4) (fun g hg => .inr (hrw4.lt g hg).1) (fun g hg => (hrw4.lt g hg).2)
      have HL0 := Lib.hid hL0
      have hs4 : w.heap.size + 2 ≤ W4.heap.size := by omega
      clear hW4 gN4 hk4 hb4 hrw4 hL0 HRW HB3 GN3 p3 p4 z3 z4 hN3 hs3
      go_loopw [49] (fun q wr => ∃ k v' r kv S', k ≤ nk ∧ q = .int .i64 ((k : Nat) : Int) ∧ WrL w0 w W2 OB B (w.heap.size + 1) (w.heap.size + 2) noE S (fun g => (Value.slice aw2 nw cw2).ownBlock = some g) v nodes (.int .i64 kind) (.int .i64 server) (.int .i64 need) (.slice aw2 nw cw2) ws v' r kv S' (ETs.post (KT.take k) nodes.length) (ETs.idx (KT.take k) nodes.length) wr ∧ w.heap.size + 2 ≤ wr.heap.size) (fun q _ => nk - (intOf q).toNat)
      case atStart => exact ⟨0, v, r0, _, S, Nat.zero_le _, rfl, HL0.out, hs4⟩
      case round =>
        obtain ⟨k, v', r, kv, S', hk, rfl, hL, hsr⟩ := hrel
        by_cases hlt : k < nk
        · obtain ⟨z, hz⟩ : ∃ z, ks[k]? = some z := ⟨_, List.getElem?_eq_getElem (by have := HKL.out; omega)⟩
          have hzr := HKR.out z (List.mem_of_getElem? hz)
          obtain ⟨zn, hzn⟩ := Int.eq_ofNat_of_zero_le hzr.1
          subst hzn
          obtain ⟨b4, o4, ha4, hc4⟩ := HK4.out.at' (by omega)
          have hc := cell_keep (HI.out.bel.trans (hL.kb.bel.mono hB)) (hc4 k (.int .i64 zn) (by rw [List.getElem?_map, hz]; rfl))
          have gx := (hL.loc w.heap.size (Nat.le_refl _) (by omega) (by omega)).trans GX.out
          have x0 := cell_of_row _ _ 0 _ _ _ gx
          have x1 := cell_of_row _ _ 1 _ _ _ gx
          have hT := kidT_take x.nodes (subL ys) f ks k zn hz
          rw [← HKT.out, Int.toNat_natCast] at hT
          have hstep := post_step (KT.take k) (treF x.nodes (subL ys) f zn) nodes.length
          rw [← hT] at hstep
          have hszk := sz_take KT (k + 1)
          have hlen : (nodes ++ ETs.post (KT.take k) nodes.length).length = nodes.length + ETs.sz (KT.take k) := by rw [List.length_append, ETs.post_len]
          have hCall := ih (some ⟨b, o, none⟩) n c la ln lc hH1.out hH2.out zn (by omega) (by have := HHL.out; omega) wr S' v' (nodes ++ ETs.post (KT.take k) nodes.length) (hL.toI HI.out hB (by omega) hsr) (by have := HSZ.out; omega)
          rw [hlen] at hCall
          have HCALL := Lib.hid hCall
          have HSTEP := Lib.hid hstep
          have HL := Lib.hid hL
          subst ha4
          clear hCall hstep hL hT hz hszk hlen hc4 gx hzr
          go_wp2_with fail
          with_reducible refine HCALL.out.mono ?_
          rintro e w5 ⟨rfl, hO⟩
          obtain ⟨v5, S5, hL5, hs5⟩ := HL.out.call HI.out hsr hO
          have hR : (((nodes ++ ETs.post (KT.take k) nodes.length ++ (treF x.nodes (subL ys) f zn).post (nodes.length + ETs.sz (KT.take k))).length : Int) - 1) = ((nodes.length + ETs.sz (KT.take k) + (treF x.nodes (subL ys) f zn).sz - 1 : Nat) : Int) := by
            have := (treF x.nodes (subL ys) f zn).sz_pos
            rw [List.length_append, List.length_append, ETs.post_len, ET.post_len]; omega
          rw [hR] at hL5
          have hidl : (ETs.idx (KT.take k) nodes.length).length = k := by rw [ETs.idx_len, List.length_take]; have := HKs.out; omega
          obtain ⟨h51, h52, h53⟩ := HSTEP.out
          rw [← h51] at hL5
          generalize (nodes.length + ETs.sz (KT.take k) + (treF x.nodes (subL ys) f zn).sz - 1 : Nat) = R at hL5 h52
          have hrk := hL5.rk
          rw [hidl] at hrk
          obtain ⟨ak2, ck2, rfl, _⟩ := rd_of_row hrk
          have HRK := Lib.hid hrk
          have HL5 := Lib.hid hL5
          have H52 := Lib.hid h52
          have HIDL := Lib.hid hidl
          have hOB5 := cell_of_row _ _ 1 _ _ _ hL5.box
          have HBK := Lib.hid hL5.nb
          have hNn : w.heap.size + 1 < w5.heap.size := (Array.getElem?_eq_some_iff.1 hL5.nb).1
          have p4 := cell_of_row _ _ 4 _ _ _ HBK.out
          have z4 := frozen_row HBK.out 4
          have p4b : (w5.alloc (Obj.cells #[.int .i64 (R : Int)] 3)).cell? ⟨w.heap.size + 1, 4, none⟩ = some (.slice ak2 k ck2) := cell_of_row _ _ 4 _ _ _ (heap_alloc_at HBK.out _)
          have KA : Hid (∀ x y : World, x.grownBy y (Value.slice ak2 k ck2).ownBlock → x.heap[w.heap.size + 1]? = w5.heap[w.heap.size + 1]? → w5.heap.size ≤ x.heap.size → y.heap[w.heap.size + 1]? = some (.cells #[.int .i64 kind, .int .i64 server, .int .i64 need, .slice aw2 nw cw2, .slice ak2 k ck2] 58 (0, 0))) := Lib.hid (fun x y hg hx hsx => by
            rw [hg.block _ (by omega) (fun e => by have := (HRK.out.lt _ e.symm).1; omega), hx]
            exact HBK.out)
          obtain ⟨ii, hi0, hz0, hz1, hz2⟩ := info_parts Tryd.infoInt
          clear hL5 hR hidl h51 h52 h53 hrk HSTEP HCALL hO HL x0 x1 hc
          go_wp2_with fail
          go_region_law (first
            | (refine step_append_lies _ (by rfl) _ _ _ (by rfl) (w.heap.size + 2) 3 ii _ 1 8 Tryd.underlying56 hi0 hz0 hz1 hz2 rfl (by omega) (.slice ak2 k ck2) k _ (by rfl) ((HRK.out.alloc _).drew) ⟨w5.heap.size, 0, none⟩ 1 1 [.int .i64 (R : Int)] (by rfl) (by rfl) (World.news_of_block (cs := #[.int .i64 (R : Int)]) (t := 3) (fr := (0, 0)) (heap_alloc_new w5 _)) (by simp [Value.oneCell']) (by omega) (by unfold maxLen; omega) (by omega) (by simp; omega) (w5.heap.size + 1) (by simp) ?_; intro gg cap wA hownA hgrow hat hlt; have hA := KA.out _ _ hgrow (Below.heap_alloc w5 _ _ (by omega)) (by simp); have pA := cell_of_row _ _ 4 _ _ _ hA; have zA := frozen_row hA 4; have HA := Lib.hid hA; have HOA := Lib.hid hownA; have HGA := Lib.hid hgrow; have HAT := Lib.hid hat; clear hA hownA hgrow hat p4 z4 p4b))
          all_goals
            have hK := HL5.out.kid HI.out hOB (by omega) (x := (w5.alloc _).drew) (below_drew ((Below.refl _ _).alloc (Nat.le_refl _) _)) HGA.out (by rw [HIDL.out]; exact HOA.out) (fun g hg => by
              have e2 : gg = g := by simpa [Value.ownBlock] using hg
              rcases HAT.out with h1 | h1
              · exact .inl (e2 ▸ h1)
              · exact .inr (by omega)) HGA.out.size
            have hsA : w.heap.size + 2 ≤ wA.heap.size := by
              have := HGA.out.size
              simp at this; omega
            rw [← H52.out] at hK
            have HK := Lib.hid hK
            clear hK HGA HOA HA pA zA HAT
            generalize hw6 : wA.setCell _ _ = w6 at HK ⊢
            have hs6 : w.heap.size + 2 ≤ w6.heap.size := by rw [← hw6]; simpa using hsA
            clear hw6
            go_wp2_with fail
            go_roundw
            case rel => exact ⟨k + 1, v5, .int .i64 (R : Int), .slice (some ⟨gg, 0, none⟩) (k + 1) cap, S5, by omega, by go_num, HK.out, hs6⟩
            case measure => simp [intOf] <;> omega
        · have hkn : k = nk := by omega
          subst hkn
          rw [List.take_of_length_le (by have := HKs.out; omega)] at hL
          have hidl : (ETs.idx KT nodes.length).length = k := by rw [ETs.idx_len, HKs.out]
          have hrk := hL.rk
          rw [hidl] at hrk
          obtain ⟨ak2, ck2, rfl, _⟩ := rd_of_row hrk
          obtain ⟨V, hV1, hV2, hV3⟩ := hL.xb.row
          have hlen : (nodes ++ ETs.post KT nodes.length).length = nodes.length + ETs.sz KT := by rw [List.length_append, ETs.post_len]
          have hn1 : (nodes ++ ETs.post KT nodes.length).length ≤ 1000 := by have := HSZ.out; omega
          obtain ⟨NN, hNN⟩ : ∃ NN, NN = (nodes ++ ETs.post KT nodes.length).length := ⟨_, rfl⟩
          rw [← hNN] at hV2 hn1
          obtain ⟨av, cv, rfl, _⟩ := rdK_of_row hV2
          have HN := Lib.hid hNN
          have HL := Lib.hid hL
          have HV1 := Lib.hid hV1
          have HV3 := Lib.hid hV3
          have HRV := Lib.hid hV2
          have hob := HI.out.ob_lt
          have hbb := hL.box
          have hOBw : OB < wr.heap.size := (Array.getElem?_eq_some_iff.1 hbb).1
          have q0 := cell_of_row _ _ 0 _ _ _ hbb
          have f0 := frozen_row hbb 0
          have f1 := frozen_row hbb 1
          have n0 := cell_of_row _ _ 0 _ _ _ hL.nb
          have n1 := cell_of_row _ _ 1 _ _ _ hL.nb
          have n2 := cell_of_row _ _ 2 _ _ _ hL.nb
          have n3 := cell_of_row _ _ 3 _ _ _ hL.nb
          have n4 := cell_of_row _ _ 4 _ _ _ hL.nb
          have q0b : (wr.alloc (Obj.cells #[.int .i64 kind, .int .i64 server, .int .i64 need, .slice aw2 nw cw2, .slice ak2 k ck2] 58)).cell? ⟨OB, 0, none⟩ = some (.slice av NN cv) := cell_of_row _ _ 0 _ _ _ (heap_alloc_at hbb _)
          have HBB := Lib.hid hbb
          have hown : ∀ g, (Value.slice av NN cv).ownBlock = some g → B ≤ g ∧ g ≠ OB := fun g hg => ⟨(HRV.out.lt g hg).1, fun e => by
            subst e
            rcases HL.out.own _ hg with h6 | h6
            · exact HI.out.own h6
            · omega⟩
          have KA : Hid (∀ x y : World, x.grownBy y (Value.slice av NN cv).ownBlock → x.heap[OB]? = wr.heap[OB]? → wr.heap.size ≤ x.heap.size → y.heap[OB]? = some (.cells #[.slice av NN cv, r] 28 (0, 0))) := Lib.hid (fun x y hg hx hsx => by
            rw [hg.block _ (by omega) (fun e => (hown _ e.symm).2 rfl), hx]
            exact HBB.out)
          obtain ⟨i0, hi0, hz0, hz1, hz2⟩ := info_parts Tryd.infoNod
          have hNs : B ≤ wr.heap.size := by omega
          clear hL hidl hV1 hV2 hV3 hbb hlen hrk hown hNN
          go_wp2_with fail
          go_region_law (first
            | (refine step_append_lies _ (by rfl) _ _ _ (by rfl) B 58 i0 _ 5 72 Tryd.underlying26 hi0 hz0 hz1 hz2 rfl (by omega) (.slice av NN cv) NN _ (by rfl) ((HRV.out.alloc _).drew) ⟨wr.heap.size, 0, none⟩ 1 1 [.int .i64 kind, .int .i64 server, .int .i64 need, .slice aw2 nw cw2, .slice ak2 k ck2] (by rfl) (by rfl) (World.news_of_block (cs := #[.int .i64 kind, .int .i64 server, .int .i64 need, .slice aw2 nw cw2, .slice ak2 k ck2]) (t := 58) (fr := (0, 0)) (heap_alloc_new wr _)) (by simp [Value.oneCell']) (by omega) (by unfold maxLen; omega) (by omega) (by simp; omega) (wr.heap.size + 1) (by simp) ?_; intro gg cap wA hownA hgrow hat hlt; have hA := KA.out _ _ hgrow (Below.heap_alloc wr _ _ (by omega)) (by simp); have pA := cell_of_row _ _ 0 _ _ _ hA; have zA := frozen_row hA 0; have zA1 := frozen_row hA 1; have pA1 := cell_of_row _ _ 1 _ _ _ hA; have HA := Lib.hid hA; have HOA := Lib.hid hownA; have HGA := Lib.hid hgrow; have HAT := Lib.hid hat; clear hA hownA hgrow hat q0 q0b f0 f1))
          all_goals
            obtain ⟨a5, c5, hv5, _⟩ := rdK_of_row HOA.out
            cases hv5
            have hFin := fun q hq => WrL.fin HL.out HI.out hOB (by omega) HV1.out HV3.out (x := (wr.alloc _).drew) (u := .slice (some ⟨gg, 0, none⟩) (NN + 1) cap) (y := wA) (below_drew ((Below.refl _ _).alloc (Nat.le_refl _) _)) HGA.out (by rw [← HN.out]; exact HOA.out) (fun g hg => by
              have e2 : gg = g := by simpa [Value.ownBlock] using hg
              rcases HAT.out with h1 | h1
              · exact .inl (e2 ▸ h1)
              · exact .inr (by omega)) HGA.out.size (q := q) hq
            have HFIN := Lib.hid hFin
            clear hFin HOA HGA HAT HL HV1 HV3 HRV KA HBB
            go_wp2_with fail
            go_end0
            refine ⟨rfl, ?_⟩
            rw [HPL.out.1]
            exact HFIN.out _ (by congr 1; rw [← List.append_assoc, List.length_append, ← HN.out, List.length_singleton]; omega)
theorem write_top (x : Xpr) (hx : xprE x = 0) (ys : List Xpr) (hys : ∀ y ∈ ys, xprE y = 0) (w0 : World) (OB B : Nat) (hB : w0.heap.size ≤ B) (hOB : B ≤ OB) (hrec : ∀ y ∈ ys, WrC y [] w0 OB B (y.root.toNat + 1)) : ∀ f, WrC x ys w0 OB B f
  | 0 => fun a n c la ln lc h1 h2 i hi => by omega
  | f + 1 => write_step x hx ys hys w0 OB B hB hOB hrec f (write_top x hx ys hys w0 OB B hB hOB hrec f)
/-- write, whatever the list -/
theorem write_c (x : Xpr) (hx : xprE x = 0) (ys : List Xpr) (hys : ∀ y ∈ ys, xprE y = 0) (w0 : World) (OB B : Nat) (hB : w0.heap.size ≤ B) (hOB : B ≤ OB) (f : Nat) : WrC x ys w0 OB B f :=
  write_top x hx ys hys w0 OB B hB hOB (fun y hy => write_top y (hys y hy) [] (fun _ h => by cases h) w0 OB B hB hOB (fun _ h => by cases h) _) f
end Go.Proofs.YtmjgdnpfgkpaoaaDoor
