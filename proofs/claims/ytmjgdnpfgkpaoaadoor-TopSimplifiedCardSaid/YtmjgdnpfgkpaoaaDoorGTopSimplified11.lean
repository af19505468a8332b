/- Texts laid together. slices.Min and slices.Max of ints; light. The kids of a tree that reads by a set of blocks. Plain lemmas over the model. merged: kids of a form replaced by their kids. Simplifying, plain: the fold step by step, light. -/
import Derived.Test.YtmjgdnpfgkpaoaaDoorGTopSimplified4
import Derived.Test.YtmjgdnpfgkpaoaaDoorGTopSimplified10
import Derived.RangeFuncRecord
namespace Go.Proofs.YtmjgdnpfgkpaoaaDoor
open Go.RowKit Go.Shelf

theorem least_step {l : List Int} {k : Nat} {z : Int} (h : l[k]? = some z) (hk : 1 ≤ k) : leastL (l.take (k + 1)) = min (leastL (l.take k)) z := by
  cases l with
  | nil => simp at h
  | cons a l =>
    obtain ⟨j, rfl⟩ : ∃ j, k = j + 1 := ⟨k - 1, by omega⟩
    rw [List.take_add_one, h]
    show (l.take j ++ [z]).foldl min a = min ((l.take j).foldl min a) z
    rw [List.foldl_append]; rfl
theorem great_step {l : List Int} {k : Nat} {z : Int} (h : l[k]? = some z) (hk : 1 ≤ k) : greatL (l.take (k + 1)) = max (greatL (l.take k)) z := by
  cases l with
  | nil => simp at h
  | cons a l =>
    obtain ⟨j, rfl⟩ : ∃ j, k = j + 1 := ⟨k - 1, by omega⟩
    rw [List.take_add_one, h]
    show (l.take j ++ [z]).foldl max a = max ((l.take j).foldl max a) z
    rw [List.foldl_append]; rfl

set_option maxRecDepth 100000 in
set_option maxHeartbeats 4000000 in
theorem smin_c (l : List Int) (hl : l ≠ []) (a : Option Addr) (n c : Nat) (w : World) (h : Rd w a n c (l.map (Value.int .i64))) :
    Calls Tryd.prog 70 #[.slice a n c] w fun e w' => e = .returned (.int .i64 (leastL l)) ∧ w' = w := by
  have hlen := h.len
  rw [List.length_map] at hlen
  have hle := h.le
  have hm := h.max
  unfold maxLen at hm
  have hn1 : 1 ≤ n := by
    cases l with
    | nil => exact absurd rfl hl
    | cons a l => rw [hlen]; simp
  obtain ⟨b, o, rfl, hc⟩ := h.at' (by omega)
  obtain ⟨z0, hz0⟩ : ∃ z, l[0]? = some z := ⟨_, List.getElem?_eq_getElem (by omega)⟩
  have hcell := hc 0 (.int .i64 z0) (by rw [List.getElem?_map, hz0]; rfl)
  rw [Nat.add_zero] at hcell
  have hV0 : Hid (leastL (l.take 1) = z0) := Lib.hid (by
    cases l with
    | nil => simp at hz0
    | cons a l => simp at hz0; subst hz0; rfl)
  have HL := Lib.hid hlen
  have HC := Lib.hid hc
  have hnn : ¬ ((n : Int) < 1) := by omega
  clear h hl hlen hc hz0
  go_enter Tryd.func70, Tryd.ntmps70
  go_wp2_with fail
  go_loopw [3, 4] (fun m i wr => ∃ k : Nat, 1 ≤ k ∧ k ≤ n ∧ i = .int .i64 k ∧ m = .int .i64 (leastL (l.take k)) ∧ wr = w) (fun _ i _ => n - (intOf i).toNat)
  case atStart => exact ⟨1, Nat.le_refl _, hn1, rfl, by rw [hV0.out], rfl⟩
  case round =>
    obtain ⟨k, hk1, hk, rfl, rfl, rfl⟩ := hrel
    by_cases hlt : k < n
    · obtain ⟨z, hz⟩ : ∃ z, l[k]? = some z := ⟨_, List.getElem?_eq_getElem (by have := HL.out; omega)⟩
      have hcz := HC.out k (.int .i64 z) (by rw [List.getElem?_map, hz]; rfl)
      have HST := Lib.hid (least_step hz hk1)
      clear hz
      go_wp2_with fail
      go_roundw
      case rel => exact ⟨k + 1, by omega, by omega, by go_num, by rw [HST.out], trivial⟩
      case measure => simp [intOf]; omega
    · obtain rfl : k = n := by omega
      have HE : Hid (l.take k = l) := Lib.hid (List.take_of_length_le (by have := HL.out; omega))
      go_wp2_with fail
      go_ret
      exact ⟨ret_int (by rw [HE.out]), rfl⟩

set_option maxRecDepth 100000 in
set_option maxHeartbeats 4000000 in
theorem smax_c (l : List Int) (hl : l ≠ []) (a : Option Addr) (n c : Nat) (w : World) (h : Rd w a n c (l.map (Value.int .i64))) :
    Calls Tryd.prog 71 #[.slice a n c] w fun e w' => e = .returned (.int .i64 (greatL l)) ∧ w' = w := by
  have hlen := h.len
  rw [List.length_map] at hlen
  have hle := h.le
  have hm := h.max
  unfold maxLen at hm
  have hn1 : 1 ≤ n := by
    cases l with
    | nil => exact absurd rfl hl
    | cons a l => rw [hlen]; simp
  obtain ⟨b, o, rfl, hc⟩ := h.at' (by omega)
  obtain ⟨z0, hz0⟩ : ∃ z, l[0]? = some z := ⟨_, List.getElem?_eq_getElem (by omega)⟩
  have hcell := hc 0 (.int .i64 z0) (by rw [List.getElem?_map, hz0]; rfl)
  rw [Nat.add_zero] at hcell
  have hV0 : Hid (greatL (l.take 1) = z0) := Lib.hid (by
    cases l with
    | nil => simp at hz0
    | cons a l => simp at hz0; subst hz0; rfl)
  have HL := Lib.hid hlen
  have HC := Lib.hid hc
  have hnn : ¬ ((n : Int) < 1) := by omega
  clear h hl hlen hc hz0
  go_enter Tryd.func71, Tryd.ntmps71
  go_wp2_with fail
  go_loopw [3, 4] (fun m i wr => ∃ k : Nat, 1 ≤ k ∧ k ≤ n ∧ i = .int .i64 k ∧ m = .int .i64 (greatL (l.take k)) ∧ wr = w) (fun _ i _ => n - (intOf i).toNat)
  case atStart => exact ⟨1, Nat.le_refl _, hn1, rfl, by rw [hV0.out], rfl⟩
  case round =>
    obtain ⟨k, hk1, hk, rfl, rfl, rfl⟩ := hrel
    by_cases hlt : k < n
    · obtain ⟨z, hz⟩ : ∃ z, l[k]? = some z := ⟨_, List.getElem?_eq_getElem (by have := HL.out; omega)⟩
      have hcz := HC.out k (.int .i64 z) (by rw [List.getElem?_map, hz]; rfl)
      have HST := Lib.hid (great_step hz hk1)
      clear hz
      go_wp2_with fail
      go_roundw
      case rel => exact ⟨k + 1, by omega, by omega, by go_num, by rw [HST.out], trivial⟩
      case measure => simp [intOf]; omega
    · obtain rfl : k = n := by omega
      have HE : Hid (l.take k = l) := Lib.hid (List.take_of_length_le (by have := HL.out; omega))
      go_wp2_with fail
      go_ret
      exact ⟨ret_int (by rw [HE.out]), rfl⟩

/-- the need and the weights of a light threshold -/
def lgtV (need sum : Int) (ws : List Int) (nk : Nat) (wv : Value) : Int × Value :=
  if need ≤ leastL ws then (1, .slice none 0 0) else if sum - leastL ws < need then ((nk : Int), .slice none 0 0)
  else if leastL ws = greatL ws then ((need + leastL ws - 1) / leastL ws, .slice none 0 0) else (need, wv)
set_option maxRecDepth 100000 in
set_option maxHeartbeats 4000000 in
theorem light_c (need sum : Int) (ws : List Int) (hne : ws ≠ []) (hws : ∀ w ∈ ws, 1 ≤ w ∧ w ≤ 1000) (hn : 1 ≤ need ∧ need ≤ 100000) (hs : 0 ≤ sum ∧ sum ≤ 1000000000) (aw : Option Addr) (nw cw : Nat) (ak : Option Addr) (nk ck : Nat) (w : World) (h : Rd w aw nw cw (ws.map (Value.int .i64))) :
    Calls Tryd.prog 43 #[.int .i64 need, .int .i64 sum, .slice aw nw cw, .slice ak nk ck] w fun e w' => ∃ u, lgtV need sum ws nk (.slice aw nw cw) = u ∧ (∃ a n c, u.2 = .slice a n c) ∧ e = .returned (.agg #[.bool false, .int .i64 0, .int .i64 u.1, u.2, .slice ak nk ck]) ∧ Below w.heap.size w w' := by
  obtain ⟨m1, m2⟩ := hws _ (least_mem hne)
  obtain ⟨g1, g2⟩ := hws _ (great_mem hne)
  have H1 := Lib.hid (fun (u : World) (hu : Below w.heap.size w u) => smin_c ws hne aw nw cw u (h.below hu))
  have H2 := Lib.hid (fun (u : World) (hu : Below w.heap.size w u) => smax_c ws hne aw nw cw u (h.below hu))
  have HV : Hid (lgtV need sum ws nk (.slice aw nw cw) = if need ≤ leastL ws then (1, .slice none 0 0) else if sum - leastL ws < need then ((nk : Int), .slice none 0 0)
    else if leastL ws = greatL ws then ((need + leastL ws - 1) / leastL ws, .slice none 0 0) else (need, .slice aw nw cw)) := rfl
  generalize lgtV need sum ws nk (.slice aw nw cw) = RV at HV ⊢
  generalize leastL ws = M at m1 m2 H1 HV
  generalize greatL ws = G at g1 g2 H2 HV
  clear h hne hws
  have hb1 : Below w.heap.size w (w.alloc (.cells zTre 64)) := (Below.refl _ _).alloc (Nat.le_refl _) _
  have HH1 := Lib.hid (H1.out _ hb1)
  have HH2 := Lib.hid (H2.out _ hb1)
  have w1 : wrap64 (sum - M) = sum - M := by unfold wrap64; omega
  have w2 : wrap64 (need + M) = need + M := by unfold wrap64; omega
  have w3 : wrap64 (need + M - 1) = need + M - 1 := by unfold wrap64; omega
  clear H1 H2
  by_cases c1 : need ≤ M
  · have d1 : ¬ M < need := by omega
    have HU : Hid (RV = (1, .slice none 0 0)) := Lib.hid (by rw [HV.out, if_pos c1])
    clear HV
    go_enter Tryd.func43, Tryd.ntmps43
    go_wp2_with fail
    with_reducible refine HH1.out.mono ?_
    rintro e v1 ⟨rfl, rfl⟩
    go_wp2_with fail
    with_reducible refine HH2.out.mono ?_
    rintro e v2 ⟨rfl, rfl⟩
    go_wp2_with fail
    refine bodyPost_ret (v := .agg #[.bool false, .int .i64 0, .int .i64 1, .slice none 0 0, .slice ak nk ck]) ?_ rfl ⟨_, HU.out, ⟨_, _, _, rfl⟩, rfl, (Below.refl _ _).alloc (Nat.le_refl _) _⟩
    exact results_cell_row rfl _ _ _ _ _ _ _ rfl (heap_alloc_new w _) Tryd.underlying64 rfl (by kernel_rfl)
  · have d1 : M < need := by omega
    by_cases c2 : sum - M < need
    · skip
      have HU : Hid (RV = ((nk : Int), .slice none 0 0)) := Lib.hid (by rw [HV.out, if_neg c1, if_pos c2])
      clear HV
      go_enter Tryd.func43, Tryd.ntmps43
      go_wp2_with fail
      with_reducible refine HH1.out.mono ?_
      rintro e v1 ⟨rfl, rfl⟩
      go_wp2_with fail
      with_reducible refine HH2.out.mono ?_
      rintro e v2 ⟨rfl, rfl⟩
      go_wp2_with fail
      refine bodyPost_ret (v := .agg #[.bool false, .int .i64 0, .int .i64 (nk : Int), .slice none 0 0, .slice ak nk ck]) ?_ rfl ⟨_, HU.out, ⟨_, _, _, rfl⟩, rfl, (Below.refl _ _).alloc (Nat.le_refl _) _⟩
      exact results_cell_row rfl _ _ _ _ _ _ _ rfl (heap_alloc_new w _) Tryd.underlying64 rfl (by kernel_rfl)
    · have d2 : need ≤ sum - M := by omega
      by_cases c3 : M = G
      · subst c3
        have hq : (need + M - 1).tdiv M = (need + M - 1) / M := Int.tdiv_eq_ediv_of_nonneg (by omega)
        have hq1 : 0 ≤ (need + M - 1) / M := Int.ediv_nonneg (by omega) (by omega)
        have hq2 : (need + M - 1) / M ≤ 101000 := Int.le_trans (Int.ediv_le_self _ (by omega)) (by omega)
        have hq3 : wrap64 ((need + M - 1) / M) = (need + M - 1) / M := by generalize (need + M - 1) / M = Q at hq1 hq2 ⊢; unfold wrap64; omega
        have e3 : (M == M) = true := by simp
        have hM0 : M ≠ 0 := by omega
        have HU : Hid (RV = ((need + M - 1) / M, .slice none 0 0)) := Lib.hid (by rw [HV.out, if_neg c1, if_neg c2, if_pos rfl])
        clear HV
        go_enter Tryd.func43, Tryd.ntmps43
        go_wp2_with fail
        with_reducible refine HH1.out.mono ?_
        rintro e v1 ⟨rfl, rfl⟩
        go_wp2_with fail
        with_reducible refine HH2.out.mono ?_
        rintro e v2 ⟨rfl, rfl⟩
        go_wp2_with fail
        refine bodyPost_ret (v := .agg #[.bool false, .int .i64 0, .int .i64 ((need + M - 1) / M), .slice none 0 0, .slice ak nk ck]) ?_ rfl ⟨_, HU.out, ⟨_, _, _, rfl⟩, rfl, (Below.refl _ _).alloc (Nat.le_refl _) _⟩
        exact results_cell_row rfl _ _ _ _ _ _ _ rfl (heap_alloc_new w _) Tryd.underlying64 rfl (by kernel_rfl)
      · have e3 : (M == G) = false := by simpa using c3
        have HU : Hid (RV = (need, .slice aw nw cw)) := Lib.hid (by rw [HV.out, if_neg c1, if_neg c2, if_neg c3])
        clear HV
        go_enter Tryd.func43, Tryd.ntmps43
        go_wp2_with fail
        with_reducible refine HH1.out.mono ?_
        rintro e v1 ⟨rfl, rfl⟩
        go_wp2_with fail
        with_reducible refine HH2.out.mono ?_
        rintro e v2 ⟨rfl, rfl⟩
        go_wp2_with fail
        refine bodyPost_ret (v := .agg #[.bool false, .int .i64 0, .int .i64 need, .slice aw nw cw, .slice ak nk ck]) ?_ rfl ⟨_, HU.out, ⟨_, _, _, rfl⟩, rfl, (Below.refl _ _).alloc (Nat.le_refl _) _⟩
        exact results_cell_row rfl _ _ _ _ _ _ _ rfl (heap_alloc_new w _) Tryd.underlying64 rfl (by kernel_rfl)
end Go.Proofs.YtmjgdnpfgkpaoaaDoor
namespace Go.Proofs.YtmjgdnpfgkpaoaaDoor
open Go.RowKit

theorem trVC_inj {p q : TrV} (h : ∀ j, j < 5 → (trVC p)[j]? = (trVC q)[j]?) : p = q := by
  obtain ⟨a0, a1, a2, a3, a4⟩ := p
  obtain ⟨b0, b1, b2, b3, b4⟩ := q
  have h0 := h 0 (by omega)
  have h1 := h 1 (by omega)
  have h2 := h 2 (by omega)
  have h3 := h 3 (by omega)
  have h4 := h 4 (by omega)
  simp [trVC] at h0 h1 h2 h3 h4
  subst h0 h1 h2 h3 h4
  rfl
theorem TrS.kids {S : Nat → Prop} {w : World} {lf : Bool} {sv nd n : Int} {wv : Value} {ak : Option Addr} {nk ck : Nat} {ws : List Int} {ks : List ET} (h : TrS S w ⟨lf, sv, nd, wv, .slice ak nk ck⟩ (.thr n ws ks)) :
    ∃ V : List TrV, V.length = ks.length ∧ nk = ks.length ∧ RdK 5 w ak nk ck (V.flatMap trVC) ∧ (∀ (i : Nat) p t, V[i]? = some p → ks[i]? = some t → TrS S w p t) ∧ SlS S w wv ws ∧ lf = false ∧ sv = 0 ∧ nd = n ∧ ∃ a m c, wv = .slice a m c := by
  have hw : SlS S w wv ws := fun w2 ha => by
    cases h w2 ha with
    | thr n ws ks aw nw cw ak nk ck V hw hl hk hr =>
      have := hw.len
      rw [List.length_map] at this
      subst this
      exact ⟨aw, cw, rfl, hw⟩
  cases h.r with
  | thr n ws ks aw nw cw ak nk ck V hw1 hl hk hr =>
    have hn : nk = ks.length := by
      have h1 := hk.len
      rw [flat_len 5 trVC trVC_len] at h1; omega
    refine ⟨V, hl, hn, hk, fun i p t hp ht w2 ha => ?_, hw, rfl, rfl, rfl, aw, nw, cw, rfl⟩
    have hi := (List.getElem?_eq_some_iff.1 ht).1
    obtain ⟨b, o, hak, hc⟩ := RdK.cells hk trVC_len (by omega)
    subst hak
    have hS : S b := Classical.byContradiction fun hb => by
      have h2 := h (w.putObj b (.deferred none)) (fun g hg => World.putObj_heap_other (fun e => hb (e ▸ hg)))
      cases h2 with
      | thr n ws ks aw nw cw ak nk ck V2 hw2 hl2 hk2 hr2 =>
        obtain ⟨b', o', e, hc2⟩ := RdK.cells hk2 trVC_len (by omega)
        cases e
        obtain ⟨q, hq⟩ : ∃ q, V2[i]? = some q := ⟨_, List.getElem?_eq_getElem (by omega)⟩
        have h3 := hc2 i q hq 0 (by omega)
        have h4 : (w.putObj b (.deferred none)).cell? ⟨b, o + i * 5 + 0, none⟩ = none := by
          unfold World.putObj World.cell?
          simp
          by_cases hlt : b < w.heap.size
          · simp [hlt]
          · simp [hlt]
        rw [h4] at h3
        simp [trVC] at h3
    cases h w2 ha with
    | thr n ws ks aw nw cw ak nk ck V2 hw2 hl2 hk2 hr2 =>
      obtain ⟨b', o', e, hc2⟩ := RdK.cells hk2 trVC_len (by omega)
      cases e
      obtain ⟨q, hq⟩ : ∃ q, V2[i]? = some q := ⟨_, List.getElem?_eq_getElem (by omega)⟩
      have e : p = q := trVC_inj fun j hj => by
        rw [← hc i p hp j hj, ← hc2 i q hq j hj]
        exact (World.cell?_of_block (w := w) (w' := w2) (a := ⟨b, o + i * 5 + j, none⟩) (ha b hS)).symm
      subst e
      exact hr2 i p t hq ht
/-- the block of the kids -/
theorem TrS.blk {S : Nat → Prop} {w : World} {lf : Bool} {sv nd : Int} {wv : Value} {ak : Option Addr} {nk ck : Nat} {t : ET} (h : TrS S w ⟨lf, sv, nd, wv, .slice ak nk ck⟩ t) : ∀ b o, ak = some ⟨b, o, none⟩ → 0 < t.kidsOf.length → S b := by
  intro b o hab hpos
  subst hab
  refine Classical.byContradiction fun hb => ?_
  have h2 := h (w.putObj b (.deferred none)) (fun g hg => World.putObj_heap_other (fun e => hb (e ▸ hg)))
  cases h2 with
  | thr n ws ks aw nw cw ak nk ck V2 hw2 hl2 hk2 hr2 =>
    have hpos2 : 0 < ks.length := hpos
    have h5 := hk2.len
    rw [flat_len 5 trVC trVC_len] at h5
    obtain ⟨b', o', e, hc2⟩ := RdK.cells hk2 trVC_len (by omega)
    cases e
    obtain ⟨q, hq⟩ : ∃ q, V2[0]? = some q := ⟨_, List.getElem?_eq_getElem (by omega)⟩
    have h3 := hc2 0 q hq 0 (by omega)
    have h4 : (w.putObj b (.deferred none)).cell? ⟨b, o + 0 * 5 + 0, none⟩ = none := by
      unfold World.putObj World.cell?
      simp
      by_cases hlt : b < w.heap.size
      · simp [hlt]
      · simp [hlt]
    rw [h4] at h3
    simp [trVC] at h3
theorem TrS.leaf {S : Nat → Prop} {w : World} {p : TrV} {s : Int} (h : TrS S w p (.srv s)) : p = ⟨true, s, 0, .slice none 0 0, .slice none 0 0⟩ := by
  cases h.r; rfl
theorem mergT_step {form : ET → Bool} {ks : List ET} {j : Nat} {k : ET} (h : ks[j]? = some k) : mergT form (ks.take (j + 1)) = mergT form (ks.take j) ++ (if form k = true then k.kidsOf else [k]) := by
  unfold mergT
  rw [List.take_add_one, h, List.flatMap_append]
  simp
theorem mergT_len {form : ET → Bool} (ks : List ET) (j : Nat) : (mergT form (ks.take j)).length ≤ ETs.sz ks := by
  have h1 := ETs.sz_ge (mergT form (ks.take j))
  have h2 := ETs.sz_flat form (ks.take j)
  have h3 := sz_take ks j
  omega
/-- 'out = append(out, xs...)', elements of k cells, and where the new row lies. -/
theorem wpList_appsK2 {P : Program} {ops : Array Oper} {rest : List Oper} {o : Oper} {a : Act} {Q : Exit → Act → World → Prop} {B : Nat} {w0 wr : World} {e : TypeId} {v : Value} {l : List Value} {n : Nat}
    (k : Nat) (s xo : Operand) (t : TypeId) (bytes : Nat) (z : Value) (ao : Option Addr) (m c : Nat) (news : List Value)
    (ht : P.underlying t = some (.slice e)) (hi : (P.info? e).map (fun i => (i.zero, i.size, i.bytes)) = some (some z, k, bytes)) (hz : z.cells.size = k) (hk : 0 < k)
    (hown : wr.ownsRow B e k v n l) (hb : Below B w0 wr) (hB : B ≤ w0.heap.size) (hr : RdK k wr ao m c news) (h1 : ∀ u ∈ news, u.oneCell' = true)
    (hg : o.guard = none) (hop : o.op = Op.call { callee := Callee.builtin Builtin.append, args := #[s, xo], argTypes := #[t, t] })
    (hs : a.eval s = v) (hx : a.eval xo = .slice ao m c)
    (hlen : n + m ≤ maxLen) (hby : (n + m) * bytes ≤ 140737488355328)
    (hK : ∀ v' w1, w1.ownsRow B e k v' (n + m) (l ++ news) → Below B w0 w1 → wr.grownBy w1 v.ownBlock → (∀ g, v'.ownBlock = some g → v.ownBlock = some g ∨ wr.heap.size ≤ g) → wpList P ops Q rest (a.put o.dst v') w1) :
    wpList P ops Q (o :: rest) a wr := by
  obtain ⟨i, hi1, hi2, hi3, hi4⟩ := info_parts hi
  have hsz := hb.size
  cases ao with
  | none =>
    have hc := hr.nil rfl
    have hm : m = 0 := by have := hr.le; omega
    subst hc hm
    have hnil : news = [] := List.eq_nil_of_length_eq_zero (by rw [← hr.len, Nat.zero_mul])
    subst hnil
    exact wpList_append_own_none hg s xo t hop B e i k ht hi1 v n l hs hown hx (hK v wr (by simpa using hown) hb (World.grownBy.refl _ _) fun g hg => .inl hg)
  | some ad =>
    refine wpList_append_own_at _ hg s xo t hop B e i z k bytes ht hi1 hi2 hi3 hi4 hz hk v n l hs hown ad m c news hx hr.len.symm ?_ h1 hlen hby (by omega) ?_
    · intro j u hj
      have hj' := (List.getElem?_eq_some_iff.1 hj).1
      have hm0 : 0 < m := by
        apply Nat.pos_of_ne_zero
        intro h0
        have := hr.len
        rw [h0, Nat.zero_mul] at this; omega
      obtain ⟨b, of, ha, hcell⟩ := hr.at' hm0
      cases ha
      rw [Addr.add_lit]
      exact hcell j u hj
    · intro v' w1 h2 h3 _ h5
      refine hK v' w1 h2 (hb.grown h3 (by omega) fun k hk => (hown.lt k hk).1) h3 fun g hg => ?_
      rcases h5 with h5 | h5
      · exact .inl (h5 ▸ hg)
      · rw [h5] at hg; injection hg with hg; exact .inr (by omega)
/-- cells of trees are single -/
theorem TrS.one {S : Nat → Prop} {w : World} {p : TrV} {t : ET} (h : TrS S w p t) : ∀ u ∈ trVC p, u.oneCell' = true := by
  cases h.r <;> (intro u hu; simp [trVC] at hu; rcases hu with rfl | rfl | rfl | rfl | rfl <;> rfl)
theorem one_flat {U : List TrV} {ts : List ET} {S : Nat → Prop} {w : World} (hl : U.length = ts.length) (h : ∀ (i : Nat) p s, U[i]? = some p → ts[i]? = some s → TrS S w p s) : ∀ u ∈ U.flatMap trVC, u.oneCell' = true := by
  intro u hu
  obtain ⟨p, hp, hup⟩ := List.mem_flatMap.1 hu
  obtain ⟨i, hi⟩ := List.getElem?_of_mem hp
  have hlt := (List.getElem?_eq_some_iff.1 hi).1
  exact (h i p _ hi (List.getElem?_eq_getElem (by omega))).one u hup
end Go.Proofs.YtmjgdnpfgkpaoaaDoor
namespace Go.Proofs.YtmjgdnpfgkpaoaaDoor
open Go.RowKit Go.Shelf

theorem TrS.shape {S : Nat → Prop} {w : World} {p : TrV} {t : ET} (h : TrS S w p t) : ∃ nw aw cw ak ck, p = ⟨p.leaf, p.server, p.need, .slice aw nw cw, .slice ak t.kidsOf.length ck⟩ := by
  obtain ⟨nw, aw, cw, ak, nk, ck, e, h1⟩ := TrM.shape h.r
  subst h1
  exact ⟨nw, aw, cw, ak, ck, e⟩
/-- the row of a tree's kids -/
theorem TrS.kids' {S : Nat → Prop} {w : World} {lf : Bool} {sv nd : Int} {wv : Value} {ak : Option Addr} {nk ck : Nat} {t : ET} (h : TrS S w ⟨lf, sv, nd, wv, .slice ak nk ck⟩ t) :
    ∃ U : List TrV, U.length = t.kidsOf.length ∧ nk = t.kidsOf.length ∧ RdK 5 w ak nk ck (U.flatMap trVC) ∧ ∀ (i : Nat) p s, U[i]? = some p → t.kidsOf[i]? = some s → TrS S w p s := by
  cases t with
  | srv s =>
    have := h.leaf
    cases this
    exact ⟨[], rfl, rfl, RdK.none_ _ _, fun i p s hp => by simp at hp⟩
  | thr n ws ks =>
    obtain ⟨U, h1, h2, h3, h4, _⟩ := h.kids
    exact ⟨U, h1, h2, h3, h4⟩

set_option maxRecDepth 100000 in
set_option maxHeartbeats 8000000 in
theorem merged_c (S : Nat → Prop) (form : ET → Bool) (G : Nat) (eg : ∀ args w, (callFunc G args).run Tryd.prog w = .ok (.enter G args) w) (HG : ∀ (p : TrV) (t : ET) (u : World), TrM u p t → Calls Tryd.prog G #[trA p] u fun e w' => e = .returned (.bool (form t)) ∧ Below u.heap.size u w')
    (p : TrV) (n : Int) (ws : List Int) (ks : List ET) (w : World) (h : TrS S w p (.thr n ws ks)) (hS : ∀ g, S g → g < w.heap.size) (hz : ETs.sz ks ≤ 1000) :
    Calls Tryd.prog 45 #[trA p, .func (.func G) #[] #[]] w fun e w' => RetT S (.thr n [] (mergT form ks)) w e w' := by
  obtain ⟨nw, aw, cw, ak, ck, hp⟩ := h.shape
  obtain ⟨lf, sv, nd, wv, kv⟩ := p
  simp only [TrV.mk.injEq, true_and] at hp
  obtain ⟨rfl, rfl⟩ := hp
  obtain ⟨V, hV1, hnk2, hV2, hV3, hSW, rfl, rfl, rfl, _⟩ := h.kids
  rw [show (ET.thr nd ws ks).kidsOf.length = ks.length from rfl] at hV2 h ⊢
  obtain ⟨nk, hnk⟩ : ∃ nk, ks.length = nk := ⟨_, rfl⟩
  rw [hnk] at hV1 hV2 h ⊢
  clear hnk2
  have hnk1 : nk ≤ 1000 := by have := ETs.sz_ge ks; omega
  have HV2 := Lib.hid hV2
  have HV3 := Lib.hid hV3
  have HV1 := Lib.hid hV1
  have HNK := Lib.hid hnk
  have HS := Lib.hid hS
  have HZ := Lib.hid hz
  have HHG := Lib.hid HG
  unfold trA
  clear h hV1 hV2 hV3 hSW hS hz HG hnk
  go_enter Tryd.func45, Tryd.ntmps45
  go_wp2_with fail
  generalize hW3 : ((w.alloc _).alloc _).alloc _ = w3
  obtain ⟨gX, gR, gO, hb3, hs3⟩ := box3 hW3
  have GR := Lib.hid gR
  have GO := Lib.hid gO
  have HB3 := Lib.hid hb3
  clear hW3 gX gR gO hb3
  go_loopw [14] (fun q wr => ∃ j kv, j ≤ nk ∧ q = .int .i64 ((j : Nat) : Int) ∧ wr.heap[w.heap.size + 1 + 1]? = some (.cells #[.bool false, .int .i64 0, .int .i64 nd, .slice none 0 0, kv] 64 (0, 0)) ∧ TB S (w.heap.size + 3) wr kv (mergT form (ks.take j)) ∧ (wr.heap[w.heap.size + 1]? = w3.heap[w.heap.size + 1]?) ∧ Below w.heap.size w wr ∧ w.heap.size + 3 ≤ wr.heap.size) (fun q _ => nk - (intOf q).toNat)
  case atStart => exact ⟨0, _, Nat.zero_le _, rfl, GO.out, GB.nil _ _ _ _ (fun g hg => by have := HS.out g hg; omega), rfl, HB3.out, by omega⟩
  case round =>
    obtain ⟨j, kv, hj, rfl, hO, hTB, hR, hbw, hsz⟩ := hrel
    by_cases hlt : j < nk
    · obtain ⟨kt, hkt⟩ : ∃ kt, ks[j]? = some kt := ⟨_, List.getElem?_eq_getElem (by have := HNK.out; omega)⟩
      obtain ⟨pk, hpk⟩ : ∃ pk, V[j]? = some pk := ⟨_, List.getElem?_eq_getElem (by have := HV1.out; omega)⟩
      have hts : TrS S wr pk kt := RS.below (HV3.out j pk kt hpk hkt) hbw HS.out
      obtain ⟨b, o, ha, hcells⟩ := RdK.cells (HV2.out.below hbw) trVC_len (by omega)
      have hc := hcells j pk hpk
      have c0 := hc 0 (by omega)
      have c1 := hc 1 (by omega)
      have c2 := hc 2 (by omega)
      have c3 := hc 3 (by omega)
      have c4 := hc 4 (by omega)
      obtain ⟨nw5, aw5, cw5, ak5, ck5, hpk5⟩ := TrS.shape hts
      obtain ⟨lf5, sv5, nd5, wv5, kv5⟩ := pk
      simp only [TrV.mk.injEq, true_and] at hpk5
      obtain ⟨rfl, rfl⟩ := hpk5
      obtain ⟨U, hU1, hU2, hU3, hU4⟩ := TrS.kids' hts
      obtain ⟨nk5, hnk5⟩ : ∃ nk5, kt.kidsOf.length = nk5 := ⟨_, rfl⟩
      rw [hnk5] at hU1 hU2 hU3 hts c4
      simp only [trVC, Nat.add_zero, List.getElem?_cons_zero, List.getElem?_cons_succ] at c0 c1 c2 c3 c4
      have HMS := Lib.hid (mergT_step (form := form) hkt)
      have hml := mergT_len (form := form) ks (j + 1)
      rw [HMS.out, List.length_append] at hml
      have hz := HZ.out
      obtain ⟨V0, hW1, hW2, hW3⟩ := hTB.row
      obtain ⟨L, hL⟩ : ∃ L, (mergT form (ks.take j)).length = L := ⟨_, rfl⟩
      rw [hL] at hW1 hW2 hml
      obtain ⟨a0, c0', rfl, _⟩ := rdK_of_row hW2
      have HTS := Lib.hid hts
      have HU1 := Lib.hid hU1
      have HU3 := Lib.hid hU3
      have HU4 := Lib.hid hU4
      have HNK5 := Lib.hid hnk5
      have HTB := Lib.hid hTB
      have HW1 := Lib.hid hW1
      have HW2 := Lib.hid hW2
      have HW3 := Lib.hid hW3
      have HO := Lib.hid hO
      have HR := Lib.hid hR
      have HBW := Lib.hid hbw
      have HL := Lib.hid hL
      have hbl := cell_lt c0
      subst ha
      have HCALL := Lib.hid (fun (u : World) (hu : Below wr.heap.size wr u) => HHG.out _ kt u (hts.r.keep hu))
      unfold trA at HCALL
      clear hts hU1 hU2 hU3 hU4 hnk5 hkt hpk hc hcells hTB hW1 hW2 hW3 hO hR hbw hL
      go_wp2_with fail
      generalize hWk : wr.alloc _ = wk
      have hbk : Below wr.heap.size wr wk := by rw [← hWk]; exact (Below.refl _ _).alloc (Nat.le_refl _) _
      have gk : wk.heap[wr.heap.size]? = some (.cells #[.bool lf5, .int .i64 sv5, .int .i64 nd5, .slice aw5 nw5 cw5, .slice ak5 nk5 ck5] 64 (0, 0)) := by rw [← hWk]; exact heap_alloc_new _ _
      have hsk : wk.heap.size = wr.heap.size + 1 := by rw [← hWk]; simp
      have hkc := eg
      clear hWk c0 c1 c2 c3 c4
      with_reducible refine (HCALL.out wk hbk).mono ?_
      rintro e w5 ⟨rfl, hb5⟩
      have HB5 := Lib.hid (Below.next hbk hb5)
      have g5 := heap_below hb5 gk
      have GO5 := Lib.hid (heap_below HB5.out HO.out)
      have o4 := (open5 GO5.out).2.2.2.2
      have HR5 := Lib.hid (rowK_below HW2.out HB5.out)
      have hs5 := hb5.size
      have HU35 := Lib.hid (HU3.out.below HB5.out)
      have hV5 := Lib.hid (fun (i : Nat) p nd hp hn => (RS.below (HW3.out i p nd hp hn) HB5.out HTB.out.lt : TrS S w5 p nd))
      have hU5 := Lib.hid (fun (i : Nat) p nd hp hn => (RS.below (HU4.out i p nd hp hn) HB5.out HTB.out.lt : TrS S w5 p nd))
      have hT5 : Hid (TrS S w5 ⟨lf5, sv5, nd5, .slice aw5 nw5 cw5, .slice ak5 nk5 ck5⟩ kt) := Lib.hid (RS.below HTS.out HB5.out HTB.out.lt)
      obtain ⟨k0, k1, k2, k3, k4⟩ := open5 g5
      clear gk hbk hb5 g5 HW2 HU3 HW3 HU4 HTS HCALL HHG
      by_cases hf : form kt = true
      · rw [if_pos hf, HNK5.out] at hml
        have HMS2 : Hid (mergT form (ks.take (j + 1)) = mergT form (ks.take j) ++ kt.kidsOf) := Lib.hid (by rw [HMS.out, if_pos hf])
        rw [hf]
        clear hf HMS
        go_wp2_with (at_builtin; go_must (refine wpList_appsK2 5 _ _ 62 72 (.agg #[.bool false, .int .i64 0, .int .i64 0, .slice none 0 0, .slice none 0 0]) ak5 nk5 ck5 (U.flatMap trVC) Tryd.underlying62 Tryd.infoTre rfl (by decide) HR5.out (Below.refl (w.heap.size + 3) w5) (by omega) HU35.out (one_flat (by rw [HU1.out, HNK5.out]) hU5.out) rfl rfl rfl rfl (by unfold maxLen; omega) (by omega) ?_))
        intro v6 w6 hown hb6 hg6 hv6
        have hTB6 := GB.pushes (HTB.out.below HB5.out) (by rw [HW1.out, HL.out]) hV5.out (Below.refl _ _) hg6 (by rw [HU1.out, HNK5.out]) (by rw [HL.out, HNK5.out]; exact hown) hv6 hU5.out (fun g hg => ⟨by have := HTB.out.lt g hg; omega, fun e => HTB.out.own g e hg⟩)
        rw [← HMS2.out] at hTB6
        have hTB7 := hTB6.mono (S' := S) (fun g hg => hg.elim id id) (fun g hg => hTB6.lt g (.inl hg)) (fun g e hg => hTB6.own g e (.inl hg))
        obtain ⟨a6, c6, rfl, _⟩ := rdK_of_row hown
        have hO6 := (hg6.block (w.heap.size + 1 + 1) (by omega) (fun e => by have := (HR5.out.lt _ e.symm).1; omega)).trans GO5.out
        have hR6 := (hg6.block (w.heap.size + 1) (by omega) (fun e => by have := (HR5.out.lt _ e.symm).1; omega)).trans ((HB5.out.block (w.heap.size + 1) (by omega)).trans HR.out)
        have HTB7 := Lib.hid hTB7
        have HO6 := Lib.hid hO6
        have HR6 := Lib.hid hR6
        have HB6 := Lib.hid (HBW.out.trans ((HB5.out.mono HBW.out.size).trans (hb6.mono (by omega))))
        have hs6 := hg6.size
        have f6 := (frz5 hO6).2.2.2.2
        have q6 := (open5 hO6).2.2.2.2
        clear hTB6 hTB7 hO6 hR6 hb6 hg6 hown hv6 o4 k0 k1 k2 k3 k4
        go_wp2_with fail
        go_roundw
        case rel =>
          refine ⟨j + 1, _, by omega, by go_num, by rw [heap_set_at HO6.out]; rfl, HTB7.out.move (fun g hg => ?_) (fun g hg => ?_) (by simp), ?_, ?_, by simp; omega⟩
          · exact Below.heap_setCell _ _ _ _ (by have := HS.out g hg; show g ≠ w.heap.size + 1 + 1; omega)
          · exact Below.heap_setCell _ _ _ _ (by have := (HTB7.out.lt_own g hg).1; show g ≠ w.heap.size + 1 + 1; omega)
          · exact (Below.heap_setCell _ _ _ _ (by show w.heap.size + 1 ≠ w.heap.size + 1 + 1; omega)).trans HR6.out
          · exact HB6.out.setCell (p := ⟨w.heap.size + 1 + 1, 4, none⟩) (by show w.heap.size ≤ w.heap.size + 1 + 1; omega) _
        case measure => simp [intOf] <;> omega
      · rw [if_neg hf] at hml
        simp only [List.length_singleton] at hml
        have HMS2 : Hid (mergT form (ks.take (j + 1)) = mergT form (ks.take j) ++ [kt]) := Lib.hid (by rw [HMS.out, if_neg hf])
        rw [show form kt = false by simpa using hf]
        clear hf HMS
        go_wp2_with (at_builtin; go_must (refine wpList_appK2 5 _ _ 62 72 (.agg #[.bool false, .int .i64 0, .int .i64 0, .slice none 0 0, .slice none 0 0]) (trVC ⟨lf5, sv5, nd5, .slice aw5 nw5 cw5, .slice ak5 nk5 ck5⟩) _ Tryd.underlying62 Tryd.infoTre rfl (by decide) HR5.out (Below.refl (w.heap.size + 3) w5) (by omega) rfl rfl rfl rfl rfl hT5.out.one (by unfold maxLen; omega) (by omega) ?_))
        intro v6 w6 hown hb6 hg6 hs6' hv6
        have hTB6 := GB.pushes (M := [kt]) (U := [⟨lf5, sv5, nd5, .slice aw5 nw5 cw5, .slice ak5 nk5 ck5⟩]) (SW := S) (HTB.out.below HB5.out) (by rw [HW1.out, HL.out]) hV5.out (Below.refl _ _) hg6 rfl (by rw [HL.out]; exact hown) hv6 (fun i p s hp hs => by
          cases i with
          | zero => simp at hp hs; subst hp hs; exact hT5.out
          | succ i => simp at hp) (fun g hg => ⟨by have := HTB.out.lt g hg; omega, fun e => HTB.out.own g e hg⟩)
        rw [← HMS2.out] at hTB6
        have hTB7 := hTB6.mono (S' := S) (fun g hg => hg.elim id id) (fun g hg => hTB6.lt g (.inl hg)) (fun g e hg => hTB6.own g e (.inl hg))
        obtain ⟨a6, c6, rfl, _⟩ := rdK_of_row hown
        have hO6 := (hg6.block (w.heap.size + 1 + 1) (by omega) (fun e => by have := (HR5.out.lt _ e.symm).1; omega)).trans GO5.out
        have hR6 := (hg6.block (w.heap.size + 1) (by omega) (fun e => by have := (HR5.out.lt _ e.symm).1; omega)).trans ((HB5.out.block (w.heap.size + 1) (by omega)).trans HR.out)
        have HTB7 := Lib.hid hTB7
        have HO6 := Lib.hid hO6
        have HR6 := Lib.hid hR6
        have HB6 := Lib.hid (HBW.out.trans ((HB5.out.mono HBW.out.size).trans (hb6.mono (by omega))))
        have hs6 := hg6.size
        have f6 := (frz5 hO6).2.2.2.2
        have q6 := (open5 hO6).2.2.2.2
        clear hTB6 hTB7 hO6 hR6 hb6 hg6 hown hv6 o4 k0 k1 k2 k3 k4
        go_wp2_with fail
        go_roundw
        case rel =>
          refine ⟨j + 1, _, by omega, by go_num, by rw [heap_set_at HO6.out]; rfl, HTB7.out.move (fun g hg => ?_) (fun g hg => ?_) (by simp), ?_, ?_, by simp; omega⟩
          · exact Below.heap_setCell _ _ _ _ (by have := HS.out g hg; show g ≠ w.heap.size + 1 + 1; omega)
          · exact Below.heap_setCell _ _ _ _ (by have := (HTB7.out.lt_own g hg).1; show g ≠ w.heap.size + 1 + 1; omega)
          · exact (Below.heap_setCell _ _ _ _ (by show w.heap.size + 1 ≠ w.heap.size + 1 + 1; omega)).trans HR6.out
          · exact HB6.out.setCell (p := ⟨w.heap.size + 1 + 1, 4, none⟩) (by show w.heap.size ≤ w.heap.size + 1 + 1; omega) _
        case measure => simp [intOf] <;> omega
    · obtain rfl : j = nk := by omega
      rw [List.take_of_length_le (by have := HNK.out; omega)] at hTB
      obtain ⟨V0, hW1, hW2, hW3⟩ := hTB.row
      obtain ⟨a0, c0', rfl, _⟩ := rdK_of_row hW2
      obtain ⟨t0, t1, t2, t3, t4⟩ := open5 hO
      have gR := hR.trans GR.out
      obtain ⟨z0, z1, z2, z3, z4⟩ := frz5 gR
      obtain ⟨r0, r1, r2, r3, r4⟩ := open5 gR
      have hTR := TB.thr (S' := fun g => S g ∨ (w.heap.size + 3 ≤ g ∧ g < wr.heap.size)) nd hTB (SlS.nil S wr) (fun g hg => .inl hg) (fun g hg => .inl hg) (fun g hg => .inr (hTB.lt_own g hg))
      have HTR := Lib.hid hTR
      have HGR := Lib.hid gR
      have HBW := Lib.hid hbw
      clear hTR gR hTB hW1 hW2 hW3 hO hR hbw
      go_wp2_with fail
      clear t0 t1 t2 t3 t4 r0 r1 r2 r3 r4 z0 z1 z2 z3 z4
      generalize hWF : ((((wr.setCell _ _).setCell _ _).setCell _ _).setCell _ _).setCell _ _ = WF
      obtain ⟨e1, e2, e3, e4⟩ := fin5 HGR.out hWF
      refine bodyPost_ret (v := .agg #[.bool false, .int .i64 0, .int .i64 nd, .slice none 0 0, .slice a0 (mergT form ks).length c0']) ?_ rfl ⟨false, 0, nd, none, 0, 0, a0, _, c0', rfl, ?_, ?_⟩
      · exact results_cell_row rfl _ _ _ _ _ _ _ rfl e1 Tryd.underlying64 rfl (by kernel_rfl)
      · refine (HTR.out.move fun g hg => e2 g ?_).mono fun g hg => ?_
        · rcases hg with hg | hg
          · have := HS.out g hg; omega
          · omega
        · rcases hg with hg | hg
          · exact .inl hg
          · exact .inr ⟨by omega, by omega⟩
      · exact HBW.out.trans (e4 _ (by omega))
end Go.Proofs.YtmjgdnpfgkpaoaaDoor
namespace Go.Proofs.YtmjgdnpfgkpaoaaDoor
open Go.RowKit

theorem simpF_snoc (k : ET) (ws : List Int) : ∀ (ts : List ET) (a : Nat) (st : SS), ETs.simpF (ts ++ [k]) ws a st = stepS (ETs.simpF ts ws a st) k.simp (wgtW ws (a + ts.length))
  | [], a, st => by simp [ETs.simpF]
  | t :: ts, a, st => by
    rw [List.cons_append, ETs.simpF, simpF_snoc k ws ts (a + 1), ETs.simpF, List.length_cons, show a + 1 + ts.length = a + (ts.length + 1) by omega]
/-- the state behind some kids -/
def stT (n : Int) (ws : List Int) (ks : List ET) (j : Nat) : SS := ETs.simpF (ks.take j) ws 0 ⟨n, [], [], 0⟩
theorem stT_zero (n : Int) (ws : List Int) (ks : List ET) : stT n ws ks 0 = ⟨n, [], [], 0⟩ := by unfold stT; rw [List.take_zero, ETs.simpF]
theorem stT_succ (n : Int) (ws : List Int) {ks : List ET} {j : Nat} {k : ET} (h : ks[j]? = some k) : stT n ws ks (j + 1) = stepS (stT n ws ks j) k.simp (wgtW ws j) := by
  unfold stT
  rw [List.take_add_one, h]
  show ETs.simpF (ks.take j ++ [k]) ws 0 _ = _
  rw [simpF_snoc, List.length_take]
  have := (List.getElem?_eq_some_iff.1 h).1
  rw [show 0 + min j ks.length = j by omega]
theorem stT_all (n : Int) (ws : List Int) (ks : List ET) {j : Nat} (h : ks.length ≤ j) : ET.simp (.thr n ws ks) = finS (stT n ws ks j) := by
  unfold stT
  rw [List.take_of_length_le h, ET.simp]
theorem stT_ok {n : Int} {ws : List Int} {ks : List ET} (h : (ET.thr n ws ks).ok) (hz : ETs.sz ks ≤ 1000) (j : Nat) : SOk2 (stT n ws ks j) n (ETs.sz ks) := by
  rw [ET.ok] at h
  obtain ⟨h1, h2, h3, h4⟩ := h
  have hj := sz_take ks j
  have hs := simpF_ok (ks.take j) ws 0 ⟨n, [], [], 0⟩ n 0 h2 (h3.imp id (by intro e; rw [e, List.length_take]; omega)) ((ETs.ok_iff _).2 fun t ht => (ETs.ok_iff _).1 h4 t (List.mem_of_mem_take ht)) (by omega) ⟨⟨h1.1, rfl, (fun w h => by cases h), rfl⟩, Int.le_refl _, trivial, Nat.le_refl _⟩
  rw [Nat.zero_add] at hs
  exact ⟨hs.toSOk, hs.top, hs.ok, Nat.le_trans hs.sz hj⟩
theorem sumL_le {l : List Int} (h : ∀ w ∈ l, 1 ≤ w ∧ w ≤ 1000) : 0 ≤ sumL l ∧ sumL l ≤ 1000 * (l.length : Int) := by
  induction l with
  | nil => simp [sumL]
  | cons a l ih =>
    have := ih fun w hw => h w (List.mem_cons_of_mem _ hw)
    have := h a (by simp)
    unfold sumL at *
    rw [List.foldr_cons, List.length_cons]
    omega
/-- the fold's numbers are small -/
theorem st_small {st : SS} {n : Int} {Z : Nat} (h : SOk2 st n Z) (hn : n ≤ 100000) (hZ : Z ≤ 1000) : (0 ≤ st.need ∧ st.need ≤ 100000) ∧ (0 ≤ st.sum ∧ st.sum ≤ 1000000) ∧ st.ks.length ≤ 1000 ∧ st.ws.length = st.ks.length := by
  have h1 := ETs.sz_ge st.ks
  have h2 := h.sz
  have h3 := h.top
  have h4 := sumL_le h.toSOk.wts
  rw [h.toSOk.len, ← h.toSOk.sum] at h4
  exact ⟨⟨h.toSOk.need, by omega⟩, ⟨h4.1, by omega⟩, by omega, h.toSOk.len⟩
/-- the light tree, with the weights that it has -/
theorem light_v (need sum : Int) (ws : List Int) (ks : List ET) (wv : Value) : ∃ ws', lightT need sum ws ks = .thr (lgtV need sum ws ks.length wv).1 ws' ks ∧ ((ws' = [] ∧ (lgtV need sum ws ks.length wv).2 = .slice none 0 0) ∨ (ws' = ws ∧ (lgtV need sum ws ks.length wv).2 = wv)) := by
  unfold lightT lgtV
  split
  · exact ⟨[], rfl, .inl ⟨rfl, rfl⟩⟩
  · split
    · exact ⟨[], rfl, .inl ⟨rfl, rfl⟩⟩
    · split
      · exact ⟨[], rfl, .inl ⟨rfl, rfl⟩⟩
      · exact ⟨ws, rfl, .inr ⟨rfl, rfl⟩⟩
end Go.Proofs.YtmjgdnpfgkpaoaaDoor
