/- Texts laid together. slices.IndexFunc and ContainsFunc of ints; a node's error (expr.valid). expr.Valid, intersect.two. expr.holds, Eval; intersect.satisfied, support. The prover: add. The reference's Of, Rename, Choose, Subsets, Same; set.Rename; slices.Equal and Clone of ints. The reference's Rename, Within, Choose, Subsets, Same; slices.Equal and Clone of ints. The reference's Choose. The reference's Subsets, Same; slices.Equal and Clone of ints. The subsets with k members, by numbers with k bits. Plain. The subsets of a set: how many, and which; the length of a family. Plain, no program. The expression of a description, plain. No program. -/
import Derived.Test.YtmjgdnpfgkpaoaaDoorGTopSimplified1
import Derived.Test.YtmjgdnpfgkpaoaaDoorGTopSimplified2
import Derived.Deep.AppendLies
import Derived.Deep.RegionLaw
namespace Go.Proofs.YtmjgdnpfgkpaoaaDoor
open Go.RowKit Go.Shelf

theorem getD_atI {l : List Int} {k : Nat} (h : k < l.length) : l.getD k 0 = l[k] := by rw [List.getD_eq_getElem?_getD, List.getElem?_eq_getElem h]; rfl
theorem at_someI {l : List (Int)} {k : Nat} (h : k < l.length) : l[k]? = some (l.getD k 0) := by rw [List.getElem?_eq_getElem h, getD_atI h]
theorem at_cellI {l : List (Int)} {k : Nat} (h : k < l.length) : (l.map (Value.int .i64))[k]? = some (.int .i64 (l.getD k 0)) := by rw [List.getElem?_map, at_someI h]; rfl
theorem any_hitI {p : Int → Bool} {l : List (Int)} {k : Nat} (h : k < l.length) (hp : p (l.getD k 0) = true) : l.any p = true :=
  List.any_eq_true.2 ⟨_, by rw [getD_atI h]; exact List.getElem_mem h, hp⟩
theorem any_noneI {p : Int → Bool} {l : List (Int)} (h : ∀ j, j < l.length → p (l.getD j 0) = false) : l.any p = false := by
  rw [Bool.eq_false_iff]
  intro hc
  obtain ⟨x, hx, hp⟩ := List.any_eq_true.1 hc
  obtain ⟨j, hj, rfl⟩ := List.mem_iff_getElem.1 hx
  rw [← getD_atI hj, h j hj] at hp; cases hp

/-- the first place of a set, or -1 -/
def idxI (p : Int → Bool) (l : List (Int)) : Int := if l.any p then (l.findIdx p : Int) else -1
theorem idxI_hit {p : Int → Bool} {l : List (Int)} {k : Nat} (hk : k < l.length) (h : ∀ j, j < k → p (l.getD j 0) = false) (hp : p (l.getD k 0) = true) : idxI p l = k := by
  unfold idxI
  rw [if_pos (any_hitI hk hp)]
  have : l.findIdx p = k := by
    rw [List.findIdx_eq hk]
    refine ⟨by rw [← getD_atI hk]; exact hp, fun j hj => ?_⟩
    have := h j hj
    rw [getD_atI (by omega)] at this
    exact this
  rw [this]
theorem idxI_none {p : Int → Bool} {l : List (Int)} (h : ∀ j, j < l.length → p (l.getD j 0) = false) : idxI p l = -1 := by
  unfold idxI; rw [any_noneI h]; rfl
theorem idxI_ge (p : Int → Bool) (l : List (Int)) : decide (0 ≤ idxI p l) = l.any p := by
  unfold idxI
  cases l.any p <;> simp

set_option maxRecDepth 100000 in
set_option maxHeartbeats 1000000 in
theorem idxFI_c (g : Nat) (lb : Array Value) (eg : ∀ args w, (callFunc g args).run Tryd.prog w = .ok (.enter g args) w) (p : Int → Bool) (l : List (Int)) (a : Option Addr) (n c : Nat) (w : World)
    (h : Rd w a n c (l.map (Value.int .i64))) (hp : PredAt Tryd.prog g lb (Value.int .i64) p w) :
    Calls Tryd.prog 81 #[.slice a n c, .func (.func g) #[] lb] w fun e w' => e = .returned (.int .i64 (idxI p l)) ∧ Below w.heap.size w w' := by
  have hn : n ≤ l.length ∧ l.length ≤ n := by have := h.len; simp at this; omega
  obtain ⟨hn1, hn2⟩ := hn
  have hm := h.max
  have hle := h.le
  unfold maxLen at hm
  have HP := Lib.hid hp
  have HR := Lib.hid h
  clear hp h
  go_enter Tryd.func81, Tryd.ntmps81
  go_wp2_with fail
  go_loopw [8] (fun i wr => ∃ k : Nat, k ≤ n ∧ i = .int .i64 k ∧ Hid (∀ j, j < k → p (l.getD j 0) = false) ∧ Below w.heap.size w wr) (fun i _ => n - (intOf i).toNat)
  case atStart => exact ⟨0, Nat.zero_le _, rfl, Lib.hid (fun j hj => by omega), Below.refl _ _⟩
  case round =>
    obtain ⟨k, hk, rfl, hno, hb⟩ := hrel
    by_cases hlt : k < n
    · obtain ⟨b, o, ha, hcell⟩ := (HR.out.below hb).at' (by omega)
      have hc := hcell k _ (at_cellI (by omega))
      subst ha
      have HF : Hid (Calls Tryd.prog g (#[.int .i64 (l.getD k 0)] ++ lb) wr fun e w' => e = .returned (.bool (p (l.getD k 0))) ∧ ∃ q, w' = wr.drewN q) := HP.out wr (l.getD k 0) hb
      cases hq : p (l.getD k 0)
      · have hno' : Hid (∀ j, j < k + 1 → p (l.getD j 0) = false) := Lib.hid (fun j hj => by
          by_cases h1 : j < k
          · exact hno.out j h1
          · obtain rfl : j = k := by omega
            exact hq)
        rw [hq] at HF
        obtain ⟨x, hx⟩ : ∃ x, l.getD k 0 = x := ⟨_, rfl⟩
        rw [hx] at hc HF
        clear hq hcell hno hx
        go_wp2_with (go_at_fn g; refine HF.out.mono ?_; rintro e w' ⟨rfl, q, rfl⟩)
        go_roundw
        case rel => exact ⟨k + 1, by omega, by go_num, hno', below_drewN hb⟩
        case measure => simp [intOf]; omega
      · have hI : Hid (idxI p l = k) := idxI_hit (by omega) hno.out hq
        rw [hq] at HF
        obtain ⟨x, hx⟩ : ∃ x, l.getD k 0 = x := ⟨_, rfl⟩
        rw [hx] at hc HF
        clear hq hcell hno hx
        go_wp2_with (go_at_fn g; refine HF.out.mono ?_; rintro e w' ⟨rfl, q, rfl⟩)
        go_ret
        exact ⟨ret_int hI.out.symm, below_drewN hb⟩
    · have hI : Hid (idxI p l = -1) := idxI_none (fun j hj => hno.out j (by omega))
      clear hno
      go_wp2_with fail
      go_ret
      exact ⟨ret_int hI.out.symm, hb⟩

set_option maxRecDepth 100000 in
set_option maxHeartbeats 1000000 in
theorem containsFI_c (g : Nat) (lb : Array Value) (eg : ∀ args w, (callFunc g args).run Tryd.prog w = .ok (.enter g args) w) (p : Int → Bool) (l : List (Int)) (a : Option Addr) (n c : Nat) (w : World)
    (h : Rd w a n c (l.map (Value.int .i64))) (hp : PredAt Tryd.prog g lb (Value.int .i64) p w) :
    Calls Tryd.prog 74 #[.slice a n c, .func (.func g) #[] lb] w fun e w' => e = .returned (.bool (l.any p)) ∧ Below w.heap.size w w' := by
  have HC := Lib.hid (idxFI_c g lb eg p l a n c w h hp)
  have hi := idxI_ge p l
  clear h hp eg
  obtain ⟨i, hi2⟩ : ∃ i, idxI p l = i := ⟨_, rfl⟩
  rw [hi2] at HC hi
  have HI := Lib.hid hi
  clear hi hi2
  go_enter Tryd.func74, Tryd.ntmps74
  go_wp2_with fail
  refine HC.out.mono ?_
  rintro e w1 ⟨rfl, hb⟩
  go_wp2_with fail
  go_ret
  exact ⟨ret_bool HI.out, hb⟩


theorem heavy_at (w : World) : PredAt Tryd.prog 72 #[] (Value.int .i64) hvyB w := fun W x hb => by
  unfold FnGives
  clear hb
  by_cases h1 : x < 1
  · have hv : hvyB x = true := by unfold hvyB; simp [h1]
    have hd : decide (x < 1) = true := decide_eq_true h1
    rw [hv]; clear hv h1
    go_enter Tryd.func72, Tryd.ntmps72
    go_wp2_with fail
    go_ret
    exact ⟨rfl, 0, rfl⟩
  · have hv : hvyB x = decide (1000 < x) := by unfold hvyB; simp [h1]
    have hd : decide (x < 1) = false := decide_eq_false h1
    rw [hv]; clear hv h1
    go_enter Tryd.func72, Tryd.ntmps72
    go_wp2_with fail
    go_ret
    exact ⟨rfl, 0, rfl⟩
theorem unknown_at (w : World) (B : Nat) (i : Nat) (hc : w.cell? ⟨B, 0, none⟩ = some (.int .i64 i)) : PredAt Tryd.prog 73 #[.pointer (some ⟨B, 0, none⟩)] (Value.int .i64) (unkB i) w := fun W x hb => by
  have hc' : W.cell? ⟨B, 0, none⟩ = some (.int .i64 i) := (hb.cell (p := ⟨B, 0, none⟩) (cell_lt hc)).trans hc
  unfold FnGives
  clear hb hc
  by_cases h1 : x < 0
  · have hv : unkB i x = true := by unfold unkB; simp [h1]
    have hd : decide (x < 0) = true := decide_eq_true h1
    rw [hv]; clear hv h1
    go_enter Tryd.func73, Tryd.ntmps73
    go_wp2_with fail
    go_ret
    exact ⟨rfl, 0, rfl⟩
  · have hv : unkB i x = decide ((i : Int) ≤ x) := by unfold unkB; simp [h1]
    have hd : decide (x < 0) = false := decide_eq_false h1
    rw [hv]; clear hv h1
    go_enter Tryd.func73, Tryd.ntmps73
    go_wp2_with fail
    go_ret
    exact ⟨rfl, 0, rfl⟩

/-- a node's error by numbers -/
def nodF (kind server need : Int) (nw nk : Nat) (hv un : Bool) : Int :=
  if (kind ≠ 1 ∧ kind ≠ 2) ∨ (kind = 1 ∧ (need ≠ 0 ∨ nw ≠ 0 ∨ nk ≠ 0)) ∨ (kind = 2 ∧ server ≠ 0) then 1
  else if (server < 0 ∨ 12 ≤ server ∨ need < 0 ∨ 100000 < need) ∨ hv = true then 7
  else if nw ≠ 0 ∧ nw ≠ nk then 6
  else if un = true then 4 else 0
theorem nodE_F (nd : Nod) (i : Nat) : nodE nd i = nodF nd.kind nd.server nd.need nd.weights.length nd.kids.length (nd.weights.any hvyB) (nd.kids.any (unkB i)) := by
  have e : ∀ l : List Int, (l ≠ []) = (l.length ≠ 0) := fun l => by cases l <;> simp
  unfold nodE nodF
  simp only [e]

set_option maxRecDepth 100000 in
set_option maxHeartbeats 2000000 in
theorem xvalid_c (nd : Nod) (i : Nat) (aw : Option Addr) (nw cw : Nat) (ak : Option Addr) (nk ck : Nat) (w : World) (hw : Rd w aw nw cw (nd.weights.map (Value.int .i64))) (hk : Rd w ak nk ck (nd.kids.map (Value.int .i64))) :
    Calls Tryd.prog 47 #[.agg #[.int .i64 nd.kind, .int .i64 nd.server, .int .i64 nd.need, .slice aw nw cw, .slice ak nk ck], .int .i64 i] w fun e w' => e = .returned (.int .i64 (nodE nd i)) ∧ Below w.heap.size w w' := by
  obtain ⟨W2, hW2⟩ : ∃ W2, W2 = (w.alloc (Obj.cells #[Value.int IntKind.i64 nd.kind, Value.int IntKind.i64 nd.server, Value.int IntKind.i64 nd.need, Value.slice aw nw cw, Value.slice ak nk ck] 58)).alloc (Obj.cells #[Value.int IntKind.i64 i] 3) := ⟨_, rfl⟩
  have hb2 : Below w.heap.size w W2 := by rw [hW2]; exact ((Below.refl _ w).alloc (Nat.le_refl _) _).alloc (by simp) _
  have hcell : W2.cell? ⟨w.heap.size + 1, 0, none⟩ = some (.int .i64 i) := by
    rw [hW2]; exact cell_new' _ _ _ 0 _ rfl (by simp)
  have H1 : Hid (∀ y, Below W2.heap.size W2 y → Calls Tryd.prog 74 #[.slice aw nw cw, .func (.func 72) #[] #[]] y fun e w' => e = .returned (.bool (nd.weights.any hvyB)) ∧ Below y.heap.size y w') :=
    Lib.hid (fun y hb => containsFI_c 72 #[] (enters_of Tryd.func72 (by kernel_rfl) rfl) hvyB nd.weights aw nw cw y (hw.below (Below.next hb2 hb)) (heavy_at y))
  have H2 : Hid (∀ y, Below W2.heap.size W2 y → Calls Tryd.prog 74 #[.slice ak nk ck, .func (.func 73) #[] #[.pointer (some ⟨w.heap.size + 1, 0, none⟩)]] y fun e w' => e = .returned (.bool (nd.kids.any (unkB i))) ∧ Below y.heap.size y w') :=
    Lib.hid (fun y hb => containsFI_c 73 #[.pointer (some ⟨w.heap.size + 1, 0, none⟩)] (enters_of Tryd.func73 (by kernel_rfl) rfl) (unkB i) nd.kids ak nk ck y (hk.below (Below.next hb2 hb)) (unknown_at y (w.heap.size + 1) i ((hb.cell (p := ⟨w.heap.size + 1, 0, none⟩) (cell_lt hcell)).trans hcell)))
  have HC : Hid (∀ y, Below W2.heap.size W2 y → y.cell? ⟨w.heap.size, 3, none⟩ = some (.slice aw nw cw) ∧ y.cell? ⟨w.heap.size, 4, none⟩ = some (.slice ak nk ck)) := Lib.hid (fun y hb => by
    have q3 : W2.cell? ⟨w.heap.size, 3, none⟩ = some (.slice aw nw cw) := by rw [hW2]; exact cell_of_row _ _ 3 _ _ _ (heap_alloc_at (heap_alloc_new _ _) _)
    have q4 : W2.cell? ⟨w.heap.size, 4, none⟩ = some (.slice ak nk ck) := by rw [hW2]; exact cell_of_row _ _ 4 _ _ _ (heap_alloc_at (heap_alloc_new _ _) _)
    exact ⟨cell_keep hb q3, cell_keep hb q4⟩)
  have hlw : nd.weights.length = nw := by have := hw.len; simp at this; omega
  have hlk : nd.kids.length = nk := by have := hk.len; simp at this; omega
  have hE := nodE_F nd i
  rw [hlw, hlk] at hE
  rw [hE]
  have HB2 := Lib.hid hb2
  obtain ⟨hv, hhv⟩ : ∃ hv, nd.weights.any hvyB = hv := ⟨_, rfl⟩
  obtain ⟨un, hun⟩ : ∃ un, nd.kids.any (unkB i) = un := ⟨_, rfl⟩
  rw [hhv] at H1 ⊢
  rw [hun] at H2 ⊢
  obtain ⟨kind, server, need, ws, ks⟩ := nd
  simp only at hW2 H1 H2 ⊢
  clear hw hk hlw hlk hE hhv hun hcell hb2 ws ks
  by_cases k1 : kind = 1
  · subst k1
    by_cases n0 : need = 0
    · subst n0
      by_cases w0 : nw = 0
      · subst w0
        by_cases c0 : nk = 0
        · subst c0
          by_cases t0 : server < 0
          · have d0 : decide (server < 0) = true := decide_eq_true t0
            have hV : Hid (nodF 1 server 0 0 0 hv un = 7) := by show _ = _; unfold nodF; rw [if_neg (by omega), if_pos (by omega)]
            clear t0
            go_enter Tryd.func47, Tryd.ntmps47
            go_wp2_with fail
            go_ret
            exact ⟨ret_int hV.out.symm, by rw [← hW2]; exact HB2.out⟩
          have d0 : decide (server < 0) = false := decide_eq_false t0
          by_cases t1 : (12 : Int) ≤ server
          · have d1 : decide ((12 : Int) ≤ server) = true := decide_eq_true t1
            have hV : Hid (nodF 1 server 0 0 0 hv un = 7) := by show _ = _; unfold nodF; rw [if_neg (by omega), if_pos (by omega)]
            clear t1
            go_enter Tryd.func47, Tryd.ntmps47
            go_wp2_with fail
            go_ret
            exact ⟨ret_int hV.out.symm, by rw [← hW2]; exact HB2.out⟩
          have d1 : decide ((12 : Int) ≤ server) = false := decide_eq_false t1
          cases hv with
          | true =>
            have hV : Hid (nodF 1 server 0 0 0 true un = 7) := by show _ = _; unfold nodF; rw [if_neg (by omega), if_pos (.inr rfl)]
            clear t0 t1
            go_enter Tryd.func47, Tryd.ntmps47
            go_wp2_with fail
            rw [← hW2]; with_reducible refine (H1.out _ (Below.refl _ _)).mono ?_; rintro e w1 ⟨rfl, hb1⟩; obtain ⟨q3, q4⟩ := HC.out w1 hb1; have K1 := Lib.hid hb1; clear hb1
            go_wp2_with fail
            go_ret
            exact ⟨ret_int hV.out.symm, Below.next HB2.out K1.out⟩
          | false =>
            cases un with
            | true =>
              have hV : Hid (nodF 1 server 0 0 0 false true = 4) := by show _ = _; unfold nodF; rw [if_neg (by omega), if_neg (by simp; omega), if_neg (by omega), if_pos rfl]
              clear t0 t1
              go_enter Tryd.func47, Tryd.ntmps47
              go_wp2_with fail
              rw [← hW2]; with_reducible refine (H1.out _ (Below.refl _ _)).mono ?_; rintro e w1 ⟨rfl, hb1⟩; obtain ⟨q3, q4⟩ := HC.out w1 hb1; have K1 := Lib.hid hb1; clear hb1
              go_wp2_with fail
              with_reducible refine (H2.out w1 K1.out).mono ?_; rintro e w5 ⟨rfl, hb5⟩
              go_wp2_with fail
              go_ret
              exact ⟨ret_int hV.out.symm, Below.next HB2.out (Below.next K1.out hb5)⟩
            | false =>
              have hV : Hid (nodF 1 server 0 0 0 false false = 0) := by show _ = _; unfold nodF; rw [if_neg (by omega), if_neg (by simp; omega), if_neg (by omega), if_neg (by decide)]
              clear t0 t1
              go_enter Tryd.func47, Tryd.ntmps47
              go_wp2_with fail
              rw [← hW2]; with_reducible refine (H1.out _ (Below.refl _ _)).mono ?_; rintro e w1 ⟨rfl, hb1⟩; obtain ⟨q3, q4⟩ := HC.out w1 hb1; have K1 := Lib.hid hb1; clear hb1
              go_wp2_with fail
              with_reducible refine (H2.out w1 K1.out).mono ?_; rintro e w5 ⟨rfl, hb5⟩
              go_wp2_with fail
              go_ret
              exact ⟨ret_int hV.out.symm, Below.next HB2.out (Below.next K1.out hb5)⟩
        · have hd : decide (0 < nk) = true := decide_eq_true (by omega)
          have hV : Hid (nodF 1 server 0 0 nk hv un = 1) := by show _ = _; unfold nodF; rw [if_pos (by omega)]
          clear c0
          go_enter Tryd.func47, Tryd.ntmps47
          go_wp2_with fail
          go_ret
          exact ⟨ret_int hV.out.symm, by rw [← hW2]; exact HB2.out⟩
      · have hd : decide (0 < nw) = true := decide_eq_true (by omega)
        have hV : Hid (nodF 1 server 0 nw nk hv un = 1) := by show _ = _; unfold nodF; rw [if_pos (by omega)]
        clear w0
        go_enter Tryd.func47, Tryd.ntmps47
        go_wp2_with fail
        go_ret
        exact ⟨ret_int hV.out.symm, by rw [← hW2]; exact HB2.out⟩
    · have hd : (need != 0) = true := by simpa using n0
      have hV : Hid (nodF 1 server need nw nk hv un = 1) := by show _ = _; unfold nodF; rw [if_pos (by omega)]
      clear n0
      go_enter Tryd.func47, Tryd.ntmps47
      go_wp2_with fail
      go_ret
      exact ⟨ret_int hV.out.symm, by rw [← hW2]; exact HB2.out⟩
  · have hk1 : (kind == 1) = false := by simpa using k1
    by_cases k2 : kind = 2
    · subst k2
      by_cases s0 : server = 0
      · subst s0
        by_cases t0 : need < 0
        · have d0 : decide (need < 0) = true := decide_eq_true t0
          have hV : Hid (nodF 2 0 need nw nk hv un = 7) := by show _ = _; unfold nodF; rw [if_neg (by omega), if_pos (by omega)]
          clear t0
          go_enter Tryd.func47, Tryd.ntmps47
          go_wp2_with fail
          go_ret
          exact ⟨ret_int hV.out.symm, by rw [← hW2]; exact HB2.out⟩
        have d0 : decide (need < 0) = false := decide_eq_false t0
        by_cases t1 : (100000 : Int) < need
        · have d1 : decide ((100000 : Int) < need) = true := decide_eq_true t1
          have hV : Hid (nodF 2 0 need nw nk hv un = 7) := by show _ = _; unfold nodF; rw [if_neg (by omega), if_pos (by omega)]
          clear t1
          go_enter Tryd.func47, Tryd.ntmps47
          go_wp2_with fail
          go_ret
          exact ⟨ret_int hV.out.symm, by rw [← hW2]; exact HB2.out⟩
        have d1 : decide ((100000 : Int) < need) = false := decide_eq_false t1
        cases hv with
        | true =>
          have hV : Hid (nodF 2 0 need nw nk true un = 7) := by show _ = _; unfold nodF; rw [if_neg (by omega), if_pos (.inr rfl)]
          clear t0 t1
          go_enter Tryd.func47, Tryd.ntmps47
          go_wp2_with fail
          rw [← hW2]; with_reducible refine (H1.out _ (Below.refl _ _)).mono ?_; rintro e w1 ⟨rfl, hb1⟩; obtain ⟨q3, q4⟩ := HC.out w1 hb1; have K1 := Lib.hid hb1; clear hb1
          go_wp2_with fail
          go_ret
          exact ⟨ret_int hV.out.symm, Below.next HB2.out K1.out⟩
        | false =>
          by_cases w0 : nw = 0
          · subst w0
            cases un with
            | true =>
              have hV : Hid (nodF 2 0 need 0 nk false true = 4) := by show _ = _; unfold nodF; rw [if_neg (by omega), if_neg (by simp; omega), if_neg (by omega), if_pos rfl]
              clear t0 t1
              go_enter Tryd.func47, Tryd.ntmps47
              go_wp2_with fail
              rw [← hW2]; with_reducible refine (H1.out _ (Below.refl _ _)).mono ?_; rintro e w1 ⟨rfl, hb1⟩; obtain ⟨q3, q4⟩ := HC.out w1 hb1; have K1 := Lib.hid hb1; clear hb1
              go_wp2_with fail
              with_reducible refine (H2.out w1 K1.out).mono ?_; rintro e w5 ⟨rfl, hb5⟩
              go_wp2_with fail
              go_ret
              exact ⟨ret_int hV.out.symm, Below.next HB2.out (Below.next K1.out hb5)⟩
            | false =>
              have hV : Hid (nodF 2 0 need 0 nk false false = 0) := by show _ = _; unfold nodF; rw [if_neg (by omega), if_neg (by simp; omega), if_neg (by omega), if_neg (by decide)]
              clear t0 t1
              go_enter Tryd.func47, Tryd.ntmps47
              go_wp2_with fail
              rw [← hW2]; with_reducible refine (H1.out _ (Below.refl _ _)).mono ?_; rintro e w1 ⟨rfl, hb1⟩; obtain ⟨q3, q4⟩ := HC.out w1 hb1; have K1 := Lib.hid hb1; clear hb1
              go_wp2_with fail
              with_reducible refine (H2.out w1 K1.out).mono ?_; rintro e w5 ⟨rfl, hb5⟩
              go_wp2_with fail
              go_ret
              exact ⟨ret_int hV.out.symm, Below.next HB2.out (Below.next K1.out hb5)⟩
          · have dw : decide (0 < nw) = true := decide_eq_true (by omega)
            by_cases e0 : nw = nk
            · subst e0
              cases un with
              | true =>
                have hV : Hid (nodF 2 0 need nw nw false true = 4) := by show _ = _; unfold nodF; rw [if_neg (by omega), if_neg (by simp; omega), if_neg (by omega), if_pos rfl]
                clear t0 t1 w0
                go_enter Tryd.func47, Tryd.ntmps47
                go_wp2_with fail
                rw [← hW2]; with_reducible refine (H1.out _ (Below.refl _ _)).mono ?_; rintro e w1 ⟨rfl, hb1⟩; obtain ⟨q3, q4⟩ := HC.out w1 hb1; have K1 := Lib.hid hb1; clear hb1
                go_wp2_with fail
                with_reducible refine (H2.out w1 K1.out).mono ?_; rintro e w5 ⟨rfl, hb5⟩
                go_wp2_with fail
                go_ret
                exact ⟨ret_int hV.out.symm, Below.next HB2.out (Below.next K1.out hb5)⟩
              | false =>
                have hV : Hid (nodF 2 0 need nw nw false false = 0) := by show _ = _; unfold nodF; rw [if_neg (by omega), if_neg (by simp; omega), if_neg (by omega), if_neg (by decide)]
                clear t0 t1 w0
                go_enter Tryd.func47, Tryd.ntmps47
                go_wp2_with fail
                rw [← hW2]; with_reducible refine (H1.out _ (Below.refl _ _)).mono ?_; rintro e w1 ⟨rfl, hb1⟩; obtain ⟨q3, q4⟩ := HC.out w1 hb1; have K1 := Lib.hid hb1; clear hb1
                go_wp2_with fail
                with_reducible refine (H2.out w1 K1.out).mono ?_; rintro e w5 ⟨rfl, hb5⟩
                go_wp2_with fail
                go_ret
                exact ⟨ret_int hV.out.symm, Below.next HB2.out (Below.next K1.out hb5)⟩
            · have dn : ((nw : Int) != (nk : Int)) = true := by rw [bne_iff_ne]; omega
              have hV : Hid (nodF 2 0 need nw nk false un = 6) := by show _ = _; unfold nodF; rw [if_neg (by omega), if_neg (by simp; omega), if_pos (by omega)]
              clear t0 t1 w0 e0
              go_enter Tryd.func47, Tryd.ntmps47
              go_wp2_with fail
              rw [← hW2]; with_reducible refine (H1.out _ (Below.refl _ _)).mono ?_; rintro e w1 ⟨rfl, hb1⟩; obtain ⟨q3, q4⟩ := HC.out w1 hb1; have K1 := Lib.hid hb1; clear hb1
              go_wp2_with fail
              go_ret
              exact ⟨ret_int hV.out.symm, Below.next HB2.out K1.out⟩
      · have hd : (server != 0) = true := by simpa using s0
        have hV : Hid (nodF 2 server need nw nk hv un = 1) := by show _ = _; unfold nodF; rw [if_pos (by omega)]
        clear s0
        go_enter Tryd.func47, Tryd.ntmps47
        go_wp2_with fail
        go_ret
        exact ⟨ret_int hV.out.symm, by rw [← hW2]; exact HB2.out⟩
    · have hk2 : (kind == 2) = false := by simpa using k2
      have hV : Hid (nodF kind server need nw nk hv un = 1) := by show _ = _; unfold nodF; rw [if_pos (by omega)]
      clear k1 k2
      go_enter Tryd.func47, Tryd.ntmps47
      go_wp2_with fail
      go_ret
      exact ⟨ret_int hV.out.symm, by rw [← hW2]; exact HB2.out⟩
end Go.Proofs.YtmjgdnpfgkpaoaaDoor
namespace Go.Proofs.YtmjgdnpfgkpaoaaDoor
open Go.RowKit Go.Shelf

theorem xprE_hit {x : Xpr} {k : Nat} {nd : Nod} (h0 : x.nodes ≠ []) (h60 : ¬ 60 < x.nodes.length) (h : x.nodes[k]? = some nd) (hd : nodsE x.nodes 0 = nodsE (x.nodes.drop k) k) (he : nodE nd k ≠ 0) : xprE x = nodE nd k := by
  have : nodsE x.nodes 0 = nodE nd k := by rw [hd, nodsE_drop h, if_pos he]
  unfold xprE
  rw [if_neg h0, if_neg h60, this, if_pos he]
theorem xprE_next {x : Xpr} {k : Nat} {nd : Nod} (h : x.nodes[k]? = some nd) (hd : nodsE x.nodes 0 = nodsE (x.nodes.drop k) k) (he : nodE nd k = 0) : nodsE x.nodes 0 = nodsE (x.nodes.drop (k + 1)) (k + 1) := by
  rw [hd, nodsE_drop h, if_neg (by simpa using he)]
theorem xprE_end {x : Xpr} {n : Nat} (h0 : x.nodes ≠ []) (h60 : ¬ 60 < x.nodes.length) (hn : x.nodes.length = n) (hd : nodsE x.nodes 0 = nodsE (x.nodes.drop n) n) : xprE x = if x.root < 0 ∨ (n : Int) ≤ x.root then 4 else 0 := by
  have : nodsE x.nodes 0 = 0 := by rw [hd, ← hn, List.drop_length]; rfl
  unfold xprE
  rw [if_neg h0, if_neg h60, this, if_neg (by simp), hn]

set_option maxRecDepth 100000 in
set_option maxHeartbeats 2000000 in
theorem xpr_c (x : Xpr) (a : Option Addr) (n c : Nat) (w : World) (h : XM w a n c x.nodes) :
    Calls Tryd.prog 20 #[.agg #[.slice a n c, .int .i64 x.root]] w fun e w' => e = .returned (.int .i64 (xprE x)) ∧ Below w.heap.size w w' := by
  obtain ⟨W2, hW2⟩ : ∃ W2, W2 = w.alloc (Obj.cells #[.slice a n c, .int .i64 x.root] 28) := ⟨_, rfl⟩
  have hb2 : Below w.heap.size w W2 := by rw [hW2]; exact (Below.refl _ w).alloc (Nat.le_refl _) _
  have HX := Lib.hid (h.below hb2)
  have HN := Lib.hid h.len
  have hle := h.le
  have hm := h.max
  unfold maxLen at hm
  have HB2 := Lib.hid hb2
  clear h hb2
  by_cases hn0 : n = 0
  · subst hn0
    have hV : Hid (xprE x = 9) := by
      show _ = _; unfold xprE; rw [if_pos (List.eq_nil_of_length_eq_zero HN.out)]
    go_enter Tryd.func20, Tryd.ntmps20
    go_wp2_with fail
    go_ret
    exact ⟨ret_int hV.out.symm, by rw [← hW2]; exact HB2.out⟩
  have hne : ((n : Int) == 0) = false := by rw [beq_eq_false_iff_ne]; omega
  have H0 : Hid (x.nodes ≠ []) := Lib.hid (fun e => by have := HN.out; rw [e] at this; simp at this; omega)
  by_cases h60 : 60 < n
  · have hd : decide ((60 : Int) < (n : Int)) = true := decide_eq_true (by omega)
    have hV : Hid (xprE x = 3) := by
      show _ = _; unfold xprE; rw [if_neg H0.out, if_pos (by have := HN.out; omega)]
    clear hn0 h60
    go_enter Tryd.func20, Tryd.ntmps20
    go_wp2_with fail
    go_ret
    exact ⟨ret_int hV.out.symm, by rw [← hW2]; exact HB2.out⟩
  have hd : decide ((60 : Int) < (n : Int)) = false := decide_eq_false (by omega)
  have H60 : Hid (¬ 60 < x.nodes.length) := by show ¬ _; have := HN.out; omega
  go_enter Tryd.func20, Tryd.ntmps20
  go_wp2_with fail
  rw [← hW2]
  go_loopw [17] (fun i wr => ∃ k : Nat, k ≤ n ∧ i = .int .i64 k ∧ Hid (nodsE x.nodes 0 = nodsE (x.nodes.drop k) k) ∧ Below W2.heap.size W2 wr) (fun i _ => n - (intOf i).toNat)
  case atStart => exact ⟨0, Nat.zero_le _, rfl, Lib.hid (by simp), Below.refl _ _⟩
  case round =>
    obtain ⟨k, hk, rfl, hno, hb⟩ := hrel
    by_cases hlt : k < n
    · obtain ⟨nd, hnd⟩ : ∃ nd, x.nodes[k]? = some nd := ⟨_, List.getElem?_eq_getElem (by have := HN.out; omega)⟩
      obtain ⟨b, o, ha, hat⟩ := (HX.out.below hb).at' (by omega)
      have hM := hat k nd hnd
      obtain ⟨a3, n3, c3, m3, r3⟩ := hM.ws
      obtain ⟨a4, n4, c4, m4, r4⟩ := hM.ks
      have m0 := hM.c0
      have m1 := hM.c1
      have m2 := hM.c2
      subst ha
      have HV : Hid (∀ y, Below wr.heap.size wr y → Calls Tryd.prog 47 #[.agg #[.int .i64 nd.kind, .int .i64 nd.server, .int .i64 nd.need, .slice a3 n3 c3, .slice a4 n4 c4], .int .i64 k] y fun e w' => e = .returned (.int .i64 (nodE nd k)) ∧ Below y.heap.size y w') :=
        Lib.hid (fun y hy => xvalid_c nd k a3 n3 c3 a4 n4 c4 y (r3.below hy) (r4.below hy))
      have HHit : Hid (nodE nd k ≠ 0 → xprE x = nodE nd k) := Lib.hid (fun he => xprE_hit H0.out H60.out hnd hno.out he)
      have HNxt : Hid (nodE nd k = 0 → nodsE x.nodes 0 = nodsE (x.nodes.drop (k + 1)) (k + 1)) := Lib.hid (fun he => xprE_next hnd hno.out he)
      obtain ⟨kind, server, need, ws, ks⟩ := nd
      obtain ⟨E, hE⟩ : ∃ E, nodE ⟨kind, server, need, ws, ks⟩ k = E := ⟨_, rfl⟩
      rw [hE] at HV HHit HNxt
      simp only at m0 m1 m2 HV
      clear hM r3 r4 hat hnd hno hE
      by_cases he : E = 0
      · subst he
        have hN := HNxt.out rfl
        have HN2 := Lib.hid hN
        clear hN HHit HNxt
        have hba : Below wr.heap.size wr (wr.alloc (Obj.cells #[.int .i64 kind, .int .i64 server, .int .i64 need, .slice a3 n3 c3, .slice a4 n4 c4] 58)) := (Below.refl _ wr).alloc (Nat.le_refl _) _
        go_wp2_with fail
        refine (HV.out _ hba).mono ?_
        rintro e w5 ⟨rfl, hb5⟩
        have hb6 := Below.next hb (Below.next hba hb5)
        go_wp2_with fail
        go_roundw
        case rel => exact ⟨k + 1, by omega, by go_num, HN2, hb6⟩
        case measure => simp [intOf]; omega
      · have hV := HHit.out he
        have HV2 := Lib.hid hV
        have hE : (E != 0) = true := by simpa using he
        clear hV HHit HNxt he
        have hba : Below wr.heap.size wr (wr.alloc (Obj.cells #[.int .i64 kind, .int .i64 server, .int .i64 need, .slice a3 n3 c3, .slice a4 n4 c4] 58)) := (Below.refl _ wr).alloc (Nat.le_refl _) _
        go_wp2_with fail
        refine (HV.out _ hba).mono ?_
        rintro e w5 ⟨rfl, hb5⟩
        have hb6 := Below.next hb (Below.next hba hb5)
        go_wp2_with fail
        go_ret
        exact ⟨ret_int HV2.out.symm, Below.next HB2.out hb6⟩
    · obtain rfl : k = n := by omega
      have hV := xprE_end H0.out H60.out HN.out hno.out
      have hr : W2.cell? ⟨w.heap.size, 0, none⟩ = some (.slice a k c) ∧ W2.cell? ⟨w.heap.size, 1, none⟩ = some (.int .i64 x.root) := by
        rw [hW2]; exact ⟨cell_of_row _ _ 0 _ _ _ (heap_alloc_new _ _), cell_of_row _ _ 1 _ _ _ (heap_alloc_new _ _)⟩
      have q0 := cell_keep hb hr.1
      have q1 := cell_keep hb hr.2
      clear hno hr hW2
      obtain ⟨root, hroot⟩ : ∃ r, x.root = r := ⟨_, rfl⟩
      rw [hroot] at hV q1
      by_cases h1 : root < 0
      · have d1 : decide (root < 0) = true := decide_eq_true h1
        rw [if_pos (.inl h1)] at hV
        have HV := Lib.hid hV
        clear hV h1 hroot
        go_wp2_with fail
        go_ret
        exact ⟨ret_int HV.out.symm, Below.next HB2.out hb⟩
      · have d1 : decide (root < 0) = false := decide_eq_false h1
        by_cases h2 : (k : Int) ≤ root
        · have d2 : decide ((k : Int) ≤ root) = true := decide_eq_true h2
          rw [if_pos (.inr h2)] at hV
          have HV := Lib.hid hV
          clear hV h1 hroot h2
          go_wp2_with fail
          go_ret
          exact ⟨ret_int HV.out.symm, Below.next HB2.out hb⟩
        · have d2 : decide ((k : Int) ≤ root) = false := decide_eq_false h2
          rw [if_neg (by omega)] at hV
          have HV := Lib.hid hV
          clear hV h1 hroot h2
          go_wp2_with fail
          go_ret
          exact ⟨ret_int HV.out.symm, Below.next HB2.out hb⟩

/-- two struct arguments of two cells, laid -/
theorem args22 (w : World) (u0 u1 v0 v1 : Value) (t t' : TypeId) {W : World} (hW : W = (w.alloc (.cells #[u0, u1] t)).alloc (.cells #[v0, v1] t')) :
    Below w.heap.size w W ∧ ∀ y, Below W.heap.size W y → (y.cell? ⟨w.heap.size, 0, none⟩ = some u0 ∧ y.cell? ⟨w.heap.size, 1, none⟩ = some u1) ∧ y.cell? ⟨w.heap.size + 1, 0, none⟩ = some v0 ∧ y.cell? ⟨w.heap.size + 1, 1, none⟩ = some v1 := by
  refine ⟨by rw [hW]; exact ((Below.refl _ w).alloc (Nat.le_refl _) _).alloc (by simp) _, fun y hy => ?_⟩
  have g0 : W.heap[w.heap.size]? = some (.cells #[u0, u1] t (0, 0)) := by rw [hW]; exact heap_alloc_at (heap_alloc_new _ _) _
  have g1 : W.heap[w.heap.size + 1]? = some (.cells #[v0, v1] t' (0, 0)) := by
    rw [hW]
    have := heap_alloc_new (w.alloc (.cells #[u0, u1] t)) (.cells #[v0, v1] t')
    rwa [World.size_alloc] at this
  have e0 := heap_below hy g0
  have e1 := heap_below hy g1
  exact ⟨⟨cell_of_row _ _ 0 _ _ _ e0, cell_of_row _ _ 1 _ _ _ e0⟩, cell_of_row _ _ 0 _ _ _ e1, cell_of_row _ _ 1 _ _ _ e1⟩

end Go.Proofs.YtmjgdnpfgkpaoaaDoor
namespace Go.Proofs.YtmjgdnpfgkpaoaaDoor
open Go.RowKit Go.Shelf

set_option maxRecDepth 100000 in
set_option maxHeartbeats 1000000 in
theorem wgt_c (nd : Nod) (k : Nat) (aw : Option Addr) (nw cw : Nat) (ak : Option Addr) (nk ck : Nat) (w : World) (hw : Rd w aw nw cw (nd.weights.map (Value.int .i64))) (hk : nd.weights = [] ∨ k < nd.weights.length) :
    Calls Tryd.prog 51 #[.agg #[.int .i64 nd.kind, .int .i64 nd.server, .int .i64 nd.need, .slice aw nw cw, .slice ak nk ck], .int .i64 k] w fun e w' => e = .returned (.int .i64 (wgtN nd k)) ∧ Below w.heap.size w w' := by
  have hlw : nd.weights.length = nw := by have := hw.len; simp at this; omega
  have hle := hw.le
  have hm := hw.max
  unfold maxLen at hm
  obtain ⟨W2, hW2⟩ : ∃ W2, W2 = w.alloc (Obj.cells #[.int .i64 nd.kind, .int .i64 nd.server, .int .i64 nd.need, .slice aw nw cw, .slice ak nk ck] 58) := ⟨_, rfl⟩
  have hb2 : Below w.heap.size w W2 := by rw [hW2]; exact (Below.refl _ w).alloc (Nat.le_refl _) _
  have HB2 := Lib.hid hb2
  by_cases h0 : nw = 0
  · have hn : nd.weights = [] := List.eq_nil_of_length_eq_zero (by omega)
    have hV : Hid (wgtN nd k = 1) := by show _ = _; unfold wgtN; rw [if_pos hn]
    subst h0
    clear hn hlw hk hw hb2
    go_enter Tryd.func51, Tryd.ntmps51
    go_wp2_with fail
    go_ret
    exact ⟨ret_int hV.out.symm, by rw [← hW2]; exact HB2.out⟩
  · have hne : ((nw : Int) == 0) = false := by rw [beq_eq_false_iff_ne]; omega
    have hkn : k < nw := by rcases hk with h | h
                            · rw [h] at hlw; simp at hlw; omega
                            · omega
    obtain ⟨z, hz⟩ : ∃ z, nd.weights[k]? = some z := ⟨_, List.getElem?_eq_getElem (by omega)⟩
    have hV : Hid (wgtN nd k = z) := by
      show _ = _; unfold wgtN
      rw [if_neg (fun e => by rw [e] at hlw; simp at hlw; omega), List.getD_eq_getElem?_getD, hz]; rfl
    obtain ⟨b, o, ha, hcell⟩ := (hw.below hb2).at' (by omega)
    have hc := hcell k (.int .i64 z) (by rw [List.getElem?_map, hz]; rfl)
    subst ha
    clear hlw hk hw hb2 hcell hz h0
    rw [hW2] at hc
    go_enter Tryd.func51, Tryd.ntmps51
    go_wp2_with fail
    go_ret
    exact ⟨ret_int hV.out.symm, by rw [← hW2]; exact HB2.out⟩

/-- expressions with few kids -/
def XprFew (x : Xpr) : Prop := ∀ (k : Nat) nd, x.nodes[k]? = some nd → nd.kids.length ≤ 1000
/-- sixty places, the first ones filled -/
def isA (l : List Bool) : Array Value := ((l ++ List.replicate (60 - l.length) false).map Value.bool).toArray
theorem isA_at {l : List Bool} (h : l.length ≤ 60) {i : Nat} (hi : i < 60) : (isA l)[i]? = some (.bool (l.getD i false)) := by
  unfold isA
  rw [List.getElem?_toArray, List.getElem?_map, List.getD_eq_getElem?_getD]
  by_cases h1 : i < l.length
  · rw [List.getElem?_append_left h1, List.getElem?_eq_getElem h1]; rfl
  · rw [List.getElem?_append_right (by omega), List.getElem?_replicate, if_pos (by omega), List.getElem?_eq_none (by omega)]; rfl
theorem isA_set {l : List Bool} (h : l.length < 60) (v : Bool) : (isA l).setIfInBounds l.length (.bool v) = isA (l ++ [v]) := by
  unfold isA
  rw [List.setIfInBounds_toArray]
  congr 1
  have e : 60 - l.length = (60 - (l ++ [v]).length) + 1 := by simp; omega
  rw [e, List.replicate_succ, List.map_append, List.map_append, List.map_append, List.map_cons, List.set_append_right _ _ (by simp)]
  simp

theorem frozen_row {w : World} {B : Nat} {cs : Array Value} {t : TypeId} (h : w.heap[B]? = some (.cells cs t (0, 0))) (i : Nat) : w.frozen? ⟨B, i, none⟩ = false := by simp [World.frozen?, h]

set_option maxRecDepth 100000 in
set_option maxHeartbeats 4000000 in
theorem holds_c (x : Xpr) (hx : XprOk x) (hf : XprFew x) (s : BitVec 16) (a : Option Addr) (n c : Nat) (w : World) (h : XM w a n c x.nodes) :
    Calls Tryd.prog 23 #[.agg #[.slice a n c, .int .i64 x.root], .int .u16 (U s)] w fun e w' => e = .returned (.bool (holdX x s)) ∧ Below w.heap.size w w' := by
  obtain ⟨r, hr⟩ := Int.eq_ofNat_of_zero_le hx.root.1
  have hrn : r < n := by have h1 := hx.root.2; have h2 := h.len; omega
  have hle := h.le
  have hm := h.max
  have hn60 : n ≤ 60 := by have h1 := hx.most; have h2 := h.len; omega
  unfold maxLen at hm
  have hwr : wrap64 ((r : Int) + 1) = (r : Int) + 1 := by unfold wrap64; omega
  have HV := Lib.hid (holdX_root (s := s) hr (by have h2 := h.len; omega))
  rw [hr]
  have HX := Lib.hid h
  have HO := Lib.hid hx
  have HF := Lib.hid hf
  have HN := Lib.hid h.len
  clear h hx hf hr
  obtain ⟨b, o, rfl, _⟩ := HX.out.at' (by omega)
  go_enter Tryd.func23, Tryd.ntmps23
  go_wp2_with fail
  generalize hWS : (w.alloc _).alloc _ = WS
  have hS : WS.heap.size = w.heap.size + 2 := by rw [← hWS]; simp
  have hbS : Below w.heap.size w WS := by rw [← hWS]; exact ((Below.refl _ w).alloc (Nat.le_refl _) _).alloc (by simp) _
  have g1 : WS.heap[w.heap.size + 1]? = some (.cells (isA []) 101 (0, 0)) := by
    rw [← hWS]
    have := heap_alloc_new (w.alloc (Obj.cells #[Value.slice (some { block := b, off := o }) n c, Value.int IntKind.i64 r] 28)) (.cells (isA []) 101)
    rw [World.size_alloc] at this; exact this
  have g0 : WS.heap[w.heap.size]? = some (.cells #[Value.slice (some { block := b, off := o }) n c, Value.int IntKind.i64 r] 28 (0, 0)) := by
    rw [← hWS]; exact heap_alloc_at (heap_alloc_new _ _) _
  have HS := Lib.hid hS
  have HBS := Lib.hid hbS
  have G0 := Lib.hid g0
  have G1 := Lib.hid g1
  clear hWS hS hbS g0 g1
  go_loopw [18] (fun i wr => ∃ k : Nat, k ≤ r + 1 ∧ i = .int .i64 k ∧ wr.heap[w.heap.size + 1]? = some (.cells (isA (holdTo x.nodes s k)) 101 (0, 0)) ∧ wr.heap[w.heap.size]? = some (.cells #[Value.slice (some { block := b, off := o }) n c, Value.int IntKind.i64 r] 28 (0, 0)) ∧ w.heap.size + 2 ≤ wr.heap.size ∧ Below w.heap.size w wr) (fun i _ => r + 1 - (intOf i).toNat)
  case atStart => exact ⟨0, Nat.zero_le _, rfl, G1.out, G0.out, by rw [HS.out]; exact Nat.le_refl _, HBS.out⟩
  case round =>
    obtain ⟨k, hk, rfl, e1, e0, hsz, hb⟩ := hrel
    by_cases hlt : k < r + 1
    · obtain ⟨nd, hnd⟩ : ∃ nd, x.nodes[k]? = some nd := ⟨_, List.getElem?_eq_getElem (by have := HN.out; omega)⟩
      obtain ⟨b', o', ha, hat⟩ := (HX.out.below hb).at' (by omega)
      cases ha
      have hM := hat k nd hnd
      obtain ⟨a3, n3, c3, m3, r3⟩ := hM.ws
      obtain ⟨a4, n4, c4, m4, r4⟩ := hM.ks
      have m0 := hM.c0
      have m1 := hM.c1
      have m2 := hM.c2
      have HOK := Lib.hid (HO.out.node k nd hnd)
      have hfew := HF.out k nd hnd
      have HST : Hid (holdTo x.nodes s (k + 1) = holdTo x.nodes s k ++ [valN nd (holdTo x.nodes s k) s]) := Lib.hid (by
        rw [holdTo]
        rw [show x.nodes.getD k nod0 = nd by rw [List.getD_eq_getElem?_getD, hnd]; rfl])
      have HL := Lib.hid (holdTo_len x.nodes s k)
      obtain ⟨I, hI⟩ : ∃ I, holdTo x.nodes s k = I := ⟨_, rfl⟩
      rw [hI] at e1 HST HL
      obtain ⟨kind, server, need, ws, ks⟩ := nd
      simp only at m0 m1 m2 hfew r3 r4
      have R3 := Lib.hid r3
      have R4 := Lib.hid r4
      have HB := Lib.hid hb
      clear hM r3 r4 hat hnd hI hb
      have hkd : decide ((k : Int) < (r : Int) + 1) = true := decide_eq_true (by omega)
      by_cases hkind : kind = 1
      · subst hkind
        obtain ⟨sv, rfl⟩ := Int.eq_ofNat_of_zero_le HOK.out.server.1
        have hvn : valN ⟨1, sv, need, ws, ks⟩ I s = hasB s sv := rfl
        rw [hvn] at HST
        have ea := heap_alloc_at e1 (Obj.cells #[.int .i64 1, .int .i64 sv, .int .i64 need, .slice a3 n3 c3, .slice a4 n4 c4] 58)
        have z0 := frozen_row ea k
        have z1 := cell_of_row _ _ k _ _ _ ea |>.trans (isA_at (by have := HL.out; omega) (by omega))
        have EA := Lib.hid ea
        clear hvn ea
        go_wp2_with fail
        clear z0 z1
        go_roundw
        case rel =>
          have hkl := HL.out
          have ha : Below w.heap.size w (wr.alloc (Obj.cells #[.int .i64 1, .int .i64 sv, .int .i64 need, .slice a3 n3 c3, .slice a4 n4 c4] 58)) := HB.out.alloc (by omega) _
          refine ⟨k + 1, by omega, by go_num, ?_, ?_, ?_, ?_⟩
          · have hsv := HOK.out.server.2
            simp only at hsv
            rw [heap_set_at EA.out, HST.out, ← hkl, isA_set (by omega), show min sv 16 = sv by omega]
          · exact heap_set_other (by omega) _ _ (heap_alloc_at e0 _)
          · simp [World.setCell]; omega
          · exact ha.setCell (p := ⟨w.heap.size + 1, k, none⟩) (by show w.heap.size ≤ w.heap.size + 1; omega) _
        case measure => simp [intOf]; omega
      · have hk2 : (kind == 1) = false := by simpa using hkind
        have hvn : valN ⟨kind, server, need, ws, ks⟩ I s = decide (need ≤ gotTo ⟨kind, server, need, ws, ks⟩ I ks.length) := by unfold valN; rw [if_neg hkind]
        rw [hvn] at HST
        have ea := heap_alloc_at e1 (Obj.cells #[.int .i64 kind, .int .i64 server, .int .i64 need, .slice a3 n3 c3, .slice a4 n4 c4] 58)
        have ea0 := heap_alloc_at e0 (Obj.cells #[.int .i64 kind, .int .i64 server, .int .i64 need, .slice a3 n3 c3, .slice a4 n4 c4] 58)
        have en := heap_alloc_new wr (Obj.cells #[.int .i64 kind, .int .i64 server, .int .i64 need, .slice a3 n3 c3, .slice a4 n4 c4] 58)
        have hbn : Below wr.heap.size wr (wr.alloc (Obj.cells #[.int .i64 kind, .int .i64 server, .int .i64 need, .slice a3 n3 c3, .slice a4 n4 c4] 58)) := (Below.refl _ wr).alloc (Nat.le_refl _) _
        have hlk : ks.length = n4 := by have := R4.out.len; simp at this; omega
        have hle4 := R4.out.le
        have hm4 := R4.out.max
        unfold maxLen at hm4
        go_wp2_with fail
        generalize hWA : wr.alloc _ = WA
        rw [hWA] at ea ea0 en hbn
        have EA := Lib.hid ea
        have EA0 := Lib.hid ea0
        have EN := Lib.hid en
        have HBN := Lib.hid hbn
        have HSA : Hid (w.heap.size + 2 ≤ WA.heap.size ∧ wr.heap.size < WA.heap.size) := Lib.hid (by rw [← hWA]; simp; omega)
        clear hWA ea ea0 en hbn e0 e1 m0 m1 m2 m3 m4 hvn
        obtain ⟨W0, hW0⟩ : ∃ W0, W0 = wr := ⟨_, rfl⟩
        subst hW0
        go_loopw [8, 37] (fun v i wq => ∃ j : Nat, j ≤ n4 ∧ i = .int .i64 j ∧ v = .int .i64 (gotTo ⟨kind, server, need, ws, ks⟩ I j) ∧ Below WA.heap.size WA wq) (fun _ i _ => n4 - (intOf i).toNat)
        case atStart => exact ⟨0, Nat.zero_le _, rfl, rfl, Below.refl _ _⟩
        case round =>
          obtain ⟨j, hj, rfl, rfl, hbq⟩ := hrel
          by_cases hltj : j < n4
          · obtain ⟨z, hz⟩ : ∃ z, ks[j]? = some z := ⟨_, List.getElem?_eq_getElem (by omega)⟩
            have hzr := HOK.out.kids z (List.mem_of_getElem? hz)
            obtain ⟨kd, rfl⟩ := Int.eq_ofNat_of_zero_le hzr.1
            have hkd2 : kd < k := by omega
            obtain ⟨b4, o4, ha4, hcell4⟩ := (R4.out.below (Below.next HBN.out hbq)).at' (by omega)
            have q4 := hcell4 j (.int .i64 kd) (by rw [List.getElem?_map, hz]; rfl)
            have eq1 := heap_below hbq EA.out
            have q1 := cell_of_row _ _ kd _ _ _ eq1 |>.trans (isA_at (by have := HL.out; omega) (by omega))
            have hgs : gotTo ⟨kind, server, need, ws, ks⟩ I (j + 1) = gotTo ⟨kind, server, need, ws, ks⟩ I j + (if I.getD kd false = true then wgtN ⟨kind, server, need, ws, ks⟩ j else 0) := by
              rw [gotTo]
              show _ + (if I.getD ((ks.getD j 0).toNat) false = true then _ else _) = _
              rw [show ks.getD j 0 = (kd : Int) by rw [List.getD_eq_getElem?_getD, hz]; rfl, Int.toNat_natCast]
            have hgb := got_bd HOK.out I j
            have hwb := wgt_pos HOK.out j
            subst ha4
            cases hi : I.getD kd false
            · rw [hi] at q1 hgs
              rw [if_neg (by decide), Int.add_zero] at hgs
              have HGS := Lib.hid hgs
              clear hcell4 hz hgs hi hgb hwb hzr eq1
              go_wp2_with fail
              go_roundw
              case rel => exact ⟨j + 1, by omega, by go_num, by rw [HGS.out], hbq⟩
              case measure => simp [intOf]; omega
            · rw [hi] at q1 hgs
              rw [if_pos rfl] at hgs
              have HW : Hid (∀ y, Below wr.heap.size wr y → Calls Tryd.prog 51 #[.agg #[.int .i64 kind, .int .i64 server, .int .i64 need, .slice a3 n3 c3, .slice (some ⟨b4, o4, none⟩) n4 c4], .int .i64 j] y fun e w' => e = .returned (.int .i64 (wgtN ⟨kind, server, need, ws, ks⟩ j)) ∧ Below y.heap.size y w') :=
                Lib.hid (fun y hy => wgt_c ⟨kind, server, need, ws, ks⟩ j a3 n3 c3 (some ⟨b4, o4, none⟩) n4 c4 y (R3.out.below (Below.next HBN.out (Below.next hbq hy))) (by
                  rcases HOK.out.arity with h | h
                  · exact .inl h
                  · right; rw [h]; show j < ks.length; omega))
              obtain ⟨S, hS⟩ : ∃ S, gotTo ⟨kind, server, need, ws, ks⟩ I j = S := ⟨_, rfl⟩
              obtain ⟨G, hG⟩ : ∃ G, wgtN ⟨kind, server, need, ws, ks⟩ j = G := ⟨_, rfl⟩
              rw [hS] at hgs hgb ⊢
              rw [hG] at hgs hwb HW
              have hwr2 : wrap64 (S + G) = S + G := by unfold wrap64; omega
              have eqn := heap_below hbq EN.out
              have p0 := cell_of_row _ _ 0 _ _ _ eqn
              have p1 := cell_of_row _ _ 1 _ _ _ eqn
              have p2 := cell_of_row _ _ 2 _ _ _ eqn
              have p3 := cell_of_row _ _ 3 _ _ _ eqn
              have p4 := cell_of_row _ _ 4 _ _ _ eqn
              have HGS := Lib.hid hgs
              clear hcell4 hz hgs hi hgb hwb hzr eq1 eqn hS hG
              go_wp2_with fail
              refine (HW.out _ (Below.refl _ _)).mono ?_
              rintro e w5 ⟨rfl, hb5⟩
              have hb6 := Below.next hbq hb5
              go_wp2_with fail
              go_roundw
              case rel => exact ⟨j + 1, by omega, by go_num, by rw [HGS.out, hwr2], hb6⟩
              case measure => simp [intOf]; omega
          · obtain rfl : j = n4 := by omega
            rw [hlk] at HST
            obtain ⟨S, hS⟩ : ∃ S, gotTo ⟨kind, server, need, ws, ks⟩ I j = S := ⟨_, rfl⟩
            rw [hS] at HST ⊢
            have eqn := heap_below hbq EN.out
            have p2 := cell_of_row _ _ 2 _ _ _ eqn
            have eq1 := heap_below hbq EA.out
            have q1 := cell_of_row _ _ k _ _ _ eq1 |>.trans (isA_at (by have := HL.out; omega) (by omega))
            have z1 := frozen_row eq1 k
            have EQ1 := Lib.hid eq1
            have EQ0 := Lib.hid (heap_below hbq EA0.out)
            have HBF := Lib.hid (Below.next HB.out (Below.next HBN.out hbq))
            have HSQ := Lib.hid hbq.size
            clear eqn eq1 hS hbq
            go_wp2_with fail
            clear q1 z1
            go_roundw
            case rel =>
              have hkl := HL.out
              have hsq := HSQ.out
              have hsa := HSA.out
              refine ⟨k + 1, by omega, by go_num, ?_, ?_, ?_, ?_⟩
              · rw [heap_set_at EQ1.out, HST.out, ← hkl, isA_set (by omega)]
              · exact heap_set_other (by omega) _ _ EQ0.out
              · simp [World.setCell]; omega
              · exact HBF.out.setCell (p := ⟨w.heap.size + 1, k, none⟩) (by show w.heap.size ≤ w.heap.size + 1; omega) _
            case measure => simp [intOf]; omega
    · obtain rfl : k = r + 1 := by omega
      have hc := cell_of_row _ _ r _ _ _ e1 |>.trans (isA_at (by rw [holdTo_len]; omega) (by omega))
      rw [← HV.out] at hc
      have hc2 := cell_of_row _ _ 1 _ _ _ e0
      have hkd : decide (((r + 1 : Nat) : Int) < (r : Int) + 1) = false := decide_eq_false (by omega)
      go_wp2_with fail
      go_ret
      exact ⟨rfl, hb⟩

set_option maxRecDepth 100000 in
set_option maxHeartbeats 1000000 in
theorem eval_c (x : Xpr) (hx : xprE x = 0) (hf : XprFew x) (s : BitVec 16) (hs : s.toNat < 4096) (a : Option Addr) (n c : Nat) (w : World) (h : XM w a n c x.nodes) :
    Calls Tryd.prog 34 #[.agg #[.slice a n c, .int .i64 x.root], .int .u16 (U s)] w fun e w' => e = .returned (.tuple #[.bool (holdX x s), .int .i64 0]) ∧ Below w.heap.size w w' := by
  have H1 := Lib.hid (fun (v : World) (hb : Below w.heap.size w v) => xpr_c x a n c v (h.below hb))
  have H2 := Lib.hid (fun (v : World) (hb : Below w.heap.size w v) => holds_c x (xprE_ok hx) hf s a n c v (h.below hb))
  rw [hx] at H1
  have hd : decide (4096 ≤ U s) = false := decide_eq_false (by unfold U; omega)
  clear h hf hx
  obtain ⟨W2, hW2⟩ : ∃ W2, W2 = w.alloc (.cells #[.slice a n c, .int .i64 x.root] 28) := ⟨_, rfl⟩
  have hb2 : Below w.heap.size w W2 := by rw [hW2]; exact (Below.refl _ w).alloc (Nat.le_refl _) _
  have g0 : W2.heap[w.heap.size]? = some (.cells #[.slice a n c, .int .i64 x.root] 28 (0, 0)) := by rw [hW2]; exact heap_alloc_new _ _
  have HB2 := Lib.hid hb2
  have G0 := Lib.hid g0
  clear hb2 g0
  go_enter Tryd.func34, Tryd.ntmps34
  go_wp2_with fail
  rw [← hW2]
  refine (H1.out W2 HB2.out).mono ?_
  rintro e w1 ⟨rfl, hb1⟩
  have e1 := heap_below hb1 G0.out
  have q0 := cell_of_row _ _ 0 _ _ _ e1
  have q1 := cell_of_row _ _ 1 _ _ _ e1
  have E1 := Lib.hid e1
  clear e1
  go_wp2_with fail
  refine (H2.out w1 (Below.next HB2.out hb1)).mono ?_
  rintro e w5 ⟨rfl, hb5⟩
  go_wp2_with fail
  go_ret2
  exact ⟨rfl, Below.next HB2.out (Below.next hb1 hb5)⟩

end Go.Proofs.YtmjgdnpfgkpaoaaDoor
namespace Go.Proofs.YtmjgdnpfgkpaoaaDoor
open Go.RowKit Go.Shelf

theorem rowK_at {k : Nat} {w w' : World} {B n : Nat} {e : TypeId} {v : Value} {l : List Value} (h : w.ownsRow B e k v n l) (hb : ∀ g, v.ownBlock = some g → w'.heap[g]? = w.heap[g]?) : w'.ownsRow B e k v n l := by
  obtain ⟨h1, h2⟩ := h
  refine ⟨h1, ?_⟩
  rcases h2 with h2 | ⟨g, cap, cur, hv, hb', hg, r⟩
  · exact .inl h2
  · exact .inr ⟨g, cap, cur, hv, hb', by rw [hb g (by rw [hv]; rfl)]; exact hg, r⟩
end Go.Proofs.YtmjgdnpfgkpaoaaDoor
namespace Go.Proofs.YtmjgdnpfgkpaoaaDoor
open Go.RowKit

/-- the entries of the members -/
def entries (x : BitVec 16) (to : List Int) : List Int := (memS x).map fun i => (to[i]?).getD (-1)
def renS (x : BitVec 16) (to : List Int) : BitVec 16 × Int := ofS 0#16 (entries x to)

theorem memS_lt {x : BitVec 16} {k i : Nat} (h : (memS x)[k]? = some i) : i < 16 := by
  have := List.mem_of_getElem? h
  simp [memS] at this
  exact this.1
theorem addS_neg (s : BitVec 16) : addS s (-1) = (0#16, 7) := by simp [addS]

end Go.Proofs.YtmjgdnpfgkpaoaaDoor
namespace Go.Proofs.YtmjgdnpfgkpaoaaDoor
open Go.RowKit

theorem ofS_append (p q : List Int) : ∀ s, ofS s (p ++ q) = if (ofS s p).2 = 0 then ofS (ofS s p).1 q else ofS s p := by
  induction p with
  | nil => intro s; simp [ofS]
  | cons i p ih =>
    intro s
    by_cases h0 : (addS s i).2 = 0
    · simp only [List.cons_append, ofS, if_pos h0]; exact ih _
    · simp only [List.cons_append, ofS, if_neg h0]

theorem ofS_stop {l : List Int} {k : Nat} (h : l[k]? = some (-1)) (s : BitVec 16) : ofS s (l.take (k + 1)) = ofS s l := by
  have e : l = l.take (k + 1) ++ l.drop (k + 1) := (List.take_append_drop _ _).symm
  have h2 : (ofS s (l.take (k + 1))).2 ≠ 0 := by
    rw [List.take_add_one, h, ofS_append]
    by_cases h0 : (ofS s (l.take k)).2 = 0
    · rw [if_pos h0]; simp [ofS, addS_neg]
    · rw [if_neg h0]; exact h0
  conv => rhs; rw [e, ofS_append, if_neg h2]

theorem entries_len (x : BitVec 16) (to : List Int) : (entries x to).length = cnt x := by simp [entries, cnt]
def intV' (i : Int) : Value := .int .i64 i

def setV (x : BitVec 16) : Value := .int .u16 (U x)
def pickB (x : BitVec 16) (k : Int) (n : Nat) : Bool := (BitVec.ofNat 16 n &&& ~~~x == 0#16) && ((cnt (BitVec.ofNat 16 n) : Int) == k)
def pickTo (x : BitVec 16) (k : Int) (N : Nat) : List (BitVec 16) := ((List.range N).filter (pickB x k)).map (BitVec.ofNat 16)
/-- the subsets of x with k members, in order -/
def chooseS (x : BitVec 16) (k : Int) : List (BitVec 16) := pickTo x k 65536
theorem pickTo_succ (x : BitVec 16) (k : Int) (N : Nat) : pickTo x k (N + 1) = if pickB x k N then pickTo x k N ++ [BitVec.ofNat 16 N] else pickTo x k N := by
  unfold pickTo; rw [List.range_succ, List.filter_append]; cases h : pickB x k N <;> simp [h]
theorem pickTo_le (x : BitVec 16) (k : Int) (N : Nat) : (pickTo x k N).length ≤ N := by
  unfold pickTo; rw [List.length_map]; exact Nat.le_trans (List.length_filter_le _ _) (by simp)
theorem U_ofNat (n : Nat) (h : n < 65536) : (n : Int) = U (BitVec.ofNat 16 n) := by simp [U]; omega
theorem Tryd.infoSet : (Tryd.prog.info? 52).map (fun i => (i.zero, i.size, i.bytes)) = some (some (.int .u16 0), 1, 2) := by kernel_rfl

end Go.Proofs.YtmjgdnpfgkpaoaaDoor
namespace Go.Proofs.YtmjgdnpfgkpaoaaDoor
open Go.RowKit

end Go.Proofs.YtmjgdnpfgkpaoaaDoor
namespace Go.Proofs.YtmjgdnpfgkpaoaaDoor
open Go.RowKit

/-- all subsets up to k members, in order -/
def subsTo (x : BitVec 16) (K : Nat) : List (BitVec 16) := (List.range K).flatMap fun (k : Nat) => chooseS x (k : Int)
def subsS (x : BitVec 16) : List (BitVec 16) := subsTo x (cnt x + 1)
theorem subsTo_succ (x : BitVec 16) (K : Nat) : subsTo x (K + 1) = subsTo x K ++ chooseS x K := by
  simp [subsTo, List.range_succ]
theorem chooseS_le (x : BitVec 16) (k : Int) : (chooseS x k).length ≤ 70000 := Nat.le_trans (pickTo_le x k 65536) (by decide)
theorem subsTo_le (x : BitVec 16) (K : Nat) : (subsTo x K).length ≤ 70000 * K := by
  induction K with
  | zero => simp [subsTo]
  | succ K ih => rw [subsTo_succ, List.length_append]; have := chooseS_le x K; omega

/-- two lists of sets are the same -/
theorem same_take {α : Type} [DecidableEq α] {l m : List α} {k : Nat} (_hl : l.length = m.length) {x y : α} (hx : l[k]? = some x) (hy : m[k]? = some y) (ht : l.take k = m.take k) :
    (x = y → l.take (k + 1) = m.take (k + 1)) ∧ (x ≠ y → l ≠ m) := by
  refine ⟨fun e => ?_, fun e h => ?_⟩
  · rw [List.take_add_one, List.take_add_one, hx, hy, ht, e]
  · rw [h, hy] at hx; exact e (Option.some.inj hx).symm

set_option maxRecDepth 100000 in
set_option maxHeartbeats 2000000 in
theorem rsame_c (l m : List (BitVec 16)) (a b : Option Addr) (n c n' c' : Nat) (w : World) (h : Rd w a n c (l.map setV)) (h' : Rd w b n' c' (m.map setV)) :
    Calls Tryd.prog 10 #[.slice a n c, .slice b n' c'] w fun e w' => e = .returned (.bool (decide (l = m))) ∧ Below w.heap.size w w' := by
  have hn : n ≤ l.length ∧ l.length ≤ n := by have := h.len; simp at this; omega
  obtain ⟨hn1, hn2⟩ := hn
  have hn' : n' ≤ m.length ∧ m.length ≤ n' := by have := h'.len; simp at this; omega
  obtain ⟨hm1, hm2⟩ := hn'
  have hm := h.max
  have hle := h.le
  have hm' := h'.max
  have hle' := h'.le
  unfold maxLen at hm hm'
  by_cases hnn : n = n'
  · subst hnn
    have hlm : Hid (l.length = m.length) := by show l.length = m.length; omega
    have hne : ((n : Int) != (n : Int)) = false := by simp
    go_enter Tryd.func10, Tryd.ntmps10
    go_wp2_with fail
    go_loopw [5] (fun i wr => ∃ (k : Nat), k ≤ n ∧ i = .int .i64 k ∧ Hid (l.take k = m.take k) ∧ Below w.heap.size w wr) (fun i _ => n - (intOf i).toNat)
    case atStart => exact ⟨0, Nat.zero_le _, rfl, rfl, Below.refl _ _⟩
    case round =>
      obtain ⟨k, hk, rfl, ht, hbw⟩ := hrel
      have hw := h.below hbw
      have hw' := h'.below hbw
      by_cases hlt : k < n
      · obtain ⟨x, hx⟩ : ∃ x, l[k]? = some x := ⟨_, List.getElem?_eq_getElem (by omega)⟩
        obtain ⟨y, hy⟩ : ∃ y, m[k]? = some y := ⟨_, List.getElem?_eq_getElem (by omega)⟩
        have T := Lib.hid (same_take hlm.out hx hy ht.out)
        obtain ⟨b1, o1, rfl, hcell⟩ := hw.at' (by omega)
        have hc : wr.cell? ⟨b1, o1 + k, none⟩ = some (.int .u16 (U x)) := hcell k (setV x) (by simp [hx])
        obtain ⟨b2, o2, rfl, hcell2⟩ := hw'.at' (by omega)
        have hc2 : wr.cell? ⟨b2, o2 + k, none⟩ = some (.int .u16 (U y)) := hcell2 k (setV y) (by simp [hy])
        have hk1 : (k : Int) < n := by omega
        have hk2 : (0 : Int) ≤ k := by omega
        clear hcell hcell2 hx hy h h' ht hw hw'
        by_cases hxy : x = y
        · have hb : (x != y) = false := by simpa using hxy
          have HX := Lib.hid hxy
          clear hxy
          go_wp2_with fail
          go_quiet (fail)
          go_wp2_with fail
          go_roundw
          case rel => exact ⟨k + 1, by omega, by go_num, T.out.1 HX.out, below_drewN hbw⟩
          case measure => simp [intOf]; omega
        · have hb : (x != y) = true := by simpa using hxy
          have HX := Lib.hid hxy
          clear hxy
          go_wp2_with fail
          go_quiet (fail)
          go_wp2_with fail
          go_ret
          exact ⟨ret_bool (by simp [T.out.2 HX.out]), below_drewN hbw⟩
      · have hE : Hid (l = m) := by
          have := ht.out
          rw [List.take_of_length_le (by omega), List.take_of_length_le (by omega)] at this
          exact this
        clear ht h h' hw hw'
        go_wp2_with fail
        go_ret
        exact ⟨ret_bool (by simp [hE.out]), hbw⟩
  · have hne : ((n : Int) != (n' : Int)) = true := by rw [bne_iff_ne]; omega
    have hE : Hid (l ≠ m) := by intro e; subst e; omega
    clear hnn h h'
    go_enter Tryd.func10, Tryd.ntmps10
    go_wp2_with fail
    go_ret
    exact ⟨ret_bool (by simp [hE.out]), Below.refl _ _⟩

end Go.Proofs.YtmjgdnpfgkpaoaaDoor
namespace Go.Proofs.YtmjgdnpfgkpaoaaDoor

/-- the numbers below N with k bits -/
def numsTo (k : Int) (N : Nat) : List Nat := (List.range N).filter fun n => (popR 32 n : Int) == k
theorem numsTo_sorted (k : Int) (N : Nat) : (numsTo k N).Pairwise (· < ·) := List.Pairwise.filter _ List.pairwise_lt_range

theorem popR_32 (x : BitVec 16) (n : Nat) (h : n < 2 ^ cnt x) : popR 32 n = popR (cnt x) n := by
  have hc := cnt_le x
  obtain ⟨M, hM⟩ : ∃ M, 32 = cnt x + M := ⟨32 - cnt x, by omega⟩
  rw [hM]; exact popR_pad M (cnt x) n h

theorem chooseS_dep (x : BitVec 16) (k : Int) : chooseS x k = (numsTo k (2 ^ cnt x)).map (dep (memS x)) := by
  have h16 := memS_16 x
  have hso := memS_sorted x
  refine ext_sorted (fun y => y.toNat) _ _ ?_ ?_ fun y => ?_
  · unfold chooseS pickTo
    rw [List.pairwise_map]
    refine List.Pairwise.imp_of_mem ?_ (List.Pairwise.filter _ (List.pairwise_lt_range (n := 65536)))
    intro a b ha hb hab
    have ha' := List.mem_range.1 (List.mem_filter.1 ha).1
    have hb' := List.mem_range.1 (List.mem_filter.1 hb).1
    simp only [BitVec.toNat_ofNat]
    rw [Nat.mod_eq_of_lt ha', Nat.mod_eq_of_lt hb']
    exact hab
  · rw [List.pairwise_map]
    refine List.Pairwise.imp_of_mem ?_ (numsTo_sorted k _)
    intro a b ha hb hab
    have hb' := List.mem_range.1 (List.mem_filter.1 hb).1
    exact dep_mono _ h16 hso a b hab hb'
  · constructor
    · intro hy
      obtain ⟨n, hn, rfl⟩ := List.mem_map.1 hy
      obtain ⟨hr, hp⟩ := List.mem_filter.1 hn
      unfold pickB at hp
      rw [Bool.and_eq_true] at hp
      have hsub := (sub_iff x _).1 hp.1
      have hinv := dep_inv x _ hsub
      have hlt := inv_lt (memS x) (BitVec.ofNat 16 n)
      refine List.mem_map.2 ⟨inv (memS x) (BitVec.ofNat 16 n), List.mem_filter.2 ⟨List.mem_range.2 hlt, ?_⟩, hinv⟩
      have hc := cnt_dep (memS x) h16 hso (inv (memS x) (BitVec.ofNat 16 n))
      rw [hinv] at hc
      rw [popR_32 x _ hlt]
      have e : popR (cnt x) (inv (memS x) (BitVec.ofNat 16 n)) = cnt (BitVec.ofNat 16 n) := hc.symm
      rw [e]; exact hp.2
    · intro hy
      obtain ⟨n, hn, rfl⟩ := List.mem_map.1 hy
      obtain ⟨hr, hp⟩ := List.mem_filter.1 hn
      have hlt := List.mem_range.1 hr
      refine List.mem_map.2 ⟨(dep (memS x) n).toNat, List.mem_filter.2 ⟨List.mem_range.2 (dep (memS x) n).isLt, ?_⟩, by simp⟩
      unfold pickB
      rw [BitVec.ofNat_toNat, BitVec.setWidth_eq, Bool.and_eq_true]
      refine ⟨(sub_iff x _).2 fun p hp => dep_sub x n p hp, ?_⟩
      have hc := cnt_dep (memS x) h16 hso n
      rw [hc]
      rw [popR_32 x n hlt] at hp
      exact hp

/-- where the loop stands: what has come up to n -/
theorem numsTo_next (k : Int) (n : BitVec 32) (h0 : n ≠ 0#32) (hlt : n.toNat < 2 ^ 16) (hk : (popR 32 n.toNat : Int) = k) :
    n.toNat < (nextV n).toNat ∧ (popR 32 (nextV n).toNat : Int) = k ∧ numsTo k (nextV n).toNat = numsTo k n.toNat ++ [n.toNat] := by
  obtain ⟨h1, h2, h3⟩ := next_spec n h0 hlt
  refine ⟨h1, by rw [h2]; exact hk, ?_⟩
  obtain ⟨d, hd⟩ : ∃ d, (nextV n).toNat = n.toNat + (1 + d) := ⟨(nextV n).toNat - n.toNat - 1, by omega⟩
  unfold numsTo
  rw [hd, List.range_add, List.filter_append, List.range_add, List.map_append, List.filter_append]
  congr 1
  have e1 : List.map (fun x => n.toNat + x) (List.range 1) = [n.toNat] := by simp [List.range_succ]
  rw [e1]
  have e2 : List.filter (fun n => (popR 32 n : Int) == k) [n.toNat] = [n.toNat] := by simp [hk]
  rw [e2]
  have e3 : List.filter (fun n => (popR 32 n : Int) == k) (List.map (fun x => n.toNat + x) (List.map (fun x => 1 + x) (List.range d))) = [] := by
    rw [List.filter_eq_nil_iff]
    intro a ha
    rw [List.map_map] at ha
    obtain ⟨t, ht, rfl⟩ := List.mem_map.1 ha
    have ht' := List.mem_range.1 ht
    simp only [Function.comp_def]
    have := h3 (n.toNat + (1 + t)) (by omega) (by omega)
    rw [beq_iff_eq]
    intro e
    apply this
    omega
  rw [e3, List.append_nil]
theorem numsTo_first (k : Nat) (hk : k ≤ 16) : (popR 32 (2 ^ k - 1) : Int) = k ∧ numsTo k (2 ^ k - 1) = [] := by
  obtain ⟨M, hM⟩ : ∃ M, 32 = k + M := ⟨32 - k, by omega⟩
  have hp : 0 < 2 ^ k := Nat.two_pow_pos k
  constructor
  · rw [hM, popR_pad M k _ (by omega), popR_ones]
  · unfold numsTo
    rw [List.filter_eq_nil_iff]
    intro a ha
    have ha' := List.mem_range.1 ha
    have h1 := popR_lt k a ha'
    rw [hM, popR_pad M k a (by omega), beq_iff_eq]
    omega
theorem numsTo_cut (k : Int) (N n : Nat) (h : N ≤ n) (hn : ∀ m, N ≤ m → m < n → (popR 32 m : Int) ≠ k) : numsTo k n = numsTo k N := by
  obtain ⟨d, rfl⟩ : ∃ d, n = N + d := ⟨n - N, by omega⟩
  unfold numsTo
  rw [List.range_add, List.filter_append]
  have e3 : List.filter (fun n => (popR 32 n : Int) == k) (List.map (fun x => N + x) (List.range d)) = [] := by
    rw [List.filter_eq_nil_iff]
    intro a ha
    obtain ⟨t, ht, rfl⟩ := List.mem_map.1 ha
    have ht' := List.mem_range.1 ht
    rw [beq_iff_eq]
    exact hn _ (by omega) (by omega)
  rw [e3, List.append_nil]
end Go.Proofs.YtmjgdnpfgkpaoaaDoor
namespace Go.Proofs.YtmjgdnpfgkpaoaaDoor

theorem popR_cntM (x : BitVec 16) (n : Nat) (h : n < 2 ^ cnt x) : popR 32 n < cnt x + 1 := by
  rw [popR_32 x n h]; have := popR_le (cnt x) n; omega
theorem sumM_zero (K a : Nat) (h : K ≤ a) : ((List.range K).map fun k => if a = k then 1 else 0).sum = 0 := by
  induction K with
  | zero => rfl
  | succ K ih => rw [List.range_succ, List.map_append, List.sum_append, ih (by omega)]; simp; omega
theorem sumM_one (K a : Nat) (h : a < K) : ((List.range K).map fun k => if a = k then 1 else 0).sum = 1 := by
  induction K with
  | zero => omega
  | succ K ih =>
    rw [List.range_succ, List.map_append, List.sum_append]
    by_cases e : a = K
    · subst e; rw [sumM_zero a a (Nat.le_refl _)]; simp
    · rw [ih (by omega)]; simp [e]
theorem sumM_add (l : List Nat) (f g : Nat → Nat) : (l.map fun k => f k + g k).sum = (l.map f).sum + (l.map g).sum := by
  induction l with
  | nil => rfl
  | cons a l ih => simp [ih]; omega
theorem sumM_parts (f : Nat → Nat) (K : Nat) : ∀ l : List Nat, (∀ n ∈ l, f n < K) → ((List.range K).map fun (k : Nat) => (l.filter fun n => (f n : Int) == (k : Int)).length).sum = l.length := by
  intro l
  induction l with
  | nil => intro _; simp [List.map_const']
  | cons a l ih =>
    intro h
    have e : ∀ k : Nat, ((a :: l).filter fun n => (f n : Int) == (k : Int)).length = (if f a = k then 1 else 0) + (l.filter fun n => (f n : Int) == (k : Int)).length := by
      intro k
      rw [List.filter_cons]
      by_cases h : f a = k
      · simp [h]; omega
      · have : ((f a : Int) == (k : Int)) = false := by simp; omega
        simp [h, this]
    simp only [e]
    rw [sumM_add, sumM_one K (f a) (h a (by simp)), ih (fun n hn => h n (by simp [hn]))]
    simp; omega
theorem subsM_dep (x : BitVec 16) : subsS x = (List.range (cnt x + 1)).flatMap fun (k : Nat) => (numsTo k (2 ^ cnt x)).map (dep (memS x)) := by
  unfold subsS subsTo
  simp only [chooseS_dep]
theorem subsM_len (x : BitVec 16) : (subsS x).length = 2 ^ cnt x := by
  rw [subsM_dep, List.length_flatMap]
  simp only [List.length_map, numsTo]
  rw [sumM_parts (popR 32) (cnt x + 1) (List.range (2 ^ cnt x)) (fun n hn => popR_cntM x n (List.mem_range.1 hn)), List.length_range]
/-- each part of a set is among its subsets -/
theorem mem_subs {x s : BitVec 16} (h : ∀ p, hasB s p = true → hasB x p = true) : s ∈ subsS x := by
  have hd := dep_inv x s h
  have hl := inv_lt (memS x) s
  rw [subsM_dep]
  refine List.mem_flatMap.2 ⟨popR 32 (inv (memS x) s), List.mem_range.2 (popR_cntM x _ hl), ?_⟩
  exact List.mem_map.2 ⟨_, List.mem_filter.2 ⟨List.mem_range.2 hl, by simp⟩, hd⟩
/-- and these alone -/
theorem subs_mem {x s : BitVec 16} (hs : s ∈ subsS x) : ∀ p, hasB s p = true → hasB x p = true := by
  rw [subsM_dep] at hs
  obtain ⟨k, _, h2⟩ := List.mem_flatMap.1 hs
  obtain ⟨n, _, rfl⟩ := List.mem_map.1 h2
  intro p hp
  exact mem_memS.1 (sel_mem _ _ _ ((hasB_dep (memS x) (memS_16 x) n p).1 hp))
theorem cnt_six {x : BitVec 16} (h : ∀ p, hasB x p = true → p < 6) : cnt x ≤ 6 := by
  unfold cnt memS
  rw [show List.range 16 = List.range 6 ++ [6, 7, 8, 9, 10, 11, 12, 13, 14, 15] from rfl, List.filter_append]
  have : List.filter (hasB x) [6, 7, 8, 9, 10, 11, 12, 13, 14, 15] = [] := by
    rw [List.filter_eq_nil_iff]
    intro p hp hc
    have h1 := h p hc
    simp at hp
    omega
  rw [this, List.append_nil]
  exact Nat.le_trans (List.length_filter_le _ _) (by simp)

theorem famStep_le (x : Xpr) (o : List (BitVec 16)) (s : BitVec 16) : (famStep x o s).length ≤ o.length + 1 := by
  unfold famStep
  split
  · omega
  · split
    · simp
    · omega
theorem famFold_le (x : Xpr) : ∀ (l o : List (BitVec 16)), (l.foldl (famStep x) o).length ≤ o.length + l.length := by
  intro l
  induction l with
  | nil => intro o; simp
  | cons s l ih =>
    intro o
    rw [List.foldl_cons, List.length_cons]
    have := ih (famStep x o s)
    have := famStep_le x o s
    omega
/-- the family of an expression, its error -/
def famS (x : Xpr) : List (BitVec 16) := famOf x (subsS (srvX x))
def famE (x : Xpr) : List (BitVec 16) × Int := if xprE x ≠ 0 then ([], xprE x) else if 400 < (famS x).length then ([], 3) else (famS x, 0)
theorem famS_holds {x : Xpr} (h : XprOk x) (s : BitVec 16) : accS (famS x) s = holdX x s := fam_holds h (fun _s hs => mem_subs hs) s
theorem famS_in {x : Xpr} {F : BitVec 16} (hF : F ∈ famS x) : ∀ i, hasB F i = true → hasB (srvX x) i = true := by
  rcases fam_only x _ [] F hF with h | h
  · cases h
  · exact subs_mem h.1
theorem famS_le (x : Xpr) : (famS x).length ≤ 2 ^ cnt (srvX x) := by
  have := famFold_le x (subsS (srvX x)) []
  rw [subsM_len, List.length_nil, Nat.zero_add] at this
  exact this
theorem famE_six {x : Xpr} (h : xprE x = 0) (h6 : ∀ p, hasB (srvX x) p = true → p < 6) : famE x = (famS x, 0) := by
  have h1 := famS_le x
  have h2 : 2 ^ cnt (srvX x) ≤ 2 ^ 6 := Nat.pow_le_pow_right (by decide) (cnt_six h6)
  unfold famE
  rw [if_neg (by simpa using h), if_neg (by omega)]
end Go.Proofs.YtmjgdnpfgkpaoaaDoor
namespace Go.Proofs.YtmjgdnpfgkpaoaaDoor

/-- a piece of a description -/
structure Pce where
  kind : Int
  server : Int
  need : Int
  heavy : Bool
  kids : List Int
def Pce.ok (p : Pce) : Prop := ((0 ≤ p.kind ∧ p.kind < 256) ∧ (0 ≤ p.server ∧ p.server < 256) ∧ (0 ≤ p.need ∧ p.need < 256)) ∧ ∀ z ∈ p.kids, 0 ≤ z ∧ z < 256
def pce0 : Pce := ⟨0, 0, 0, false, []⟩

/-- the sum of the weights of the first k kids -/
def sumTo (nd : Nod) : Nat → Int
  | 0 => 0
  | k + 1 => sumTo nd k + wgtN nd k
def sumN (nd : Nod) : Int := sumTo nd nd.kids.length
/-- the kids and weights of a piece at an index, of the first k -/
def mkdTo (p : Pce) (i k : Nat) : List Int := (p.kids.take k).map fun z => z % (i : Int)
def mwtTo (p : Pce) (k : Nat) : List Int := if p.heavy = true then (p.kids.take k).map fun z => 1 + z / 16 % 4 else []
def mk5 (p : Pce) : Nat := min p.kids.length 5
def madK (p : Pce) (i : Nat) : Nod := ⟨2, 0, 0, mwtTo p (mk5 p), mkdTo p i (mk5 p)⟩
def madN (p : Pce) (i : Nat) : Nod := if i = 0 ∨ p.kind % 3 = 0 then ⟨1, p.server % 6, 0, [], []⟩ else ⟨2, 0, p.need % (sumN (madK p i) + 2), mwtTo p (mk5 p), mkdTo p i (mk5 p)⟩
def madT (ps : List Pce) (k : Nat) : List Nod := (List.range k).map fun i => madN (ps.getD i pce0) i
def mad9 (ps : List Pce) : Nat := min ps.length 9
def srv0 : Nod := ⟨1, 0, 0, [], []⟩
def madX (ps : List Pce) : Xpr := if ps = [] then ⟨[srv0], 0⟩ else ⟨madT ps (mad9 ps), (mad9 ps : Int) - 1⟩

theorem mkdTo_succ {p : Pce} {i k : Nat} {z : Int} (h : p.kids[k]? = some z) : mkdTo p i (k + 1) = mkdTo p i k ++ [z % (i : Int)] := by
  unfold mkdTo; rw [List.take_add_one, h]; simp
theorem mwtTo_succ {p : Pce} {k : Nat} {z : Int} (h : p.kids[k]? = some z) (hh : p.heavy = true) : mwtTo p (k + 1) = mwtTo p k ++ [1 + z / 16 % 4] := by
  unfold mwtTo; rw [if_pos hh, if_pos hh, List.take_add_one, h]; simp
theorem mwtTo_light {p : Pce} (k : Nat) (hh : p.heavy = false) : mwtTo p k = [] := by unfold mwtTo; rw [if_neg (by rw [hh]; decide)]
theorem madT_succ (ps : List Pce) (k : Nat) : madT ps (k + 1) = madT ps k ++ [madN (ps.getD k pce0) k] := by
  unfold madT; rw [List.range_succ, List.map_append]; rfl
theorem madT_len (ps : List Pce) (k : Nat) : (madT ps k).length = k := by unfold madT; rw [List.length_map, List.length_range]
theorem mkdTo_len (p : Pce) (i k : Nat) (h : k ≤ p.kids.length) : (mkdTo p i k).length = k := by unfold mkdTo; rw [List.length_map, List.length_take]; omega
theorem madT_at {ps : List Pce} {k i : Nat} {nd : Nod} (h : (madT ps k)[i]? = some nd) : i < k ∧ nd = madN (ps.getD i pce0) i := by
  have h1 := (List.getElem?_eq_some_iff.1 h).1
  rw [madT_len] at h1
  unfold madT at h
  rw [List.getElem?_map, List.getElem?_range h1] at h
  simp at h
  exact ⟨h1, h.symm⟩
theorem sum_bd {nd : Nod} (h : ∀ w ∈ nd.weights, 1 ≤ w ∧ w ≤ 4) (hl : nd.weights = [] ∨ nd.weights.length = nd.kids.length) : ∀ k, k ≤ nd.kids.length → (k : Int) ≤ sumTo nd k ∧ sumTo nd k ≤ 4 * k := by
  intro k
  induction k with
  | zero => intro _; exact ⟨by simp [sumTo], by simp [sumTo]⟩
  | succ k ih =>
    intro hk
    have h1 := ih (by omega)
    have h2 : 1 ≤ wgtN nd k ∧ wgtN nd k ≤ 4 := by
      unfold wgtN
      split
      · omega
      · rename_i hw
        have hkl : k < nd.weights.length := by rcases hl with h3 | h3
                                               · exact absurd h3 hw
                                               · omega
        rw [List.getD_eq_getElem?_getD, List.getElem?_eq_getElem hkl]
        exact h _ (List.getElem_mem hkl)
    unfold sumTo
    omega
theorem mwt_rng (p : Pce) (hp : ∀ z ∈ p.kids, 0 ≤ z ∧ z < 256) (k : Nat) : ∀ w ∈ mwtTo p k, 1 ≤ w ∧ w ≤ 4 := by
  intro w hw
  unfold mwtTo at hw
  split at hw
  · obtain ⟨z, hz, rfl⟩ := List.mem_map.1 hw
    have := hp z (List.mem_of_mem_take hz)
    omega
  · cases hw
theorem mwt_len (p : Pce) (i : Nat) (k : Nat) : mwtTo p k = [] ∨ (mwtTo p k).length = (mkdTo p i k).length := by
  unfold mwtTo mkdTo
  split
  · right; rw [List.length_map, List.length_map]
  · left; rfl
theorem sum_madK (p : Pce) (hp : ∀ z ∈ p.kids, 0 ≤ z ∧ z < 256) (i : Nat) : 0 ≤ sumN (madK p i) ∧ sumN (madK p i) ≤ 20 := by
  have h := sum_bd (nd := madK p i) (mwt_rng p hp _) (mwt_len p i _) (madK p i).kids.length (Nat.le_refl _)
  have hl : (madK p i).kids.length = mk5 p := mkdTo_len p i _ (Nat.min_le_left _ _)
  have : mk5 p ≤ 5 := Nat.min_le_right _ _
  unfold sumN
  omega
theorem madN_ok (p : Pce) (hp : p.ok) (i : Nat) : nodE (madN p i) i = 0 := by
  obtain ⟨⟨h1, h2, h3⟩, h4⟩ := hp
  unfold madN
  by_cases hc : i = 0 ∨ p.kind % 3 = 0
  · rw [if_pos hc]
    have a1 : 0 ≤ p.server % 6 := Int.emod_nonneg _ (by decide)
    have a2 : p.server % 6 < 6 := Int.emod_lt_of_pos _ (by decide)
    unfold nodE
    simp
    omega
  · rw [if_neg hc]
    have hs := sum_madK p h4 i
    have a1 : 0 ≤ p.need % (sumN (madK p i) + 2) := Int.emod_nonneg _ (by omega)
    have a2 : p.need % (sumN (madK p i) + 2) < sumN (madK p i) + 2 := Int.emod_lt_of_pos _ (by omega)
    have hv : (mwtTo p (mk5 p)).any hvyB = false := by
      rw [List.any_eq_false]
      intro w hw
      have := mwt_rng p h4 _ w hw
      unfold hvyB
      simp; omega
    have hk : (mkdTo p i (mk5 p)).any (unkB i) = false := by
      rw [List.any_eq_false]
      intro w hw
      unfold mkdTo at hw
      obtain ⟨z, hz, rfl⟩ := List.mem_map.1 hw
      have b1 : 0 ≤ z % (i : Int) := Int.emod_nonneg _ (by omega)
      have b2 : z % (i : Int) < (i : Int) := Int.emod_lt_of_pos _ (by omega)
      unfold unkB
      simp; omega
    unfold nodE
    rw [if_neg (by simp), if_neg (by rw [hv]; simp; omega), if_neg ?_, if_neg (by rw [hk]; decide)]
    rintro ⟨c1, c2⟩
    rcases mwt_len p i (mk5 p) with h | h
    · exact c1 h
    · exact c2 h
theorem nodsE_zero : ∀ (l : List Nod) (i : Nat), (∀ (k : Nat) nd, l[k]? = some nd → nodE nd (i + k) = 0) → nodsE l i = 0 := by
  intro l
  induction l with
  | nil => intro i _; rfl
  | cons y l ih =>
    intro i h
    have h0 := h 0 y rfl
    unfold nodsE
    rw [if_neg (by simpa using h0)]
    exact ih (i + 1) fun k nd hk => by
      have := h (k + 1) nd (by simpa using hk)
      rw [show i + 1 + k = i + (k + 1) by omega]; exact this
theorem madX_ok {ps : List Pce} (h : ∀ p ∈ ps, p.ok) : xprE (madX ps) = 0 ∧ (madX ps).nodes.length ≤ 9 ∧ ∀ q, hasB (srvX (madX ps)) q = true → q < 6 := by
  unfold madX
  by_cases h0 : ps = []
  · rw [if_pos h0]
    refine ⟨by decide, by simp, fun q hq => ?_⟩
    have e : srvX ⟨[srv0], 0⟩ = 1#16 := by decide
    rw [e] at hq
    have hq16 := hasB_lt hq
    have : ∀ q : Fin 16, hasB 1#16 q.val = true → q.val < 6 := by decide
    exact this ⟨q, hq16⟩ hq
  · rw [if_neg h0]
    have hl : 1 ≤ mad9 ps ∧ mad9 ps ≤ 9 ∧ mad9 ps ≤ ps.length := by
      unfold mad9
      have : ps.length ≠ 0 := fun hc => h0 (List.eq_nil_of_length_eq_zero hc)
      omega
    have hlen := madT_len ps (mad9 ps)
    have hall : ∀ (k : Nat) nd, (madT ps (mad9 ps))[k]? = some nd → ∃ p, p.ok ∧ nd = madN p k := fun k nd hk => by
      obtain ⟨h1, h2⟩ := madT_at hk
      refine ⟨_, ?_, h2⟩
      rw [List.getD_eq_getElem?_getD, List.getElem?_eq_getElem (by omega)]
      exact h _ (List.getElem_mem _)
    have hE : nodsE (madT ps (mad9 ps)) 0 = 0 := nodsE_zero _ _ fun k nd hk => by
      obtain ⟨p, hp, rfl⟩ := hall k nd hk
      rw [Nat.zero_add]; exact madN_ok p hp k
    have hX : xprE ⟨madT ps (mad9 ps), (mad9 ps : Int) - 1⟩ = 0 := by
      unfold xprE
      show (if madT ps (mad9 ps) = [] then 9 else if 60 < (madT ps (mad9 ps)).length then 3 else if nodsE (madT ps (mad9 ps)) 0 ≠ 0 then nodsE (madT ps (mad9 ps)) 0 else if (mad9 ps : Int) - 1 < 0 ∨ ((madT ps (mad9 ps)).length : Int) ≤ (mad9 ps : Int) - 1 then 4 else 0) = 0
      rw [if_neg (fun hc => by rw [hc] at hlen; simp at hlen; omega), hlen, if_neg (by omega), hE, if_neg (by simp), if_neg (by omega)]
    refine ⟨hX, by show (madT ps (mad9 ps)).length ≤ 9; omega, fun q hq => ?_⟩
    obtain ⟨nd, hnd, hk, hs⟩ := (srvX_has (xprE_ok hX)).1 hq
    obtain ⟨k, hk2⟩ := List.mem_iff_getElem?.1 hnd
    obtain ⟨p, hp, rfl⟩ := hall k nd hk2
    have a1 : p.server % 6 < 6 := Int.emod_lt_of_pos _ (by decide)
    unfold madN at hk hs
    split at hk
    · rename_i hc
      rw [if_pos hc] at hs
      have : p.server % 6 = (q : Int) := hs
      omega
    · exact absurd (show (2 : Int) = 1 from hk) (by decide)
end Go.Proofs.YtmjgdnpfgkpaoaaDoor
