/- Texts laid together. slices.IndexFunc and ContainsFunc of ints; a node's error (expr.valid). expr.Valid, intersect.two. expr.holds, Eval; intersect.satisfied, support. The prover: add. Layer 20, plain: the search for a certificate. No program. -/
import Derived.Test.YtflpkkebampmfaaDoorGIntersectSpoiled2
import Derived.Deep.AppendLies
import Derived.Deep.RegionLaw
namespace Go.Proofs.YtflpkkebampmfaaDoor
open Go.RowKit Go.Shelf

theorem getD_atI {l : List Int} {k : Nat} (h : k < l.length) : l.getD k 0 = l[k] := by rw [List.getD_eq_getElem?_getD, List.getElem?_eq_getElem h]; rfl
theorem at_someI {l : List (Int)} {k : Nat} (h : k < l.length) : l[k]? = some (l.getD k 0) := by rw [List.getElem?_eq_getElem h, getD_atI h]
theorem at_cellI {l : List (Int)} {k : Nat} (h : k < l.length) : (l.map (Value.int .i64))[k]? = some (.int .i64 (l.getD k 0)) := by rw [List.getElem?_map, at_someI h]; rfl
theorem any_hitI {p : Int → Bool} {l : List (Int)} {k : Nat} (h : k < l.length) (hp : p (l.getD k 0) = true) : l.any p = true :=
  List.any_eq_true.2 ⟨_, by rw [getD_atI h]; exact List.getElem_mem h, hp⟩
theorem any_noneI {p : Int → Bool} {l : List (Int)} (h : ∀ j, j < l.length → p (l.getD j 0) = false) : l.any p = false := by
  rw [Bool.eq_false_iff]
  intro hc
  obtain ⟨x, hx, hp⟩ := List.any_eq_true.1 hc
  obtain ⟨j, hj, rfl⟩ := List.mem_iff_getElem.1 hx
  rw [← getD_atI hj, h j hj] at hp; cases hp

/-- the first place of a set, or -1 -/
def idxI (p : Int → Bool) (l : List (Int)) : Int := if l.any p then (l.findIdx p : Int) else -1
theorem idxI_hit {p : Int → Bool} {l : List (Int)} {k : Nat} (hk : k < l.length) (h : ∀ j, j < k → p (l.getD j 0) = false) (hp : p (l.getD k 0) = true) : idxI p l = k := by
  unfold idxI
  rw [if_pos (any_hitI hk hp)]
  have : l.findIdx p = k := by
    rw [List.findIdx_eq hk]
    refine ⟨by rw [← getD_atI hk]; exact hp, fun j hj => ?_⟩
    have := h j hj
    rw [getD_atI (by omega)] at this
    exact this
  rw [this]
theorem idxI_none {p : Int → Bool} {l : List (Int)} (h : ∀ j, j < l.length → p (l.getD j 0) = false) : idxI p l = -1 := by
  unfold idxI; rw [any_noneI h]; rfl
theorem idxI_ge (p : Int → Bool) (l : List (Int)) : decide (0 ≤ idxI p l) = l.any p := by
  unfold idxI
  cases l.any p <;> simp

set_option maxRecDepth 100000 in
set_option maxHeartbeats 1000000 in
theorem idxFI_c (g : Nat) (lb : Array Value) (eg : ∀ args w, (callFunc g args).run Tryd.prog w = .ok (.enter g args) w) (p : Int → Bool) (l : List (Int)) (a : Option Addr) (n c : Nat) (w : World)
    (h : Rd w a n c (l.map (Value.int .i64))) (hp : PredAt Tryd.prog g lb (Value.int .i64) p w) :
    Calls Tryd.prog 108 #[.slice a n c, .func (.func g) #[] lb] w fun e w' => e = .returned (.int .i64 (idxI p l)) ∧ Below w.heap.size w w' := by
  have hn : n ≤ l.length ∧ l.length ≤ n := by have := h.len; simp at this; omega
  obtain ⟨hn1, hn2⟩ := hn
  have hm := h.max
  have hle := h.le
  unfold maxLen at hm
  have HP := Lib.hid hp
  have HR := Lib.hid h
  clear hp h
  go_enter Tryd.func108, Tryd.ntmps108
  go_wp2_with fail
  go_loopw [8] (fun i wr => ∃ k : Nat, k ≤ n ∧ i = .int .i64 k ∧ Hid (∀ j, j < k → p (l.getD j 0) = false) ∧ Below w.heap.size w wr) (fun i _ => n - (intOf i).toNat)
  case atStart => exact ⟨0, Nat.zero_le _, rfl, Lib.hid (fun j hj => by omega), Below.refl _ _⟩
  case round =>
    obtain ⟨k, hk, rfl, hno, hb⟩ := hrel
    by_cases hlt : k < n
    · obtain ⟨b, o, ha, hcell⟩ := (HR.out.below hb).at' (by omega)
      have hc := hcell k _ (at_cellI (by omega))
      subst ha
      have HF : Hid (Calls Tryd.prog g (#[.int .i64 (l.getD k 0)] ++ lb) wr fun e w' => e = .returned (.bool (p (l.getD k 0))) ∧ ∃ q, w' = wr.drewN q) := HP.out wr (l.getD k 0) hb
      cases hq : p (l.getD k 0)
      · have hno' : Hid (∀ j, j < k + 1 → p (l.getD j 0) = false) := Lib.hid (fun j hj => by
          by_cases h1 : j < k
          · exact hno.out j h1
          · obtain rfl : j = k := by omega
            exact hq)
        rw [hq] at HF
        obtain ⟨x, hx⟩ : ∃ x, l.getD k 0 = x := ⟨_, rfl⟩
        rw [hx] at hc HF
        clear hq hcell hno hx
        go_wp2_with (go_at_fn g; refine HF.out.mono ?_; rintro e w' ⟨rfl, q, rfl⟩)
        go_roundw
        case rel => exact ⟨k + 1, by omega, by go_num, hno', below_drewN hb⟩
        case measure => simp [intOf]; omega
      · have hI : Hid (idxI p l = k) := idxI_hit (by omega) hno.out hq
        rw [hq] at HF
        obtain ⟨x, hx⟩ : ∃ x, l.getD k 0 = x := ⟨_, rfl⟩
        rw [hx] at hc HF
        clear hq hcell hno hx
        go_wp2_with (go_at_fn g; refine HF.out.mono ?_; rintro e w' ⟨rfl, q, rfl⟩)
        go_ret
        exact ⟨ret_int hI.out.symm, below_drewN hb⟩
    · have hI : Hid (idxI p l = -1) := idxI_none (fun j hj => hno.out j (by omega))
      clear hno
      go_wp2_with fail
      go_ret
      exact ⟨ret_int hI.out.symm, hb⟩

set_option maxRecDepth 100000 in
set_option maxHeartbeats 1000000 in
theorem containsFI_c (g : Nat) (lb : Array Value) (eg : ∀ args w, (callFunc g args).run Tryd.prog w = .ok (.enter g args) w) (p : Int → Bool) (l : List (Int)) (a : Option Addr) (n c : Nat) (w : World)
    (h : Rd w a n c (l.map (Value.int .i64))) (hp : PredAt Tryd.prog g lb (Value.int .i64) p w) :
    Calls Tryd.prog 88 #[.slice a n c, .func (.func g) #[] lb] w fun e w' => e = .returned (.bool (l.any p)) ∧ Below w.heap.size w w' := by
  have HC := Lib.hid (idxFI_c g lb eg p l a n c w h hp)
  have hi := idxI_ge p l
  clear h hp eg
  obtain ⟨i, hi2⟩ : ∃ i, idxI p l = i := ⟨_, rfl⟩
  rw [hi2] at HC hi
  have HI := Lib.hid hi
  clear hi hi2
  go_enter Tryd.func88, Tryd.ntmps88
  go_wp2_with fail
  refine HC.out.mono ?_
  rintro e w1 ⟨rfl, hb⟩
  go_wp2_with fail
  go_ret
  exact ⟨ret_bool HI.out, hb⟩


theorem heavy_at (w : World) : PredAt Tryd.prog 86 #[] (Value.int .i64) hvyB w := fun W x hb => by
  unfold FnGives
  clear hb
  by_cases h1 : x < 1
  · have hv : hvyB x = true := by unfold hvyB; simp [h1]
    have hd : decide (x < 1) = true := decide_eq_true h1
    rw [hv]; clear hv h1
    go_enter Tryd.func86, Tryd.ntmps86
    go_wp2_with fail
    go_ret
    exact ⟨rfl, 0, rfl⟩
  · have hv : hvyB x = decide (1000 < x) := by unfold hvyB; simp [h1]
    have hd : decide (x < 1) = false := decide_eq_false h1
    rw [hv]; clear hv h1
    go_enter Tryd.func86, Tryd.ntmps86
    go_wp2_with fail
    go_ret
    exact ⟨rfl, 0, rfl⟩
theorem unknown_at (w : World) (B : Nat) (i : Nat) (hc : w.cell? ⟨B, 0, none⟩ = some (.int .i64 i)) : PredAt Tryd.prog 87 #[.pointer (some ⟨B, 0, none⟩)] (Value.int .i64) (unkB i) w := fun W x hb => by
  have hc' : W.cell? ⟨B, 0, none⟩ = some (.int .i64 i) := (hb.cell (p := ⟨B, 0, none⟩) (cell_lt hc)).trans hc
  unfold FnGives
  clear hb hc
  by_cases h1 : x < 0
  · have hv : unkB i x = true := by unfold unkB; simp [h1]
    have hd : decide (x < 0) = true := decide_eq_true h1
    rw [hv]; clear hv h1
    go_enter Tryd.func87, Tryd.ntmps87
    go_wp2_with fail
    go_ret
    exact ⟨rfl, 0, rfl⟩
  · have hv : unkB i x = decide ((i : Int) ≤ x) := by unfold unkB; simp [h1]
    have hd : decide (x < 0) = false := decide_eq_false h1
    rw [hv]; clear hv h1
    go_enter Tryd.func87, Tryd.ntmps87
    go_wp2_with fail
    go_ret
    exact ⟨rfl, 0, rfl⟩

/-- a node's error by numbers -/
def nodF (kind server need : Int) (nw nk : Nat) (hv un : Bool) : Int :=
  if (kind ≠ 1 ∧ kind ≠ 2) ∨ (kind = 1 ∧ (need ≠ 0 ∨ nw ≠ 0 ∨ nk ≠ 0)) ∨ (kind = 2 ∧ server ≠ 0) then 1
  else if (server < 0 ∨ 12 ≤ server ∨ need < 0 ∨ 100000 < need) ∨ hv = true then 7
  else if nw ≠ 0 ∧ nw ≠ nk then 6
  else if un = true then 4 else 0
theorem nodE_F (nd : Nod) (i : Nat) : nodE nd i = nodF nd.kind nd.server nd.need nd.weights.length nd.kids.length (nd.weights.any hvyB) (nd.kids.any (unkB i)) := by
  have e : ∀ l : List Int, (l ≠ []) = (l.length ≠ 0) := fun l => by cases l <;> simp
  unfold nodE nodF
  simp only [e]

set_option maxRecDepth 100000 in
set_option maxHeartbeats 2000000 in
theorem xvalid_c (nd : Nod) (i : Nat) (aw : Option Addr) (nw cw : Nat) (ak : Option Addr) (nk ck : Nat) (w : World) (hw : Rd w aw nw cw (nd.weights.map (Value.int .i64))) (hk : Rd w ak nk ck (nd.kids.map (Value.int .i64))) :
    Calls Tryd.prog 72 #[.agg #[.int .i64 nd.kind, .int .i64 nd.server, .int .i64 nd.need, .slice aw nw cw, .slice ak nk ck], .int .i64 i] w fun e w' => e = .returned (.int .i64 (nodE nd i)) ∧ Below w.heap.size w w' := by
  obtain ⟨W2, hW2⟩ : ∃ W2, W2 = (w.alloc (Obj.cells #[Value.int IntKind.i64 nd.kind, Value.int IntKind.i64 nd.server, Value.int IntKind.i64 nd.need, Value.slice aw nw cw, Value.slice ak nk ck] 64)).alloc (Obj.cells #[Value.int IntKind.i64 i] 3) := ⟨_, rfl⟩
  have hb2 : Below w.heap.size w W2 := by rw [hW2]; exact ((Below.refl _ w).alloc (Nat.le_refl _) _).alloc (by simp) _
  have hcell : W2.cell? ⟨w.heap.size + 1, 0, none⟩ = some (.int .i64 i) := by
    rw [hW2]; exact cell_new' _ _ _ 0 _ rfl (by simp)
  have H1 : Hid (∀ y, Below W2.heap.size W2 y → Calls Tryd.prog 88 #[.slice aw nw cw, .func (.func 86) #[] #[]] y fun e w' => e = .returned (.bool (nd.weights.any hvyB)) ∧ Below y.heap.size y w') :=
    Lib.hid (fun y hb => containsFI_c 86 #[] (enters_of Tryd.func86 (by kernel_rfl) rfl) hvyB nd.weights aw nw cw y (hw.below (Below.next hb2 hb)) (heavy_at y))
  have H2 : Hid (∀ y, Below W2.heap.size W2 y → Calls Tryd.prog 88 #[.slice ak nk ck, .func (.func 87) #[] #[.pointer (some ⟨w.heap.size + 1, 0, none⟩)]] y fun e w' => e = .returned (.bool (nd.kids.any (unkB i))) ∧ Below y.heap.size y w') :=
    Lib.hid (fun y hb => containsFI_c 87 #[.pointer (some ⟨w.heap.size + 1, 0, none⟩)] (enters_of Tryd.func87 (by kernel_rfl) rfl) (unkB i) nd.kids ak nk ck y (hk.below (Below.next hb2 hb)) (unknown_at y (w.heap.size + 1) i ((hb.cell (p := ⟨w.heap.size + 1, 0, none⟩) (cell_lt hcell)).trans hcell)))
  have HC : Hid (∀ y, Below W2.heap.size W2 y → y.cell? ⟨w.heap.size, 3, none⟩ = some (.slice aw nw cw) ∧ y.cell? ⟨w.heap.size, 4, none⟩ = some (.slice ak nk ck)) := Lib.hid (fun y hb => by
    have q3 : W2.cell? ⟨w.heap.size, 3, none⟩ = some (.slice aw nw cw) := by rw [hW2]; exact cell_of_row _ _ 3 _ _ _ (heap_alloc_at (heap_alloc_new _ _) _)
    have q4 : W2.cell? ⟨w.heap.size, 4, none⟩ = some (.slice ak nk ck) := by rw [hW2]; exact cell_of_row _ _ 4 _ _ _ (heap_alloc_at (heap_alloc_new _ _) _)
    exact ⟨cell_keep hb q3, cell_keep hb q4⟩)
  have hlw : nd.weights.length = nw := by have := hw.len; simp at this; omega
  have hlk : nd.kids.length = nk := by have := hk.len; simp at this; omega
  have hE := nodE_F nd i
  rw [hlw, hlk] at hE
  rw [hE]
  have HB2 := Lib.hid hb2
  obtain ⟨hv, hhv⟩ : ∃ hv, nd.weights.any hvyB = hv := ⟨_, rfl⟩
  obtain ⟨un, hun⟩ : ∃ un, nd.kids.any (unkB i) = un := ⟨_, rfl⟩
  rw [hhv] at H1 ⊢
  rw [hun] at H2 ⊢
  obtain ⟨kind, server, need, ws, ks⟩ := nd
  simp only at hW2 H1 H2 ⊢
  clear hw hk hlw hlk hE hhv hun hcell hb2 ws ks
  by_cases k1 : kind = 1
  · subst k1
    by_cases n0 : need = 0
    · subst n0
      by_cases w0 : nw = 0
      · subst w0
        by_cases c0 : nk = 0
        · subst c0
          by_cases t0 : server < 0
          · have d0 : decide (server < 0) = true := decide_eq_true t0
            have hV : Hid (nodF 1 server 0 0 0 hv un = 7) := by show _ = _; unfold nodF; rw [if_neg (by omega), if_pos (by omega)]
            clear t0
            go_enter Tryd.func72, Tryd.ntmps72
            go_wp2_with fail
            go_ret
            exact ⟨ret_int hV.out.symm, by rw [← hW2]; exact HB2.out⟩
          have d0 : decide (server < 0) = false := decide_eq_false t0
          by_cases t1 : (12 : Int) ≤ server
          · have d1 : decide ((12 : Int) ≤ server) = true := decide_eq_true t1
            have hV : Hid (nodF 1 server 0 0 0 hv un = 7) := by show _ = _; unfold nodF; rw [if_neg (by omega), if_pos (by omega)]
            clear t1
            go_enter Tryd.func72, Tryd.ntmps72
            go_wp2_with fail
            go_ret
            exact ⟨ret_int hV.out.symm, by rw [← hW2]; exact HB2.out⟩
          have d1 : decide ((12 : Int) ≤ server) = false := decide_eq_false t1
          cases hv with
          | true =>
            have hV : Hid (nodF 1 server 0 0 0 true un = 7) := by show _ = _; unfold nodF; rw [if_neg (by omega), if_pos (.inr rfl)]
            clear t0 t1
            go_enter Tryd.func72, Tryd.ntmps72
            go_wp2_with fail
            rw [← hW2]; with_reducible refine (H1.out _ (Below.refl _ _)).mono ?_; rintro e w1 ⟨rfl, hb1⟩; obtain ⟨q3, q4⟩ := HC.out w1 hb1; have K1 := Lib.hid hb1; clear hb1
            go_wp2_with fail
            go_ret
            exact ⟨ret_int hV.out.symm, Below.next HB2.out K1.out⟩
          | false =>
            cases un with
            | true =>
              have hV : Hid (nodF 1 server 0 0 0 false true = 4) := by show _ = _; unfold nodF; rw [if_neg (by omega), if_neg (by simp; omega), if_neg (by omega), if_pos rfl]
              clear t0 t1
              go_enter Tryd.func72, Tryd.ntmps72
              go_wp2_with fail
              rw [← hW2]; with_reducible refine (H1.out _ (Below.refl _ _)).mono ?_; rintro e w1 ⟨rfl, hb1⟩; obtain ⟨q3, q4⟩ := HC.out w1 hb1; have K1 := Lib.hid hb1; clear hb1
              go_wp2_with fail
              with_reducible refine (H2.out w1 K1.out).mono ?_; rintro e w5 ⟨rfl, hb5⟩
              go_wp2_with fail
              go_ret
              exact ⟨ret_int hV.out.symm, Below.next HB2.out (Below.next K1.out hb5)⟩
            | false =>
              have hV : Hid (nodF 1 server 0 0 0 false false = 0) := by show _ = _; unfold nodF; rw [if_neg (by omega), if_neg (by simp; omega), if_neg (by omega), if_neg (by decide)]
              clear t0 t1
              go_enter Tryd.func72, Tryd.ntmps72
              go_wp2_with fail
              rw [← hW2]; with_reducible refine (H1.out _ (Below.refl _ _)).mono ?_; rintro e w1 ⟨rfl, hb1⟩; obtain ⟨q3, q4⟩ := HC.out w1 hb1; have K1 := Lib.hid hb1; clear hb1
              go_wp2_with fail
              with_reducible refine (H2.out w1 K1.out).mono ?_; rintro e w5 ⟨rfl, hb5⟩
              go_wp2_with fail
              go_ret
              exact ⟨ret_int hV.out.symm, Below.next HB2.out (Below.next K1.out hb5)⟩
        · have hd : decide (0 < nk) = true := decide_eq_true (by omega)
          have hV : Hid (nodF 1 server 0 0 nk hv un = 1) := by show _ = _; unfold nodF; rw [if_pos (by omega)]
          clear c0
          go_enter Tryd.func72, Tryd.ntmps72
          go_wp2_with fail
          go_ret
          exact ⟨ret_int hV.out.symm, by rw [← hW2]; exact HB2.out⟩
      · have hd : decide (0 < nw) = true := decide_eq_true (by omega)
        have hV : Hid (nodF 1 server 0 nw nk hv un = 1) := by show _ = _; unfold nodF; rw [if_pos (by omega)]
        clear w0
        go_enter Tryd.func72, Tryd.ntmps72
        go_wp2_with fail
        go_ret
        exact ⟨ret_int hV.out.symm, by rw [← hW2]; exact HB2.out⟩
    · have hd : (need != 0) = true := by simpa using n0
      have hV : Hid (nodF 1 server need nw nk hv un = 1) := by show _ = _; unfold nodF; rw [if_pos (by omega)]
      clear n0
      go_enter Tryd.func72, Tryd.ntmps72
      go_wp2_with fail
      go_ret
      exact ⟨ret_int hV.out.symm, by rw [← hW2]; exact HB2.out⟩
  · have hk1 : (kind == 1) = false := by simpa using k1
    by_cases k2 : kind = 2
    · subst k2
      by_cases s0 : server = 0
      · subst s0
        by_cases t0 : need < 0
        · have d0 : decide (need < 0) = true := decide_eq_true t0
          have hV : Hid (nodF 2 0 need nw nk hv un = 7) := by show _ = _; unfold nodF; rw [if_neg (by omega), if_pos (by omega)]
          clear t0
          go_enter Tryd.func72, Tryd.ntmps72
          go_wp2_with fail
          go_ret
          exact ⟨ret_int hV.out.symm, by rw [← hW2]; exact HB2.out⟩
        have d0 : decide (need < 0) = false := decide_eq_false t0
        by_cases t1 : (100000 : Int) < need
        · have d1 : decide ((100000 : Int) < need) = true := decide_eq_true t1
          have hV : Hid (nodF 2 0 need nw nk hv un = 7) := by show _ = _; unfold nodF; rw [if_neg (by omega), if_pos (by omega)]
          clear t1
          go_enter Tryd.func72, Tryd.ntmps72
          go_wp2_with fail
          go_ret
          exact ⟨ret_int hV.out.symm, by rw [← hW2]; exact HB2.out⟩
        have d1 : decide ((100000 : Int) < need) = false := decide_eq_false t1
        cases hv with
        | true =>
          have hV : Hid (nodF 2 0 need nw nk true un = 7) := by show _ = _; unfold nodF; rw [if_neg (by omega), if_pos (.inr rfl)]
          clear t0 t1
          go_enter Tryd.func72, Tryd.ntmps72
          go_wp2_with fail
          rw [← hW2]; with_reducible refine (H1.out _ (Below.refl _ _)).mono ?_; rintro e w1 ⟨rfl, hb1⟩; obtain ⟨q3, q4⟩ := HC.out w1 hb1; have K1 := Lib.hid hb1; clear hb1
          go_wp2_with fail
          go_ret
          exact ⟨ret_int hV.out.symm, Below.next HB2.out K1.out⟩
        | false =>
          by_cases w0 : nw = 0
          · subst w0
            cases un with
            | true =>
              have hV : Hid (nodF 2 0 need 0 nk false true = 4) := by show _ = _; unfold nodF; rw [if_neg (by omega), if_neg (by simp; omega), if_neg (by omega), if_pos rfl]
              clear t0 t1
              go_enter Tryd.func72, Tryd.ntmps72
              go_wp2_with fail
              rw [← hW2]; with_reducible refine (H1.out _ (Below.refl _ _)).mono ?_; rintro e w1 ⟨rfl, hb1⟩; obtain ⟨q3, q4⟩ := HC.out w1 hb1; have K1 := Lib.hid hb1; clear hb1
              go_wp2_with fail
              with_reducible refine (H2.out w1 K1.out).mono ?_; rintro e w5 ⟨rfl, hb5⟩
              go_wp2_with fail
              go_ret
              exact ⟨ret_int hV.out.symm, Below.next HB2.out (Below.next K1.out hb5)⟩
            | false =>
              have hV : Hid (nodF 2 0 need 0 nk false false = 0) := by show _ = _; unfold nodF; rw [if_neg (by omega), if_neg (by simp; omega), if_neg (by omega), if_neg (by decide)]
              clear t0 t1
              go_enter Tryd.func72, Tryd.ntmps72
              go_wp2_with fail
              rw [← hW2]; with_reducible refine (H1.out _ (Below.refl _ _)).mono ?_; rintro e w1 ⟨rfl, hb1⟩; obtain ⟨q3, q4⟩ := HC.out w1 hb1; have K1 := Lib.hid hb1; clear hb1
              go_wp2_with fail
              with_reducible refine (H2.out w1 K1.out).mono ?_; rintro e w5 ⟨rfl, hb5⟩
              go_wp2_with fail
              go_ret
              exact ⟨ret_int hV.out.symm, Below.next HB2.out (Below.next K1.out hb5)⟩
          · have dw : decide (0 < nw) = true := decide_eq_true (by omega)
            by_cases e0 : nw = nk
            · subst e0
              cases un with
              | true =>
                have hV : Hid (nodF 2 0 need nw nw false true = 4) := by show _ = _; unfold nodF; rw [if_neg (by omega), if_neg (by simp; omega), if_neg (by omega), if_pos rfl]
                clear t0 t1 w0
                go_enter Tryd.func72, Tryd.ntmps72
                go_wp2_with fail
                rw [← hW2]; with_reducible refine (H1.out _ (Below.refl _ _)).mono ?_; rintro e w1 ⟨rfl, hb1⟩; obtain ⟨q3, q4⟩ := HC.out w1 hb1; have K1 := Lib.hid hb1; clear hb1
                go_wp2_with fail
                with_reducible refine (H2.out w1 K1.out).mono ?_; rintro e w5 ⟨rfl, hb5⟩
                go_wp2_with fail
                go_ret
                exact ⟨ret_int hV.out.symm, Below.next HB2.out (Below.next K1.out hb5)⟩
              | false =>
                have hV : Hid (nodF 2 0 need nw nw false false = 0) := by show _ = _; unfold nodF; rw [if_neg (by omega), if_neg (by simp; omega), if_neg (by omega), if_neg (by decide)]
                clear t0 t1 w0
                go_enter Tryd.func72, Tryd.ntmps72
                go_wp2_with fail
                rw [← hW2]; with_reducible refine (H1.out _ (Below.refl _ _)).mono ?_; rintro e w1 ⟨rfl, hb1⟩; obtain ⟨q3, q4⟩ := HC.out w1 hb1; have K1 := Lib.hid hb1; clear hb1
                go_wp2_with fail
                with_reducible refine (H2.out w1 K1.out).mono ?_; rintro e w5 ⟨rfl, hb5⟩
                go_wp2_with fail
                go_ret
                exact ⟨ret_int hV.out.symm, Below.next HB2.out (Below.next K1.out hb5)⟩
            · have dn : ((nw : Int) != (nk : Int)) = true := by rw [bne_iff_ne]; omega
              have hV : Hid (nodF 2 0 need nw nk false un = 6) := by show _ = _; unfold nodF; rw [if_neg (by omega), if_neg (by simp; omega), if_pos (by omega)]
              clear t0 t1 w0 e0
              go_enter Tryd.func72, Tryd.ntmps72
              go_wp2_with fail
              rw [← hW2]; with_reducible refine (H1.out _ (Below.refl _ _)).mono ?_; rintro e w1 ⟨rfl, hb1⟩; obtain ⟨q3, q4⟩ := HC.out w1 hb1; have K1 := Lib.hid hb1; clear hb1
              go_wp2_with fail
              go_ret
              exact ⟨ret_int hV.out.symm, Below.next HB2.out K1.out⟩
      · have hd : (server != 0) = true := by simpa using s0
        have hV : Hid (nodF 2 server need nw nk hv un = 1) := by show _ = _; unfold nodF; rw [if_pos (by omega)]
        clear s0
        go_enter Tryd.func72, Tryd.ntmps72
        go_wp2_with fail
        go_ret
        exact ⟨ret_int hV.out.symm, by rw [← hW2]; exact HB2.out⟩
    · have hk2 : (kind == 2) = false := by simpa using k2
      have hV : Hid (nodF kind server need nw nk hv un = 1) := by show _ = _; unfold nodF; rw [if_pos (by omega)]
      clear k1 k2
      go_enter Tryd.func72, Tryd.ntmps72
      go_wp2_with fail
      go_ret
      exact ⟨ret_int hV.out.symm, by rw [← hW2]; exact HB2.out⟩
end Go.Proofs.YtflpkkebampmfaaDoor
namespace Go.Proofs.YtflpkkebampmfaaDoor
open Go.RowKit Go.Shelf

theorem xprE_hit {x : Xpr} {k : Nat} {nd : Nod} (h0 : x.nodes ≠ []) (h60 : ¬ 60 < x.nodes.length) (h : x.nodes[k]? = some nd) (hd : nodsE x.nodes 0 = nodsE (x.nodes.drop k) k) (he : nodE nd k ≠ 0) : xprE x = nodE nd k := by
  have : nodsE x.nodes 0 = nodE nd k := by rw [hd, nodsE_drop h, if_pos he]
  unfold xprE
  rw [if_neg h0, if_neg h60, this, if_pos he]
theorem xprE_next {x : Xpr} {k : Nat} {nd : Nod} (h : x.nodes[k]? = some nd) (hd : nodsE x.nodes 0 = nodsE (x.nodes.drop k) k) (he : nodE nd k = 0) : nodsE x.nodes 0 = nodsE (x.nodes.drop (k + 1)) (k + 1) := by
  rw [hd, nodsE_drop h, if_neg (by simpa using he)]
theorem xprE_end {x : Xpr} {n : Nat} (h0 : x.nodes ≠ []) (h60 : ¬ 60 < x.nodes.length) (hn : x.nodes.length = n) (hd : nodsE x.nodes 0 = nodsE (x.nodes.drop n) n) : xprE x = if x.root < 0 ∨ (n : Int) ≤ x.root then 4 else 0 := by
  have : nodsE x.nodes 0 = 0 := by rw [hd, ← hn, List.drop_length]; rfl
  unfold xprE
  rw [if_neg h0, if_neg h60, this, if_neg (by simp), hn]

set_option maxRecDepth 100000 in
set_option maxHeartbeats 2000000 in
theorem xpr_c (x : Xpr) (a : Option Addr) (n c : Nat) (w : World) (h : XM w a n c x.nodes) :
    Calls Tryd.prog 58 #[.agg #[.slice a n c, .int .i64 x.root]] w fun e w' => e = .returned (.int .i64 (xprE x)) ∧ Below w.heap.size w w' := by
  obtain ⟨W2, hW2⟩ : ∃ W2, W2 = w.alloc (Obj.cells #[.slice a n c, .int .i64 x.root] 24) := ⟨_, rfl⟩
  have hb2 : Below w.heap.size w W2 := by rw [hW2]; exact (Below.refl _ w).alloc (Nat.le_refl _) _
  have HX := Lib.hid (h.below hb2)
  have HN := Lib.hid h.len
  have hle := h.le
  have hm := h.max
  unfold maxLen at hm
  have HB2 := Lib.hid hb2
  clear h hb2
  by_cases hn0 : n = 0
  · subst hn0
    have hV : Hid (xprE x = 9) := by
      show _ = _; unfold xprE; rw [if_pos (List.eq_nil_of_length_eq_zero HN.out)]
    go_enter Tryd.func58, Tryd.ntmps58
    go_wp2_with fail
    go_ret
    exact ⟨ret_int hV.out.symm, by rw [← hW2]; exact HB2.out⟩
  have hne : ((n : Int) == 0) = false := by rw [beq_eq_false_iff_ne]; omega
  have H0 : Hid (x.nodes ≠ []) := Lib.hid (fun e => by have := HN.out; rw [e] at this; simp at this; omega)
  by_cases h60 : 60 < n
  · have hd : decide ((60 : Int) < (n : Int)) = true := decide_eq_true (by omega)
    have hV : Hid (xprE x = 3) := by
      show _ = _; unfold xprE; rw [if_neg H0.out, if_pos (by have := HN.out; omega)]
    clear hn0 h60
    go_enter Tryd.func58, Tryd.ntmps58
    go_wp2_with fail
    go_ret
    exact ⟨ret_int hV.out.symm, by rw [← hW2]; exact HB2.out⟩
  have hd : decide ((60 : Int) < (n : Int)) = false := decide_eq_false (by omega)
  have H60 : Hid (¬ 60 < x.nodes.length) := by show ¬ _; have := HN.out; omega
  go_enter Tryd.func58, Tryd.ntmps58
  go_wp2_with fail
  rw [← hW2]
  go_loopw [17] (fun i wr => ∃ k : Nat, k ≤ n ∧ i = .int .i64 k ∧ Hid (nodsE x.nodes 0 = nodsE (x.nodes.drop k) k) ∧ Below W2.heap.size W2 wr) (fun i _ => n - (intOf i).toNat)
  case atStart => exact ⟨0, Nat.zero_le _, rfl, Lib.hid (by simp), Below.refl _ _⟩
  case round =>
    obtain ⟨k, hk, rfl, hno, hb⟩ := hrel
    by_cases hlt : k < n
    · obtain ⟨nd, hnd⟩ : ∃ nd, x.nodes[k]? = some nd := ⟨_, List.getElem?_eq_getElem (by have := HN.out; omega)⟩
      obtain ⟨b, o, ha, hat⟩ := (HX.out.below hb).at' (by omega)
      have hM := hat k nd hnd
      obtain ⟨a3, n3, c3, m3, r3⟩ := hM.ws
      obtain ⟨a4, n4, c4, m4, r4⟩ := hM.ks
      have m0 := hM.c0
      have m1 := hM.c1
      have m2 := hM.c2
      subst ha
      have HV : Hid (∀ y, Below wr.heap.size wr y → Calls Tryd.prog 72 #[.agg #[.int .i64 nd.kind, .int .i64 nd.server, .int .i64 nd.need, .slice a3 n3 c3, .slice a4 n4 c4], .int .i64 k] y fun e w' => e = .returned (.int .i64 (nodE nd k)) ∧ Below y.heap.size y w') :=
        Lib.hid (fun y hy => xvalid_c nd k a3 n3 c3 a4 n4 c4 y (r3.below hy) (r4.below hy))
      have HHit : Hid (nodE nd k ≠ 0 → xprE x = nodE nd k) := Lib.hid (fun he => xprE_hit H0.out H60.out hnd hno.out he)
      have HNxt : Hid (nodE nd k = 0 → nodsE x.nodes 0 = nodsE (x.nodes.drop (k + 1)) (k + 1)) := Lib.hid (fun he => xprE_next hnd hno.out he)
      obtain ⟨kind, server, need, ws, ks⟩ := nd
      obtain ⟨E, hE⟩ : ∃ E, nodE ⟨kind, server, need, ws, ks⟩ k = E := ⟨_, rfl⟩
      rw [hE] at HV HHit HNxt
      simp only at m0 m1 m2 HV
      clear hM r3 r4 hat hnd hno hE
      by_cases he : E = 0
      · subst he
        have hN := HNxt.out rfl
        have HN2 := Lib.hid hN
        clear hN HHit HNxt
        have hba : Below wr.heap.size wr (wr.alloc (Obj.cells #[.int .i64 kind, .int .i64 server, .int .i64 need, .slice a3 n3 c3, .slice a4 n4 c4] 64)) := (Below.refl _ wr).alloc (Nat.le_refl _) _
        go_wp2_with fail
        refine (HV.out _ hba).mono ?_
        rintro e w5 ⟨rfl, hb5⟩
        have hb6 := Below.next hb (Below.next hba hb5)
        go_wp2_with fail
        go_roundw
        case rel => exact ⟨k + 1, by omega, by go_num, HN2, hb6⟩
        case measure => simp [intOf]; omega
      · have hV := HHit.out he
        have HV2 := Lib.hid hV
        have hE : (E != 0) = true := by simpa using he
        clear hV HHit HNxt he
        have hba : Below wr.heap.size wr (wr.alloc (Obj.cells #[.int .i64 kind, .int .i64 server, .int .i64 need, .slice a3 n3 c3, .slice a4 n4 c4] 64)) := (Below.refl _ wr).alloc (Nat.le_refl _) _
        go_wp2_with fail
        refine (HV.out _ hba).mono ?_
        rintro e w5 ⟨rfl, hb5⟩
        have hb6 := Below.next hb (Below.next hba hb5)
        go_wp2_with fail
        go_ret
        exact ⟨ret_int HV2.out.symm, Below.next HB2.out hb6⟩
    · obtain rfl : k = n := by omega
      have hV := xprE_end H0.out H60.out HN.out hno.out
      have hr : W2.cell? ⟨w.heap.size, 0, none⟩ = some (.slice a k c) ∧ W2.cell? ⟨w.heap.size, 1, none⟩ = some (.int .i64 x.root) := by
        rw [hW2]; exact ⟨cell_of_row _ _ 0 _ _ _ (heap_alloc_new _ _), cell_of_row _ _ 1 _ _ _ (heap_alloc_new _ _)⟩
      have q0 := cell_keep hb hr.1
      have q1 := cell_keep hb hr.2
      clear hno hr hW2
      obtain ⟨root, hroot⟩ : ∃ r, x.root = r := ⟨_, rfl⟩
      rw [hroot] at hV q1
      by_cases h1 : root < 0
      · have d1 : decide (root < 0) = true := decide_eq_true h1
        rw [if_pos (.inl h1)] at hV
        have HV := Lib.hid hV
        clear hV h1 hroot
        go_wp2_with fail
        go_ret
        exact ⟨ret_int HV.out.symm, Below.next HB2.out hb⟩
      · have d1 : decide (root < 0) = false := decide_eq_false h1
        by_cases h2 : (k : Int) ≤ root
        · have d2 : decide ((k : Int) ≤ root) = true := decide_eq_true h2
          rw [if_pos (.inr h2)] at hV
          have HV := Lib.hid hV
          clear hV h1 hroot h2
          go_wp2_with fail
          go_ret
          exact ⟨ret_int HV.out.symm, Below.next HB2.out hb⟩
        · have d2 : decide ((k : Int) ≤ root) = false := decide_eq_false h2
          rw [if_neg (by omega)] at hV
          have HV := Lib.hid hV
          clear hV h1 hroot h2
          go_wp2_with fail
          go_ret
          exact ⟨ret_int HV.out.symm, Below.next HB2.out hb⟩

/-- two struct arguments of two cells, laid -/
theorem args22 (w : World) (u0 u1 v0 v1 : Value) (t t' : TypeId) {W : World} (hW : W = (w.alloc (.cells #[u0, u1] t)).alloc (.cells #[v0, v1] t')) :
    Below w.heap.size w W ∧ ∀ y, Below W.heap.size W y → (y.cell? ⟨w.heap.size, 0, none⟩ = some u0 ∧ y.cell? ⟨w.heap.size, 1, none⟩ = some u1) ∧ y.cell? ⟨w.heap.size + 1, 0, none⟩ = some v0 ∧ y.cell? ⟨w.heap.size + 1, 1, none⟩ = some v1 := by
  refine ⟨by rw [hW]; exact ((Below.refl _ w).alloc (Nat.le_refl _) _).alloc (by simp) _, fun y hy => ?_⟩
  have g0 : W.heap[w.heap.size]? = some (.cells #[u0, u1] t (0, 0)) := by rw [hW]; exact heap_alloc_at (heap_alloc_new _ _) _
  have g1 : W.heap[w.heap.size + 1]? = some (.cells #[v0, v1] t' (0, 0)) := by
    rw [hW]
    have := heap_alloc_new (w.alloc (.cells #[u0, u1] t)) (.cells #[v0, v1] t')
    rwa [World.size_alloc] at this
  have e0 := heap_below hy g0
  have e1 := heap_below hy g1
  exact ⟨⟨cell_of_row _ _ 0 _ _ _ e0, cell_of_row _ _ 1 _ _ _ e0⟩, cell_of_row _ _ 0 _ _ _ e1, cell_of_row _ _ 1 _ _ _ e1⟩

set_option maxRecDepth 100000 in
set_option maxHeartbeats 1000000 in
theorem two_c (x y : Xpr) (a : Option Addr) (n c : Nat) (a2 : Option Addr) (n2 c2 : Nat) (w : World) (h : XM w a n c x.nodes) (h2 : XM w a2 n2 c2 y.nodes) :
    Calls Tryd.prog 34 #[.agg #[.slice a n c, .int .i64 x.root], .agg #[.slice a2 n2 c2, .int .i64 y.root]] w fun e w' => e = .returned (.int .i64 (if xprE x ≠ 0 then xprE x else xprE y)) ∧ Below w.heap.size w w' := by
  have H1 := Lib.hid (fun (v : World) (hb : Below w.heap.size w v) => xpr_c x a n c v (h.below hb))
  have H2 := Lib.hid (fun (v : World) (hb : Below w.heap.size w v) => xpr_c y a2 n2 c2 v (h2.below hb))
  clear h h2
  obtain ⟨E1, hE1⟩ : ∃ E, xprE x = E := ⟨_, rfl⟩
  obtain ⟨E2, hE2⟩ : ∃ E, xprE y = E := ⟨_, rfl⟩
  rw [hE1] at H1 ⊢
  rw [hE2] at H2 ⊢
  clear hE1 hE2
  obtain ⟨V, hV⟩ : ∃ V, (if E1 ≠ 0 then E1 else E2) = V := ⟨_, rfl⟩
  rw [hV]
  have HV := Lib.hid hV
  clear hV
  obtain ⟨W2, hW2⟩ : ∃ W2, W2 = (w.alloc (.cells #[.slice a n c, .int .i64 x.root] 24)).alloc (.cells #[.slice a2 n2 c2, .int .i64 y.root] 24) := ⟨_, rfl⟩
  obtain ⟨hb2, hc⟩ := args22 w _ _ _ _ _ _ hW2
  have HB2 := Lib.hid hb2
  have HC := Lib.hid hc
  clear hb2 hc
  go_enter Tryd.func34, Tryd.ntmps34
  go_wp2_with fail
  rw [← hW2]
  refine (H1.out W2 HB2.out).mono ?_
  rintro e w1 ⟨rfl, hb1⟩
  obtain ⟨_, q0, q1⟩ := HC.out w1 hb1
  by_cases he : E1 = 0
  · subst he
    go_wp2_with fail
    refine (H2.out w1 (Below.next HB2.out hb1)).mono ?_
    rintro e w5 ⟨rfl, hb5⟩
    go_wp2_with fail
    go_ret
    exact ⟨ret_int (by have := HV.out; rwa [if_neg (by simp)] at this), Below.next HB2.out (Below.next hb1 hb5)⟩
  · have hE : (E1 != 0) = true := by simpa using he
    have hV2 : Hid (E1 = V) := by have := HV.out; rw [if_pos (by simpa using he)] at this; exact this
    clear he HV
    go_wp2_with fail
    go_ret
    exact ⟨ret_int hV2.out, Below.next HB2.out hb1⟩
end Go.Proofs.YtflpkkebampmfaaDoor
namespace Go.Proofs.YtflpkkebampmfaaDoor
open Go.RowKit Go.Shelf

set_option maxRecDepth 100000 in
set_option maxHeartbeats 1000000 in
theorem wgt_c (nd : Nod) (k : Nat) (aw : Option Addr) (nw cw : Nat) (ak : Option Addr) (nk ck : Nat) (w : World) (hw : Rd w aw nw cw (nd.weights.map (Value.int .i64))) (hk : nd.weights = [] ∨ k < nd.weights.length) :
    Calls Tryd.prog 89 #[.agg #[.int .i64 nd.kind, .int .i64 nd.server, .int .i64 nd.need, .slice aw nw cw, .slice ak nk ck], .int .i64 k] w fun e w' => e = .returned (.int .i64 (wgtN nd k)) ∧ Below w.heap.size w w' := by
  have hlw : nd.weights.length = nw := by have := hw.len; simp at this; omega
  have hle := hw.le
  have hm := hw.max
  unfold maxLen at hm
  obtain ⟨W2, hW2⟩ : ∃ W2, W2 = w.alloc (Obj.cells #[.int .i64 nd.kind, .int .i64 nd.server, .int .i64 nd.need, .slice aw nw cw, .slice ak nk ck] 64) := ⟨_, rfl⟩
  have hb2 : Below w.heap.size w W2 := by rw [hW2]; exact (Below.refl _ w).alloc (Nat.le_refl _) _
  have HB2 := Lib.hid hb2
  by_cases h0 : nw = 0
  · have hn : nd.weights = [] := List.eq_nil_of_length_eq_zero (by omega)
    have hV : Hid (wgtN nd k = 1) := by show _ = _; unfold wgtN; rw [if_pos hn]
    subst h0
    clear hn hlw hk hw hb2
    go_enter Tryd.func89, Tryd.ntmps89
    go_wp2_with fail
    go_ret
    exact ⟨ret_int hV.out.symm, by rw [← hW2]; exact HB2.out⟩
  · have hne : ((nw : Int) == 0) = false := by rw [beq_eq_false_iff_ne]; omega
    have hkn : k < nw := by rcases hk with h | h
                            · rw [h] at hlw; simp at hlw; omega
                            · omega
    obtain ⟨z, hz⟩ : ∃ z, nd.weights[k]? = some z := ⟨_, List.getElem?_eq_getElem (by omega)⟩
    have hV : Hid (wgtN nd k = z) := by
      show _ = _; unfold wgtN
      rw [if_neg (fun e => by rw [e] at hlw; simp at hlw; omega), List.getD_eq_getElem?_getD, hz]; rfl
    obtain ⟨b, o, ha, hcell⟩ := (hw.below hb2).at' (by omega)
    have hc := hcell k (.int .i64 z) (by rw [List.getElem?_map, hz]; rfl)
    subst ha
    clear hlw hk hw hb2 hcell hz h0
    rw [hW2] at hc
    go_enter Tryd.func89, Tryd.ntmps89
    go_wp2_with fail
    go_ret
    exact ⟨ret_int hV.out.symm, by rw [← hW2]; exact HB2.out⟩

/-- expressions with few kids -/
def XprFew (x : Xpr) : Prop := ∀ (k : Nat) nd, x.nodes[k]? = some nd → nd.kids.length ≤ 1000
/-- sixty places, the first ones filled -/
def isA (l : List Bool) : Array Value := ((l ++ List.replicate (60 - l.length) false).map Value.bool).toArray
theorem isA_at {l : List Bool} (h : l.length ≤ 60) {i : Nat} (hi : i < 60) : (isA l)[i]? = some (.bool (l.getD i false)) := by
  unfold isA
  rw [List.getElem?_toArray, List.getElem?_map, List.getD_eq_getElem?_getD]
  by_cases h1 : i < l.length
  · rw [List.getElem?_append_left h1, List.getElem?_eq_getElem h1]; rfl
  · rw [List.getElem?_append_right (by omega), List.getElem?_replicate, if_pos (by omega), List.getElem?_eq_none (by omega)]; rfl
theorem isA_set {l : List Bool} (h : l.length < 60) (v : Bool) : (isA l).setIfInBounds l.length (.bool v) = isA (l ++ [v]) := by
  unfold isA
  rw [List.setIfInBounds_toArray]
  congr 1
  have e : 60 - l.length = (60 - (l ++ [v]).length) + 1 := by simp; omega
  rw [e, List.replicate_succ, List.map_append, List.map_append, List.map_append, List.map_cons, List.set_append_right _ _ (by simp)]
  simp

theorem frozen_row {w : World} {B : Nat} {cs : Array Value} {t : TypeId} (h : w.heap[B]? = some (.cells cs t (0, 0))) (i : Nat) : w.frozen? ⟨B, i, none⟩ = false := by simp [World.frozen?, h]

set_option maxRecDepth 100000 in
set_option maxHeartbeats 4000000 in
theorem holds_c (x : Xpr) (hx : XprOk x) (hf : XprFew x) (s : BitVec 16) (a : Option Addr) (n c : Nat) (w : World) (h : XM w a n c x.nodes) :
    Calls Tryd.prog 73 #[.agg #[.slice a n c, .int .i64 x.root], .int .u16 (U s)] w fun e w' => e = .returned (.bool (holdX x s)) ∧ Below w.heap.size w w' := by
  obtain ⟨r, hr⟩ := Int.eq_ofNat_of_zero_le hx.root.1
  have hrn : r < n := by have h1 := hx.root.2; have h2 := h.len; omega
  have hle := h.le
  have hm := h.max
  have hn60 : n ≤ 60 := by have h1 := hx.most; have h2 := h.len; omega
  unfold maxLen at hm
  have hwr : wrap64 ((r : Int) + 1) = (r : Int) + 1 := by unfold wrap64; omega
  have HV := Lib.hid (holdX_root (s := s) hr (by have h2 := h.len; omega))
  rw [hr]
  have HX := Lib.hid h
  have HO := Lib.hid hx
  have HF := Lib.hid hf
  have HN := Lib.hid h.len
  clear h hx hf hr
  obtain ⟨b, o, rfl, _⟩ := HX.out.at' (by omega)
  go_enter Tryd.func73, Tryd.ntmps73
  go_wp2_with fail
  generalize hWS : (w.alloc _).alloc _ = WS
  have hS : WS.heap.size = w.heap.size + 2 := by rw [← hWS]; simp
  have hbS : Below w.heap.size w WS := by rw [← hWS]; exact ((Below.refl _ w).alloc (Nat.le_refl _) _).alloc (by simp) _
  have g1 : WS.heap[w.heap.size + 1]? = some (.cells (isA []) 131 (0, 0)) := by
    rw [← hWS]
    have := heap_alloc_new (w.alloc (Obj.cells #[Value.slice (some { block := b, off := o }) n c, Value.int IntKind.i64 r] 24)) (.cells (isA []) 131)
    rw [World.size_alloc] at this; exact this
  have g0 : WS.heap[w.heap.size]? = some (.cells #[Value.slice (some { block := b, off := o }) n c, Value.int IntKind.i64 r] 24 (0, 0)) := by
    rw [← hWS]; exact heap_alloc_at (heap_alloc_new _ _) _
  have HS := Lib.hid hS
  have HBS := Lib.hid hbS
  have G0 := Lib.hid g0
  have G1 := Lib.hid g1
  clear hWS hS hbS g0 g1
  go_loopw [18] (fun i wr => ∃ k : Nat, k ≤ r + 1 ∧ i = .int .i64 k ∧ wr.heap[w.heap.size + 1]? = some (.cells (isA (holdTo x.nodes s k)) 131 (0, 0)) ∧ wr.heap[w.heap.size]? = some (.cells #[Value.slice (some { block := b, off := o }) n c, Value.int IntKind.i64 r] 24 (0, 0)) ∧ w.heap.size + 2 ≤ wr.heap.size ∧ Below w.heap.size w wr) (fun i _ => r + 1 - (intOf i).toNat)
  case atStart => exact ⟨0, Nat.zero_le _, rfl, G1.out, G0.out, by rw [HS.out]; exact Nat.le_refl _, HBS.out⟩
  case round =>
    obtain ⟨k, hk, rfl, e1, e0, hsz, hb⟩ := hrel
    by_cases hlt : k < r + 1
    · obtain ⟨nd, hnd⟩ : ∃ nd, x.nodes[k]? = some nd := ⟨_, List.getElem?_eq_getElem (by have := HN.out; omega)⟩
      obtain ⟨b', o', ha, hat⟩ := (HX.out.below hb).at' (by omega)
      cases ha
      have hM := hat k nd hnd
      obtain ⟨a3, n3, c3, m3, r3⟩ := hM.ws
      obtain ⟨a4, n4, c4, m4, r4⟩ := hM.ks
      have m0 := hM.c0
      have m1 := hM.c1
      have m2 := hM.c2
      have HOK := Lib.hid (HO.out.node k nd hnd)
      have hfew := HF.out k nd hnd
      have HST : Hid (holdTo x.nodes s (k + 1) = holdTo x.nodes s k ++ [valN nd (holdTo x.nodes s k) s]) := Lib.hid (by
        rw [holdTo]
        rw [show x.nodes.getD k nod0 = nd by rw [List.getD_eq_getElem?_getD, hnd]; rfl])
      have HL := Lib.hid (holdTo_len x.nodes s k)
      obtain ⟨I, hI⟩ : ∃ I, holdTo x.nodes s k = I := ⟨_, rfl⟩
      rw [hI] at e1 HST HL
      obtain ⟨kind, server, need, ws, ks⟩ := nd
      simp only at m0 m1 m2 hfew r3 r4
      have R3 := Lib.hid r3
      have R4 := Lib.hid r4
      have HB := Lib.hid hb
      clear hM r3 r4 hat hnd hI hb
      have hkd : decide ((k : Int) < (r : Int) + 1) = true := decide_eq_true (by omega)
      by_cases hkind : kind = 1
      · subst hkind
        obtain ⟨sv, rfl⟩ := Int.eq_ofNat_of_zero_le HOK.out.server.1
        have hvn : valN ⟨1, sv, need, ws, ks⟩ I s = hasB s sv := rfl
        rw [hvn] at HST
        have ea := heap_alloc_at e1 (Obj.cells #[.int .i64 1, .int .i64 sv, .int .i64 need, .slice a3 n3 c3, .slice a4 n4 c4] 64)
        have z0 := frozen_row ea k
        have z1 := cell_of_row _ _ k _ _ _ ea |>.trans (isA_at (by have := HL.out; omega) (by omega))
        have EA := Lib.hid ea
        clear hvn ea
        go_wp2_with fail
        clear z0 z1
        go_roundw
        case rel =>
          have hkl := HL.out
          have ha : Below w.heap.size w (wr.alloc (Obj.cells #[.int .i64 1, .int .i64 sv, .int .i64 need, .slice a3 n3 c3, .slice a4 n4 c4] 64)) := HB.out.alloc (by omega) _
          refine ⟨k + 1, by omega, by go_num, ?_, ?_, ?_, ?_⟩
          · have hsv := HOK.out.server.2
            simp only at hsv
            rw [heap_set_at EA.out, HST.out, ← hkl, isA_set (by omega), show min sv 16 = sv by omega]
          · exact heap_set_other (by omega) _ _ (heap_alloc_at e0 _)
          · simp [World.setCell]; omega
          · exact ha.setCell (p := ⟨w.heap.size + 1, k, none⟩) (by show w.heap.size ≤ w.heap.size + 1; omega) _
        case measure => simp [intOf]; omega
      · have hk2 : (kind == 1) = false := by simpa using hkind
        have hvn : valN ⟨kind, server, need, ws, ks⟩ I s = decide (need ≤ gotTo ⟨kind, server, need, ws, ks⟩ I ks.length) := by unfold valN; rw [if_neg hkind]
        rw [hvn] at HST
        have ea := heap_alloc_at e1 (Obj.cells #[.int .i64 kind, .int .i64 server, .int .i64 need, .slice a3 n3 c3, .slice a4 n4 c4] 64)
        have ea0 := heap_alloc_at e0 (Obj.cells #[.int .i64 kind, .int .i64 server, .int .i64 need, .slice a3 n3 c3, .slice a4 n4 c4] 64)
        have en := heap_alloc_new wr (Obj.cells #[.int .i64 kind, .int .i64 server, .int .i64 need, .slice a3 n3 c3, .slice a4 n4 c4] 64)
        have hbn : Below wr.heap.size wr (wr.alloc (Obj.cells #[.int .i64 kind, .int .i64 server, .int .i64 need, .slice a3 n3 c3, .slice a4 n4 c4] 64)) := (Below.refl _ wr).alloc (Nat.le_refl _) _
        have hlk : ks.length = n4 := by have := R4.out.len; simp at this; omega
        have hle4 := R4.out.le
        have hm4 := R4.out.max
        unfold maxLen at hm4
        go_wp2_with fail
        generalize hWA : wr.alloc _ = WA
        rw [hWA] at ea ea0 en hbn
        have EA := Lib.hid ea
        have EA0 := Lib.hid ea0
        have EN := Lib.hid en
        have HBN := Lib.hid hbn
        have HSA : Hid (w.heap.size + 2 ≤ WA.heap.size ∧ wr.heap.size < WA.heap.size) := Lib.hid (by rw [← hWA]; simp; omega)
        clear hWA ea ea0 en hbn e0 e1 m0 m1 m2 m3 m4 hvn
        obtain ⟨W0, hW0⟩ : ∃ W0, W0 = wr := ⟨_, rfl⟩
        subst hW0
        go_loopw [8, 37] (fun v i wq => ∃ j : Nat, j ≤ n4 ∧ i = .int .i64 j ∧ v = .int .i64 (gotTo ⟨kind, server, need, ws, ks⟩ I j) ∧ Below WA.heap.size WA wq) (fun _ i _ => n4 - (intOf i).toNat)
        case atStart => exact ⟨0, Nat.zero_le _, rfl, rfl, Below.refl _ _⟩
        case round =>
          obtain ⟨j, hj, rfl, rfl, hbq⟩ := hrel
          by_cases hltj : j < n4
          · obtain ⟨z, hz⟩ : ∃ z, ks[j]? = some z := ⟨_, List.getElem?_eq_getElem (by omega)⟩
            have hzr := HOK.out.kids z (List.mem_of_getElem? hz)
            obtain ⟨kd, rfl⟩ := Int.eq_ofNat_of_zero_le hzr.1
            have hkd2 : kd < k := by omega
            obtain ⟨b4, o4, ha4, hcell4⟩ := (R4.out.below (Below.next HBN.out hbq)).at' (by omega)
            have q4 := hcell4 j (.int .i64 kd) (by rw [List.getElem?_map, hz]; rfl)
            have eq1 := heap_below hbq EA.out
            have q1 := cell_of_row _ _ kd _ _ _ eq1 |>.trans (isA_at (by have := HL.out; omega) (by omega))
            have hgs : gotTo ⟨kind, server, need, ws, ks⟩ I (j + 1) = gotTo ⟨kind, server, need, ws, ks⟩ I j + (if I.getD kd false = true then wgtN ⟨kind, server, need, ws, ks⟩ j else 0) := by
              rw [gotTo]
              show _ + (if I.getD ((ks.getD j 0).toNat) false = true then _ else _) = _
              rw [show ks.getD j 0 = (kd : Int) by rw [List.getD_eq_getElem?_getD, hz]; rfl, Int.toNat_natCast]
            have hgb := got_bd HOK.out I j
            have hwb := wgt_pos HOK.out j
            subst ha4
            cases hi : I.getD kd false
            · rw [hi] at q1 hgs
              rw [if_neg (by decide), Int.add_zero] at hgs
              have HGS := Lib.hid hgs
              clear hcell4 hz hgs hi hgb hwb hzr eq1
              go_wp2_with fail
              go_roundw
              case rel => exact ⟨j + 1, by omega, by go_num, by rw [HGS.out], hbq⟩
              case measure => simp [intOf]; omega
            · rw [hi] at q1 hgs
              rw [if_pos rfl] at hgs
              have HW : Hid (∀ y, Below wr.heap.size wr y → Calls Tryd.prog 89 #[.agg #[.int .i64 kind, .int .i64 server, .int .i64 need, .slice a3 n3 c3, .slice (some ⟨b4, o4, none⟩) n4 c4], .int .i64 j] y fun e w' => e = .returned (.int .i64 (wgtN ⟨kind, server, need, ws, ks⟩ j)) ∧ Below y.heap.size y w') :=
                Lib.hid (fun y hy => wgt_c ⟨kind, server, need, ws, ks⟩ j a3 n3 c3 (some ⟨b4, o4, none⟩) n4 c4 y (R3.out.below (Below.next HBN.out (Below.next hbq hy))) (by
                  rcases HOK.out.arity with h | h
                  · exact .inl h
                  · right; rw [h]; show j < ks.length; omega))
              obtain ⟨S, hS⟩ : ∃ S, gotTo ⟨kind, server, need, ws, ks⟩ I j = S := ⟨_, rfl⟩
              obtain ⟨G, hG⟩ : ∃ G, wgtN ⟨kind, server, need, ws, ks⟩ j = G := ⟨_, rfl⟩
              rw [hS] at hgs hgb ⊢
              rw [hG] at hgs hwb HW
              have hwr2 : wrap64 (S + G) = S + G := by unfold wrap64; omega
              have eqn := heap_below hbq EN.out
              have p0 := cell_of_row _ _ 0 _ _ _ eqn
              have p1 := cell_of_row _ _ 1 _ _ _ eqn
              have p2 := cell_of_row _ _ 2 _ _ _ eqn
              have p3 := cell_of_row _ _ 3 _ _ _ eqn
              have p4 := cell_of_row _ _ 4 _ _ _ eqn
              have HGS := Lib.hid hgs
              clear hcell4 hz hgs hi hgb hwb hzr eq1 eqn hS hG
              go_wp2_with fail
              refine (HW.out _ (Below.refl _ _)).mono ?_
              rintro e w5 ⟨rfl, hb5⟩
              have hb6 := Below.next hbq hb5
              go_wp2_with fail
              go_roundw
              case rel => exact ⟨j + 1, by omega, by go_num, by rw [HGS.out, hwr2], hb6⟩
              case measure => simp [intOf]; omega
          · obtain rfl : j = n4 := by omega
            rw [hlk] at HST
            obtain ⟨S, hS⟩ : ∃ S, gotTo ⟨kind, server, need, ws, ks⟩ I j = S := ⟨_, rfl⟩
            rw [hS] at HST ⊢
            have eqn := heap_below hbq EN.out
            have p2 := cell_of_row _ _ 2 _ _ _ eqn
            have eq1 := heap_below hbq EA.out
            have q1 := cell_of_row _ _ k _ _ _ eq1 |>.trans (isA_at (by have := HL.out; omega) (by omega))
            have z1 := frozen_row eq1 k
            have EQ1 := Lib.hid eq1
            have EQ0 := Lib.hid (heap_below hbq EA0.out)
            have HBF := Lib.hid (Below.next HB.out (Below.next HBN.out hbq))
            have HSQ := Lib.hid hbq.size
            clear eqn eq1 hS hbq
            go_wp2_with fail
            clear q1 z1
            go_roundw
            case rel =>
              have hkl := HL.out
              have hsq := HSQ.out
              have hsa := HSA.out
              refine ⟨k + 1, by omega, by go_num, ?_, ?_, ?_, ?_⟩
              · rw [heap_set_at EQ1.out, HST.out, ← hkl, isA_set (by omega)]
              · exact heap_set_other (by omega) _ _ EQ0.out
              · simp [World.setCell]; omega
              · exact HBF.out.setCell (p := ⟨w.heap.size + 1, k, none⟩) (by show w.heap.size ≤ w.heap.size + 1; omega) _
            case measure => simp [intOf]; omega
    · obtain rfl : k = r + 1 := by omega
      have hc := cell_of_row _ _ r _ _ _ e1 |>.trans (isA_at (by rw [holdTo_len]; omega) (by omega))
      rw [← HV.out] at hc
      have hc2 := cell_of_row _ _ 1 _ _ _ e0
      have hkd : decide (((r + 1 : Nat) : Int) < (r : Int) + 1) = false := decide_eq_false (by omega)
      go_wp2_with fail
      go_ret
      exact ⟨rfl, hb⟩

set_option maxRecDepth 100000 in
set_option maxHeartbeats 1000000 in
theorem eval_c (x : Xpr) (hx : xprE x = 0) (hf : XprFew x) (s : BitVec 16) (hs : s.toNat < 4096) (a : Option Addr) (n c : Nat) (w : World) (h : XM w a n c x.nodes) :
    Calls Tryd.prog 61 #[.agg #[.slice a n c, .int .i64 x.root], .int .u16 (U s)] w fun e w' => e = .returned (.tuple #[.bool (holdX x s), .int .i64 0]) ∧ Below w.heap.size w w' := by
  have H1 := Lib.hid (fun (v : World) (hb : Below w.heap.size w v) => xpr_c x a n c v (h.below hb))
  have H2 := Lib.hid (fun (v : World) (hb : Below w.heap.size w v) => holds_c x (xprE_ok hx) hf s a n c v (h.below hb))
  rw [hx] at H1
  have hd : decide (4096 ≤ U s) = false := decide_eq_false (by unfold U; omega)
  clear h hf hx
  obtain ⟨W2, hW2⟩ : ∃ W2, W2 = w.alloc (.cells #[.slice a n c, .int .i64 x.root] 24) := ⟨_, rfl⟩
  have hb2 : Below w.heap.size w W2 := by rw [hW2]; exact (Below.refl _ w).alloc (Nat.le_refl _) _
  have g0 : W2.heap[w.heap.size]? = some (.cells #[.slice a n c, .int .i64 x.root] 24 (0, 0)) := by rw [hW2]; exact heap_alloc_new _ _
  have HB2 := Lib.hid hb2
  have G0 := Lib.hid g0
  clear hb2 g0
  go_enter Tryd.func61, Tryd.ntmps61
  go_wp2_with fail
  rw [← hW2]
  refine (H1.out W2 HB2.out).mono ?_
  rintro e w1 ⟨rfl, hb1⟩
  have e1 := heap_below hb1 G0.out
  have q0 := cell_of_row _ _ 0 _ _ _ e1
  have q1 := cell_of_row _ _ 1 _ _ _ e1
  have E1 := Lib.hid e1
  clear e1
  go_wp2_with fail
  refine (H2.out w1 (Below.next HB2.out hb1)).mono ?_
  rintro e w5 ⟨rfl, hb5⟩
  go_wp2_with fail
  go_ret2
  exact ⟨rfl, Below.next HB2.out (Below.next hb1 hb5)⟩

set_option maxRecDepth 100000 in
set_option maxHeartbeats 1000000 in
theorem satisfied_c (x : Xpr) (hx : xprE x = 0) (hf : XprFew x) (s : BitVec 16) (hs : s.toNat < 4096) (a : Option Addr) (n c : Nat) (w : World) (h : XM w a n c x.nodes) :
    Calls Tryd.prog 39 #[.agg #[.slice a n c, .int .i64 x.root], .int .u16 (U s)] w fun e w' => e = .returned (.bool (holdX x s)) ∧ Below w.heap.size w w' := by
  have H2 := Lib.hid (fun (v : World) (hb : Below w.heap.size w v) => eval_c x hx hf s hs a n c v (h.below hb))
  clear h hf hx
  obtain ⟨W2, hW2⟩ : ∃ W2, W2 = w.alloc (.cells #[.slice a n c, .int .i64 x.root] 24) := ⟨_, rfl⟩
  have hb2 : Below w.heap.size w W2 := by rw [hW2]; exact (Below.refl _ w).alloc (Nat.le_refl _) _
  have HB2 := Lib.hid hb2
  clear hb2
  go_enter Tryd.func39, Tryd.ntmps39
  go_wp2_with fail
  rw [← hW2]
  refine (H2.out W2 HB2.out).mono ?_
  rintro e w5 ⟨rfl, hb5⟩
  go_wp2_with fail
  go_ret
  exact ⟨rfl, Below.next HB2.out hb5⟩

set_option maxRecDepth 100000 in
set_option maxHeartbeats 2000000 in
theorem support_x (x : Xpr) (hx : XprOk x) (a : Option Addr) (n c : Nat) (w : World) (h : XM w a n c x.nodes) :
    Calls Tryd.prog 36 #[.agg #[.slice a n c, .int .i64 x.root]] w fun e w' => e = .returned (.int .u16 (U (srvX x))) ∧ Below w.heap.size w w' := by
  obtain ⟨W2, hW2⟩ : ∃ W2, W2 = w.alloc (.cells #[.slice a n c, .int .i64 x.root] 24) := ⟨_, rfl⟩
  have hb2 : Below w.heap.size w W2 := by rw [hW2]; exact (Below.refl _ w).alloc (Nat.le_refl _) _
  have HX := Lib.hid (h.below hb2)
  have HO := Lib.hid hx
  have HN := Lib.hid h.len
  have hle := h.le
  have hm := h.max
  unfold maxLen at hm
  have HB2 := Lib.hid hb2
  have HE : Hid (srvTo x.nodes n = srvX x) := by show _ = _; unfold srvX; rw [HN.out]
  clear h hb2 hx
  go_enter Tryd.func36, Tryd.ntmps36
  go_wp2_with fail
  rw [← hW2]
  go_loopw [3, 9] (fun v i wr => ∃ k : Nat, k ≤ n ∧ i = .int .i64 k ∧ v = .int .u16 (U (srvTo x.nodes k)) ∧ Below W2.heap.size W2 wr) (fun _ i _ => n - (intOf i).toNat)
  case atStart => exact ⟨0, Nat.zero_le _, rfl, rfl, Below.refl _ _⟩
  case round =>
    obtain ⟨k, hk, rfl, rfl, hb⟩ := hrel
    by_cases hlt : k < n
    · obtain ⟨nd, hnd⟩ : ∃ nd, x.nodes[k]? = some nd := ⟨_, List.getElem?_eq_getElem (by have := HN.out; omega)⟩
      obtain ⟨b, o, ha, hat⟩ := (HX.out.below hb).at' (by omega)
      have hM := hat k nd hnd
      obtain ⟨a3, n3, c3, m3, r3⟩ := hM.ws
      obtain ⟨a4, n4, c4, m4, r4⟩ := hM.ks
      have m0 := hM.c0
      have m1 := hM.c1
      have m2 := hM.c2
      have hst := srvTo_succ hnd
      have HOK := Lib.hid (HO.out.node k nd hnd)
      obtain ⟨S, hS⟩ : ∃ S, srvTo x.nodes k = S := ⟨_, rfl⟩
      rw [hS] at hst ⊢
      subst ha
      have hba : Below W2.heap.size W2 (wr.alloc (Obj.cells #[.int .i64 nd.kind, .int .i64 nd.server, .int .i64 nd.need, .slice a3 n3 c3, .slice a4 n4 c4] 64)) := hb.alloc hb.size _
      obtain ⟨kind, server, need, ws, ks⟩ := nd
      simp only at m0 m1 m2 hst hba
      clear hM r3 r4 hat hnd hS
      by_cases hkind : kind = 1
      · subst hkind
        obtain ⟨sv, rfl⟩ := Int.eq_ofNat_of_zero_le HOK.out.server.1
        rw [if_pos rfl, Int.toNat_natCast] at hst
        have HST := Lib.hid hst
        have hsv := HOK.out.server.2
        simp only at hsv
        clear hst
        go_wp2_with fail
        go_roundw
        case rel => exact ⟨k + 1, by omega, by go_num, by rw [HST.out], hba⟩
        case measure => simp [intOf]; omega
      · have hk2 : (kind == 1) = false := by simpa using hkind
        rw [if_neg hkind] at hst
        have HST := Lib.hid hst
        clear hst hkind
        go_wp2_with fail
        go_roundw
        case rel => exact ⟨k + 1, by omega, by go_num, by rw [HST.out], hba⟩
        case measure => simp [intOf]; omega
    · obtain rfl : k = n := by omega
      rw [HE.out]
      go_wp2_with fail
      go_ret
      exact ⟨rfl, Below.next HB2.out hb⟩
end Go.Proofs.YtflpkkebampmfaaDoor
namespace Go.Proofs.YtflpkkebampmfaaDoor
open Go.RowKit Go.Shelf

theorem rowK_at {k : Nat} {w w' : World} {B n : Nat} {e : TypeId} {v : Value} {l : List Value} (h : w.ownsRow B e k v n l) (hb : ∀ g, v.ownBlock = some g → w'.heap[g]? = w.heap[g]?) : w'.ownsRow B e k v n l := by
  obtain ⟨h1, h2⟩ := h
  refine ⟨h1, ?_⟩
  rcases h2 with h2 | ⟨g, cap, cur, hv, hb', hg, r⟩
  · exact .inl h2
  · exact .inr ⟨g, cap, cur, hv, hb', by rw [hb g (by rw [hv]; rfl)]; exact hg, r⟩
/-- a prover in memory -/
structure PV (w : World) (B : Nat) (q0 q1 q2 q3 v : Value) (ns : List Cho) : Prop where
  blk : w.heap[B]? = some (.cells #[q0, q1, q2, q3, v] 69 (0, 0))
  row : w.ownsRow (B + 1) 39 3 v ns.length (ns.flatMap choC)
theorem PV.below {w w' : World} {B : Nat} {q0 q1 q2 q3 v : Value} {ns : List Cho} (h : PV w B q0 q1 q2 q3 v ns) (hb : Below w.heap.size w w') : PV w' B q0 q1 q2 q3 v ns := ⟨heap_below hb h.blk, rowK_below h.row hb⟩
theorem Tryd.infoCho : (Tryd.prog.info? 39).map (fun i => (i.zero, i.size, i.bytes)) = some (some (.agg #[.int .i64 0, .int .i64 0, .int .i64 0]), 3, 24) := by kernel_rfl

set_option maxRecDepth 100000 in
set_option maxHeartbeats 2000000 in
theorem add_p (c : Cho) (B : Nat) (q0 q1 q2 q3 v : Value) (ns : List Cho) (hn : ns.length ≤ 100000) (w0 w : World) (h0 : Below B w0 w) (hB : B ≤ w0.heap.size) (h : PV w B q0 q1 q2 q3 v ns) :
    Calls Tryd.prog 59 #[.pointer (some ⟨B, 0, none⟩), choA c] w fun e w' => e = .returned (.int .i64 ns.length) ∧ ∃ v', Below B w0 w' ∧ PV w' B q0 q1 q2 q3 v' (ns ++ [c]) := by
  obtain ⟨c0, c1, c2⟩ := c
  unfold choA
  obtain ⟨av, cv, rfl, hr⟩ := rdK_of_row h.row
  have hBw : B < w.heap.size := (Array.getElem?_eq_some_iff.1 h.blk).1
  have H := Lib.hid h
  have H0 := Lib.hid h0
  have HR := Lib.hid hr
  obtain ⟨i0, hi0, hz0, hz1, hz2⟩ := info_parts Tryd.infoCho
  obtain ⟨W1, hW1⟩ : ∃ W1, W1 = w.alloc (.cells #[.int .i64 c0, .int .i64 c1, .int .i64 c2] 39) := ⟨_, rfl⟩
  have hs1 : W1.heap.size = w.heap.size + 1 := by rw [hW1]; simp
  have hb1 : Below w.heap.size w W1 := by rw [hW1]; exact (Below.refl _ w).alloc (Nat.le_refl _) _
  have e1 := heap_below hb1 h.blk
  have hrow1 := rowK_below h.row hb1
  have ea : W1.heap[w.heap.size]? = some (.cells #[.int .i64 c0, .int .i64 c1, .int .i64 c2] 39 (0, 0)) := by rw [hW1]; exact heap_alloc_new _ _
  have p4 := cell_of_row _ _ 4 _ _ _ e1
  have z4 := frozen_row e1 4
  have a0 := cell_of_row _ _ 0 _ _ _ ea
  have a1 := cell_of_row _ _ 1 _ _ _ ea
  have a2 := cell_of_row _ _ 2 _ _ _ ea
  have p4b : (W1.alloc (Obj.cells #[.int .i64 c0, .int .i64 c1, .int .i64 c2] 39)).cell? ⟨B, 4, none⟩ = some (.slice av ns.length cv) := cell_of_row _ _ 4 _ _ _ (heap_alloc_at e1 _)
  have HROW1 := Lib.hid hrow1
  have HS1 := Lib.hid hs1
  have hBs : B + 1 ≤ W1.heap.size := by omega
  have E1 := Lib.hid e1
  have HB1 := Lib.hid hb1
  have KA : Hid (∀ x y : World, x.grownBy y (Value.slice av ns.length cv).ownBlock → x.heap[B]? = W1.heap[B]? → W1.heap.size ≤ x.heap.size → y.heap[B]? = some (.cells #[q0, q1, q2, q3, .slice av ns.length cv] 69 (0, 0))) := Lib.hid (fun x y hg hx hsx => by
    rw [hg.block B (by omega) (fun e => by have := (hrow1.lt B e.symm).1; omega), hx]
    exact e1)
  clear h h0 hr hrow1 e1 ea hb1 hs1
  go_enter Tryd.func59, Tryd.ntmps59
  go_wp2_with fail
  rw [← hW1]
  clear hW1
  go_region_law (first
    | (refine step_append_lies _ (by rfl) _ _ _ (by rfl) (B + 1) 39 i0 _ 3 24 Tryd.underlying31 hi0 hz0 hz1 hz2 rfl (by omega) (.slice av ns.length cv) ns.length _ (by rfl) ((HROW1.out.alloc _).drew) ⟨W1.heap.size, 0, none⟩ 1 1 [.int .i64 c0, .int .i64 c1, .int .i64 c2] (by rfl) (by rfl) (World.news_of_block (cs := #[.int .i64 c0, .int .i64 c1, .int .i64 c2]) (t := 39) (fr := (0, 0)) (heap_alloc_new W1 _)) (by simp [Value.oneCell']) (by omega) (by unfold maxLen; omega) (by omega) (by simp; omega) (W1.heap.size + 1) (by simp) ?_; intro gg cap wA hownA hgrow hat hlt; have hA := KA.out _ _ hgrow (Below.heap_alloc W1 _ B (by omega)) (by simp); have pA := cell_of_row _ _ 4 _ _ _ hA; have zA := frozen_row hA 4; have HA := Lib.hid hA; have HOA := Lib.hid hownA; have HGA := Lib.hid hgrow; clear hA hownA hgrow))
  all_goals
    go_wp2_with fail
    go_ret
    refine ⟨by first | rfl | (simp; done) | (congr 1; simp; omega), .slice (some ⟨gg, 0, none⟩) (ns.length + 1) cap, ?_, ?_, ?_⟩
    · have hb := H0.out.trans (HB1.out.mono (by omega))
      have hb2 := (below_drew (hb.alloc (by have := HS1.out; omega) (.cells #[.int .i64 c0, .int .i64 c1, .int .i64 c2] 39))).grown HGA.out (by simp; have := HS1.out; omega) (fun k hk => by have := (HROW1.out.lt k hk).1; omega)
      exact hb2.setCell (p := ⟨B, 4, none⟩) (Nat.le_refl _) _
    · rw [heap_set_at HA.out]; rfl
    · have hrow := HOA.out
      rw [show (ns ++ [(⟨c0, c1, c2⟩ : Cho)]).length = ns.length + 1 by simp, show (ns ++ [(⟨c0, c1, c2⟩ : Cho)]).flatMap choC = ns.flatMap choC ++ [.int .i64 c0, .int .i64 c1, .int .i64 c2] by rw [List.flatMap_append]; rfl]
      exact rowK_at hrow fun g hg => Below.heap_setCell _ _ _ _ (by have := (hrow.lt g hg).1; show g ≠ B; omega)
end Go.Proofs.YtflpkkebampmfaaDoor
namespace Go.Proofs.YtflpkkebampmfaaDoor

inductive CT where
  | fx : CT
  | fy : CT
  | nd : Nat → CT → CT → CT
def CT.sz : CT → Nat
  | .fx => 1
  | .fy => 1
  | .nd _ l r => l.sz + r.sz + 1
/-- the nodes of a tree, the first one having an index -/
def CT.bod : CT → Nat → List Cho
  | .fx, _ => [⟨-1, 0, 0⟩]
  | .fy, _ => [⟨-2, 0, 0⟩]
  | .nd i l r, k => l.bod k ++ r.bod (k + l.sz) ++ [⟨i, ((k + l.sz - 1 : Nat) : Int), ((k + l.sz + r.sz - 1 : Nat) : Int)⟩]
theorem CT.sz_pos (T : CT) : 1 ≤ T.sz := by cases T <;> simp [CT.sz]
theorem CT.bod_len (T : CT) : ∀ k, (T.bod k).length = T.sz := by
  induction T with
  | fx => intro k; rfl
  | fy => intro k; rfl
  | nd i l r h1 h2 => intro k; simp [CT.bod, CT.sz, h1, h2]; omega
def CT.top : CT → Cho → Prop
  | .fx, c => c = ⟨-1, 0, 0⟩
  | .fy, c => c = ⟨-2, 0, 0⟩
  | .nd i _ _, c => c.server = (i : Int)

/-- the search: members that are left, what was given to both sides -/
def proveL (x y : Xpr) : List Nat → BitVec 16 → BitVec 16 → Option CT
  | [], a, b => if holdX x (allV &&& ~~~b) = false then some .fx else if holdX y (allV &&& ~~~a) = false then some .fy else none
  | i :: l, a, b => if holdX x (allV &&& ~~~b) = false then some .fx else if holdX y (allV &&& ~~~a) = false then some .fy else
    match proveL x y l (a ||| bitS i) b with
    | none => none
    | some T => match proveL x y l a (b ||| bitS i) with
      | none => none
      | some U => some (.nd i T U)
def rightT (x y : Xpr) (b0 : BitVec 16) : CT → BitVec 16 → BitVec 16 → Bool
  | .fx, _, q => !holdX x (allV &&& ~~~q)
  | .fy, p, _ => !holdX y (allV &&& ~~~p)
  | .nd i l r, p, q => (bitS i &&& (b0 ||| p ||| q) == 0#16) && (rightT x y b0 l (p ||| bitS i) q && rightT x y b0 r p (q ||| bitS i))
def CT.low : CT → Prop
  | .fx => True
  | .fy => True
  | .nd i l r => i < 12 ∧ l.low ∧ r.low

theorem proveL_sz {x y : Xpr} : ∀ (l : List Nat) (a b : BitVec 16) (T : CT), proveL x y l a b = some T → T.sz + 1 ≤ 2 ^ (l.length + 1) := by
  intro l
  induction l with
  | nil =>
    intro a b T h
    unfold proveL at h
    split at h
    · cases h; decide
    · split at h
      · cases h; decide
      · cases h
  | cons i l ih =>
    intro a b T h
    have h2 : 2 ≤ 2 ^ (l.length + 1) := by
      have := Nat.one_le_two_pow (n := l.length)
      rw [Nat.pow_succ]; omega
    unfold proveL at h
    rw [List.length_cons, Nat.pow_succ]
    split at h
    · cases h; show 1 + 1 ≤ _; omega
    · split at h
      · cases h; show 1 + 1 ≤ _; omega
      · split at h
        · cases h
        · rename_i T1 h3
          split at h
          · cases h
          · rename_i U1 h4
            cases h
            have := ih _ _ _ h3
            have := ih _ _ _ h4
            show T1.sz + U1.sz + 1 + 1 ≤ _
            omega
theorem proveL_low {x y : Xpr} : ∀ (l : List Nat) (a b : BitVec 16) (T : CT), (∀ i ∈ l, i < 12) → proveL x y l a b = some T → T.low := by
  intro l
  induction l with
  | nil =>
    intro a b T _ h
    unfold proveL at h
    split at h
    · cases h; trivial
    · split at h
      · cases h; trivial
      · cases h
  | cons i l ih =>
    intro a b T hl h
    unfold proveL at h
    split at h
    · cases h; trivial
    · split at h
      · cases h; trivial
      · split at h
        · cases h
        · rename_i T1 h3
          split at h
          · cases h
          · rename_i U1 h4
            cases h
            exact ⟨hl i (List.mem_cons_self ..), ih _ _ _ (fun j hj => hl j (List.mem_cons_of_mem _ hj)) h3, ih _ _ _ (fun j hj => hl j (List.mem_cons_of_mem _ hj)) h4⟩
theorem bit_free {b0 a b : BitVec 16} {i : Nat} (hi : i < 16) (h0 : hasB b0 i = false) (h1 : hasB a i = false) (h2 : hasB b i = false) : (bitS i &&& (b0 ||| a ||| b) == 0#16) = true := by
  rw [beq_iff_eq]
  refine hasB_ext fun j hj => ?_
  rw [hasB_zero, hasB_and, hasB_bit _ _ hi]
  by_cases h : j = i
  · subst h; rw [hasB_or, hasB_or, h0, h1, h2]; simp
  · rw [decide_eq_false h]; rfl
theorem proveL_right {x y : Xpr} {b0 : BitVec 16} : ∀ (l : List Nat) (a b : BitVec 16) (T : CT), l.Nodup → (∀ i ∈ l, i < 12 ∧ hasB b0 i = false ∧ hasB a i = false ∧ hasB b i = false) → proveL x y l a b = some T → rightT x y b0 T a b = true := by
  intro l
  induction l with
  | nil =>
    intro a b T _ _ h
    unfold proveL at h
    split at h
    · rename_i h1; cases h; unfold rightT; rw [h1]; rfl
    · split at h
      · rename_i h1; cases h; unfold rightT; rw [h1]; rfl
      · cases h
  | cons i l ih =>
    intro a b T hnd hl h
    unfold proveL at h
    split at h
    · rename_i h1; cases h; unfold rightT; rw [h1]; rfl
    · split at h
      · rename_i h1; cases h; unfold rightT; rw [h1]; rfl
      · split at h
        · cases h
        · rename_i T1 h3
          split at h
          · cases h
          · rename_i U1 h4
            cases h
            obtain ⟨hi, hi0, hia, hib⟩ := hl i (List.mem_cons_self ..)
            have hnd1 := List.nodup_cons.1 hnd
            have hsub : ∀ j ∈ l, j ≠ i := fun j hj e => hnd1.1 (by rw [← e]; exact hj)
            have r1 := ih _ _ _ hnd1.2 (fun j hj => by
              obtain ⟨g1, g2, g3, g4⟩ := hl j (List.mem_cons_of_mem _ hj)
              exact ⟨g1, g2, by rw [hasB_or, g3, hasB_bit _ _ (by omega), decide_eq_false (hsub j hj)]; rfl, g4⟩) h3
            have r2 := ih _ _ _ hnd1.2 (fun j hj => by
              obtain ⟨g1, g2, g3, g4⟩ := hl j (List.mem_cons_of_mem _ hj)
              exact ⟨g1, g2, g3, by rw [hasB_or, g4, hasB_bit _ _ (by omega), decide_eq_false (hsub j hj)]; rfl⟩) h4
            show ((bitS i &&& (b0 ||| a ||| b) == 0#16) && (rightT x y b0 T1 (a ||| bitS i) b && rightT x y b0 U1 a (b ||| bitS i))) = true
            rw [bit_free (by omega) hi0 hia hib, r1, r2]; rfl
/-- where the search fails, everything can be given so that both sides are still satisfied -/
theorem proveL_none {x y : Xpr} (hx : XprOk x) (hy : XprOk y) : ∀ (l : List Nat) (a b : BitVec 16), (∀ i ∈ l, i < 16) → proveL x y l a b = none → ∃ A B : BitVec 16, holdX x (allV &&& ~~~B) = true ∧ holdX y (allV &&& ~~~A) = true ∧ (∀ i, hasB a i = true ∨ hasB b i = true ∨ i ∈ l → hasB A i = true ∨ hasB B i = true) := by
  intro l
  induction l with
  | nil =>
    intro a b _ h
    unfold proveL at h
    split at h
    · cases h
    · rename_i h1
      split at h
      · cases h
      · rename_i h2
        refine ⟨a, b, by simpa using h1, by simpa using h2, fun i hi => ?_⟩
        rcases hi with hi | hi | hi
        · exact .inl hi
        · exact .inr hi
        · cases hi
  | cons i l ih =>
    intro a b hl h
    have hi16 := hl i (List.mem_cons_self ..)
    have hl' : ∀ j ∈ l, j < 16 := fun j hj => hl j (List.mem_cons_of_mem _ hj)
    unfold proveL at h
    split at h
    · cases h
    · split at h
      · cases h
      · split at h
        · rename_i h3
          obtain ⟨A, B, q1, q2, q3⟩ := ih _ _ hl' h3
          refine ⟨A, B, q1, q2, fun j hj => q3 j ?_⟩
          rw [hasB_or, Bool.or_eq_true, hasB_bit _ _ hi16, decide_eq_true_eq]
          rcases hj with hj | hj | hj
          · exact .inl (.inl hj)
          · exact .inr (.inl hj)
          · rcases List.mem_cons.1 hj with rfl | hj
            · exact .inl (.inr rfl)
            · exact .inr (.inr hj)
        · split at h
          · rename_i h4
            obtain ⟨A, B, q1, q2, q3⟩ := ih _ _ hl' h4
            refine ⟨A, B, q1, q2, fun j hj => q3 j ?_⟩
            rw [hasB_or, Bool.or_eq_true, hasB_bit _ _ hi16, decide_eq_true_eq]
            rcases hj with hj | hj | hj
            · exact .inl hj
            · exact .inr (.inl (.inl hj))
            · rcases List.mem_cons.1 hj with rfl | hj
              · exact .inr (.inl (.inr rfl))
              · exact .inr (.inr hj)
          · cases h

/-! the nodes of a tree are well formed -/
theorem bod_last (T : CT) (k : Nat) : ∃ c, (T.bod k)[T.sz - 1]? = some c ∧ T.top c := by
  cases T with
  | fx => exact ⟨_, rfl, rfl⟩
  | fy => exact ⟨_, rfl, rfl⟩
  | nd i l r =>
    refine ⟨⟨i, ((k + l.sz - 1 : Nat) : Int), ((k + l.sz + r.sz - 1 : Nat) : Int)⟩, ?_, rfl⟩
    show (l.bod k ++ r.bod (k + l.sz) ++ _)[l.sz + r.sz + 1 - 1]? = _
    rw [List.getElem?_append_right (by simp [CT.bod_len])]
    simp [CT.bod_len]
theorem bod_nodes (T : CT) (hT : T.low) : ∀ (k j : Nat) (c : Cho), (T.bod k)[j]? = some c → nodC c (k + j) = true := by
  induction T with
  | fx => intro k j c h; match j, h with
    | 0, h => cases h; rfl
  | fy => intro k j c h; match j, h with
    | 0, h => cases h; rfl
  | nd i l r h1 h2 =>
    intro k j c h
    obtain ⟨hi, hl, hr⟩ := hT
    have hls := l.sz_pos
    have hrs := r.sz_pos
    unfold CT.bod at h
    by_cases q1 : j < l.sz
    · rw [List.append_assoc, List.getElem?_append_left (by rw [CT.bod_len]; exact q1)] at h
      exact h1 hl k j c h
    · by_cases q2 : j < l.sz + r.sz
      · rw [List.getElem?_append_left (by rw [List.length_append, CT.bod_len, CT.bod_len]; exact q2), List.getElem?_append_right (by rw [CT.bod_len]; omega), CT.bod_len] at h
        have := h2 hr (k + l.sz) (j - l.sz) c h
        rwa [show k + l.sz + (j - l.sz) = k + j by omega] at this
      · rw [List.getElem?_append_right (by rw [List.length_append, CT.bod_len, CT.bod_len]; omega), List.length_append, CT.bod_len, CT.bod_len] at h
        have hj : j = l.sz + r.sz := by
          have := (List.getElem?_eq_some_iff.1 h).1
          simp at this; omega
        rw [hj, Nat.sub_self] at h
        simp only [List.getElem?_cons_zero, Option.some.injEq] at h
        subst h
        have hlf : leafC ⟨i, ((k + l.sz - 1 : Nat) : Int), ((k + l.sz + r.sz - 1 : Nat) : Int)⟩ = false := by
          unfold leafC
          rw [Bool.or_eq_false_iff, decide_eq_false_iff_not, decide_eq_false_iff_not]
          show ¬ (i : Int) = -1 ∧ ¬ (i : Int) = -2
          omega
        unfold nodC
        rw [hlf, if_neg (by decide)]
        simp only [Bool.and_eq_true, decide_eq_true_eq]
        omega
theorem getD_set {ps : List Int} {i j : Nat} {v : Int} (hi : i < ps.length) : (ps.set i v).getD j 0 = if j = i then v else ps.getD j 0 := by
  rw [List.getD_eq_getElem?_getD, List.getElem?_set]
  by_cases h : i = j
  · subst h; rw [if_pos rfl, if_pos hi, if_pos rfl]; rfl
  · rw [if_neg h, if_neg (fun e => h e.symm), List.getD_eq_getElem?_getD]
theorem bod_pars (T : CT) (hT : T.low) : ∀ (k : Nat) (ps : List Int), k + T.sz ≤ ps.length → (∀ j, k ≤ j → j < k + T.sz → ps.getD j 0 = 0) →
    ((T.bod k).foldl parStep ps).length = ps.length ∧ ∀ j, ((T.bod k).foldl parStep ps).getD j 0 = if k ≤ j ∧ j + 1 < k + T.sz then 1 else ps.getD j 0 := by
  induction T with
  | fx =>
    intro k ps _ _
    refine ⟨rfl, fun j => ?_⟩
    rw [if_neg (by show ¬ (k ≤ j ∧ j + 1 < k + 1); omega)]; rfl
  | fy =>
    intro k ps _ _
    refine ⟨rfl, fun j => ?_⟩
    rw [if_neg (by show ¬ (k ≤ j ∧ j + 1 < k + 1); omega)]; rfl
  | nd i l r h1 h2 =>
    intro k ps hlen hz
    obtain ⟨hi, hl, hr⟩ := hT
    have hls := l.sz_pos
    have hrs := r.sz_pos
    have hsz : (CT.nd i l r).sz = l.sz + r.sz + 1 := rfl
    rw [hsz] at hlen hz ⊢
    obtain ⟨a1, a2⟩ := h1 hl k ps (by omega) (fun j q1 q2 => hz j q1 (by omega))
    obtain ⟨b1, b2⟩ := h2 hr (k + l.sz) _ (by rw [a1]; omega) (fun j q1 q2 => by rw [a2, if_neg (by omega)]; exact hz j (by omega) (by omega))
    unfold CT.bod
    rw [List.foldl_append, List.foldl_append, List.foldl_cons, List.foldl_nil]
    obtain ⟨qs, hqs⟩ : ∃ qs, List.foldl parStep (List.foldl parStep ps (l.bod k)) (r.bod (k + l.sz)) = qs := ⟨_, rfl⟩
    rw [hqs] at b1 b2 ⊢
    have hlf : leafC ⟨i, ((k + l.sz - 1 : Nat) : Int), ((k + l.sz + r.sz - 1 : Nat) : Int)⟩ = false := by
      unfold leafC
      rw [Bool.or_eq_false_iff, decide_eq_false_iff_not, decide_eq_false_iff_not]
      show ¬ (i : Int) = -1 ∧ ¬ (i : Int) = -2
      omega
    rw [parStep_len]
    refine ⟨by omega, fun j => ?_⟩
    unfold parStep
    rw [hlf, if_neg (by decide)]
    unfold bumpS
    simp only [Int.toNat_natCast]
    rw [getD_set (by rw [List.length_set]; omega), getD_set (by omega), getD_set (by omega)]
    have e1 : qs.getD (k + l.sz - 1) 0 = 0 := by rw [b2, if_neg (by omega), a2, if_neg (by omega)]; exact hz _ (by omega) (by omega)
    have e2 : qs.getD (k + l.sz + r.sz - 1) 0 = 0 := by rw [b2, if_neg (by omega), a2, if_neg (by omega)]; exact hz _ (by omega) (by omega)
    rw [e1, e2]
    by_cases q1 : j = k + l.sz + r.sz - 1
    · rw [if_pos q1, if_neg (by omega), if_pos (by omega)]; rfl
    · rw [if_neg q1]
      by_cases q2 : j = k + l.sz - 1
      · rw [if_pos q2, if_pos (by omega)]; rfl
      · rw [if_neg q2, b2]
        by_cases q3 : k + l.sz ≤ j ∧ j + 1 < k + l.sz + r.sz
        · rw [if_pos q3, if_pos (by omega)]
        · rw [if_neg q3, a2]
          by_cases q4 : k ≤ j ∧ j + 1 < k + l.sz
          · rw [if_pos q4, if_pos (by omega)]
          · rw [if_neg q4, if_neg (by omega)]
/-- the tree as a value -/
def CT.tre (T : CT) : Tre := ⟨T.bod 0, ((T.sz - 1 : Nat) : Int)⟩
theorem tre_form (T : CT) (hT : T.low) (hs : T.sz ≤ 8191) : formC T.tre = true := by
  have hp := T.sz_pos
  have hl : T.tre.nodes.length = T.sz := T.bod_len 0
  unfold formC sizeC
  rw [hl]
  simp only [Bool.and_eq_true, decide_eq_true_eq]
  refine ⟨⟨⟨⟨⟨by omega, hs⟩, by show (0 : Int) ≤ ((T.sz - 1 : Nat) : Int); omega⟩, by show ((T.sz - 1 : Nat) : Int) < _; omega⟩, ?_⟩, ?_⟩
  · unfold nodsC
    refine List.all_eq_true.2 fun i hi => ?_
    have hi2 := List.mem_range.1 hi
    have hc : T.tre.nodes[i]? = some (T.tre.nodes.getD i cho0) := by rw [List.getD_eq_getElem?_getD, List.getElem?_eq_getElem hi2]; rfl
    have := bod_nodes T hT 0 i _ hc
    rwa [Nat.zero_add] at this
  · unfold parsB
    refine List.all_eq_true.2 fun i hi => ?_
    have hi2 := List.mem_range.1 hi
    rw [hl] at hi2
    have hb := (bod_pars T hT 0 (List.replicate T.sz 0) (by simp) (fun j _ _ => by rw [List.getD_eq_getElem?_getD, List.getElem?_replicate]; split <;> rfl)).2 i
    have hpt : parTo T.tre.nodes T.tre.nodes.length = (T.bod 0).foldl parStep (List.replicate T.sz 0) := by
      unfold parTo
      rw [List.take_length, hl]; rfl
    unfold parB
    rw [hpt, hb]
    by_cases q : (i : Int) = T.tre.root
    · have q' : i = T.sz - 1 := by have : (i : Int) = ((T.sz - 1 : Nat) : Int) := q; omega
      rw [if_pos q, if_neg (by omega), List.getD_eq_getElem?_getD, List.getElem?_replicate]; split <;> rfl
    · have q' : i ≠ T.sz - 1 := fun e => q (by show (i : Int) = ((T.sz - 1 : Nat) : Int); omega)
      rw [if_neg q, if_pos (by omega)]; rfl
theorem tre_right {x y : Xpr} {b0 : BitVec 16} (T : CT) (hT : T.low) : ∀ (k f : Nat) (N : List Cho) (p q : BitVec 16), T.sz ≤ f → (∀ j c, (T.bod k)[j]? = some c → N[k + j]? = some c) → rightF x y b0 N f ((k + T.sz - 1 : Nat) : Int) p q = rightT x y b0 T p q := by
  induction T with
  | fx =>
    intro k f N p q hf hN
    obtain ⟨f, rfl⟩ : ∃ g, f = g + 1 := ⟨f - 1, by have : 1 ≤ f := hf; omega⟩
    have hc := hN 0 _ rfl
    have hg : N.getD (((k + CT.fx.sz - 1 : Nat) : Int)).toNat cho0 = ⟨-1, 0, 0⟩ := by
      rw [Int.toNat_natCast, List.getD_eq_getElem?_getD, show k + CT.fx.sz - 1 = k + 0 by show k + 1 - 1 = k + 0; omega, hc]; rfl
    unfold rightF
    rw [hg]
    rfl
  | fy =>
    intro k f N p q hf hN
    obtain ⟨f, rfl⟩ : ∃ g, f = g + 1 := ⟨f - 1, by have : 1 ≤ f := hf; omega⟩
    have hc := hN 0 _ rfl
    have hg : N.getD (((k + CT.fy.sz - 1 : Nat) : Int)).toNat cho0 = ⟨-2, 0, 0⟩ := by
      rw [Int.toNat_natCast, List.getD_eq_getElem?_getD, show k + CT.fy.sz - 1 = k + 0 by show k + 1 - 1 = k + 0; omega, hc]; rfl
    unfold rightF
    rw [hg]
    rfl
  | nd i l r h1 h2 =>
    intro k f N p q hf hN
    obtain ⟨hi, hl, hr⟩ := hT
    have hls := l.sz_pos
    have hrs := r.sz_pos
    have hsz : (CT.nd i l r).sz = l.sz + r.sz + 1 := rfl
    rw [hsz] at hf ⊢
    obtain ⟨f, rfl⟩ : ∃ g, f = g + 1 := ⟨f - 1, by omega⟩
    have hc : N[k + (l.sz + r.sz)]? = some ⟨i, ((k + l.sz - 1 : Nat) : Int), ((k + l.sz + r.sz - 1 : Nat) : Int)⟩ := by
      refine hN (l.sz + r.sz) _ ?_
      show (l.bod k ++ r.bod (k + l.sz) ++ _)[l.sz + r.sz]? = _
      rw [List.getElem?_append_right (by simp [CT.bod_len])]
      simp [CT.bod_len]
    have hNl : ∀ j c, (l.bod k)[j]? = some c → N[k + j]? = some c := fun j c h => hN j c (by
      show (l.bod k ++ r.bod (k + l.sz) ++ _)[j]? = _
      have := (List.getElem?_eq_some_iff.1 h).1
      rw [List.append_assoc, List.getElem?_append_left this]; exact h)
    have hNr : ∀ j c, (r.bod (k + l.sz))[j]? = some c → N[k + l.sz + j]? = some c := fun j c h => by
      have := hN (l.sz + j) c (by
        show (l.bod k ++ r.bod (k + l.sz) ++ _)[l.sz + j]? = _
        have hjl := (List.getElem?_eq_some_iff.1 h).1
        rw [List.getElem?_append_left (by rw [List.length_append, CT.bod_len]; omega), List.getElem?_append_right (by rw [CT.bod_len]; omega), CT.bod_len]
        rw [show l.sz + j - l.sz = j by omega]; exact h)
      rwa [← Nat.add_assoc] at this
    unfold rightF
    have hg : N.getD (((k + (l.sz + r.sz + 1) - 1 : Nat) : Int)).toNat cho0 = ⟨i, ((k + l.sz - 1 : Nat) : Int), ((k + l.sz + r.sz - 1 : Nat) : Int)⟩ := by
      rw [Int.toNat_natCast, List.getD_eq_getElem?_getD, show k + (l.sz + r.sz + 1) - 1 = k + (l.sz + r.sz) by omega, hc]; rfl
    rw [hg]
    simp only
    rw [if_neg (by omega), if_neg (by omega), Int.toNat_natCast, h1 hl k f N _ q (by omega) hNl]
    have := h2 hr (k + l.sz) f N p (q ||| bitS i) (by omega) hNr
    rw [this]
    show _ = ((bitS i &&& (b0 ||| p ||| q) == 0#16) && (rightT x y b0 l (p ||| bitS i) q && rightT x y b0 r p (q ||| bitS i)))
    cases hz : (bitS i &&& (b0 ||| p ||| q) == 0#16)
    · rfl
    · rfl
theorem tre_cert {x y : Xpr} {b0 : BitVec 16} (T : CT) (hT : T.low) (hs : T.sz ≤ 8191) (hr : rightT x y b0 T 0#16 0#16 = true) : certC x y b0 T.tre = true := by
  unfold certC
  rw [tre_form T hT hs]
  have := tre_right (x := x) (y := y) (b0 := b0) T hT 0 T.sz (T.bod 0) 0#16 0#16 (Nat.le_refl _) (fun j c h => by rwa [Nat.zero_add])
  rw [Nat.zero_add] at this
  show (true && rightF x y b0 (T.bod 0) (T.bod 0).length ((T.sz - 1 : Nat) : Int) 0#16 0#16) = true
  rw [T.bod_len, this, hr]; rfl
/-- what a search returns -/
def prvS (x y : Xpr) (l : List Nat) : Tre × Int := match proveL x y l 0#16 0#16 with
  | some T => (T.tre, 0)
  | none => (⟨[], 0⟩, 12)
/-- the search decides whether the families intersect -/
theorem prove_iff {x y : Xpr} (hx : XprOk x) (hy : XprOk y) {b0 : BitVec 16} {l : List Nat} (hnd : l.Nodup) (hl : ∀ i ∈ l, i < 12 ∧ hasB b0 i = false) (hll : l.length ≤ 12) (hall : ∀ i, i < 12 → hasB (srvX x) i = true ∨ hasB (srvX y) i = true → hasB b0 i = false → i ∈ l)
    {f g : List (BitVec 16)} (hf : ∀ s, accS f s = holdX x s) (hg : ∀ s, accS g s = holdX y s) (hfs : ∀ F ∈ f, ∀ i, hasB F i = true → hasB (srvX x) i = true) (hgs : ∀ G ∈ g, ∀ i, hasB G i = true → hasB (srvX y) i = true) :
    (famsB f g b0 = true → ∃ T, proveL x y l 0#16 0#16 = some T ∧ certC x y b0 T.tre = true) ∧ (famsB f g b0 = false → proveL x y l 0#16 0#16 = none) := by
  have key : ∀ T, proveL x y l 0#16 0#16 = some T → certC x y b0 T.tre = true := fun T h => by
    have h1 := proveL_sz l _ _ T h
    have h2 : 2 ^ (l.length + 1) ≤ 2 ^ 13 := Nat.pow_le_pow_right (by decide) (by omega)
    exact tre_cert T (proveL_low l _ _ T (fun i hi => (hl i hi).1) h) (by omega) (proveL_right l _ _ T hnd (fun i hi => ⟨(hl i hi).1, (hl i hi).2, hasB_zero i, hasB_zero i⟩) h)
  have hfh : ∀ F ∈ f, holdX x F = true ∧ ∀ i, hasB F i = true → i < 12 := fun F hF => by
    refine ⟨?_, fun i hi => srvX_12 hx (hfs F hF i hi)⟩
    rw [← hf]; exact List.any_eq_true.2 ⟨F, hF, (subB_iff F F).2 fun _ h => h⟩
  have hgh : ∀ G ∈ g, holdX y G = true ∧ ∀ i, hasB G i = true → i < 12 := fun G hG => by
    refine ⟨?_, fun i hi => srvX_12 hy (hgs G hG i hi)⟩
    rw [← hg]; exact List.any_eq_true.2 ⟨G, hG, (subB_iff G G).2 fun _ h => h⟩
  constructor
  · intro hfam
    cases hp : proveL x y l 0#16 0#16 with
    | some T => exact ⟨T, rfl, key T hp⟩
    | none =>
      exfalso
      obtain ⟨A, B, h1, h2, h3⟩ := proveL_none hx hy l _ _ (fun i hi => by have := (hl i hi).1; omega) hp
      rw [← hf] at h1
      rw [← hg] at h2
      obtain ⟨F, hF, hFs⟩ := List.any_eq_true.1 h1
      obtain ⟨G, hG, hGs⟩ := List.any_eq_true.1 h2
      have hv := List.all_eq_true.1 (List.all_eq_true.1 hfam F hF) G hG
      have : viol F G b0 = true := (viol_iff _ _ _).2 fun i hi hj => by
        have f1 := (subB_iff _ _).1 hFs i hi
        have g1 := (subB_iff _ _).1 hGs i hj
        rw [hasB_allnot, Bool.and_eq_true, decide_eq_true_eq, Bool.not_eq_true'] at f1 g1
        cases hb : hasB b0 i
        · exfalso
          have := hall i f1.1 (.inl (hfs F hF i hi)) hb
          rcases h3 i (.inr (.inr this)) with h | h
          · rw [g1.2] at h; cases h
          · rw [f1.2] at h; cases h
        · rfl
      rw [this] at hv; cases hv
  · intro hfam
    cases hp : proveL x y l 0#16 0#16 with
    | none => rfl
    | some T =>
      exfalso
      have := cert_sound hx hy (key T hp) hfh hgh
      rw [hfam] at this; cases this
end Go.Proofs.YtflpkkebampmfaaDoor
