/- Texts laid together. slices.IndexFunc and ContainsFunc of ints; a node's error (expr.valid). expr.Valid, intersect.two. expr.holds, Eval; intersect.satisfied, support. The prover: add. Drafts in memory; nodes whose lists lie where nothing is being built. Plain lemmas over the model, no program. Nodes that lie in a range of blocks: they read the same in every world that agrees there. Plain lemmas over the model, no program. Nodes under way: what finished nodes read lies in a set of blocks that nobody writes. Plain lemmas over the model, no program. Layer 10, plain: the nodes of a tree, one step. No program. A handed slice of integers, as a law's frame opens it. slices.Clone of ints as a row; a list of expressions in memory. Writing the nodes of a tree: what the memory looks like on the way. Plain lemmas over the model, no program. -/
import Derived.Test.YtcojmmhclklpoaaGreatDoorGC1
import Derived.Test.YtcojmmhclklpoaaGreatDoorGC2
import Derived.Deep.AppendLies
import Derived.Deep.RegionLaw
import Derived.Lib.SliceRun
import Derived.Deep.OwnRows
namespace Go.Proofs.YtcojmmhclklpoaaGreatDoor
open Go.RowKit Go.Shelf

theorem getD_atI {l : List Int} {k : Nat} (h : k < l.length) : l.getD k 0 = l[k] := by rw [List.getD_eq_getElem?_getD, List.getElem?_eq_getElem h]; rfl
theorem at_someI {l : List (Int)} {k : Nat} (h : k < l.length) : l[k]? = some (l.getD k 0) := by rw [List.getElem?_eq_getElem h, getD_atI h]
theorem at_cellI {l : List (Int)} {k : Nat} (h : k < l.length) : (l.map (Value.int .i64))[k]? = some (.int .i64 (l.getD k 0)) := by rw [List.getElem?_map, at_someI h]; rfl
theorem any_hitI {p : Int → Bool} {l : List (Int)} {k : Nat} (h : k < l.length) (hp : p (l.getD k 0) = true) : l.any p = true :=
  List.any_eq_true.2 ⟨_, by rw [getD_atI h]; exact List.getElem_mem h, hp⟩
theorem any_noneI {p : Int → Bool} {l : List (Int)} (h : ∀ j, j < l.length → p (l.getD j 0) = false) : l.any p = false := by
  rw [Bool.eq_false_iff]
  intro hc
  obtain ⟨x, hx, hp⟩ := List.any_eq_true.1 hc
  obtain ⟨j, hj, rfl⟩ := List.mem_iff_getElem.1 hx
  rw [← getD_atI hj, h j hj] at hp; cases hp

/-- the first place of a set, or -1 -/
def idxI (p : Int → Bool) (l : List (Int)) : Int := if l.any p then (l.findIdx p : Int) else -1
theorem idxI_hit {p : Int → Bool} {l : List (Int)} {k : Nat} (hk : k < l.length) (h : ∀ j, j < k → p (l.getD j 0) = false) (hp : p (l.getD k 0) = true) : idxI p l = k := by
  unfold idxI
  rw [if_pos (any_hitI hk hp)]
  have : l.findIdx p = k := by
    rw [List.findIdx_eq hk]
    refine ⟨by rw [← getD_atI hk]; exact hp, fun j hj => ?_⟩
    have := h j hj
    rw [getD_atI (by omega)] at this
    exact this
  rw [this]
theorem idxI_none {p : Int → Bool} {l : List (Int)} (h : ∀ j, j < l.length → p (l.getD j 0) = false) : idxI p l = -1 := by
  unfold idxI; rw [any_noneI h]; rfl
theorem idxI_ge (p : Int → Bool) (l : List (Int)) : decide (0 ≤ idxI p l) = l.any p := by
  unfold idxI
  cases l.any p <;> simp

set_option maxRecDepth 100000 in
set_option maxHeartbeats 1000000 in
theorem idxFI_c (g : Nat) (lb : Array Value) (eg : ∀ args w, (callFunc g args).run Tryz.prog w = .ok (.enter g args) w) (p : Int → Bool) (l : List (Int)) (a : Option Addr) (n c : Nat) (w : World)
    (h : Rd w a n c (l.map (Value.int .i64))) (hp : PredAt Tryz.prog g lb (Value.int .i64) p w) :
    Calls Tryz.prog 125 #[.slice a n c, .func (.func g) #[] lb] w fun e w' => e = .returned (.int .i64 (idxI p l)) ∧ Below w.heap.size w w' := by
  have hn : n ≤ l.length ∧ l.length ≤ n := by have := h.len; simp at this; omega
  obtain ⟨hn1, hn2⟩ := hn
  have hm := h.max
  have hle := h.le
  unfold maxLen at hm
  have HP := Lib.hid hp
  have HR := Lib.hid h
  clear hp h
  go_enter Tryz.func125, Tryz.ntmps125
  go_wp2_with fail
  go_loopw [8] (fun i wr => ∃ k : Nat, k ≤ n ∧ i = .int .i64 k ∧ Hid (∀ j, j < k → p (l.getD j 0) = false) ∧ Below w.heap.size w wr) (fun i _ => n - (intOf i).toNat)
  case atStart => exact ⟨0, Nat.zero_le _, rfl, Lib.hid (fun j hj => by omega), Below.refl _ _⟩
  case round =>
    obtain ⟨k, hk, rfl, hno, hb⟩ := hrel
    by_cases hlt : k < n
    · obtain ⟨b, o, ha, hcell⟩ := (HR.out.below hb).at' (by omega)
      have hc := hcell k _ (at_cellI (by omega))
      subst ha
      have HF : Hid (Calls Tryz.prog g (#[.int .i64 (l.getD k 0)] ++ lb) wr fun e w' => e = .returned (.bool (p (l.getD k 0))) ∧ ∃ q, w' = wr.drewN q) := HP.out wr (l.getD k 0) hb
      cases hq : p (l.getD k 0)
      · have hno' : Hid (∀ j, j < k + 1 → p (l.getD j 0) = false) := Lib.hid (fun j hj => by
          by_cases h1 : j < k
          · exact hno.out j h1
          · obtain rfl : j = k := by omega
            exact hq)
        rw [hq] at HF
        obtain ⟨x, hx⟩ : ∃ x, l.getD k 0 = x := ⟨_, rfl⟩
        rw [hx] at hc HF
        clear hq hcell hno hx
        go_wp2_with (go_at_fn g; refine HF.out.mono ?_; rintro e w' ⟨rfl, q, rfl⟩)
        go_roundw
        case rel => exact ⟨k + 1, by omega, by go_num, hno', below_drewN hb⟩
        case measure => simp [intOf]; omega
      · have hI : Hid (idxI p l = k) := idxI_hit (by omega) hno.out hq
        rw [hq] at HF
        obtain ⟨x, hx⟩ : ∃ x, l.getD k 0 = x := ⟨_, rfl⟩
        rw [hx] at hc HF
        clear hq hcell hno hx
        go_wp2_with (go_at_fn g; refine HF.out.mono ?_; rintro e w' ⟨rfl, q, rfl⟩)
        go_ret
        exact ⟨ret_int hI.out.symm, below_drewN hb⟩
    · have hI : Hid (idxI p l = -1) := idxI_none (fun j hj => hno.out j (by omega))
      clear hno
      go_wp2_with fail
      go_ret
      exact ⟨ret_int hI.out.symm, hb⟩

set_option maxRecDepth 100000 in
set_option maxHeartbeats 1000000 in
theorem containsFI_c (g : Nat) (lb : Array Value) (eg : ∀ args w, (callFunc g args).run Tryz.prog w = .ok (.enter g args) w) (p : Int → Bool) (l : List (Int)) (a : Option Addr) (n c : Nat) (w : World)
    (h : Rd w a n c (l.map (Value.int .i64))) (hp : PredAt Tryz.prog g lb (Value.int .i64) p w) :
    Calls Tryz.prog 111 #[.slice a n c, .func (.func g) #[] lb] w fun e w' => e = .returned (.bool (l.any p)) ∧ Below w.heap.size w w' := by
  have HC := Lib.hid (idxFI_c g lb eg p l a n c w h hp)
  have hi := idxI_ge p l
  clear h hp eg
  obtain ⟨i, hi2⟩ : ∃ i, idxI p l = i := ⟨_, rfl⟩
  rw [hi2] at HC hi
  have HI := Lib.hid hi
  clear hi hi2
  go_enter Tryz.func111, Tryz.ntmps111
  go_wp2_with fail
  refine HC.out.mono ?_
  rintro e w1 ⟨rfl, hb⟩
  go_wp2_with fail
  go_ret
  exact ⟨ret_bool HI.out, hb⟩


theorem heavy_at (w : World) : PredAt Tryz.prog 109 #[] (Value.int .i64) hvyB w := fun W x hb => by
  unfold FnGives
  clear hb
  by_cases h1 : x < 1
  · have hv : hvyB x = true := by unfold hvyB; simp [h1]
    have hd : decide (x < 1) = true := decide_eq_true h1
    rw [hv]; clear hv h1
    go_enter Tryz.func109, Tryz.ntmps109
    go_wp2_with fail
    go_ret
    exact ⟨rfl, 0, rfl⟩
  · have hv : hvyB x = decide (1000 < x) := by unfold hvyB; simp [h1]
    have hd : decide (x < 1) = false := decide_eq_false h1
    rw [hv]; clear hv h1
    go_enter Tryz.func109, Tryz.ntmps109
    go_wp2_with fail
    go_ret
    exact ⟨rfl, 0, rfl⟩
theorem unknown_at (w : World) (B : Nat) (i : Nat) (hc : w.cell? ⟨B, 0, none⟩ = some (.int .i64 i)) : PredAt Tryz.prog 110 #[.pointer (some ⟨B, 0, none⟩)] (Value.int .i64) (unkB i) w := fun W x hb => by
  have hc' : W.cell? ⟨B, 0, none⟩ = some (.int .i64 i) := (hb.cell (p := ⟨B, 0, none⟩) (cell_lt hc)).trans hc
  unfold FnGives
  clear hb hc
  by_cases h1 : x < 0
  · have hv : unkB i x = true := by unfold unkB; simp [h1]
    have hd : decide (x < 0) = true := decide_eq_true h1
    rw [hv]; clear hv h1
    go_enter Tryz.func110, Tryz.ntmps110
    go_wp2_with fail
    go_ret
    exact ⟨rfl, 0, rfl⟩
  · have hv : unkB i x = decide ((i : Int) ≤ x) := by unfold unkB; simp [h1]
    have hd : decide (x < 0) = false := decide_eq_false h1
    rw [hv]; clear hv h1
    go_enter Tryz.func110, Tryz.ntmps110
    go_wp2_with fail
    go_ret
    exact ⟨rfl, 0, rfl⟩

/-- a node's error by numbers -/
def nodF (kind server need : Int) (nw nk : Nat) (hv un : Bool) : Int :=
  if (kind ≠ 1 ∧ kind ≠ 2) ∨ (kind = 1 ∧ (need ≠ 0 ∨ nw ≠ 0 ∨ nk ≠ 0)) ∨ (kind = 2 ∧ server ≠ 0) then 1
  else if (server < 0 ∨ 12 ≤ server ∨ need < 0 ∨ 100000 < need) ∨ hv = true then 7
  else if nw ≠ 0 ∧ nw ≠ nk then 6
  else if un = true then 4 else 0
theorem nodE_F (nd : Nod) (i : Nat) : nodE nd i = nodF nd.kind nd.server nd.need nd.weights.length nd.kids.length (nd.weights.any hvyB) (nd.kids.any (unkB i)) := by
  have e : ∀ l : List Int, (l ≠ []) = (l.length ≠ 0) := fun l => by cases l <;> simp
  unfold nodE nodF
  simp only [e]

set_option maxRecDepth 100000 in
set_option maxHeartbeats 2000000 in
theorem xvalid_c (nd : Nod) (i : Nat) (aw : Option Addr) (nw cw : Nat) (ak : Option Addr) (nk ck : Nat) (w : World) (hw : Rd w aw nw cw (nd.weights.map (Value.int .i64))) (hk : Rd w ak nk ck (nd.kids.map (Value.int .i64))) :
    Calls Tryz.prog 80 #[.agg #[.int .i64 nd.kind, .int .i64 nd.server, .int .i64 nd.need, .slice aw nw cw, .slice ak nk ck], .int .i64 i] w fun e w' => e = .returned (.int .i64 (nodE nd i)) ∧ Below w.heap.size w w' := by
  obtain ⟨W2, hW2⟩ : ∃ W2, W2 = (w.alloc (Obj.cells #[Value.int IntKind.i64 nd.kind, Value.int IntKind.i64 nd.server, Value.int IntKind.i64 nd.need, Value.slice aw nw cw, Value.slice ak nk ck] 71)).alloc (Obj.cells #[Value.int IntKind.i64 i] 3) := ⟨_, rfl⟩
  have hb2 : Below w.heap.size w W2 := by rw [hW2]; exact ((Below.refl _ w).alloc (Nat.le_refl _) _).alloc (by simp) _
  have hcell : W2.cell? ⟨w.heap.size + 1, 0, none⟩ = some (.int .i64 i) := by
    rw [hW2]; exact cell_new' _ _ _ 0 _ rfl (by simp)
  have H1 : Hid (∀ y, Below W2.heap.size W2 y → Calls Tryz.prog 111 #[.slice aw nw cw, .func (.func 109) #[] #[]] y fun e w' => e = .returned (.bool (nd.weights.any hvyB)) ∧ Below y.heap.size y w') :=
    Lib.hid (fun y hb => containsFI_c 109 #[] (enters_of Tryz.func109 (by kernel_rfl) rfl) hvyB nd.weights aw nw cw y (hw.below (Below.next hb2 hb)) (heavy_at y))
  have H2 : Hid (∀ y, Below W2.heap.size W2 y → Calls Tryz.prog 111 #[.slice ak nk ck, .func (.func 110) #[] #[.pointer (some ⟨w.heap.size + 1, 0, none⟩)]] y fun e w' => e = .returned (.bool (nd.kids.any (unkB i))) ∧ Below y.heap.size y w') :=
    Lib.hid (fun y hb => containsFI_c 110 #[.pointer (some ⟨w.heap.size + 1, 0, none⟩)] (enters_of Tryz.func110 (by kernel_rfl) rfl) (unkB i) nd.kids ak nk ck y (hk.below (Below.next hb2 hb)) (unknown_at y (w.heap.size + 1) i ((hb.cell (p := ⟨w.heap.size + 1, 0, none⟩) (cell_lt hcell)).trans hcell)))
  have HC : Hid (∀ y, Below W2.heap.size W2 y → y.cell? ⟨w.heap.size, 3, none⟩ = some (.slice aw nw cw) ∧ y.cell? ⟨w.heap.size, 4, none⟩ = some (.slice ak nk ck)) := Lib.hid (fun y hb => by
    have q3 : W2.cell? ⟨w.heap.size, 3, none⟩ = some (.slice aw nw cw) := by rw [hW2]; exact cell_of_row _ _ 3 _ _ _ (heap_alloc_at (heap_alloc_new _ _) _)
    have q4 : W2.cell? ⟨w.heap.size, 4, none⟩ = some (.slice ak nk ck) := by rw [hW2]; exact cell_of_row _ _ 4 _ _ _ (heap_alloc_at (heap_alloc_new _ _) _)
    exact ⟨cell_keep hb q3, cell_keep hb q4⟩)
  have hlw : nd.weights.length = nw := by have := hw.len; simp at this; omega
  have hlk : nd.kids.length = nk := by have := hk.len; simp at this; omega
  have hE := nodE_F nd i
  rw [hlw, hlk] at hE
  rw [hE]
  have HB2 := Lib.hid hb2
  obtain ⟨hv, hhv⟩ : ∃ hv, nd.weights.any hvyB = hv := ⟨_, rfl⟩
  obtain ⟨un, hun⟩ : ∃ un, nd.kids.any (unkB i) = un := ⟨_, rfl⟩
  rw [hhv] at H1 ⊢
  rw [hun] at H2 ⊢
  obtain ⟨kind, server, need, ws, ks⟩ := nd
  simp only at hW2 H1 H2 ⊢
  clear hw hk hlw hlk hE hhv hun hcell hb2 ws ks
  by_cases k1 : kind = 1
  · subst k1
    by_cases n0 : need = 0
    · subst n0
      by_cases w0 : nw = 0
      · subst w0
        by_cases c0 : nk = 0
        · subst c0
          by_cases t0 : server < 0
          · have d0 : decide (server < 0) = true := decide_eq_true t0
            have hV : Hid (nodF 1 server 0 0 0 hv un = 7) := by show _ = _; unfold nodF; rw [if_neg (by omega), if_pos (by omega)]
            clear t0
            go_enter Tryz.func80, Tryz.ntmps80
            go_wp2_with fail
            go_ret
            exact ⟨ret_int hV.out.symm, by rw [← hW2]; exact HB2.out⟩
          have d0 : decide (server < 0) = false := decide_eq_false t0
          by_cases t1 : (12 : Int) ≤ server
          · have d1 : decide ((12 : Int) ≤ server) = true := decide_eq_true t1
            have hV : Hid (nodF 1 server 0 0 0 hv un = 7) := by show _ = _; unfold nodF; rw [if_neg (by omega), if_pos (by omega)]
            clear t1
            go_enter Tryz.func80, Tryz.ntmps80
            go_wp2_with fail
            go_ret
            exact ⟨ret_int hV.out.symm, by rw [← hW2]; exact HB2.out⟩
          have d1 : decide ((12 : Int) ≤ server) = false := decide_eq_false t1
          cases hv with
          | true =>
            have hV : Hid (nodF 1 server 0 0 0 true un = 7) := by show _ = _; unfold nodF; rw [if_neg (by omega), if_pos (.inr rfl)]
            clear t0 t1
            go_enter Tryz.func80, Tryz.ntmps80
            go_wp2_with fail
            rw [← hW2]; with_reducible refine (H1.out _ (Below.refl _ _)).mono ?_; rintro e w1 ⟨rfl, hb1⟩; obtain ⟨q3, q4⟩ := HC.out w1 hb1; have K1 := Lib.hid hb1; clear hb1
            go_wp2_with fail
            go_ret
            exact ⟨ret_int hV.out.symm, Below.next HB2.out K1.out⟩
          | false =>
            cases un with
            | true =>
              have hV : Hid (nodF 1 server 0 0 0 false true = 4) := by show _ = _; unfold nodF; rw [if_neg (by omega), if_neg (by simp; omega), if_neg (by omega), if_pos rfl]
              clear t0 t1
              go_enter Tryz.func80, Tryz.ntmps80
              go_wp2_with fail
              rw [← hW2]; with_reducible refine (H1.out _ (Below.refl _ _)).mono ?_; rintro e w1 ⟨rfl, hb1⟩; obtain ⟨q3, q4⟩ := HC.out w1 hb1; have K1 := Lib.hid hb1; clear hb1
              go_wp2_with fail
              with_reducible refine (H2.out w1 K1.out).mono ?_; rintro e w5 ⟨rfl, hb5⟩
              go_wp2_with fail
              go_ret
              exact ⟨ret_int hV.out.symm, Below.next HB2.out (Below.next K1.out hb5)⟩
            | false =>
              have hV : Hid (nodF 1 server 0 0 0 false false = 0) := by show _ = _; unfold nodF; rw [if_neg (by omega), if_neg (by simp; omega), if_neg (by omega), if_neg (by decide)]
              clear t0 t1
              go_enter Tryz.func80, Tryz.ntmps80
              go_wp2_with fail
              rw [← hW2]; with_reducible refine (H1.out _ (Below.refl _ _)).mono ?_; rintro e w1 ⟨rfl, hb1⟩; obtain ⟨q3, q4⟩ := HC.out w1 hb1; have K1 := Lib.hid hb1; clear hb1
              go_wp2_with fail
              with_reducible refine (H2.out w1 K1.out).mono ?_; rintro e w5 ⟨rfl, hb5⟩
              go_wp2_with fail
              go_ret
              exact ⟨ret_int hV.out.symm, Below.next HB2.out (Below.next K1.out hb5)⟩
        · have hd : decide (0 < nk) = true := decide_eq_true (by omega)
          have hV : Hid (nodF 1 server 0 0 nk hv un = 1) := by show _ = _; unfold nodF; rw [if_pos (by omega)]
          clear c0
          go_enter Tryz.func80, Tryz.ntmps80
          go_wp2_with fail
          go_ret
          exact ⟨ret_int hV.out.symm, by rw [← hW2]; exact HB2.out⟩
      · have hd : decide (0 < nw) = true := decide_eq_true (by omega)
        have hV : Hid (nodF 1 server 0 nw nk hv un = 1) := by show _ = _; unfold nodF; rw [if_pos (by omega)]
        clear w0
        go_enter Tryz.func80, Tryz.ntmps80
        go_wp2_with fail
        go_ret
        exact ⟨ret_int hV.out.symm, by rw [← hW2]; exact HB2.out⟩
    · have hd : (need != 0) = true := by simpa using n0
      have hV : Hid (nodF 1 server need nw nk hv un = 1) := by show _ = _; unfold nodF; rw [if_pos (by omega)]
      clear n0
      go_enter Tryz.func80, Tryz.ntmps80
      go_wp2_with fail
      go_ret
      exact ⟨ret_int hV.out.symm, by rw [← hW2]; exact HB2.out⟩
  · have hk1 : (kind == 1) = false := by simpa using k1
    by_cases k2 : kind = 2
    · subst k2
      by_cases s0 : server = 0
      · subst s0
        by_cases t0 : need < 0
        · have d0 : decide (need < 0) = true := decide_eq_true t0
          have hV : Hid (nodF 2 0 need nw nk hv un = 7) := by show _ = _; unfold nodF; rw [if_neg (by omega), if_pos (by omega)]
          clear t0
          go_enter Tryz.func80, Tryz.ntmps80
          go_wp2_with fail
          go_ret
          exact ⟨ret_int hV.out.symm, by rw [← hW2]; exact HB2.out⟩
        have d0 : decide (need < 0) = false := decide_eq_false t0
        by_cases t1 : (100000 : Int) < need
        · have d1 : decide ((100000 : Int) < need) = true := decide_eq_true t1
          have hV : Hid (nodF 2 0 need nw nk hv un = 7) := by show _ = _; unfold nodF; rw [if_neg (by omega), if_pos (by omega)]
          clear t1
          go_enter Tryz.func80, Tryz.ntmps80
          go_wp2_with fail
          go_ret
          exact ⟨ret_int hV.out.symm, by rw [← hW2]; exact HB2.out⟩
        have d1 : decide ((100000 : Int) < need) = false := decide_eq_false t1
        cases hv with
        | true =>
          have hV : Hid (nodF 2 0 need nw nk true un = 7) := by show _ = _; unfold nodF; rw [if_neg (by omega), if_pos (.inr rfl)]
          clear t0 t1
          go_enter Tryz.func80, Tryz.ntmps80
          go_wp2_with fail
          rw [← hW2]; with_reducible refine (H1.out _ (Below.refl _ _)).mono ?_; rintro e w1 ⟨rfl, hb1⟩; obtain ⟨q3, q4⟩ := HC.out w1 hb1; have K1 := Lib.hid hb1; clear hb1
          go_wp2_with fail
          go_ret
          exact ⟨ret_int hV.out.symm, Below.next HB2.out K1.out⟩
        | false =>
          by_cases w0 : nw = 0
          · subst w0
            cases un with
            | true =>
              have hV : Hid (nodF 2 0 need 0 nk false true = 4) := by show _ = _; unfold nodF; rw [if_neg (by omega), if_neg (by simp; omega), if_neg (by omega), if_pos rfl]
              clear t0 t1
              go_enter Tryz.func80, Tryz.ntmps80
              go_wp2_with fail
              rw [← hW2]; with_reducible refine (H1.out _ (Below.refl _ _)).mono ?_; rintro e w1 ⟨rfl, hb1⟩; obtain ⟨q3, q4⟩ := HC.out w1 hb1; have K1 := Lib.hid hb1; clear hb1
              go_wp2_with fail
              with_reducible refine (H2.out w1 K1.out).mono ?_; rintro e w5 ⟨rfl, hb5⟩
              go_wp2_with fail
              go_ret
              exact ⟨ret_int hV.out.symm, Below.next HB2.out (Below.next K1.out hb5)⟩
            | false =>
              have hV : Hid (nodF 2 0 need 0 nk false false = 0) := by show _ = _; unfold nodF; rw [if_neg (by omega), if_neg (by simp; omega), if_neg (by omega), if_neg (by decide)]
              clear t0 t1
              go_enter Tryz.func80, Tryz.ntmps80
              go_wp2_with fail
              rw [← hW2]; with_reducible refine (H1.out _ (Below.refl _ _)).mono ?_; rintro e w1 ⟨rfl, hb1⟩; obtain ⟨q3, q4⟩ := HC.out w1 hb1; have K1 := Lib.hid hb1; clear hb1
              go_wp2_with fail
              with_reducible refine (H2.out w1 K1.out).mono ?_; rintro e w5 ⟨rfl, hb5⟩
              go_wp2_with fail
              go_ret
              exact ⟨ret_int hV.out.symm, Below.next HB2.out (Below.next K1.out hb5)⟩
          · have dw : decide (0 < nw) = true := decide_eq_true (by omega)
            by_cases e0 : nw = nk
            · subst e0
              cases un with
              | true =>
                have hV : Hid (nodF 2 0 need nw nw false true = 4) := by show _ = _; unfold nodF; rw [if_neg (by omega), if_neg (by simp; omega), if_neg (by omega), if_pos rfl]
                clear t0 t1 w0
                go_enter Tryz.func80, Tryz.ntmps80
                go_wp2_with fail
                rw [← hW2]; with_reducible refine (H1.out _ (Below.refl _ _)).mono ?_; rintro e w1 ⟨rfl, hb1⟩; obtain ⟨q3, q4⟩ := HC.out w1 hb1; have K1 := Lib.hid hb1; clear hb1
                go_wp2_with fail
                with_reducible refine (H2.out w1 K1.out).mono ?_; rintro e w5 ⟨rfl, hb5⟩
                go_wp2_with fail
                go_ret
                exact ⟨ret_int hV.out.symm, Below.next HB2.out (Below.next K1.out hb5)⟩
              | false =>
                have hV : Hid (nodF 2 0 need nw nw false false = 0) := by show _ = _; unfold nodF; rw [if_neg (by omega), if_neg (by simp; omega), if_neg (by omega), if_neg (by decide)]
                clear t0 t1 w0
                go_enter Tryz.func80, Tryz.ntmps80
                go_wp2_with fail
                rw [← hW2]; with_reducible refine (H1.out _ (Below.refl _ _)).mono ?_; rintro e w1 ⟨rfl, hb1⟩; obtain ⟨q3, q4⟩ := HC.out w1 hb1; have K1 := Lib.hid hb1; clear hb1
                go_wp2_with fail
                with_reducible refine (H2.out w1 K1.out).mono ?_; rintro e w5 ⟨rfl, hb5⟩
                go_wp2_with fail
                go_ret
                exact ⟨ret_int hV.out.symm, Below.next HB2.out (Below.next K1.out hb5)⟩
            · have dn : ((nw : Int) != (nk : Int)) = true := by rw [bne_iff_ne]; omega
              have hV : Hid (nodF 2 0 need nw nk false un = 6) := by show _ = _; unfold nodF; rw [if_neg (by omega), if_neg (by simp; omega), if_pos (by omega)]
              clear t0 t1 w0 e0
              go_enter Tryz.func80, Tryz.ntmps80
              go_wp2_with fail
              rw [← hW2]; with_reducible refine (H1.out _ (Below.refl _ _)).mono ?_; rintro e w1 ⟨rfl, hb1⟩; obtain ⟨q3, q4⟩ := HC.out w1 hb1; have K1 := Lib.hid hb1; clear hb1
              go_wp2_with fail
              go_ret
              exact ⟨ret_int hV.out.symm, Below.next HB2.out K1.out⟩
      · have hd : (server != 0) = true := by simpa using s0
        have hV : Hid (nodF 2 server need nw nk hv un = 1) := by show _ = _; unfold nodF; rw [if_pos (by omega)]
        clear s0
        go_enter Tryz.func80, Tryz.ntmps80
        go_wp2_with fail
        go_ret
        exact ⟨ret_int hV.out.symm, by rw [← hW2]; exact HB2.out⟩
    · have hk2 : (kind == 2) = false := by simpa using k2
      have hV : Hid (nodF kind server need nw nk hv un = 1) := by show _ = _; unfold nodF; rw [if_pos (by omega)]
      clear k1 k2
      go_enter Tryz.func80, Tryz.ntmps80
      go_wp2_with fail
      go_ret
      exact ⟨ret_int hV.out.symm, by rw [← hW2]; exact HB2.out⟩
end Go.Proofs.YtcojmmhclklpoaaGreatDoor
namespace Go.Proofs.YtcojmmhclklpoaaGreatDoor
open Go.RowKit Go.Shelf

theorem xprE_hit {x : Xpr} {k : Nat} {nd : Nod} (h0 : x.nodes ≠ []) (h60 : ¬ 60 < x.nodes.length) (h : x.nodes[k]? = some nd) (hd : nodsE x.nodes 0 = nodsE (x.nodes.drop k) k) (he : nodE nd k ≠ 0) : xprE x = nodE nd k := by
  have : nodsE x.nodes 0 = nodE nd k := by rw [hd, nodsE_drop h, if_pos he]
  unfold xprE
  rw [if_neg h0, if_neg h60, this, if_pos he]
theorem xprE_next {x : Xpr} {k : Nat} {nd : Nod} (h : x.nodes[k]? = some nd) (hd : nodsE x.nodes 0 = nodsE (x.nodes.drop k) k) (he : nodE nd k = 0) : nodsE x.nodes 0 = nodsE (x.nodes.drop (k + 1)) (k + 1) := by
  rw [hd, nodsE_drop h, if_neg (by simpa using he)]
theorem xprE_end {x : Xpr} {n : Nat} (h0 : x.nodes ≠ []) (h60 : ¬ 60 < x.nodes.length) (hn : x.nodes.length = n) (hd : nodsE x.nodes 0 = nodsE (x.nodes.drop n) n) : xprE x = if x.root < 0 ∨ (n : Int) ≤ x.root then 4 else 0 := by
  have : nodsE x.nodes 0 = 0 := by rw [hd, ← hn, List.drop_length]; rfl
  unfold xprE
  rw [if_neg h0, if_neg h60, this, if_neg (by simp), hn]

set_option maxRecDepth 100000 in
set_option maxHeartbeats 2000000 in
theorem xpr_c (x : Xpr) (a : Option Addr) (n c : Nat) (w : World) (h : XM w a n c x.nodes) :
    Calls Tryz.prog 40 #[.agg #[.slice a n c, .int .i64 x.root]] w fun e w' => e = .returned (.int .i64 (xprE x)) ∧ Below w.heap.size w w' := by
  obtain ⟨W2, hW2⟩ : ∃ W2, W2 = w.alloc (Obj.cells #[.slice a n c, .int .i64 x.root] 32) := ⟨_, rfl⟩
  have hb2 : Below w.heap.size w W2 := by rw [hW2]; exact (Below.refl _ w).alloc (Nat.le_refl _) _
  have HX := Lib.hid (h.below hb2)
  have HN := Lib.hid h.len
  have hle := h.le
  have hm := h.max
  unfold maxLen at hm
  have HB2 := Lib.hid hb2
  clear h hb2
  by_cases hn0 : n = 0
  · subst hn0
    have hV : Hid (xprE x = 9) := by
      show _ = _; unfold xprE; rw [if_pos (List.eq_nil_of_length_eq_zero HN.out)]
    go_enter Tryz.func40, Tryz.ntmps40
    go_wp2_with fail
    go_ret
    exact ⟨ret_int hV.out.symm, by rw [← hW2]; exact HB2.out⟩
  have hne : ((n : Int) == 0) = false := by rw [beq_eq_false_iff_ne]; omega
  have H0 : Hid (x.nodes ≠ []) := Lib.hid (fun e => by have := HN.out; rw [e] at this; simp at this; omega)
  by_cases h60 : 60 < n
  · have hd : decide ((60 : Int) < (n : Int)) = true := decide_eq_true (by omega)
    have hV : Hid (xprE x = 3) := by
      show _ = _; unfold xprE; rw [if_neg H0.out, if_pos (by have := HN.out; omega)]
    clear hn0 h60
    go_enter Tryz.func40, Tryz.ntmps40
    go_wp2_with fail
    go_ret
    exact ⟨ret_int hV.out.symm, by rw [← hW2]; exact HB2.out⟩
  have hd : decide ((60 : Int) < (n : Int)) = false := decide_eq_false (by omega)
  have H60 : Hid (¬ 60 < x.nodes.length) := by show ¬ _; have := HN.out; omega
  go_enter Tryz.func40, Tryz.ntmps40
  go_wp2_with fail
  rw [← hW2]
  go_loopw [17] (fun i wr => ∃ k : Nat, k ≤ n ∧ i = .int .i64 k ∧ Hid (nodsE x.nodes 0 = nodsE (x.nodes.drop k) k) ∧ Below W2.heap.size W2 wr) (fun i _ => n - (intOf i).toNat)
  case atStart => exact ⟨0, Nat.zero_le _, rfl, Lib.hid (by simp), Below.refl _ _⟩
  case round =>
    obtain ⟨k, hk, rfl, hno, hb⟩ := hrel
    by_cases hlt : k < n
    · obtain ⟨nd, hnd⟩ : ∃ nd, x.nodes[k]? = some nd := ⟨_, List.getElem?_eq_getElem (by have := HN.out; omega)⟩
      obtain ⟨b, o, ha, hat⟩ := (HX.out.below hb).at' (by omega)
      have hM := hat k nd hnd
      obtain ⟨a3, n3, c3, m3, r3⟩ := hM.ws
      obtain ⟨a4, n4, c4, m4, r4⟩ := hM.ks
      have m0 := hM.c0
      have m1 := hM.c1
      have m2 := hM.c2
      subst ha
      have HV : Hid (∀ y, Below wr.heap.size wr y → Calls Tryz.prog 80 #[.agg #[.int .i64 nd.kind, .int .i64 nd.server, .int .i64 nd.need, .slice a3 n3 c3, .slice a4 n4 c4], .int .i64 k] y fun e w' => e = .returned (.int .i64 (nodE nd k)) ∧ Below y.heap.size y w') :=
        Lib.hid (fun y hy => xvalid_c nd k a3 n3 c3 a4 n4 c4 y (r3.below hy) (r4.below hy))
      have HHit : Hid (nodE nd k ≠ 0 → xprE x = nodE nd k) := Lib.hid (fun he => xprE_hit H0.out H60.out hnd hno.out he)
      have HNxt : Hid (nodE nd k = 0 → nodsE x.nodes 0 = nodsE (x.nodes.drop (k + 1)) (k + 1)) := Lib.hid (fun he => xprE_next hnd hno.out he)
      obtain ⟨kind, server, need, ws, ks⟩ := nd
      obtain ⟨E, hE⟩ : ∃ E, nodE ⟨kind, server, need, ws, ks⟩ k = E := ⟨_, rfl⟩
      rw [hE] at HV HHit HNxt
      simp only at m0 m1 m2 HV
      clear hM r3 r4 hat hnd hno hE
      by_cases he : E = 0
      · subst he
        have hN := HNxt.out rfl
        have HN2 := Lib.hid hN
        clear hN HHit HNxt
        have hba : Below wr.heap.size wr (wr.alloc (Obj.cells #[.int .i64 kind, .int .i64 server, .int .i64 need, .slice a3 n3 c3, .slice a4 n4 c4] 71)) := (Below.refl _ wr).alloc (Nat.le_refl _) _
        go_wp2_with fail
        refine (HV.out _ hba).mono ?_
        rintro e w5 ⟨rfl, hb5⟩
        have hb6 := Below.next hb (Below.next hba hb5)
        go_wp2_with fail
        go_roundw
        case rel => exact ⟨k + 1, by omega, by go_num, HN2, hb6⟩
        case measure => simp [intOf]; omega
      · have hV := HHit.out he
        have HV2 := Lib.hid hV
        have hE : (E != 0) = true := by simpa using he
        clear hV HHit HNxt he
        have hba : Below wr.heap.size wr (wr.alloc (Obj.cells #[.int .i64 kind, .int .i64 server, .int .i64 need, .slice a3 n3 c3, .slice a4 n4 c4] 71)) := (Below.refl _ wr).alloc (Nat.le_refl _) _
        go_wp2_with fail
        refine (HV.out _ hba).mono ?_
        rintro e w5 ⟨rfl, hb5⟩
        have hb6 := Below.next hb (Below.next hba hb5)
        go_wp2_with fail
        go_ret
        exact ⟨ret_int HV2.out.symm, Below.next HB2.out hb6⟩
    · obtain rfl : k = n := by omega
      have hV := xprE_end H0.out H60.out HN.out hno.out
      have hr : W2.cell? ⟨w.heap.size, 0, none⟩ = some (.slice a k c) ∧ W2.cell? ⟨w.heap.size, 1, none⟩ = some (.int .i64 x.root) := by
        rw [hW2]; exact ⟨cell_of_row _ _ 0 _ _ _ (heap_alloc_new _ _), cell_of_row _ _ 1 _ _ _ (heap_alloc_new _ _)⟩
      have q0 := cell_keep hb hr.1
      have q1 := cell_keep hb hr.2
      clear hno hr hW2
      obtain ⟨root, hroot⟩ : ∃ r, x.root = r := ⟨_, rfl⟩
      rw [hroot] at hV q1
      by_cases h1 : root < 0
      · have d1 : decide (root < 0) = true := decide_eq_true h1
        rw [if_pos (.inl h1)] at hV
        have HV := Lib.hid hV
        clear hV h1 hroot
        go_wp2_with fail
        go_ret
        exact ⟨ret_int HV.out.symm, Below.next HB2.out hb⟩
      · have d1 : decide (root < 0) = false := decide_eq_false h1
        by_cases h2 : (k : Int) ≤ root
        · have d2 : decide ((k : Int) ≤ root) = true := decide_eq_true h2
          rw [if_pos (.inr h2)] at hV
          have HV := Lib.hid hV
          clear hV h1 hroot h2
          go_wp2_with fail
          go_ret
          exact ⟨ret_int HV.out.symm, Below.next HB2.out hb⟩
        · have d2 : decide ((k : Int) ≤ root) = false := decide_eq_false h2
          rw [if_neg (by omega)] at hV
          have HV := Lib.hid hV
          clear hV h1 hroot h2
          go_wp2_with fail
          go_ret
          exact ⟨ret_int HV.out.symm, Below.next HB2.out hb⟩

/-- two struct arguments of two cells, laid -/
theorem args22 (w : World) (u0 u1 v0 v1 : Value) (t t' : TypeId) {W : World} (hW : W = (w.alloc (.cells #[u0, u1] t)).alloc (.cells #[v0, v1] t')) :
    Below w.heap.size w W ∧ ∀ y, Below W.heap.size W y → (y.cell? ⟨w.heap.size, 0, none⟩ = some u0 ∧ y.cell? ⟨w.heap.size, 1, none⟩ = some u1) ∧ y.cell? ⟨w.heap.size + 1, 0, none⟩ = some v0 ∧ y.cell? ⟨w.heap.size + 1, 1, none⟩ = some v1 := by
  refine ⟨by rw [hW]; exact ((Below.refl _ w).alloc (Nat.le_refl _) _).alloc (by simp) _, fun y hy => ?_⟩
  have g0 : W.heap[w.heap.size]? = some (.cells #[u0, u1] t (0, 0)) := by rw [hW]; exact heap_alloc_at (heap_alloc_new _ _) _
  have g1 : W.heap[w.heap.size + 1]? = some (.cells #[v0, v1] t' (0, 0)) := by
    rw [hW]
    have := heap_alloc_new (w.alloc (.cells #[u0, u1] t)) (.cells #[v0, v1] t')
    rwa [World.size_alloc] at this
  have e0 := heap_below hy g0
  have e1 := heap_below hy g1
  exact ⟨⟨cell_of_row _ _ 0 _ _ _ e0, cell_of_row _ _ 1 _ _ _ e0⟩, cell_of_row _ _ 0 _ _ _ e1, cell_of_row _ _ 1 _ _ _ e1⟩

end Go.Proofs.YtcojmmhclklpoaaGreatDoor
namespace Go.Proofs.YtcojmmhclklpoaaGreatDoor
open Go.RowKit Go.Shelf

set_option maxRecDepth 100000 in
set_option maxHeartbeats 1000000 in
theorem wgt_c (nd : Nod) (k : Nat) (aw : Option Addr) (nw cw : Nat) (ak : Option Addr) (nk ck : Nat) (w : World) (hw : Rd w aw nw cw (nd.weights.map (Value.int .i64))) (hk : nd.weights = [] ∨ k < nd.weights.length) :
    Calls Tryz.prog 50 #[.agg #[.int .i64 nd.kind, .int .i64 nd.server, .int .i64 nd.need, .slice aw nw cw, .slice ak nk ck], .int .i64 k] w fun e w' => e = .returned (.int .i64 (wgtN nd k)) ∧ Below w.heap.size w w' := by
  have hlw : nd.weights.length = nw := by have := hw.len; simp at this; omega
  have hle := hw.le
  have hm := hw.max
  unfold maxLen at hm
  obtain ⟨W2, hW2⟩ : ∃ W2, W2 = w.alloc (Obj.cells #[.int .i64 nd.kind, .int .i64 nd.server, .int .i64 nd.need, .slice aw nw cw, .slice ak nk ck] 71) := ⟨_, rfl⟩
  have hb2 : Below w.heap.size w W2 := by rw [hW2]; exact (Below.refl _ w).alloc (Nat.le_refl _) _
  have HB2 := Lib.hid hb2
  by_cases h0 : nw = 0
  · have hn : nd.weights = [] := List.eq_nil_of_length_eq_zero (by omega)
    have hV : Hid (wgtN nd k = 1) := by show _ = _; unfold wgtN; rw [if_pos hn]
    subst h0
    clear hn hlw hk hw hb2
    go_enter Tryz.func50, Tryz.ntmps50
    go_wp2_with fail
    go_ret
    exact ⟨ret_int hV.out.symm, by rw [← hW2]; exact HB2.out⟩
  · have hne : ((nw : Int) == 0) = false := by rw [beq_eq_false_iff_ne]; omega
    have hkn : k < nw := by rcases hk with h | h
                            · rw [h] at hlw; simp at hlw; omega
                            · omega
    obtain ⟨z, hz⟩ : ∃ z, nd.weights[k]? = some z := ⟨_, List.getElem?_eq_getElem (by omega)⟩
    have hV : Hid (wgtN nd k = z) := by
      show _ = _; unfold wgtN
      rw [if_neg (fun e => by rw [e] at hlw; simp at hlw; omega), List.getD_eq_getElem?_getD, hz]; rfl
    obtain ⟨b, o, ha, hcell⟩ := (hw.below hb2).at' (by omega)
    have hc := hcell k (.int .i64 z) (by rw [List.getElem?_map, hz]; rfl)
    subst ha
    clear hlw hk hw hb2 hcell hz h0
    rw [hW2] at hc
    go_enter Tryz.func50, Tryz.ntmps50
    go_wp2_with fail
    go_ret
    exact ⟨ret_int hV.out.symm, by rw [← hW2]; exact HB2.out⟩

/-- expressions with few kids -/
def XprFew (x : Xpr) : Prop := ∀ (k : Nat) nd, x.nodes[k]? = some nd → nd.kids.length ≤ 1000
/-- sixty places, the first ones filled -/
def isA (l : List Bool) : Array Value := ((l ++ List.replicate (60 - l.length) false).map Value.bool).toArray
theorem isA_at {l : List Bool} (h : l.length ≤ 60) {i : Nat} (hi : i < 60) : (isA l)[i]? = some (.bool (l.getD i false)) := by
  unfold isA
  rw [List.getElem?_toArray, List.getElem?_map, List.getD_eq_getElem?_getD]
  by_cases h1 : i < l.length
  · rw [List.getElem?_append_left h1, List.getElem?_eq_getElem h1]; rfl
  · rw [List.getElem?_append_right (by omega), List.getElem?_replicate, if_pos (by omega), List.getElem?_eq_none (by omega)]; rfl
theorem isA_set {l : List Bool} (h : l.length < 60) (v : Bool) : (isA l).setIfInBounds l.length (.bool v) = isA (l ++ [v]) := by
  unfold isA
  rw [List.setIfInBounds_toArray]
  congr 1
  have e : 60 - l.length = (60 - (l ++ [v]).length) + 1 := by simp; omega
  rw [e, List.replicate_succ, List.map_append, List.map_append, List.map_append, List.map_cons, List.set_append_right _ _ (by simp)]
  simp

theorem frozen_row {w : World} {B : Nat} {cs : Array Value} {t : TypeId} (h : w.heap[B]? = some (.cells cs t (0, 0))) (i : Nat) : w.frozen? ⟨B, i, none⟩ = false := by simp [World.frozen?, h]

set_option maxRecDepth 100000 in
set_option maxHeartbeats 4000000 in
theorem holds_c (x : Xpr) (hx : XprOk x) (hf : XprFew x) (s : BitVec 16) (a : Option Addr) (n c : Nat) (w : World) (h : XM w a n c x.nodes) :
    Calls Tryz.prog 43 #[.agg #[.slice a n c, .int .i64 x.root], .int .u16 (U s)] w fun e w' => e = .returned (.bool (holdX x s)) ∧ Below w.heap.size w w' := by
  obtain ⟨r, hr⟩ := Int.eq_ofNat_of_zero_le hx.root.1
  have hrn : r < n := by have h1 := hx.root.2; have h2 := h.len; omega
  have hle := h.le
  have hm := h.max
  have hn60 : n ≤ 60 := by have h1 := hx.most; have h2 := h.len; omega
  unfold maxLen at hm
  have hwr : wrap64 ((r : Int) + 1) = (r : Int) + 1 := by unfold wrap64; omega
  have HV := Lib.hid (holdX_root (s := s) hr (by have h2 := h.len; omega))
  rw [hr]
  have HX := Lib.hid h
  have HO := Lib.hid hx
  have HF := Lib.hid hf
  have HN := Lib.hid h.len
  clear h hx hf hr
  obtain ⟨b, o, rfl, _⟩ := HX.out.at' (by omega)
  go_enter Tryz.func43, Tryz.ntmps43
  go_wp2_with fail
  generalize hWS : (w.alloc _).alloc _ = WS
  have hS : WS.heap.size = w.heap.size + 2 := by rw [← hWS]; simp
  have hbS : Below w.heap.size w WS := by rw [← hWS]; exact ((Below.refl _ w).alloc (Nat.le_refl _) _).alloc (by simp) _
  have g1 : WS.heap[w.heap.size + 1]? = some (.cells (isA []) 118 (0, 0)) := by
    rw [← hWS]
    have := heap_alloc_new (w.alloc (Obj.cells #[Value.slice (some { block := b, off := o }) n c, Value.int IntKind.i64 r] 32)) (.cells (isA []) 118)
    rw [World.size_alloc] at this; exact this
  have g0 : WS.heap[w.heap.size]? = some (.cells #[Value.slice (some { block := b, off := o }) n c, Value.int IntKind.i64 r] 32 (0, 0)) := by
    rw [← hWS]; exact heap_alloc_at (heap_alloc_new _ _) _
  have HS := Lib.hid hS
  have HBS := Lib.hid hbS
  have G0 := Lib.hid g0
  have G1 := Lib.hid g1
  clear hWS hS hbS g0 g1
  go_loopw [18] (fun i wr => ∃ k : Nat, k ≤ r + 1 ∧ i = .int .i64 k ∧ wr.heap[w.heap.size + 1]? = some (.cells (isA (holdTo x.nodes s k)) 118 (0, 0)) ∧ wr.heap[w.heap.size]? = some (.cells #[Value.slice (some { block := b, off := o }) n c, Value.int IntKind.i64 r] 32 (0, 0)) ∧ w.heap.size + 2 ≤ wr.heap.size ∧ Below w.heap.size w wr) (fun i _ => r + 1 - (intOf i).toNat)
  case atStart => exact ⟨0, Nat.zero_le _, rfl, G1.out, G0.out, by rw [HS.out]; exact Nat.le_refl _, HBS.out⟩
  case round =>
    obtain ⟨k, hk, rfl, e1, e0, hsz, hb⟩ := hrel
    by_cases hlt : k < r + 1
    · obtain ⟨nd, hnd⟩ : ∃ nd, x.nodes[k]? = some nd := ⟨_, List.getElem?_eq_getElem (by have := HN.out; omega)⟩
      obtain ⟨b', o', ha, hat⟩ := (HX.out.below hb).at' (by omega)
      cases ha
      have hM := hat k nd hnd
      obtain ⟨a3, n3, c3, m3, r3⟩ := hM.ws
      obtain ⟨a4, n4, c4, m4, r4⟩ := hM.ks
      have m0 := hM.c0
      have m1 := hM.c1
      have m2 := hM.c2
      have HOK := Lib.hid (HO.out.node k nd hnd)
      have hfew := HF.out k nd hnd
      have HST : Hid (holdTo x.nodes s (k + 1) = holdTo x.nodes s k ++ [valN nd (holdTo x.nodes s k) s]) := Lib.hid (by
        rw [holdTo]
        rw [show x.nodes.getD k nod0 = nd by rw [List.getD_eq_getElem?_getD, hnd]; rfl])
      have HL := Lib.hid (holdTo_len x.nodes s k)
      obtain ⟨I, hI⟩ : ∃ I, holdTo x.nodes s k = I := ⟨_, rfl⟩
      rw [hI] at e1 HST HL
      obtain ⟨kind, server, need, ws, ks⟩ := nd
      simp only at m0 m1 m2 hfew r3 r4
      have R3 := Lib.hid r3
      have R4 := Lib.hid r4
      have HB := Lib.hid hb
      clear hM r3 r4 hat hnd hI hb
      have hkd : decide ((k : Int) < (r : Int) + 1) = true := decide_eq_true (by omega)
      by_cases hkind : kind = 1
      · subst hkind
        obtain ⟨sv, rfl⟩ := Int.eq_ofNat_of_zero_le HOK.out.server.1
        have hvn : valN ⟨1, sv, need, ws, ks⟩ I s = hasB s sv := rfl
        rw [hvn] at HST
        have ea := heap_alloc_at e1 (Obj.cells #[.int .i64 1, .int .i64 sv, .int .i64 need, .slice a3 n3 c3, .slice a4 n4 c4] 71)
        have z0 := frozen_row ea k
        have z1 := cell_of_row _ _ k _ _ _ ea |>.trans (isA_at (by have := HL.out; omega) (by omega))
        have EA := Lib.hid ea
        clear hvn ea
        go_wp2_with fail
        clear z0 z1
        go_roundw
        case rel =>
          have hkl := HL.out
          have ha : Below w.heap.size w (wr.alloc (Obj.cells #[.int .i64 1, .int .i64 sv, .int .i64 need, .slice a3 n3 c3, .slice a4 n4 c4] 71)) := HB.out.alloc (by omega) _
          refine ⟨k + 1, by omega, by go_num, ?_, ?_, ?_, ?_⟩
          · have hsv := HOK.out.server.2
            simp only at hsv
            rw [heap_set_at EA.out, HST.out, ← hkl, isA_set (by omega), show min sv 16 = sv by omega]
          · exact heap_set_other (by omega) _ _ (heap_alloc_at e0 _)
          · simp [World.setCell]; omega
          · exact ha.setCell (p := ⟨w.heap.size + 1, k, none⟩) (by show w.heap.size ≤ w.heap.size + 1; omega) _
        case measure => simp [intOf]; omega
      · have hk2 : (kind == 1) = false := by simpa using hkind
        have hvn : valN ⟨kind, server, need, ws, ks⟩ I s = decide (need ≤ gotTo ⟨kind, server, need, ws, ks⟩ I ks.length) := by unfold valN; rw [if_neg hkind]
        rw [hvn] at HST
        have ea := heap_alloc_at e1 (Obj.cells #[.int .i64 kind, .int .i64 server, .int .i64 need, .slice a3 n3 c3, .slice a4 n4 c4] 71)
        have ea0 := heap_alloc_at e0 (Obj.cells #[.int .i64 kind, .int .i64 server, .int .i64 need, .slice a3 n3 c3, .slice a4 n4 c4] 71)
        have en := heap_alloc_new wr (Obj.cells #[.int .i64 kind, .int .i64 server, .int .i64 need, .slice a3 n3 c3, .slice a4 n4 c4] 71)
        have hbn : Below wr.heap.size wr (wr.alloc (Obj.cells #[.int .i64 kind, .int .i64 server, .int .i64 need, .slice a3 n3 c3, .slice a4 n4 c4] 71)) := (Below.refl _ wr).alloc (Nat.le_refl _) _
        have hlk : ks.length = n4 := by have := R4.out.len; simp at this; omega
        have hle4 := R4.out.le
        have hm4 := R4.out.max
        unfold maxLen at hm4
        go_wp2_with fail
        generalize hWA : wr.alloc _ = WA
        rw [hWA] at ea ea0 en hbn
        have EA := Lib.hid ea
        have EA0 := Lib.hid ea0
        have EN := Lib.hid en
        have HBN := Lib.hid hbn
        have HSA : Hid (w.heap.size + 2 ≤ WA.heap.size ∧ wr.heap.size < WA.heap.size) := Lib.hid (by rw [← hWA]; simp; omega)
        clear hWA ea ea0 en hbn e0 e1 m0 m1 m2 m3 m4 hvn
        obtain ⟨W0, hW0⟩ : ∃ W0, W0 = wr := ⟨_, rfl⟩
        subst hW0
        go_loopw [8, 37] (fun v i wq => ∃ j : Nat, j ≤ n4 ∧ i = .int .i64 j ∧ v = .int .i64 (gotTo ⟨kind, server, need, ws, ks⟩ I j) ∧ Below WA.heap.size WA wq) (fun _ i _ => n4 - (intOf i).toNat)
        case atStart => exact ⟨0, Nat.zero_le _, rfl, rfl, Below.refl _ _⟩
        case round =>
          obtain ⟨j, hj, rfl, rfl, hbq⟩ := hrel
          by_cases hltj : j < n4
          · obtain ⟨z, hz⟩ : ∃ z, ks[j]? = some z := ⟨_, List.getElem?_eq_getElem (by omega)⟩
            have hzr := HOK.out.kids z (List.mem_of_getElem? hz)
            obtain ⟨kd, rfl⟩ := Int.eq_ofNat_of_zero_le hzr.1
            have hkd2 : kd < k := by omega
            obtain ⟨b4, o4, ha4, hcell4⟩ := (R4.out.below (Below.next HBN.out hbq)).at' (by omega)
            have q4 := hcell4 j (.int .i64 kd) (by rw [List.getElem?_map, hz]; rfl)
            have eq1 := heap_below hbq EA.out
            have q1 := cell_of_row _ _ kd _ _ _ eq1 |>.trans (isA_at (by have := HL.out; omega) (by omega))
            have hgs : gotTo ⟨kind, server, need, ws, ks⟩ I (j + 1) = gotTo ⟨kind, server, need, ws, ks⟩ I j + (if I.getD kd false = true then wgtN ⟨kind, server, need, ws, ks⟩ j else 0) := by
              rw [gotTo]
              show _ + (if I.getD ((ks.getD j 0).toNat) false = true then _ else _) = _
              rw [show ks.getD j 0 = (kd : Int) by rw [List.getD_eq_getElem?_getD, hz]; rfl, Int.toNat_natCast]
            have hgb := got_bd HOK.out I j
            have hwb := wgt_pos HOK.out j
            subst ha4
            cases hi : I.getD kd false
            · rw [hi] at q1 hgs
              rw [if_neg (by decide), Int.add_zero] at hgs
              have HGS := Lib.hid hgs
              clear hcell4 hz hgs hi hgb hwb hzr eq1
              go_wp2_with fail
              go_roundw
              case rel => exact ⟨j + 1, by omega, by go_num, by rw [HGS.out], hbq⟩
              case measure => simp [intOf]; omega
            · rw [hi] at q1 hgs
              rw [if_pos rfl] at hgs
              have HW : Hid (∀ y, Below wr.heap.size wr y → Calls Tryz.prog 50 #[.agg #[.int .i64 kind, .int .i64 server, .int .i64 need, .slice a3 n3 c3, .slice (some ⟨b4, o4, none⟩) n4 c4], .int .i64 j] y fun e w' => e = .returned (.int .i64 (wgtN ⟨kind, server, need, ws, ks⟩ j)) ∧ Below y.heap.size y w') :=
                Lib.hid (fun y hy => wgt_c ⟨kind, server, need, ws, ks⟩ j a3 n3 c3 (some ⟨b4, o4, none⟩) n4 c4 y (R3.out.below (Below.next HBN.out (Below.next hbq hy))) (by
                  rcases HOK.out.arity with h | h
                  · exact .inl h
                  · right; rw [h]; show j < ks.length; omega))
              obtain ⟨S, hS⟩ : ∃ S, gotTo ⟨kind, server, need, ws, ks⟩ I j = S := ⟨_, rfl⟩
              obtain ⟨G, hG⟩ : ∃ G, wgtN ⟨kind, server, need, ws, ks⟩ j = G := ⟨_, rfl⟩
              rw [hS] at hgs hgb ⊢
              rw [hG] at hgs hwb HW
              have hwr2 : wrap64 (S + G) = S + G := by unfold wrap64; omega
              have eqn := heap_below hbq EN.out
              have p0 := cell_of_row _ _ 0 _ _ _ eqn
              have p1 := cell_of_row _ _ 1 _ _ _ eqn
              have p2 := cell_of_row _ _ 2 _ _ _ eqn
              have p3 := cell_of_row _ _ 3 _ _ _ eqn
              have p4 := cell_of_row _ _ 4 _ _ _ eqn
              have HGS := Lib.hid hgs
              clear hcell4 hz hgs hi hgb hwb hzr eq1 eqn hS hG
              go_wp2_with fail
              refine (HW.out _ (Below.refl _ _)).mono ?_
              rintro e w5 ⟨rfl, hb5⟩
              have hb6 := Below.next hbq hb5
              go_wp2_with fail
              go_roundw
              case rel => exact ⟨j + 1, by omega, by go_num, by rw [HGS.out, hwr2], hb6⟩
              case measure => simp [intOf]; omega
          · obtain rfl : j = n4 := by omega
            rw [hlk] at HST
            obtain ⟨S, hS⟩ : ∃ S, gotTo ⟨kind, server, need, ws, ks⟩ I j = S := ⟨_, rfl⟩
            rw [hS] at HST ⊢
            have eqn := heap_below hbq EN.out
            have p2 := cell_of_row _ _ 2 _ _ _ eqn
            have eq1 := heap_below hbq EA.out
            have q1 := cell_of_row _ _ k _ _ _ eq1 |>.trans (isA_at (by have := HL.out; omega) (by omega))
            have z1 := frozen_row eq1 k
            have EQ1 := Lib.hid eq1
            have EQ0 := Lib.hid (heap_below hbq EA0.out)
            have HBF := Lib.hid (Below.next HB.out (Below.next HBN.out hbq))
            have HSQ := Lib.hid hbq.size
            clear eqn eq1 hS hbq
            go_wp2_with fail
            clear q1 z1
            go_roundw
            case rel =>
              have hkl := HL.out
              have hsq := HSQ.out
              have hsa := HSA.out
              refine ⟨k + 1, by omega, by go_num, ?_, ?_, ?_, ?_⟩
              · rw [heap_set_at EQ1.out, HST.out, ← hkl, isA_set (by omega)]
              · exact heap_set_other (by omega) _ _ EQ0.out
              · simp [World.setCell]; omega
              · exact HBF.out.setCell (p := ⟨w.heap.size + 1, k, none⟩) (by show w.heap.size ≤ w.heap.size + 1; omega) _
            case measure => simp [intOf]; omega
    · obtain rfl : k = r + 1 := by omega
      have hc := cell_of_row _ _ r _ _ _ e1 |>.trans (isA_at (by rw [holdTo_len]; omega) (by omega))
      rw [← HV.out] at hc
      have hc2 := cell_of_row _ _ 1 _ _ _ e0
      have hkd : decide (((r + 1 : Nat) : Int) < (r : Int) + 1) = false := decide_eq_false (by omega)
      go_wp2_with fail
      go_ret
      exact ⟨rfl, hb⟩

end Go.Proofs.YtcojmmhclklpoaaGreatDoor
namespace Go.Proofs.YtcojmmhclklpoaaGreatDoor
open Go.RowKit Go.Shelf

theorem rowK_at {k : Nat} {w w' : World} {B n : Nat} {e : TypeId} {v : Value} {l : List Value} (h : w.ownsRow B e k v n l) (hb : ∀ g, v.ownBlock = some g → w'.heap[g]? = w.heap[g]?) : w'.ownsRow B e k v n l := by
  obtain ⟨h1, h2⟩ := h
  refine ⟨h1, ?_⟩
  rcases h2 with h2 | ⟨g, cap, cur, hv, hb', hg, r⟩
  · exact .inl h2
  · exact .inr ⟨g, cap, cur, hv, hb', by rw [hb g (by rw [hv]; rfl)]; exact hg, r⟩
end Go.Proofs.YtcojmmhclklpoaaGreatDoor
namespace Go.Proofs.YtcojmmhclklpoaaGreatDoor
open Go.RowKit

/-- the five cells of a piece -/
structure PceM (w : World) (b o : Nat) (p : Pce) : Prop where
  c0 : w.cell? ⟨b, o, none⟩ = some (.int .u8 p.kind)
  c1 : w.cell? ⟨b, o + 1, none⟩ = some (.int .u8 p.server)
  c2 : w.cell? ⟨b, o + 2, none⟩ = some (.int .u8 p.need)
  c3 : w.cell? ⟨b, o + 3, none⟩ = some (.bool p.heavy)
  ks : ∃ a n c, w.cell? ⟨b, o + 4, none⟩ = some (.slice a n c) ∧ Rd w a n c (p.kids.map (Value.int .u8))
structure PM (w : World) (a : Option Addr) (n c : Nat) (ps : List Pce) : Prop where
  len : ps.length = n
  le : n ≤ c
  max : c ≤ maxLen
  at' : 0 < n → ∃ b o, a = some ⟨b, o, none⟩ ∧ ∀ i p, ps[i]? = some p → PceM w b (o + i * 5) p
theorem PceM.below {w w' : World} {b o : Nat} {p : Pce} (h : PceM w b o p) (hb : Below w.heap.size w w') : PceM w' b o p := by
  obtain ⟨a, n, c, h4, r4⟩ := h.ks
  exact ⟨cell_keep hb h.c0, cell_keep hb h.c1, cell_keep hb h.c2, cell_keep hb h.c3, ⟨a, n, c, cell_keep hb h4, r4.below hb⟩⟩
theorem PM.below {w w' : World} {a : Option Addr} {n c : Nat} {ps : List Pce} (h : PM w a n c ps) (hb : Below w.heap.size w w') : PM w' a n c ps := by
  refine ⟨h.len, h.le, h.max, fun hn => ?_⟩
  obtain ⟨b, o, ha, hc⟩ := h.at' hn
  exact ⟨b, o, ha, fun i p hi => (hc i p hi).below hb⟩

/-- a block as a value whose own block it is -/
def blkV (X : Nat) : Value := .slice (some ⟨X, 0, none⟩) 1 1
theorem blkV_own (X : Nat) : (blkV X).ownBlock = some X := rfl
theorem Rd.setOther {w : World} {a : Option Addr} {n c : Nat} {l : List Value} {X : Nat} (h : Rd w a n c l) (hc : Clear n (blkV X) a) (j : Nat) (u : Value) : Rd (w.setCell ⟨X, j, none⟩ u) a n c l := by
  refine ⟨h.len, h.le, h.max, h.nil, fun hn => ?_⟩
  obtain ⟨b, o, ha, hcell⟩ := h.at' hn
  refine ⟨b, o, ha, fun i v hv => ?_⟩
  have hne : b ≠ X := fun e => hc hn b o ha (by rw [blkV_own, e])
  have := hcell i v hv
  rw [World.cell?_of_block (w := w) (w' := w.setCell ⟨X, j, none⟩ u) (a := ⟨b, o + i, none⟩) (Below.heap_setCell _ _ _ _ hne)]
  exact this

/-- a node's value reads as the node, and its lists lie apart from a block and from the row of a value -/
structure NodC (w : World) (X : Nat) (v : Value) (p : NodV) (nd : Nod) : Prop where
  e0 : p.kind = nd.kind
  e1 : p.server = nd.server
  e2 : p.need = nd.need
  ws : ∃ a n c, p.wv = .slice a n c ∧ Rd w a n c (nd.weights.map (Value.int .i64)) ∧ Clear n v a ∧ ∀ Y, Y ≤ X → Clear n (blkV Y) a
  ks : ∃ a n c, p.kv = .slice a n c ∧ Rd w a n c (nd.kids.map (Value.int .i64)) ∧ Clear n v a ∧ ∀ Y, Y ≤ X → Clear n (blkV Y) a
theorem NodC.toR {w : World} {X : Nat} {v : Value} {p : NodV} {nd : Nod} (h : NodC w X v p nd) : NodR w p nd := by
  obtain ⟨a, n, c, h3, r3, _, _⟩ := h.ws
  obtain ⟨a', n', c', h4, r4, _, _⟩ := h.ks
  exact ⟨h.e0, h.e1, h.e2, ⟨a, n, c, h3, r3⟩, ⟨a', n', c', h4, r4⟩⟩
theorem NodC.below {w w' : World} {X : Nat} {v : Value} {p : NodV} {nd : Nod} (h : NodC w X v p nd) (hb : Below w.heap.size w w') : NodC w' X v p nd := by
  obtain ⟨a, n, c, h3, r3, k1, k2⟩ := h.ws
  obtain ⟨a', n', c', h4, r4, k3, k4⟩ := h.ks
  exact ⟨h.e0, h.e1, h.e2, ⟨a, n, c, h3, r3.below hb, k1, k2⟩, ⟨a', n', c', h4, r4.below hb, k3, k4⟩⟩
theorem NodC.grown {w w' : World} {X : Nat} {v v' : Value} {p : NodV} {nd : Nod} (h : NodC w X v p nd) (hg : w.grownBy w' v.ownBlock) (hv : ∀ g, v'.ownBlock = some g → v.ownBlock = some g ∨ w.heap.size ≤ g) : NodC w' X v' p nd := by
  obtain ⟨a, n, c, h3, r3, k1, k2⟩ := h.ws
  obtain ⟨a', n', c', h4, r4, k3, k4⟩ := h.ks
  exact ⟨h.e0, h.e1, h.e2, ⟨a, n, c, h3, r3.grown hg k1, k1.step r3 hv, k2⟩, ⟨a', n', c', h4, r4.grown hg k3, k3.step r4 hv, k4⟩⟩
theorem NodC.setAt {w : World} {X : Nat} {v : Value} {p : NodV} {nd : Nod} (h : NodC w X v p nd) (Y : Nat) (hY : Y ≤ X) (j : Nat) (u : Value) : NodC (w.setCell ⟨Y, j, none⟩ u) X v p nd := by
  obtain ⟨a, n, c, h3, r3, k1, k2⟩ := h.ws
  obtain ⟨a', n', c', h4, r4, k3, k4⟩ := h.ks
  exact ⟨h.e0, h.e1, h.e2, ⟨a, n, c, h3, r3.setOther (k2 Y hY) j u, k1, k2⟩, ⟨a', n', c', h4, r4.setOther (k4 Y hY) j u, k3, k4⟩⟩
theorem Clear.none (n : Nat) (v : Value) : Clear n v none := fun _ _ _ h => by cases h
/-- a row of the call's own lies above what lies below its base -/
theorem Clear.lower {w : World} {B k m n c : Nat} {e : TypeId} {a : Option Addr} {xs : List Value} {v : Value} (h : w.ownsRow B e k (.slice a n c) m xs) (hlt : ∀ g, v.ownBlock = some g → g < B) : Clear n v a := by
  intro hn b o ha he
  have h1 := (h.lt b (by rw [ha]; rfl)).1
  have h2 := hlt b he
  omega
/-- a server's node -/
theorem NodC.srv (w : World) (X : Nat) (v : Value) (k s : Int) : NodC w X v ⟨k, s, 0, .slice none 0 0, .slice none 0 0⟩ ⟨k, s, 0, [], []⟩ :=
  ⟨rfl, rfl, rfl, ⟨none, 0, 0, rfl, Rd.none_ _, Clear.none _ _, fun _ _ => Clear.none _ _⟩, ⟨none, 0, 0, rfl, Rd.none_ _, Clear.none _ _, fun _ _ => Clear.none _ _⟩⟩
/-- the nodes made so far, in the row of a field of a block -/
structure XW (w : World) (X : Nat) (v : Value) (t : TypeId) (nodes : List Nod) : Prop where
  row : ∃ V : List NodV, V.length = nodes.length ∧ w.ownsRow (X + 1) t 5 v nodes.length (V.flatMap nodVC) ∧ ∀ (i : Nat) p nd, V[i]? = some p → nodes[i]? = some nd → NodC w X v p nd
theorem XW.nil (w : World) (X : Nat) (t : TypeId) : XW w X (.slice none 0 0) t [] := ⟨[], rfl, World.ownsRow_nil _ _ _ _, fun i p nd h => by simp at h⟩
theorem XW.below {w w' : World} {X : Nat} {v : Value} {t : TypeId} {nodes : List Nod} (h : XW w X v t nodes) (hb : Below w.heap.size w w') : XW w' X v t nodes := by
  obtain ⟨V, h1, h2, h3⟩ := h.row
  exact ⟨V, h1, rowK_below h2 hb, fun i p nd hp hn => (h3 i p nd hp hn).below hb⟩
theorem XW.setAt {w : World} {X : Nat} {v : Value} {t : TypeId} {nodes : List Nod} (h : XW w X v t nodes) (Y : Nat) (hY : Y ≤ X) (j : Nat) (u : Value) : XW (w.setCell ⟨Y, j, none⟩ u) X v t nodes := by
  obtain ⟨V, h1, h2, h3⟩ := h.row
  exact ⟨V, h1, rowK_at h2 fun g hg => Below.heap_setCell _ _ _ _ (by have := (h2.lt g hg).1; show g ≠ Y; omega), fun i p nd hp hn => (h3 i p nd hp hn).setAt Y hY j u⟩
theorem XW.set {w : World} {X : Nat} {v : Value} {t : TypeId} {nodes : List Nod} (h : XW w X v t nodes) (j : Nat) (u : Value) : XW (w.setCell ⟨X, j, none⟩ u) X v t nodes := h.setAt X (Nat.le_refl _) j u
/-- a node more -/
theorem XW.push {w w' : World} {X : Nat} {v v' : Value} {t : TypeId} {nodes : List Nod} {p : NodV} {nd : Nod} {V : List NodV} (hV : V.length = nodes.length) (h3 : ∀ (i : Nat) p nd, V[i]? = some p → nodes[i]? = some nd → NodC w X v p nd) (hr : w'.ownsRow (X + 1) t 5 v' (nodes.length + 1) (V.flatMap nodVC ++ nodVC p))
    (hp : NodC w X v p nd) (hg : w.grownBy w' v.ownBlock) (hv : ∀ g, v'.ownBlock = some g → v.ownBlock = some g ∨ w.heap.size ≤ g) : XW w' X v' t (nodes ++ [nd]) := by
  refine ⟨V ++ [p], by simp [hV], ?_, fun i q m hq hm => ?_⟩
  · rw [List.flatMap_append, List.length_append, List.flatMap_cons, List.flatMap_nil, List.append_nil]; exact hr
  · by_cases hi : i < V.length
    · rw [List.getElem?_append_left hi] at hq
      rw [List.getElem?_append_left (by omega)] at hm
      exact (h3 i q m hq hm).grown hg hv
    · have hq2 := (List.getElem?_eq_some_iff.1 hq).1
      have : i = V.length := by simp at hq2; omega
      subst this
      rw [List.getElem?_append_right (Nat.le_refl _), Nat.sub_self] at hq
      rw [hV, List.getElem?_append_right (Nat.le_refl _), Nat.sub_self] at hm
      cases hq; cases hm
      exact hp.grown hg hv
theorem XW.xm {w : World} {X : Nat} {v : Value} {t : TypeId} {nodes : List Nod} (h : XW w X v t nodes) : ∃ a c, v = .slice a nodes.length c ∧ XM w a nodes.length c nodes := by
  obtain ⟨V, h1, h2, h3⟩ := h.row
  exact XM.of_row h2 h1 fun i p nd hp hn => (h3 i p nd hp hn).toR
end Go.Proofs.YtcojmmhclklpoaaGreatDoor
namespace Go.Proofs.YtcojmmhclklpoaaGreatDoor
open Go.RowKit

def XMR (lo hi : Nat) (w : World) (a : Option Addr) (n c : Nat) (nodes : List Nod) : Prop :=
  ∀ w2 : World, (∀ g, lo ≤ g → g < hi → w2.heap[g]? = w.heap[g]?) → XM w2 a n c nodes
theorem XMR.xm {lo hi : Nat} {w : World} {a : Option Addr} {n c : Nat} {nodes : List Nod} (h : XMR lo hi w a n c nodes) : XM w a n c nodes := h w fun _ _ _ => rfl
theorem XMR.mono {lo hi lo' hi' : Nat} {w : World} {a : Option Addr} {n c : Nat} {nodes : List Nod} (h : XMR lo hi w a n c nodes) (h1 : lo' ≤ lo) (h2 : hi ≤ hi') : XMR lo' hi' w a n c nodes :=
  fun w2 hg => h w2 fun g g1 g2 => hg g (by omega) (by omega)
theorem XMR.agree {lo hi : Nat} {w w' : World} {a : Option Addr} {n c : Nat} {nodes : List Nod} (h : XMR lo hi w a n c nodes) (hg : ∀ g, lo ≤ g → g < hi → w'.heap[g]? = w.heap[g]?) : XMR lo hi w' a n c nodes :=
  fun w2 h2 => h w2 fun g g1 g2 => (h2 g g1 g2).trans (hg g g1 g2)
theorem cell_blk_lt {w : World} {b o : Nat} {v : Value} (h : w.cell? ⟨b, o, none⟩ = some v) : b < w.heap.size := by
  by_cases hb : b < w.heap.size
  · exact hb
  · have h0 : w.heap[b]? = none := Array.getElem?_eq_none (by omega)
    simp [World.cell?, h0] at h
theorem Rd.agree {w w2 : World} {a : Option Addr} {n c X : Nat} {l : List Value} (h : Rd w a n c l) (hc : ∀ Y, Y ≤ X → Clear n (blkV Y) a) (hg : ∀ g, X + 1 ≤ g → g < w.heap.size → w2.heap[g]? = w.heap[g]?) : Rd w2 a n c l := by
  refine ⟨h.len, h.le, h.max, h.nil, fun hn => ?_⟩
  obtain ⟨b, o, ha, hcell⟩ := h.at' hn
  refine ⟨b, o, ha, fun i v hv => ?_⟩
  have h1 := hcell i v hv
  have hX : X + 1 ≤ b := by
    by_cases h2 : b ≤ X
    · exact absurd (blkV_own b) (hc b h2 hn b o ha)
    · omega
  rw [World.cell?_of_block (w := w) (w' := w2) (a := ⟨b, o + i, none⟩) (hg b hX (cell_blk_lt h1))]
  exact h1
theorem NodC.agree {w w2 : World} {X : Nat} {v : Value} {p : NodV} {nd : Nod} (h : NodC w X v p nd) (hg : ∀ g, X + 1 ≤ g → g < w.heap.size → w2.heap[g]? = w.heap[g]?) : NodR w2 p nd := by
  obtain ⟨a, n, c, h3, r3, _, k2⟩ := h.ws
  obtain ⟨a', n', c', h4, r4, _, k4⟩ := h.ks
  exact ⟨h.e0, h.e1, h.e2, ⟨a, n, c, h3, r3.agree k2 hg⟩, ⟨a', n', c', h4, r4.agree k4 hg⟩⟩
theorem XW.xmr {w : World} {X : Nat} {v : Value} {t : TypeId} {nodes : List Nod} (h : XW w X v t nodes) : ∃ a c, v = .slice a nodes.length c ∧ XMR (X + 1) w.heap.size w a nodes.length c nodes := by
  obtain ⟨V, h1, h2, h3⟩ := h.row
  obtain ⟨a, c, rfl, _⟩ := rdK_of_row h2
  refine ⟨a, c, rfl, fun w2 hg => ?_⟩
  obtain ⟨a', c', e, hx⟩ := XM.of_row (rowK_at h2 fun g hgv => hg g (h2.lt g hgv).1 (h2.lt g hgv).2) h1 fun i p nd hp hn => (h3 i p nd hp hn).agree hg
  cases e
  exact hx
end Go.Proofs.YtcojmmhclklpoaaGreatDoor
namespace Go.Proofs.YtcojmmhclklpoaaGreatDoor
open Go.RowKit

def Ag (S : Nat → Prop) (w w2 : World) : Prop := ∀ g, S g → w2.heap[g]? = w.heap[g]?
def NodS (S : Nat → Prop) (w : World) (p : NodV) (nd : Nod) : Prop := ∀ w2 : World, Ag S w w2 → NodR w2 p nd
theorem Ag.refl (S : Nat → Prop) (w : World) : Ag S w w := fun _ _ => rfl
theorem NodS.r {S : Nat → Prop} {w : World} {p : NodV} {nd : Nod} (h : NodS S w p nd) : NodR w p nd := h w (Ag.refl _ _)
theorem NodS.move {S : Nat → Prop} {w w' : World} {p : NodV} {nd : Nod} (h : NodS S w p nd) (ha : Ag S w w') : NodS S w' p nd := fun w2 h2 => h w2 fun g hg => (h2 g hg).trans (ha g hg)
theorem NodS.mono {S S' : Nat → Prop} {w : World} {p : NodV} {nd : Nod} (h : NodS S w p nd) (hs : ∀ g, S g → S' g) : NodS S' w p nd := fun w2 h2 => h w2 fun g hg => h2 g (hs g hg)
/-- a row of one-cell values reads by its block alone -/
theorem row_alone {w : World} {B n : Nat} {e : TypeId} {v : Value} {l : List Value} (h : w.ownsRow B e 1 v n l) (w2 : World) (ha : ∀ g, v.ownBlock = some g → w2.heap[g]? = w.heap[g]?) : ∃ a c, v = .slice a n c ∧ Rd w2 a n c l := by
  have h2 := rowK_at h ha
  exact rd_of_row h2

structure XB (S : Nat → Prop) (B : Nat) (w : World) (v : Value) (t : TypeId) (nodes : List Nod) : Prop where
  row : ∃ V : List NodV, V.length = nodes.length ∧ w.ownsRow B t 5 v nodes.length (V.flatMap nodVC) ∧ ∀ (i : Nat) p nd, V[i]? = some p → nodes[i]? = some nd → NodS S w p nd
  lt : ∀ g, S g → g < w.heap.size
  own : ∀ g, v.ownBlock = some g → ¬ S g
theorem XB.nil (S : Nat → Prop) (B : Nat) (w : World) (t : TypeId) (h : ∀ g, S g → g < w.heap.size) : XB S B w (.slice none 0 0) t [] :=
  ⟨⟨[], rfl, World.ownsRow_nil _ _ _ _, fun i p nd h => by simp at h⟩, h, fun g h => by cases h⟩
theorem XB.lt_own {S : Nat → Prop} {B : Nat} {w : World} {v : Value} {t : TypeId} {nodes : List Nod} (h : XB S B w v t nodes) : ∀ g, v.ownBlock = some g → B ≤ g ∧ g < w.heap.size := by
  obtain ⟨V, _, h2, _⟩ := h.row
  exact fun g hg => h2.lt g hg
theorem XB.shape {S : Nat → Prop} {B : Nat} {w : World} {v : Value} {t : TypeId} {nodes : List Nod} (h : XB S B w v t nodes) : ∃ a c, v = .slice a nodes.length c ∧ XM w a nodes.length c nodes := by
  obtain ⟨V, h1, h2, h3⟩ := h.row
  exact XM.of_row h2 h1 fun i p nd hp hn => (h3 i p nd hp hn).r
/-- other blocks may change -/
theorem XB.move {S : Nat → Prop} {B : Nat} {w w' : World} {v : Value} {t : TypeId} {nodes : List Nod} (h : XB S B w v t nodes) (ha : Ag S w w') (hv : ∀ g, v.ownBlock = some g → w'.heap[g]? = w.heap[g]?) (hs : w.heap.size ≤ w'.heap.size) : XB S B w' v t nodes := by
  obtain ⟨V, h1, h2, h3⟩ := h.row
  exact ⟨⟨V, h1, rowK_at h2 hv, fun i p nd hp hn => (h3 i p nd hp hn).move ha⟩, fun g hg => Nat.lt_of_lt_of_le (h.lt g hg) hs, h.own⟩
theorem XB.below {S : Nat → Prop} {B : Nat} {w w' : World} {v : Value} {t : TypeId} {nodes : List Nod} (h : XB S B w v t nodes) (hb : Below w.heap.size w w') : XB S B w' v t nodes :=
  h.move (fun g hg => hb.block g (h.lt g hg)) (fun g hg => hb.block g (h.lt_own g hg).2) hb.size
theorem XB.mono {S S' : Nat → Prop} {B : Nat} {w : World} {v : Value} {t : TypeId} {nodes : List Nod} (h : XB S B w v t nodes) (hs : ∀ g, S g → S' g) (hlt : ∀ g, S' g → g < w.heap.size) (hown : ∀ g, v.ownBlock = some g → ¬ S' g) : XB S' B w v t nodes := by
  obtain ⟨V, h1, h2, h3⟩ := h.row
  exact ⟨⟨V, h1, h2, fun i p nd hp hn => (h3 i p nd hp hn).mono hs⟩, hlt, hown⟩
/-- a node more -/
theorem XB.push {S : Nat → Prop} {B : Nat} {w w' : World} {v v' : Value} {t : TypeId} {nodes : List Nod} {p : NodV} {nd : Nod} {V : List NodV} (hV : V.length = nodes.length) (h3 : ∀ (i : Nat) p nd, V[i]? = some p → nodes[i]? = some nd → NodS S w p nd) (hlt : ∀ g, S g → g < w.heap.size) (hown : ∀ g, v.ownBlock = some g → ¬ S g)
    (hr : w'.ownsRow B t 5 v' (nodes.length + 1) (V.flatMap nodVC ++ nodVC p)) (hp : NodS S w p nd) (hg : w.grownBy w' v.ownBlock) (hv : ∀ g, v'.ownBlock = some g → v.ownBlock = some g ∨ w.heap.size ≤ g) (hs : w.heap.size ≤ w'.heap.size) : XB S B w' v' t (nodes ++ [nd]) := by
  have ha : Ag S w w' := fun g hg' => hg.block g (hlt g hg') (fun e => hown g e.symm hg')
  refine ⟨⟨V ++ [p], by simp [hV], ?_, fun i q m hq hm => ?_⟩, fun g hg => Nat.lt_of_lt_of_le (hlt g hg) hs, fun g hg' hS => ?_⟩
  · rw [List.flatMap_append, List.length_append, List.flatMap_cons, List.flatMap_nil, List.append_nil]; exact hr
  · by_cases hi : i < V.length
    · rw [List.getElem?_append_left hi] at hq
      rw [List.getElem?_append_left (by omega)] at hm
      exact (h3 i q m hq hm).move ha
    · have hq2 := (List.getElem?_eq_some_iff.1 hq).1
      have : i = V.length := by simp at hq2; omega
      subst this
      rw [List.getElem?_append_right (Nat.le_refl _), Nat.sub_self] at hq
      rw [hV, List.getElem?_append_right (Nat.le_refl _), Nat.sub_self] at hm
      cases hq; cases hm
      exact hp.move ha
  · rcases hv g hg' with h1 | h1
    · exact hown g h1 hS
    · have := hlt g hS; omega
/-- what a call that writes nodes leaves as it was: all but the box and the nodes' row -/
structure KB (OB : Nat) (B : Nat) (v v' : Value) (w w' : World) : Prop where
  bel : Below B w w'
  blk : ∀ k, k < w.heap.size → k ≠ OB → v.ownBlock ≠ some k → w'.heap[k]? = w.heap[k]?
  own : ∀ g, v'.ownBlock = some g → v.ownBlock = some g ∨ w.heap.size ≤ g
theorem KB.refl (OB B : Nat) (v : Value) (w : World) : KB OB B v v w w := ⟨Below.refl _ _, fun _ _ _ _ => rfl, fun _ h => .inl h⟩
theorem KB.trans {OB B : Nat} {v v' v'' : Value} {w w' w'' : World} (h : KB OB B v v' w w') (k : KB OB B v' v'' w' w'') : KB OB B v v'' w w'' := by
  refine ⟨h.bel.trans k.bel, fun j hj hB hv => ?_, fun g hg => ?_⟩
  · rw [k.blk j (Nat.lt_of_lt_of_le hj h.bel.size) hB (fun e => ?_), h.blk j hj hB hv]
    rcases h.own j e with h1 | h1
    · exact hv h1
    · omega
  · rcases k.own g hg with h1 | h1
    · exact h.own g h1
    · exact .inr (Nat.le_trans h.bel.size h1)
theorem KB.of_below {OB B : Nat} (v : Value) {w w' : World} (hB : B ≤ w.heap.size) (h : Below w.heap.size w w') : KB OB B v v w w' := ⟨h.mono hB, fun k hk _ _ => h.block k hk, fun _ e => .inl e⟩
/-- .. where blocks of the call's own (from s on) may have been written -/
structure KBs (s OB B : Nat) (v v' : Value) (w w' : World) : Prop where
  bel : Below B w w'
  blk : ∀ k, k < s → k ≠ OB → v.ownBlock ≠ some k → w'.heap[k]? = w.heap[k]?
  own : ∀ g, v'.ownBlock = some g → v.ownBlock = some g ∨ s ≤ g
theorem KB.s {s OB B : Nat} {v v' : Value} {w w' : World} (h : KB OB B v v' w w') (hs : s ≤ w.heap.size) : KBs s OB B v v' w w' :=
  ⟨h.bel, fun k hk ho hv => h.blk k (by omega) ho hv, fun g hg => (h.own g hg).imp id (fun h1 => by omega)⟩
theorem KBs.k {OB B : Nat} {v v' : Value} {w w' : World} (h : KBs w.heap.size OB B v v' w w') : KB OB B v v' w w' := ⟨h.bel, h.blk, h.own⟩
theorem KBs.trans {s OB B : Nat} {v v' v'' : Value} {w w' w'' : World} (h : KBs s OB B v v' w w') (k : KBs s OB B v' v'' w' w'') : KBs s OB B v v'' w w'' := by
  refine ⟨h.bel.trans k.bel, fun j hj hB hv => ?_, fun g hg => ?_⟩
  · rw [k.blk j hj hB (fun e => ?_), h.blk j hj hB hv]
    rcases h.own j e with h1 | h1
    · exact hv h1
    · omega
  · rcases k.own g hg with h1 | h1
    · exact h.own g h1
    · exact .inr h1
theorem KBs.refl (s OB B : Nat) (v : Value) (w : World) : KBs s OB B v v w w := ⟨Below.refl _ _, fun _ _ _ _ => rfl, fun _ h => .inl h⟩
/-- a store into the box or into a block of the call's own -/
theorem KBs.store {s OB B N : Nat} (v : Value) (w : World) (hs : s ≤ N ∨ N = OB) (hB : B ≤ N) (j : Nat) (u : Value) : KBs s OB B v v w (w.setCell ⟨N, j, none⟩ u) :=
  ⟨(Below.refl B w).setCell (p := ⟨N, j, none⟩) hB u, fun k hk ho _ => Below.heap_setCell _ _ _ _ (by show k ≠ N; omega), fun _ e => .inl e⟩
end Go.Proofs.YtcojmmhclklpoaaGreatDoor
namespace Go.Proofs.YtcojmmhclklpoaaGreatDoor

theorem nodE_thr0 {nd : Nod} {i : Nat} (h : nodE nd i = 0) (hk : nd.kind ≠ 1) : nd.server = 0 := by
  have h2 := (nodE_ok h).kind
  unfold nodE at h
  split at h
  · cases h
  · rename_i h1
    exact Classical.byContradiction fun hn => h1 (.inr (.inr ⟨by omega, hn⟩))
theorem xprE_thr0 {x : Xpr} (h : xprE x = 0) : ∀ (k : Nat) (nd : Nod), x.nodes[k]? = some nd → nd.kind ≠ 1 → nd.server = 0 := by
  intro k nd hk
  unfold xprE at h
  split at h
  · cases h
  · split at h
    · cases h
    · split at h
      · rename_i h3; exact absurd h h3
      · rename_i h3
        have := nodsE_ok (by simpa using h3) k nd hk
        exact nodE_thr0 this
/-- the kids' trees of a node -/
def kidT (nodes : List Nod) (sub : Nat → Option ET) (f : Nat) (ks : List Int) : List ET := ks.map fun k => treF nodes sub f k.toNat
theorem kidT_len (nodes : List Nod) (sub : Nat → Option ET) (f : Nat) (ks : List Int) : (kidT nodes sub f ks).length = ks.length := List.length_map _
theorem kidT_take (nodes : List Nod) (sub : Nat → Option ET) (f : Nat) (ks : List Int) (j : Nat) (k : Int) (h : ks[j]? = some k) : (kidT nodes sub f ks).take (j + 1) = (kidT nodes sub f ks).take j ++ [treF nodes sub f k.toNat] := by
  rw [List.take_add_one]
  unfold kidT
  rw [List.getElem?_map, h]
  rfl
theorem treF_plain {x : Xpr} (hx : xprE x = 0) (sub : Nat → Option ET) (f i : Nat) (nd : Nod) (hi : x.nodes[i]? = some nd) (hs : nd.kind = 1 → sub nd.server.toNat = none) (b : Nat) :
    (treF x.nodes sub (f + 1) i).post b = ETs.post (kidT x.nodes sub f nd.kids) b ++ [⟨nd.kind, nd.server, nd.need, nd.weights, ETs.idx (kidT x.nodes sub f nd.kids) b⟩] ∧ (treF x.nodes sub (f + 1) i).sz = ETs.sz (kidT x.nodes sub f nd.kids) + 1 := by
  have ok := (xprE_ok hx).node i nd hi
  have e : x.nodes.getD i nod0 = nd := by rw [List.getD_eq_getElem?_getD, hi]; rfl
  rw [treF, e]
  by_cases hk : nd.kind = 1
  · obtain ⟨l1, l2, l3⟩ := ok.leaf hk
    rw [if_pos hk, hs hk, l1, l2, l3, hk]
    exact ⟨rfl, rfl⟩
  · have hs0 := xprE_thr0 hx i nd hi hk
    have hk2 := ok.kind.resolve_left hk
    rw [if_neg hk, hk2, hs0]
    exact ⟨rfl, rfl⟩
theorem treF_sub {nodes : List Nod} (sub : Nat → Option ET) (f i : Nat) (nd : Nod) (hi : nodes[i]? = some nd) (hk : nd.kind = 1) {T : ET} (hs : sub nd.server.toNat = some T) : treF nodes sub (f + 1) i = T := by
  have e : nodes.getD i nod0 = nd := by rw [List.getD_eq_getElem?_getD, hi]; rfl
  rw [treF, e, if_pos hk, hs]
  rfl
/-- a kid more -/
theorem post_step (l : List ET) (t : ET) (b : Nat) : ETs.post (l ++ [t]) b = ETs.post l b ++ t.post (b + ETs.sz l) ∧ ETs.idx (l ++ [t]) b = ETs.idx l b ++ [((b + ETs.sz l + t.sz - 1 : Nat) : Int)] ∧ ETs.sz (l ++ [t]) = ETs.sz l + t.sz := by
  refine ⟨?_, ?_, ?_⟩
  · rw [ETs.post_app]; simp [ETs.post]
  · rw [ETs.idx_app]; simp [ETs.idx]
  · rw [ETs.sz_app]; simp [ETs.sz]
theorem sz_take (l : List ET) (k : Nat) : ETs.sz (l.take k) ≤ ETs.sz l := by
  have := ETs.sz_app (l.take k) (l.drop k)
  rw [List.take_append_drop] at this
  omega
end Go.Proofs.YtcojmmhclklpoaaGreatDoor
namespace Go.Proofs.YtcojmmhclklpoaaGreatDoor
open Go.RowKit

inductive IsInts (k : IntKind) (W : World) : Option Addr → Nat → Nat → List Int → Prop
  | nil : IsInts k W none 0 0 []
  | row {a : Addr} {len cap : Nat} {zs : List Int} (hl : len ≤ cap) (hm : cap ≤ maxLen) (hz : zs.length = cap)
      (hcell : ∀ i, i < zs.length → W.cell? (a.add i) = some (.int k (zs.getD i 0))) (hwz : ∀ n ∈ zs, (Lit.int k n).wf = true) : IsInts k W (some a) len cap (zs.take len)

theorem IsInts.rd {k : IntKind} {W : World} {a : Option Addr} {n c : Nat} {l : List Int} (h : IsInts k W a n c l) : Rd W a n c (l.map (Value.int k)) := by
  cases h with
  | nil => exact Rd.none_ W
  | @row a len cap zs hl hm hz hcell hwz =>
    refine ⟨by simp; omega, hl, hm, fun h => (by cases h), fun hn => ?_⟩
    have h0 := hcell 0 (by omega)
    have ha : a = ⟨a.block, a.off, none⟩ := by
      have : a.add 0 = a := by simp [Addr.add]
      rw [this] at h0
      unfold World.cell? at h0
      cases hs : a.spot with
      | none => cases a; simp_all
      | some s => rw [hs] at h0; split at h0 <;> simp at h0
    refine ⟨a.block, a.off, by rw [← ha], fun i v hv => ?_⟩
    have hi := (List.getElem?_eq_some_iff.1 hv).1
    have hi : i < n ∧ i < zs.length := by simp at hi; omega
    have h1 := hcell i (by omega)
    rw [ha] at h1
    rw [Addr.add_lit] at h1
    rw [h1]
    rw [List.getElem?_map, List.getElem?_take_of_lt hi.1, List.getElem?_eq_getElem hi.2] at hv
    simp at hv
    simp [List.getD, List.getElem?_eq_getElem hi.2, hv]
theorem IsInts.wf {k : IntKind} {W : World} {a : Option Addr} {n c : Nat} {l : List Int} (h : IsInts k W a n c l) : ∀ z ∈ l, (Lit.int k z).wf = true := by
  cases h with
  | nil => intro z hz; cases hz
  | row hl hm hz hcell hwz => exact fun z hz => hwz z (List.mem_of_mem_take hz)
theorem IsInts.len {k : IntKind} {W : World} {a : Option Addr} {n c : Nat} {l : List Int} (h : IsInts k W a n c l) : l.length = n := by
  cases h with
  | nil => rfl
  | row hl hm hz hcell hwz => simp; omega
end Go.Proofs.YtcojmmhclklpoaaGreatDoor
namespace Go.Proofs.YtcojmmhclklpoaaGreatDoor
open Go.RowKit Go.Shelf

set_option maxRecDepth 100000 in
set_option maxHeartbeats 1000000 in
theorem clone_c (l : List Int) (a : Option Addr) (n c : Nat) (w : World) (h : Rd w a n c (l.map (Value.int .i64))) (hb : n ≤ 1000000) :
    Calls Tryz.prog 49 #[.slice a n c] w fun e w' => ∃ v, e = .returned v ∧ w'.ownsRow w.heap.size 3 1 v n (l.map (Value.int .i64)) ∧ Below w.heap.size w w' := by
  have hlen : (l.map (Value.int .i64)).length = n := h.len.symm
  cases a with
  | none =>
    have hc := h.nil rfl
    have hn : n = 0 := by have := h.le; omega
    subst hc hn
    have hl : l = [] := by simpa using hlen
    subst hl
    clear h hlen hb
    have q : ∀ (w : World) (a : Option Addr) (n c n' c' : Nat), (binOp .eql 69 (.slice a n c) (.slice none n' c')).run Tryz.prog w = .ok (.bool a.isNone) w := fun w a n c n' c' => Lib.run_eql_slice_nil w _ _ a n c n' c' Tryz.underlying69
    go_enter Tryz.func49, Tryz.ntmps49
    go_wp2
    go_ret
    exact ⟨_, rfl, World.ownsRow_nil _ _ _ _, Below.refl _ _⟩
  | some ad =>
    have hh := Lib.hid h
    have hl2 := Lib.hid hlen
    clear h hlen
    have q : ∀ (w : World) (a : Option Addr) (n c n' c' : Nat), (binOp .eql 69 (.slice a n c) (.slice none n' c')).run Tryz.prog w = .ok (.bool a.isNone) w := fun w a n c n' c' => Lib.run_eql_slice_nil w _ _ a n c n' c' Tryz.underlying69
    go_enter Tryz.func49, Tryz.ntmps49
    go_wp2_with (at_builtin; go_must (refine wpList_apps _ _ 69 8 (.int .i64 0) _ _ _ (l.map (Value.int .i64)) Tryz.underlying69 Tryz.infoInt rfl (World.ownsRow_made w #[] 0 (Nat.le_refl _) (Nat.zero_le _) rfl) ((Below.refl _ w).alloc (Nat.le_refl _) _) (Nat.le_refl _) (hh.out.below ((Below.refl _ w).alloc (Nat.le_refl _) _)) (by intro u hu; obtain ⟨_, _, rfl⟩ := List.mem_map.1 hu; rfl) rfl rfl rfl rfl (by unfold maxLen; simp; omega) (by simp; omega) ?_))
    intro v' w1 hown1 hb1 _
    have hown2 : w1.ownsRow w.heap.size 3 1 v' n (l.map (Value.int .i64)) := by
      have h9 := hown1
      first
        | exact h9
        | (simp at h9; exact h9)
        | (simp at h9; rw [hl2.out] at h9; exact h9)
    have HOWN2 := Lib.hid hown2
    clear hb hown1 hown2
    go_wp2
    go_ret
    exact ⟨_, rfl, HOWN2.out, hb1⟩

/-- the slice value '.slice a n c' reads as these expressions -/
structure LM (w : World) (a : Option Addr) (n c : Nat) (ys : List Xpr) : Prop where
  len : ys.length = n
  le : n ≤ c
  max : c ≤ maxLen
  nil : a = none → c = 0
  at' : 0 < n → ∃ b o, a = some ⟨b, o, none⟩ ∧ ∀ i y, ys[i]? = some y → ∃ a' n' c', w.cell? ⟨b, o + i * 2, none⟩ = some (.slice a' n' c') ∧ XM w a' n' c' y.nodes ∧ w.cell? ⟨b, o + i * 2 + 1, none⟩ = some (.int .i64 y.root)
theorem LM.none_ (w : World) : LM w none 0 0 [] := ⟨rfl, Nat.le_refl _, by simp [maxLen], fun _ => rfl, fun h => absurd h (by decide)⟩
theorem LM.below {w w' : World} {a : Option Addr} {n c : Nat} {ys : List Xpr} (h : LM w a n c ys) (hb : Below w.heap.size w w') : LM w' a n c ys := by
  refine ⟨h.len, h.le, h.max, h.nil, fun hn => ?_⟩
  obtain ⟨b, o, ha, hc⟩ := h.at' hn
  refine ⟨b, o, ha, fun i y hy => ?_⟩
  obtain ⟨a', n', c', h1, h2, h3⟩ := hc i y hy
  exact ⟨a', n', c', cell_keep hb h1, h2.below hb, cell_keep hb h3⟩
/-- what servers stand for -/
def subL (ys : List Xpr) : Nat → Option ET := fun s => (ys[s]?).map treX
/-- a node's row of kids and its weights, in the blocks of S -/
theorem nodS_of {S : Nat → Prop} {w : World} {B : Nat} {p : NodV} {nd : Nod} {m n : Nat} (e0 : p.kind = nd.kind) (e1 : p.server = nd.server) (e2 : p.need = nd.need) (hw : w.ownsRow B 3 1 p.wv m (nd.weights.map (Value.int .i64))) (hk : w.ownsRow B 3 1 p.kv n (nd.kids.map (Value.int .i64))) (sw : ∀ g, p.wv.ownBlock = some g → S g) (sk : ∀ g, p.kv.ownBlock = some g → S g) : NodS S w p nd := by
  intro w2 ha
  obtain ⟨a, c, h1, h2⟩ := row_alone hw w2 (fun g hg => ha g (sw g hg))
  obtain ⟨a', c', h3, h4⟩ := row_alone hk w2 (fun g hg => ha g (sk g hg))
  exact ⟨e0, e1, e2, ⟨a, m, c, h1, h2⟩, ⟨a', n, c', h3, h4⟩⟩
/-- .. of a node without lists -/
theorem nodS_srv (S : Nat → Prop) (w : World) (k s : Int) : NodS S w ⟨k, s, 0, .slice none 0 0, .slice none 0 0⟩ ⟨k, s, 0, [], []⟩ :=
  fun _w2 _ => ⟨rfl, rfl, rfl, ⟨none, 0, 0, rfl, Rd.none_ _⟩, ⟨none, 0, 0, rfl, Rd.none_ _⟩⟩
end Go.Proofs.YtcojmmhclklpoaaGreatDoor
namespace Go.Proofs.YtcojmmhclklpoaaGreatDoor
open Go.RowKit

/-- a slice value that reads as these numbers by the blocks of a set alone -/
def SlS (S : Nat → Prop) (w : World) (v : Value) (ws : List Int) : Prop := ∀ w2 : World, Ag S w w2 → ∃ a c, v = .slice a ws.length c ∧ Rd w2 a ws.length c (ws.map (Value.int .i64))
theorem SlS.move {S : Nat → Prop} {w w' : World} {v : Value} {ws : List Int} (h : SlS S w v ws) (ha : Ag S w w') : SlS S w' v ws := fun w2 h2 => h w2 fun g hg => (h2 g hg).trans (ha g hg)
theorem SlS.mono {S S' : Nat → Prop} {w : World} {v : Value} {ws : List Int} (h : SlS S w v ws) (hs : ∀ g, S g → S' g) : SlS S' w v ws := fun w2 h2 => h w2 fun g hg => h2 g (hs g hg)
theorem SlS.of_row {w : World} {B n : Nat} {e : TypeId} {v : Value} {ws : List Int} (h : w.ownsRow B e 1 v n (ws.map (Value.int .i64))) : SlS (fun g => v.ownBlock = some g) w v ws := fun w2 h2 => by
  have hl : n = ws.length := by obtain ⟨a, c, rfl, r⟩ := rd_of_row h; have := r.len; simpa using this
  subst hl
  exact row_alone h w2 fun g hg => h2 g hg
theorem SlS.nil (S : Nat → Prop) (w : World) : SlS S w (.slice none 0 0) [] := fun _ _ => ⟨none, 0, rfl, Rd.none_ _⟩

/-- a row of nodes whose blocks all lie from a bound on -/
theorem XB.xmr {S : Nat → Prop} {B lo : Nat} {w : World} {v : Value} {t : TypeId} {nodes : List Nod} (h : XB S B w v t nodes) (hS : ∀ g, S g → lo ≤ g) (hB : lo ≤ B) : ∃ a c, v = .slice a nodes.length c ∧ XMR lo w.heap.size w a nodes.length c nodes := by
  obtain ⟨a, c, rfl, _⟩ := h.shape
  refine ⟨a, c, rfl, fun w2 hg => ?_⟩
  obtain ⟨V, h1, h2, h3⟩ := h.row
  obtain ⟨a', c', e, hx⟩ := XM.of_row (rowK_at h2 fun g hgv => hg g (by have := (h2.lt g hgv).1; omega) (h2.lt g hgv).2) h1 fun i p nd hp hn => (h3 i p nd hp hn) w2 fun g hg' => hg g (hS g hg') (h.lt g hg')
  cases e
  exact hx
/-- what a call leaves that writes nodes; E: blocks that belong to what is written -/
def WrO (OB B : Nat) (E S : Nat → Prop) (v : Value) (nodes add : List Nod) (w w' : World) : Prop :=
  ∃ v' S', w'.heap[OB]? = some (.cells #[v', .int .i64 (((nodes ++ add).length : Int) - 1)] 32 (0, 0)) ∧ XB S' B w' v' 71 (nodes ++ add) ∧ KB OB B v v' w w' ∧ (∀ g, S g → S' g) ∧ (∀ g, S' g → S g ∨ E g ∨ w.heap.size ≤ g)
/-- what a call finds -/
structure WrI (w0 : World) (OB B : Nat) (E S : Nat → Prop) (v : Value) (nodes : List Nod) (w : World) : Prop where
  bel : Below w0.heap.size w0 w
  box : ∃ r, w.heap[OB]? = some (.cells #[v, r] 32 (0, 0))
  xb : XB S B w v 71 nodes
  ob : ¬ S OB
  own : v.ownBlock ≠ some OB
  ext : ∀ g, E g → g < w.heap.size ∧ g ≠ OB ∧ v.ownBlock ≠ some g
theorem WrI.ob_lt {w0 : World} {OB B : Nat} {E S : Nat → Prop} {v : Value} {nodes : List Nod} {w : World} (h : WrI w0 OB B E S v nodes w) : OB < w.heap.size := by
  obtain ⟨r, h1⟩ := h.box
  exact (Array.getElem?_eq_some_iff.1 h1).1

/-- on the way: the node's box N and further boxes lie from w's end up to s; rows made since lie from s on -/
structure WrL (w0 w W2 : World) (OB B N s : Nat) (E S SW : Nat → Prop) (v : Value) (nodes : List Nod) (k0 k1 k2 : Value) (wv : Value) (ws : List Int) (v' r kv : Value) (S' : Nat → Prop) (add : List Nod) (ids : List Int) (wr : World) : Prop where
  box : wr.heap[OB]? = some (.cells #[v', r] 32 (0, 0))
  xb : XB S' B wr v' 71 (nodes ++ add)
  kb : KBs w.heap.size OB B v v' w wr
  sub : ∀ g, S g → S' g
  new : ∀ g, S' g → S g ∨ E g ∨ s ≤ g
  nb : wr.heap[N]? = some (.cells #[k0, k1, k2, wv, kv] 71 (0, 0))
  loc : ∀ g, w.heap.size ≤ g → g < s → g ≠ N → wr.heap[g]? = W2.heap[g]?
  own : ∀ g, v'.ownBlock = some g → v.ownBlock = some g ∨ s ≤ g
  sw : SlS SW wr wv ws
  rk : wr.ownsRow s 3 1 kv ids.length (ids.map (Value.int .i64))
  dw : ∀ g, SW g → g < wr.heap.size ∧ g ≠ OB ∧ g ≠ N ∧ v'.ownBlock ≠ some g ∧ kv.ownBlock ≠ some g
  nw : ∀ g, SW g → E g ∨ s ≤ g
  dk : ∀ g, kv.ownBlock = some g → ¬ S' g ∧ ¬ E g ∧ v'.ownBlock ≠ some g
  dn : w.heap.size ≤ N ∧ N < s
  ext : ∀ g, E g → g < w.heap.size ∧ g ≠ OB ∧ v.ownBlock ≠ some g
theorem WrI.below {w0 : World} {OB B : Nat} {E S : Nat → Prop} {v : Value} {nodes : List Nod} {w W2 : World} (h : WrI w0 OB B E S v nodes w) (hb : Below w.heap.size w W2) (hB : w0.heap.size ≤ w.heap.size) : WrI w0 OB B E S v nodes W2 := by
  obtain ⟨r, hr⟩ := h.box
  exact ⟨h.bel.trans (hb.mono hB), ⟨r, (hb.block OB h.ob_lt).trans hr⟩, h.xb.below hb, h.ob, h.own, fun g hg => by
    obtain ⟨h1, h2, h3⟩ := h.ext g hg
    have := hb.size
    exact ⟨by omega, h2, h3⟩⟩
theorem WrO.pre {OB B : Nat} {E S : Nat → Prop} {v : Value} {nodes add : List Nod} {w W2 w' : World} (hB : B ≤ w.heap.size) (hb : Below w.heap.size w W2) (h : WrO OB B E S v nodes add W2 w') : WrO OB B E S v nodes add w w' := by
  obtain ⟨v', S', h1, h2, h3, h4, h5⟩ := h
  have := hb.size
  refine ⟨v', S', h1, h2, (KB.of_below v hB hb).trans h3, h4, fun g hg => ?_⟩
  rcases h5 g hg with h6 | h6 | h6
  · exact .inl h6
  · exact .inr (.inl h6)
  · exact .inr (.inr (by omega))
section
variable {w0 w W2 : World} {OB B N s : Nat} {E S SW : Nat → Prop} {v : Value} {nodes : List Nod} {k0 k1 k2 : Value} {wv : Value} {ws : List Int} {v' r kv : Value} {S' : Nat → Prop} {add : List Nod} {ids : List Int} {wr : World}
theorem WrL.start (hI : WrI w0 OB B E S v nodes w) (hB : B ≤ OB) {W4 : World} (hb : Below w.heap.size w W4) (nb : W4.heap[N]? = some (.cells #[k0, k1, k2, wv, .slice none 0 0] 71 (0, 0))) (loc : ∀ g, w.heap.size ≤ g → g < s → g ≠ N → W4.heap[g]? = W2.heap[g]?) (dn : w.heap.size ≤ N ∧ N < s) (sw : SlS SW W4 wv ws) (nw : ∀ g, SW g → E g ∨ s ≤ g) (hsw : ∀ g, SW g → g < W4.heap.size) :
    ∃ r, WrL w0 w W2 OB B N s E S SW v nodes k0 k1 k2 wv ws v r (.slice none 0 0) S [] [] W4 := by
  obtain ⟨r, hr⟩ := hI.box
  have hob := hI.ob_lt
  refine ⟨r, ⟨(hb.block OB hob).trans hr, by rw [List.append_nil]; exact hI.xb.below hb, (KB.of_below v (by omega) hb).s (Nat.le_refl _), fun _ h => h, fun _ h => .inl h, nb, loc, fun _ h => .inl h, sw, World.ownsRow_nil _ _ _ _, fun g hg => ?_, nw, (fun g hg => by cases hg), dn, hI.ext⟩⟩
  refine ⟨hsw g hg, ?_, ?_, ?_, (fun e => by cases e)⟩
  · rcases nw g hg with h | h
    · exact (hI.ext g h).2.1
    · omega
  · rcases nw g hg with h | h
    · have := (hI.ext g h).1; omega
    · omega
  · rcases nw g hg with h | h
    · exact (hI.ext g h).2.2
    · intro e; have := (hI.xb.lt_own g e).2; omega
/-- ready for a call -/
theorem WrL.toI (h : WrL w0 w W2 OB B N s E S SW v nodes k0 k1 k2 wv ws v' r kv S' add ids wr) (hI : WrI w0 OB B E S v nodes w) (hB : w0.heap.size ≤ B) (hs : w.heap.size ≤ s) (hsr : s ≤ wr.heap.size) : WrI w0 OB B E S' v' (nodes ++ add) wr where
  bel := hI.bel.trans (h.kb.bel.mono hB)
  box := ⟨_, h.box⟩
  xb := h.xb
  ob := fun hS => by
    have := hI.ob_lt
    rcases h.new _ hS with h1 | h1 | h1
    · exact hI.ob h1
    · exact (hI.ext _ h1).2.1 rfl
    · omega
  own := fun e => by
    have := hI.ob_lt
    rcases h.own _ e with h1 | h1
    · exact hI.own h1
    · omega
  ext := fun g hg => by
    obtain ⟨h1, h2, h3⟩ := hI.ext g hg
    refine ⟨by omega, h2, fun e => ?_⟩
    rcases h.own _ e with h4 | h4
    · exact h3 h4
    · omega
/-- behind a call -/
theorem WrL.call (h : WrL w0 w W2 OB B N s E S SW v nodes k0 k1 k2 wv ws v' r kv S' add ids wr) (hI : WrI w0 OB B E S v nodes w) (hs : s ≤ wr.heap.size) {a2 : List Nod} {w2 : World} (hO : WrO OB B E S' v' (nodes ++ add) a2 wr w2) :
    ∃ v'' S'', WrL w0 w W2 OB B N s E S SW v nodes k0 k1 k2 wv ws v'' (.int .i64 (((nodes ++ add ++ a2).length : Int) - 1)) kv S'' (add ++ a2) ids w2 ∧ wr.heap.size ≤ w2.heap.size := by
  obtain ⟨v'', S'', h1, h2, h3, h4, h5⟩ := hO
  have hob := hI.ob_lt
  have hN : N < wr.heap.size := (Array.getElem?_eq_some_iff.1 h.nb).1
  have hsz := h3.bel.size
  have hnv : v'.ownBlock ≠ some N := fun e => by
    rcases h.own _ e with h6 | h6
    · have := (hI.xb.lt_own _ h6).2; have := h.dn; omega
    · have := h.dn; omega
  have hloc : ∀ g, w.heap.size ≤ g → g < s → v'.ownBlock ≠ some g := fun g g1 g2 e => by
    rcases h.own _ e with h6 | h6
    · have := (hI.xb.lt_own _ h6).2; omega
    · omega
  refine ⟨v'', S'', ⟨h1, by rw [← List.append_assoc]; exact h2, h.kb.trans (h3.s h.kb.bel.size), fun g hg => h4 g (h.sub g hg), fun g hg => ?_, ?_, fun g g1 g2 g3 => ?_, fun g hg => ?_, h.sw.move (fun g hg => ?_), rowK_at h.rk (fun g hg => ?_), fun g hg => ?_, h.nw, fun g hg => ?_, h.dn, h.ext⟩, hsz⟩
  · rcases h5 g hg with h6 | h6 | h6
    · exact h.new g h6
    · exact .inr (.inl h6)
    · exact .inr (.inr (by omega))
  · rw [h3.blk N hN (by have := h.dn; omega) hnv]; exact h.nb
  · rw [h3.blk g (by omega) (by omega) (hloc g g1 g2)]; exact h.loc g g1 g2 g3
  · rcases h3.own g hg with h6 | h6
    · exact h.own g h6
    · exact .inr (by omega)
  · obtain ⟨d1, d2, d3, d4, d5⟩ := h.dw g hg
    exact h3.blk g d1 d2 d4
  · have := (h.rk.lt g hg)
    have h7 := h.dk g hg
    have hdn := h.dn
    exact h3.blk g this.2 (by omega) h7.2.2
  · obtain ⟨d1, d2, d3, d4, d5⟩ := h.dw g hg
    refine ⟨by omega, d2, d3, fun e => ?_, d5⟩
    rcases h3.own g e with h6 | h6
    · exact d4 h6
    · omega
  · obtain ⟨k1, k2, k3⟩ := h.dk g hg
    have hlt := (h.rk.lt g hg)
    refine ⟨fun hS => ?_, k2, fun e => ?_⟩
    · rcases h5 g hS with h6 | h6 | h6
      · exact k1 h6
      · exact k2 h6
      · omega
    · rcases h3.own g e with h6 | h6
      · exact k3 h6
      · omega
/-- the kids' row grows: the node's box is written -/
theorem WrL.kid (h : WrL w0 w W2 OB B N s E S SW v nodes k0 k1 k2 wv ws v' r kv S' add ids wr) (hI : WrI w0 OB B E S v nodes w) (hB : B ≤ OB) (hs : s ≤ wr.heap.size) {z : Int} {x : World} {kv' : Value} {y : World} (hb : Below wr.heap.size wr x) (hg : x.grownBy y kv.ownBlock)
    (ho : y.ownsRow s 3 1 kv' (ids.length + 1) (ids.map (Value.int .i64) ++ [.int .i64 z])) (hv : ∀ g, kv'.ownBlock = some g → kv.ownBlock = some g ∨ wr.heap.size ≤ g) (hsz : x.heap.size ≤ y.heap.size) :
    WrL w0 w W2 OB B N s E S SW v nodes k0 k1 k2 wv ws v' r kv' S' add (ids ++ [z]) (y.setCell ⟨N, 4, none⟩ kv') := by
  have hob := hI.ob_lt
  have hN : N < wr.heap.size := (Array.getElem?_eq_some_iff.1 h.nb).1
  have hx := hb.size
  have hdn := h.dn
  have hko : ∀ g, kv.ownBlock = some g → s ≤ g ∧ g < wr.heap.size := fun g hg => h.rk.lt g hg
  have blk : ∀ g, g < wr.heap.size → kv.ownBlock ≠ some g → g ≠ N → (y.setCell ⟨N, 4, none⟩ kv').heap[g]? = wr.heap[g]? := fun g g1 g2 g3 => by
    rw [Below.heap_setCell _ _ _ _ (by show g ≠ N; exact g3), hg.block g (by omega) (fun e => g2 e.symm)]
    exact hb.block g g1
  have hnN : kv.ownBlock ≠ some N := fun e => by have := hko _ e; omega
  have hnb : y.heap[N]? = some (.cells #[k0, k1, k2, wv, kv] 71 (0, 0)) := by
    rw [hg.block N (by omega) (fun e => hnN e.symm), hb.block N hN]; exact h.nb
  have hvl := h.xb.lt_own
  have hvN : v'.ownBlock ≠ some N := fun e => by
    rcases h.own _ e with h6 | h6
    · have := (hI.xb.lt_own _ h6).2; omega
    · omega
  have hsN : ¬ S' N := fun hS => by
    rcases h.new _ hS with h6 | h6 | h6
    · have := hI.xb.lt _ h6; omega
    · have := (h.ext _ h6).1; omega
    · omega
  have hss : (y.setCell ⟨N, 4, none⟩ kv').heap.size = y.heap.size := by simp
  have hrow : (y.setCell ⟨N, 4, none⟩ kv').ownsRow s 3 1 kv' (ids ++ [z]).length ((ids ++ [z]).map (Value.int .i64)) := by
    rw [List.length_append, List.map_append]
    exact rowK_at ho fun g hg' => Below.heap_setCell _ _ _ _ (by have := (ho.lt g hg').1; show g ≠ N; omega)
  refine ⟨?_, h.xb.move (fun g hg' => ?_) (fun g hg' => ?_) (by omega), h.kb.trans ⟨?_, fun g g1 g2 g3 => ?_, fun _ e => .inl e⟩, h.sub, h.new, by rw [heap_set_at hnb]; rfl, fun g g1 g2 g3 => ?_, h.own, h.sw.move (fun g hg' => ?_), hrow, fun g hg' => ?_, h.nw, fun g hg' => ?_, h.dn, h.ext⟩
  · rw [blk OB (by omega) (fun e => by have := hko _ e; omega) (by omega)]; exact h.box
  · exact blk g (h.xb.lt g hg') (fun e => (h.dk g e).1 hg') (fun e => hsN (e ▸ hg'))
  · exact blk g (hvl g hg').2 (fun e => (h.dk g e).2.2 hg') (fun e => hvN (e ▸ hg'))
  · refine ((hb.mono (by omega)).grown hg (by omega) (fun g hg' => by have := hko g hg'; omega)).setCell (p := ⟨N, 4, none⟩) (by show B ≤ N; omega) _
  · exact blk g (by omega) (fun e => by have := hko g e; omega) (by omega)
  · rw [blk g (by omega) (fun e => by have := hko g e; omega) g3]; exact h.loc g g1 g2 g3
  · obtain ⟨d1, d2, d3, d4, d5⟩ := h.dw g hg'
    exact blk g d1 d5 d3
  · obtain ⟨d1, d2, d3, d4, d5⟩ := h.dw g hg'
    refine ⟨by omega, d2, d3, d4, fun e => ?_⟩
    rcases hv g e with h6 | h6
    · exact d5 h6
    · omega
  · rcases hv g hg' with h6 | h6
    · exact h.dk g h6
    · refine ⟨fun hS => by have := h.xb.lt g hS; omega, fun hE => by have := (h.ext g hE).1; have := h.kb.bel.size; omega, fun e => by have := (hvl g e).2; omega⟩
/-- the node is written -/
theorem WrL.fin {k sv nn : Int} (h : WrL w0 w W2 OB B N s E S SW v nodes (.int .i64 k) (.int .i64 sv) (.int .i64 nn) wv ws v' r kv S' add ids wr) (hI : WrI w0 OB B E S v nodes w) (hB : B ≤ OB) (hs : s ≤ wr.heap.size) {V : List NodV} (hV : V.length = (nodes ++ add).length) (h3 : ∀ (i : Nat) p nd, V[i]? = some p → (nodes ++ add)[i]? = some nd → NodS S' wr p nd)
    {x : World} {u : Value} {y : World} (hb : Below wr.heap.size wr x) (hg : x.grownBy y v'.ownBlock) (ho : y.ownsRow B 71 5 u ((nodes ++ add).length + 1) (V.flatMap nodVC ++ nodVC (⟨k, sv, nn, wv, kv⟩ : NodV))) (hv : ∀ g, u.ownBlock = some g → v'.ownBlock = some g ∨ wr.heap.size ≤ g) (hsz : x.heap.size ≤ y.heap.size) {q : Value} (hq : q = .int .i64 (((nodes ++ (add ++ [(⟨k, sv, nn, ws, ids⟩ : Nod)])).length : Int) - 1)) :
    WrO OB B E S v nodes (add ++ [(⟨k, sv, nn, ws, ids⟩ : Nod)]) w ((y.setCell ⟨OB, 0, none⟩ u).setCell ⟨OB, 1, none⟩ q) := by
  have hob := hI.ob_lt
  have hx := hb.size
  have hdn := h.dn
  have hvl := h.xb.lt_own
  have hbs := h.kb.bel.size
  have hvo : v'.ownBlock ≠ some OB := fun e => by
    rcases h.own _ e with h6 | h6
    · exact hI.own h6
    · omega
  have hSo : ¬ S' OB := fun hS => by
    rcases h.new _ hS with h6 | h6 | h6
    · exact hI.ob h6
    · exact (h.ext _ h6).2.1 rfl
    · omega
  let T : Nat → Prop := fun g => S' g ∨ SW g ∨ kv.ownBlock = some g
  have hTlt : ∀ g, T g → g < wr.heap.size := fun g hT => by
    rcases hT with h6 | h6 | h6
    · exact h.xb.lt g h6
    · exact (h.dw g h6).1
    · exact (h.rk.lt g h6).2
  have hTv : ∀ g, v'.ownBlock = some g → ¬ T g := fun g e hT => by
    rcases hT with h6 | h6 | h6
    · exact h.xb.own g e h6
    · exact (h.dw g h6).2.2.2.1 e
    · exact (h.dk g h6).2.2 e
  have hTo : ¬ T OB := fun hT => by
    rcases hT with h6 | h6 | h6
    · exact hSo h6
    · exact (h.dw _ h6).2.1 rfl
    · have := (h.rk.lt _ h6).1; omega
  have hgx : wr.grownBy y v'.ownBlock := by
    exact ⟨hg.os.trans hb.os, hg.tape.trans hb.tape, hg.output.trans hb.output, by omega, fun g g1 g2 => (hg.block g (by omega) g2).trans (hb.block g g1)⟩
  have hp : NodS T wr ⟨k, sv, nn, wv, kv⟩ ⟨k, sv, nn, ws, ids⟩ := fun w2 ha => by
    obtain ⟨a, c, e1, r1⟩ := h.sw w2 (fun g hg' => ha g (.inr (.inl hg')))
    obtain ⟨a', c', e2, r2⟩ := row_alone h.rk w2 (fun g hg' => ha g (.inr (.inr hg')))
    exact ⟨rfl, rfl, rfl, ⟨a, _, c, e1, r1⟩, ⟨a', _, c', e2, r2⟩⟩
  have hxy : XB T B y u 71 ((nodes ++ add) ++ [(⟨k, sv, nn, ws, ids⟩ : Nod)]) :=
    XB.push (S := T) (p := ⟨k, sv, nn, wv, kv⟩) hV (fun i p nd hp hn => (h3 i p nd hp hn).mono fun g hg' => .inl hg') hTlt hTv ho hp hgx hv (by omega)
  have hbox : y.heap[OB]? = some (.cells #[v', r] 32 (0, 0)) := by
    rw [hgx.block OB (by omega) (fun e => hvo e.symm)]; exact h.box
  have hbox2 : (y.setCell ⟨OB, 0, none⟩ u).heap[OB]? = some (.cells #[u, r] 32 (0, 0)) := by rw [heap_set_at hbox]; rfl
  have huo : u.ownBlock ≠ some OB := fun e => by
    rcases hv _ e with h6 | h6
    · exact hvo h6
    · omega
  have keep : ∀ g, g ≠ OB → ((y.setCell ⟨OB, 0, none⟩ u).setCell ⟨OB, 1, none⟩ q).heap[g]? = y.heap[g]? := fun g hg' => by
    rw [Below.heap_setCell _ ⟨OB, 1, none⟩ _ g (by exact hg'), Below.heap_setCell _ ⟨OB, 0, none⟩ _ g (by exact hg')]
  refine ⟨u, T, ?_, ?_, ⟨?_, fun g g1 g2 g3 => ?_, fun g e => ?_⟩, fun g hg' => .inl (h.sub g hg'), fun g hT => ?_⟩
  · rw [heap_set_at hbox2, hq]; rfl
  · rw [← List.append_assoc]
    exact hxy.move (fun g hg' => keep g (fun e => hTo (e ▸ hg'))) (fun g hg' => keep g (fun e => huo (e ▸ hg'))) (by simp)
  · exact (((h.kb.bel.trans (hb.mono (by omega))).grown hg (by omega) (fun g hg' => (hvl g hg').1)).setCell (p := ⟨OB, 0, none⟩) hB _).setCell (p := ⟨OB, 1, none⟩) hB _
  · rw [keep g g2, hgx.block g (by omega) (fun e => ?_)]
    · exact h.kb.blk g g1 g2 g3
    · rcases h.own g e.symm with h6 | h6
      · exact g3 h6
      · omega
  · rcases hv g e with h6 | h6
    · rcases h.own g h6 with h7 | h7
      · exact .inl h7
      · exact .inr (by omega)
    · exact .inr (by omega)
  · rcases hT with h6 | h6 | h6
    · rcases h.new g h6 with h7 | h7 | h7
      · exact .inl h7
      · exact .inr (.inl h7)
      · exact .inr (.inr (by omega))
    · rcases h.nw g h6 with h7 | h7
      · exact .inr (.inl h7)
      · exact .inr (.inr (by omega))
    · exact .inr (.inr (by have := (h.rk.lt _ h6).1; omega))
end
end Go.Proofs.YtcojmmhclklpoaaGreatDoor
