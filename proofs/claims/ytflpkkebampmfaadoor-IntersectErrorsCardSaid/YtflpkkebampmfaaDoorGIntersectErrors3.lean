/- Texts laid together. Expressions and trees in memory. Plain lemmas over the model, no program. Package family: Accepts, Support, Valid; slices.Contains, ContainsFunc of sets. family.Valid. slices.IndexFunc and ContainsFunc of ints; a node's error (expr.valid). expr.Valid, intersect.two. -/
import Derived.Test.YtflpkkebampmfaaDoorGIntersectErrors1
import Derived.Test.YtflpkkebampmfaaDoorGIntersectErrors2
import Derived.Shelf.GgClosure.Gives
namespace Go.Proofs.YtflpkkebampmfaaDoor
open Go.RowKit

/-- the five cells of a node -/
structure NodM (w : World) (b o : Nat) (nd : Nod) : Prop where
  c0 : w.cell? ⟨b, o, none⟩ = some (.int .i64 nd.kind)
  c1 : w.cell? ⟨b, o + 1, none⟩ = some (.int .i64 nd.server)
  c2 : w.cell? ⟨b, o + 2, none⟩ = some (.int .i64 nd.need)
  ws : ∃ a n c, w.cell? ⟨b, o + 3, none⟩ = some (.slice a n c) ∧ Rd w a n c (nd.weights.map (Value.int .i64))
  ks : ∃ a n c, w.cell? ⟨b, o + 4, none⟩ = some (.slice a n c) ∧ Rd w a n c (nd.kids.map (Value.int .i64))
/-- the slice value '.slice a n c' reads as these nodes -/
structure XM (w : World) (a : Option Addr) (n c : Nat) (nodes : List Nod) : Prop where
  len : nodes.length = n
  le : n ≤ c
  max : c ≤ maxLen
  nil : a = none → c = 0
  at' : 0 < n → ∃ b o, a = some ⟨b, o, none⟩ ∧ ∀ i nd, nodes[i]? = some nd → NodM w b (o + i * 5) nd
theorem XM.none_ (w : World) : XM w none 0 0 [] := ⟨rfl, Nat.le_refl _, by simp [maxLen], fun _ => rfl, fun h => absurd h (by decide)⟩

theorem cell_keep {w w' : World} {b o : Nat} {v : Value} (hb : Below w.heap.size w w') (h : w.cell? ⟨b, o, none⟩ = some v) : w'.cell? ⟨b, o, none⟩ = some v :=
  (hb.cell (p := ⟨b, o, none⟩) (cell_lt h)).trans h
theorem NodM.below {w w' : World} {b o : Nat} {nd : Nod} (h : NodM w b o nd) (hb : Below w.heap.size w w') : NodM w' b o nd := by
  obtain ⟨a, n, c, h3, r3⟩ := h.ws
  obtain ⟨a', n', c', h4, r4⟩ := h.ks
  exact ⟨cell_keep hb h.c0, cell_keep hb h.c1, cell_keep hb h.c2, ⟨a, n, c, cell_keep hb h3, r3.below hb⟩, ⟨a', n', c', cell_keep hb h4, r4.below hb⟩⟩
theorem XM.below {w w' : World} {a : Option Addr} {n c : Nat} {nodes : List Nod} (h : XM w a n c nodes) (hb : Below w.heap.size w w') : XM w' a n c nodes := by
  refine ⟨h.len, h.le, h.max, h.nil, fun hn => ?_⟩
  obtain ⟨b, o, ha, hc⟩ := h.at' hn
  exact ⟨b, o, ha, fun i nd hi => (hc i nd hi).below hb⟩
theorem NodM.drewN {w : World} {b o : Nat} {nd : Nod} (h : NodM w b o nd) (q : Nat) : NodM (w.drewN q) b o nd := by
  obtain ⟨a, n, c, h3, r3⟩ := h.ws
  obtain ⟨a', n', c', h4, r4⟩ := h.ks
  exact ⟨h.c0, h.c1, h.c2, ⟨a, n, c, h3, ⟨r3.len, r3.le, r3.max, r3.nil, r3.at'⟩⟩, ⟨a', n', c', h4, ⟨r4.len, r4.le, r4.max, r4.nil, r4.at'⟩⟩⟩
theorem XM.drewN {w : World} {a : Option Addr} {n c : Nat} {nodes : List Nod} (h : XM w a n c nodes) (q : Nat) : XM (w.drewN q) a n c nodes := by
  refine ⟨h.len, h.le, h.max, h.nil, fun hn => ?_⟩
  obtain ⟨b, o, ha, hc⟩ := h.at' hn
  exact ⟨b, o, ha, fun i nd hi => (hc i nd hi).drewN q⟩
theorem XM.take {w : World} {a : Option Addr} {n c : Nat} {nodes : List Nod} (h : XM w a n c nodes) (k : Nat) (hk : k ≤ n) : XM w a k c (nodes.take k) := by
  refine ⟨by rw [List.length_take, h.len]; omega, by have := h.le; omega, h.max, h.nil, fun hn => ?_⟩
  obtain ⟨b, o, ha, hc⟩ := h.at' (by omega)
  refine ⟨b, o, ha, fun i nd hi => hc i nd ?_⟩
  rw [List.getElem?_take] at hi
  split at hi
  · exact hi
  · cases hi

/-! nodes as values, in a row of the call's own -/
structure NodV where
  kind : Int
  server : Int
  need : Int
  wv : Value
  kv : Value
def nodVC (p : NodV) : List Value := [.int .i64 p.kind, .int .i64 p.server, .int .i64 p.need, p.wv, p.kv]
theorem nodVC_len (p : NodV) : (nodVC p).length = 5 := rfl
/-- a node's value reads as the node -/
structure NodR (w : World) (p : NodV) (nd : Nod) : Prop where
  e0 : p.kind = nd.kind
  e1 : p.server = nd.server
  e2 : p.need = nd.need
  ws : ∃ a n c, p.wv = .slice a n c ∧ Rd w a n c (nd.weights.map (Value.int .i64))
  ks : ∃ a n c, p.kv = .slice a n c ∧ Rd w a n c (nd.kids.map (Value.int .i64))
theorem NodR.below {w w' : World} {p : NodV} {nd : Nod} (h : NodR w p nd) (hb : Below w.heap.size w w') : NodR w' p nd := by
  obtain ⟨a, n, c, h3, r3⟩ := h.ws
  obtain ⟨a', n', c', h4, r4⟩ := h.ks
  exact ⟨h.e0, h.e1, h.e2, ⟨a, n, c, h3, r3.below hb⟩, ⟨a', n', c', h4, r4.below hb⟩⟩
theorem XM.of_rdK {w : World} {a : Option Addr} {n c : Nat} {V : List NodV} {nodes : List Nod} (h : RdK 5 w a n c (V.flatMap nodVC)) (hn : V.length = nodes.length) (hV : ∀ (i : Nat) p nd, V[i]? = some p → nodes[i]? = some nd → NodR w p nd) : XM w a n c nodes := by
  have hl := h.len
  rw [flat_len 5 nodVC nodVC_len] at hl
  have hVn : V.length = n := by omega
  refine ⟨by omega, h.le, h.max, h.nil, fun h0 => ?_⟩
  obtain ⟨b, o, ha, hc⟩ := RdK.cells h nodVC_len h0
  refine ⟨b, o, ha, fun i nd hi => ?_⟩
  have hil := (List.getElem?_eq_some_iff.1 hi).1
  obtain ⟨p, hp⟩ : ∃ p, V[i]? = some p := ⟨_, List.getElem?_eq_getElem (by omega)⟩
  have r := hV i p nd hp hi
  have g := hc i p hp
  obtain ⟨a3, n3, c3, h3, r3⟩ := r.ws
  obtain ⟨a4, n4, c4, h4, r4⟩ := r.ks
  refine ⟨?_, ?_, ?_, ⟨a3, n3, c3, ?_, r3⟩, ⟨a4, n4, c4, ?_, r4⟩⟩
  · rw [← r.e0]; exact g 0 (by omega)
  · rw [← r.e1]; exact g 1 (by omega)
  · rw [← r.e2]; exact g 2 (by omega)
  · rw [← h3]; exact g 3 (by omega)
  · rw [← h4]; exact g 4 (by omega)
theorem XM.of_row {w : World} {B n : Nat} {e : TypeId} {v : Value} {V : List NodV} {nodes : List Nod} (h : w.ownsRow B e 5 v n (V.flatMap nodVC)) (hn : V.length = nodes.length) (hV : ∀ (i : Nat) p nd, V[i]? = some p → nodes[i]? = some nd → NodR w p nd) : ∃ a c, v = .slice a n c ∧ XM w a n c nodes := by
  obtain ⟨a, c, hv, hr⟩ := rdK_of_row h
  exact ⟨a, c, hv, .of_rdK hr hn hV⟩

/-! trees -/
def choC (c : Cho) : List Value := [.int .i64 c.server, .int .i64 c.first, .int .i64 c.second]
theorem choC_len (c : Cho) : (choC c).length = 3 := rfl
def choA (c : Cho) : Value := .agg #[.int .i64 c.server, .int .i64 c.first, .int .i64 c.second]
abbrev TM (w : World) (a : Option Addr) (n c : Nat) (nodes : List Cho) : Prop := RdK 3 w a n c (nodes.flatMap choC)
theorem TM.len {w : World} {a : Option Addr} {n c : Nat} {nodes : List Cho} (h : TM w a n c nodes) : nodes.length = n := by
  have := RdK.len h; rw [flat_len 3 choC choC_len] at this; omega
/-- the three cells of a node of a tree -/
theorem TM.at3 {w : World} {a : Option Addr} {n c : Nat} {nodes : List Cho} (h : TM w a n c nodes) (hn : 0 < n) : ∃ b o, a = some ⟨b, o, none⟩ ∧ ∀ i x, nodes[i]? = some x → w.cell? ⟨b, o + i * 3, none⟩ = some (.int .i64 x.server) ∧ w.cell? ⟨b, o + i * 3 + 1, none⟩ = some (.int .i64 x.first) ∧ w.cell? ⟨b, o + i * 3 + 2, none⟩ = some (.int .i64 x.second) := by
  obtain ⟨b, o, ha, hc⟩ := RdK.cells h choC_len hn
  exact ⟨b, o, ha, fun i x hx => ⟨hc i x hx 0 (by omega), hc i x hx 1 (by omega), hc i x hx 2 (by omega)⟩⟩
end Go.Proofs.YtflpkkebampmfaaDoor
namespace Go.Proofs.YtflpkkebampmfaaDoor
open Go.RowKit Go.Shelf

def setV2 (x : BitVec 16) : Value := .int .u16 (U x)

theorem at_some {l : List (BitVec 16)} {k : Nat} (h : k < l.length) : l[k]? = some (l.getD k 0#16) := by rw [List.getElem?_eq_getElem h, getD_at h]
theorem at_cell {l : List (BitVec 16)} {k : Nat} (h : k < l.length) : (l.map setV2)[k]? = some (.int .u16 (U (l.getD k 0#16))) := by rw [List.getElem?_map, at_some h]; rfl
theorem any_hit {p : BitVec 16 → Bool} {l : List (BitVec 16)} {k : Nat} (h : k < l.length) (hp : p (l.getD k 0#16) = true) : l.any p = true :=
  List.any_eq_true.2 ⟨_, by rw [getD_at h]; exact List.getElem_mem h, hp⟩
theorem any_none {p : BitVec 16 → Bool} {l : List (BitVec 16)} (h : ∀ j, j < l.length → p (l.getD j 0#16) = false) : l.any p = false := by
  rw [Bool.eq_false_iff]
  intro hc
  obtain ⟨x, hx, hp⟩ := List.any_eq_true.1 hc
  obtain ⟨j, hj, rfl⟩ := List.mem_iff_getElem.1 hx
  rw [← getD_at hj, h j hj] at hp; cases hp

/-- the first place of a set, or -1 -/
def idxS (p : BitVec 16 → Bool) (l : List (BitVec 16)) : Int := if l.any p then (l.findIdx p : Int) else -1
theorem idxS_hit {p : BitVec 16 → Bool} {l : List (BitVec 16)} {k : Nat} (hk : k < l.length) (h : ∀ j, j < k → p (l.getD j 0#16) = false) (hp : p (l.getD k 0#16) = true) : idxS p l = k := by
  unfold idxS
  rw [if_pos (any_hit hk hp)]
  have : l.findIdx p = k := by
    rw [List.findIdx_eq hk]
    refine ⟨by rw [← getD_at hk]; exact hp, fun j hj => ?_⟩
    have := h j hj
    rw [getD_at (by omega)] at this
    exact this
  rw [this]
theorem idxS_none {p : BitVec 16 → Bool} {l : List (BitVec 16)} (h : ∀ j, j < l.length → p (l.getD j 0#16) = false) : idxS p l = -1 := by
  unfold idxS; rw [any_none h]; rfl
theorem idxS_ge (p : BitVec 16 → Bool) (l : List (BitVec 16)) : decide (0 ≤ idxS p l) = l.any p := by
  unfold idxS
  cases l.any p <;> simp

set_option maxRecDepth 100000 in
set_option maxHeartbeats 1000000 in
theorem idxF_c (g : Nat) (lb : Array Value) (eg : ∀ args w, (callFunc g args).run Tryd.prog w = .ok (.enter g args) w) (p : BitVec 16 → Bool) (l : List (BitVec 16)) (a : Option Addr) (n c : Nat) (w : World)
    (h : Rd w a n c (l.map setV2)) (hp : PredAt Tryd.prog g lb setV2 p w) :
    Calls Tryd.prog 115 #[.slice a n c, .func (.func g) #[] lb] w fun e w' => e = .returned (.int .i64 (idxS p l)) ∧ Below w.heap.size w w' := by
  have hn : n ≤ l.length ∧ l.length ≤ n := by have := h.len; simp at this; omega
  obtain ⟨hn1, hn2⟩ := hn
  have hm := h.max
  have hle := h.le
  unfold maxLen at hm
  have HP := Lib.hid hp
  have HR := Lib.hid h
  clear hp h
  go_enter Tryd.func115, Tryd.ntmps115
  go_wp2_with fail
  go_loopw [8] (fun i wr => ∃ k : Nat, k ≤ n ∧ i = .int .i64 k ∧ Hid (∀ j, j < k → p (l.getD j 0#16) = false) ∧ Below w.heap.size w wr) (fun i _ => n - (intOf i).toNat)
  case atStart => exact ⟨0, Nat.zero_le _, rfl, Lib.hid (fun j hj => by omega), Below.refl _ _⟩
  case round =>
    obtain ⟨k, hk, rfl, hno, hb⟩ := hrel
    by_cases hlt : k < n
    · obtain ⟨b, o, ha, hcell⟩ := (HR.out.below hb).at' (by omega)
      have hc := hcell k _ (at_cell (by omega))
      subst ha
      have HF : Hid (Calls Tryd.prog g (#[.int .u16 (U (l.getD k 0#16))] ++ lb) wr fun e w' => e = .returned (.bool (p (l.getD k 0#16))) ∧ ∃ q, w' = wr.drewN q) := HP.out wr (l.getD k 0#16) hb
      cases hq : p (l.getD k 0#16)
      · have hno' : Hid (∀ j, j < k + 1 → p (l.getD j 0#16) = false) := Lib.hid (fun j hj => by
          by_cases h1 : j < k
          · exact hno.out j h1
          · obtain rfl : j = k := by omega
            exact hq)
        rw [hq] at HF
        obtain ⟨x, hx⟩ : ∃ x, l.getD k 0#16 = x := ⟨_, rfl⟩
        rw [hx] at hc HF
        clear hq hcell hno hx
        go_wp2_with (go_at_fn g; refine HF.out.mono ?_; rintro e w' ⟨rfl, q, rfl⟩)
        go_roundw
        case rel => exact ⟨k + 1, by omega, by go_num, hno', below_drewN hb⟩
        case measure => simp [intOf]; omega
      · have hI : Hid (idxS p l = k) := idxS_hit (by omega) hno.out hq
        rw [hq] at HF
        obtain ⟨x, hx⟩ : ∃ x, l.getD k 0#16 = x := ⟨_, rfl⟩
        rw [hx] at hc HF
        clear hq hcell hno hx
        go_wp2_with (go_at_fn g; refine HF.out.mono ?_; rintro e w' ⟨rfl, q, rfl⟩)
        go_ret
        exact ⟨ret_int hI.out.symm, below_drewN hb⟩
    · have hI : Hid (idxS p l = -1) := idxS_none (fun j hj => hno.out j (by omega))
      clear hno
      go_wp2_with fail
      go_ret
      exact ⟨ret_int hI.out.symm, hb⟩

set_option maxRecDepth 100000 in
set_option maxHeartbeats 1000000 in
theorem containsF_c (g : Nat) (lb : Array Value) (eg : ∀ args w, (callFunc g args).run Tryd.prog w = .ok (.enter g args) w) (p : BitVec 16 → Bool) (l : List (BitVec 16)) (a : Option Addr) (n c : Nat) (w : World)
    (h : Rd w a n c (l.map setV2)) (hp : PredAt Tryd.prog g lb setV2 p w) :
    Calls Tryd.prog 101 #[.slice a n c, .func (.func g) #[] lb] w fun e w' => e = .returned (.bool (l.any p)) ∧ Below w.heap.size w w' := by
  have HC := Lib.hid (idxF_c g lb eg p l a n c w h hp)
  have hi := idxS_ge p l
  clear h hp eg
  obtain ⟨i, hi2⟩ : ∃ i, idxS p l = i := ⟨_, rfl⟩
  rw [hi2] at HC hi
  have HI := Lib.hid hi
  clear hi hi2
  go_enter Tryd.func101, Tryd.ntmps101
  go_wp2_with fail
  refine HC.out.mono ?_
  rintro e w1 ⟨rfl, hb⟩
  go_wp2_with fail
  go_ret
  exact ⟨ret_bool HI.out, hb⟩

set_option maxHeartbeats 400000 in
theorem contains_c (x y : BitVec 16) (w : World) :
    Calls Tryd.prog 103 #[.int .u16 (U x), .int .u16 (U y)] w fun e w' => e = .returned (.bool (subB x y)) ∧ w' = w := by
  go_enter Tryd.func103, Tryd.ntmps103
  go_wp2
  go_ret
  exact ⟨rfl, rfl⟩

theorem accepts1_at (w : World) (B : Nat) (s : BitVec 16) (hc : w.cell? ⟨B, 0, none⟩ = some (.int .u16 (U s))) :
    PredAt Tryd.prog 102 #[.pointer (some ⟨B, 0, none⟩)] setV2 (fun x => subB s x) w := fun W x hb => by
  have hc' : W.cell? ⟨B, 0, none⟩ = some (.int .u16 (U s)) := (hb.cell (p := ⟨B, 0, none⟩) (cell_lt hc)).trans hc
  unfold FnGives setV2
  clear hb hc
  go_enter Tryd.func102, Tryd.ntmps102
  go_wp2_with fail
  refine (contains_c s x _).mono ?_
  rintro e w1 ⟨rfl, rfl⟩
  go_wp2_with fail
  go_ret
  exact ⟨rfl, 0, rfl⟩

set_option maxRecDepth 100000 in
set_option maxHeartbeats 1000000 in
theorem accepts_c (l : List (BitVec 16)) (s : BitVec 16) (a : Option Addr) (n c : Nat) (w : World) (h : Rd w a n c (l.map setV2)) :
    Calls Tryd.prog 80 #[.slice a n c, .int .u16 (U s)] w fun e w' => e = .returned (.bool (accS l s)) ∧ Below w.heap.size w w' := by
  have hb0 : Below w.heap.size w (w.alloc (.cells #[.int .u16 (U s)] 26)) := (Below.refl _ w).alloc (Nat.le_refl _) _
  have HC := Lib.hid (containsF_c 102 #[.pointer (some ⟨w.heap.size, 0, none⟩)] (enters_of Tryd.func102 (by kernel_rfl) rfl) (fun x => subB s x) l a n c _ (h.below hb0) (accepts1_at _ w.heap.size s (cell_new _ _ _ 0 _ rfl)))
  have HB := Lib.hid hb0
  clear h hb0
  go_enter Tryd.func80, Tryd.ntmps80
  go_wp2_with fail
  refine HC.out.mono ?_
  rintro e w1 ⟨rfl, hb⟩
  go_wp2_with fail
  go_ret
  exact ⟨rfl, Below.next HB.out hb⟩

/-- the union -/
def supS (l : List (BitVec 16)) : BitVec 16 := l.foldl (· ||| ·) 0#16
theorem supS_take {l : List (BitVec 16)} {k : Nat} (h : k < l.length) : supS (l.take (k + 1)) = supS (l.take k) ||| l.getD k 0#16 := by
  unfold supS; rw [List.take_add_one, at_some h]; simp

end Go.Proofs.YtflpkkebampmfaaDoor
namespace Go.Proofs.YtflpkkebampmfaaDoor
open Go.RowKit Go.Shelf

theorem Rd.take {w : World} {a : Option Addr} {n c : Nat} {l : List Value} (h : Rd w a n c l) (k : Nat) (hk : k ≤ n) : Rd w a k c (l.take k) := by
  refine ⟨by rw [List.length_take, ← h.len]; omega, by have := h.le; omega, h.max, h.nil, fun hn => ?_⟩
  obtain ⟨b, o, ha, hc⟩ := h.at' (by omega)
  refine ⟨b, o, ha, fun i v hv => hc i v ?_⟩
  rw [List.getElem?_take] at hv
  split at hv
  · exact hv
  · cases hv

@[go_sem] theorem bv16_and_out (x : BitVec 16) : bits .and .u16 (U x) 61440 = U (x &&& 61440#16) := by
  have := bv16_and x 61440#16
  rwa [show U 61440#16 = 61440 by decide] at this
theorem out_iff (x : BitVec 16) : (x &&& 61440#16 != 0#16) = decide (4096 ≤ U x) := by
  rw [Bool.eq_iff_iff, bne_iff_ne, decide_eq_true_iff]
  have hx := x.isLt
  constructor
  · intro h
    refine Classical.byContradiction fun hc => h ?_
    have hlt : x.toNat < 2 ^ 12 := by unfold U at hc; omega
    apply BitVec.eq_of_getLsbD_eq
    intro i hi
    simp only [BitVec.getLsbD_and, BitVec.getLsbD_zero]
    by_cases h12 : i < 12
    · have : ∀ i : Fin 12, (61440#16).getLsbD i.val = false := by decide
      rw [this ⟨i, h12⟩, Bool.and_false]
    · have : x.getLsbD i = false := Nat.testBit_lt_two_pow (Nat.lt_of_lt_of_le hlt (Nat.pow_le_pow_right (by decide) (by omega)))
      rw [this, Bool.false_and]
  · intro h hc
    have hlt : x.toNat < 2 ^ 12 := by
      apply Nat.lt_pow_two_of_testBit
      intro i hi
      by_cases h16 : i < 16
      · have h1 := congrArg (fun y => y.getLsbD i) hc
        simp only [BitVec.getLsbD_and, BitVec.getLsbD_zero] at h1
        have : ∀ i : Fin 4, (61440#16).getLsbD (i.val + 12) = true := by decide
        have h2 := this ⟨i - 12, by omega⟩
        simp only [show i - 12 + 12 = i by omega] at h2
        rw [h2, Bool.and_true] at h1
        exact h1
      · exact Nat.testBit_lt_two_pow (Nat.lt_of_lt_of_le hx (Nat.pow_le_pow_right (by decide) (by omega)))
    unfold U at h; omega

theorem valS_first {l : List (BitVec 16)} {k : Nat} (hn : ¬ 400 < l.length) (hk : k < l.length) (h : ∀ j, j < k → e1 l j = 0) (he : e1 l k ≠ 0) : valS l = e1 l k := by
  unfold valS
  rw [if_neg hn, firstE_hit _ _ k hk h he, if_pos he]
theorem valS_over {l : List (BitVec 16)} (hn : ¬ 400 < l.length) (h : ∀ j, j < l.length → e1 l j = 0) : valS l = if overB l then 1 else 0 := by
  unfold valS
  rw [if_neg hn, firstE_none _ _ h]; rfl
theorem e1_out {l : List (BitVec 16)} {k : Nat} (h : 4096 ≤ U (l.getD k 0#16)) : e1 l k = 7 := by unfold e1; rw [if_pos h]
theorem e1_zero0 {l : List (BitVec 16)} (h : ¬ 4096 ≤ U (l.getD 0 0#16)) : e1 l 0 = 0 := by unfold e1; rw [if_neg h, if_neg (by omega)]
theorem e1_next {l : List (BitVec 16)} {k : Nat} (h : ¬ 4096 ≤ U (l.getD (k + 1) 0#16)) : e1 l (k + 1) = if 0 ≤ cmpS (l.getD k 0#16) (l.getD (k + 1) 0#16) then 1 else 0 := by
  unfold e1; rw [if_neg h]
  by_cases hc : 0 ≤ cmpS (l.getD k 0#16) (l.getD (k + 1) 0#16)
  · rw [if_pos ⟨by omega, by simpa using hc⟩, if_pos hc]
  · rw [if_neg (fun h => hc (by simpa using h.2)), if_neg hc]

set_option maxRecDepth 100000 in
set_option maxHeartbeats 2000000 in
theorem valid_c (l : List (BitVec 16)) (a : Option Addr) (n c : Nat) (w : World) (h : Rd w a n c (l.map setV2)) :
    Calls Tryd.prog 68 #[.slice a n c] w fun e w' => e = .returned (.int .i64 (valS l)) ∧ Below w.heap.size w w' := by
  have hnl : l.length = n := by have := h.len; simp at this; omega
  have hm := h.max
  have hle := h.le
  unfold maxLen at hm
  have HR := Lib.hid h
  have HN := Lib.hid hnl
  clear h hnl
  by_cases h400 : (400 : Int) < (n : Int)
  · have hV : Hid (valS l = 3) := by show _ = _; unfold valS; rw [if_pos (by have := HN.out; omega)]
    go_enter Tryd.func68, Tryd.ntmps68
    go_wp2_with fail
    go_ret
    exact ⟨by rw [hV.out]; rfl, Below.refl _ _⟩
  · have hd4 : decide ((400 : Int) < (n : Int)) = false := by simpa using h400
    have h400' : Hid (¬ 400 < l.length) := by show ¬ _; have := HN.out; omega
    clear h400
    go_enter Tryd.func68, Tryd.ntmps68
    go_wp2_with fail
    go_loopw [12] (fun i wr => ∃ k : Nat, k ≤ n ∧ i = .int .i64 k ∧ Hid (∀ j, j < k → e1 l j = 0) ∧ Below w.heap.size w wr) (fun i _ => n - (intOf i).toNat)
    case atStart => exact ⟨0, Nat.zero_le _, rfl, Lib.hid (fun j hj => by omega), Below.refl _ _⟩
    case round =>
      obtain ⟨k, hk, rfl, hno, hb⟩ := hrel
      by_cases hlt : k < n
      · obtain ⟨b, o, ha, hcell⟩ := (HR.out.below hb).at' (by omega)
        have hc := hcell k _ (at_cell (by have := HN.out; omega))
        have hlen : Hid (k < l.length) := by show k < _; have := HN.out; omega
        subst ha
        by_cases ho : 4096 ≤ U (l.getD k 0#16)
        · have hV : Hid (valS l = 7) := by show _ = _; rw [valS_first h400'.out hlen.out hno.out (by rw [e1_out ho]; decide), e1_out ho]
          have ho1 := out_iff (l.getD k 0#16)
          obtain ⟨x, hx⟩ : ∃ x, l.getD k 0#16 = x := ⟨_, rfl⟩
          rw [hx] at ho ho1 hc
          rw [decide_eq_true ho] at ho1
          clear hcell hx ho hno
          go_wp2_with fail
          go_ret
          exact ⟨by rw [hV.out]; rfl, hb⟩
        · have ho1 := out_iff (l.getD k 0#16)
          rw [decide_eq_false ho] at ho1
          cases k with
          | zero =>
            have hno' : Hid (∀ j, j < 0 + 1 → e1 l j = 0) := Lib.hid (fun j hj => by obtain rfl : j = 0 := (by omega); exact e1_zero0 ho)
            obtain ⟨x, hx⟩ : ∃ x, l.getD 0 0#16 = x := ⟨_, rfl⟩
            rw [hx] at ho1 hc
            rw [Nat.add_zero] at hc
            clear hcell hx ho hno
            go_wp2_with fail
            go_roundw
            case rel => exact ⟨0 + 1, by omega, rfl, hno', hb⟩
            case measure => simp [intOf]; omega
          | succ k =>
            have hc0 := hcell k _ (at_cell (by have := hlen.out; omega))
            have he := e1_next ho
            by_cases hcmp : 0 ≤ cmpS (l.getD k 0#16) (l.getD (k + 1) 0#16)
            · rw [if_pos hcmp] at he
              have hV : Hid (valS l = 1) := by show _ = _; rw [valS_first h400'.out hlen.out hno.out (by rw [he]; decide), he]
              obtain ⟨x, hx⟩ : ∃ x, l.getD k 0#16 = x := ⟨_, rfl⟩
              obtain ⟨y, hy⟩ : ∃ y, l.getD (k + 1) 0#16 = y := ⟨_, rfl⟩
              have HC := Lib.hid (fun w => compare_c x y _ _ w rfl rfl)
              rw [hx, hy] at hcmp
              rw [hx] at hc0
              rw [hy] at hc ho1
              clear hcell hx hy ho hno he
              go_wp2_with fail
              refine (HC.out _).mono ?_
              rintro e w2 ⟨rfl, hb2⟩
              go_wp2_with fail
              go_ret
              exact ⟨by rw [hV.out]; rfl, Below.next hb hb2⟩
            · rw [if_neg hcmp] at he
              have hno' : Hid (∀ j, j < k + 1 + 1 → e1 l j = 0) := Lib.hid (fun j hj => by
                by_cases h1 : j < k + 1
                · exact hno.out j h1
                · obtain rfl : j = k + 1 := by omega
                  exact he)
              obtain ⟨x, hx⟩ : ∃ x, l.getD k 0#16 = x := ⟨_, rfl⟩
              obtain ⟨y, hy⟩ : ∃ y, l.getD (k + 1) 0#16 = y := ⟨_, rfl⟩
              have HC := Lib.hid (fun w => compare_c x y _ _ w rfl rfl)
              rw [hx, hy] at hcmp
              rw [hx] at hc0
              rw [hy] at hc ho1
              have hcm : decide (0 ≤ cmpS x y) = false := by simpa using hcmp
              clear hcell hx hy ho hno he hcmp
              go_wp2_with fail
              refine (HC.out _).mono ?_
              rintro e w2 ⟨rfl, hb2⟩
              have hb3 := Below.next hb hb2
              clear hb hb2
              go_wp2_with fail
              go_roundw
              case rel => exact ⟨k + 1 + 1, by omega, by go_num, hno', hb3⟩
              case measure => simp [intOf]; omega
      · have hall : Hid (∀ j, j < l.length → e1 l j = 0) := Lib.hid (fun j hj => hno.out j (by have := HN.out; omega))
        clear hno
        go_wp2_with fail
        go_loopw [37] (fun i wr => ∃ k : Nat, k ≤ n ∧ i = .int .i64 k ∧ Hid (∀ j, j < k → accS (l.take j) (l.getD j 0#16) = false) ∧ Below w.heap.size w wr) (fun i _ => n - (intOf i).toNat)
        case atStart => exact ⟨0, Nat.zero_le _, rfl, Lib.hid (fun j hj => by omega), hb⟩
        case round =>
          clear hb
          obtain ⟨i, hi, rfl, hno, hb⟩ := hrel
          by_cases hlt2 : i < n
          · have hRw := HR.out.below hb
            obtain ⟨b, o, ha, hcell⟩ := hRw.at' (by omega)
            have hc := hcell i _ (at_cell (by have := HN.out; omega))
            have hT := hRw.take i (by omega)
            rw [← List.map_take] at hT
            subst ha
            have HA := Lib.hid (accepts_c (l.take i) (l.getD i 0#16) _ i c _ hT)
            cases hq : accS (l.take i) (l.getD i 0#16)
            · have hno' : Hid (∀ j, j < i + 1 → accS (l.take j) (l.getD j 0#16) = false) := Lib.hid (fun j hj => by
                by_cases h1 : j < i
                · exact hno.out j h1
                · obtain rfl : j = i := by omega
                  exact hq)
              rw [hq] at HA
              obtain ⟨x, hx⟩ : ∃ x, l.getD i 0#16 = x := ⟨_, rfl⟩
              rw [hx] at HA hc
              clear hcell hx hq hno hT hRw
              go_wp2_with fail
              refine HA.out.mono ?_
              rintro e w2 ⟨rfl, hb2⟩
              have hb3 := Below.next hb hb2
              clear hb hb2
              go_wp2_with fail
              go_roundw
              case rel => exact ⟨i + 1, by omega, by go_num, hno', hb3⟩
              case measure => simp [intOf]; omega
            · have hV : Hid (valS l = 1) := by
                show _ = _
                rw [valS_over h400'.out hall.out, if_pos]
                unfold overB
                exact List.any_eq_true.2 ⟨i, List.mem_range.2 (by have := HN.out; omega), hq⟩
              rw [hq] at HA
              obtain ⟨x, hx⟩ : ∃ x, l.getD i 0#16 = x := ⟨_, rfl⟩
              rw [hx] at HA hc
              clear hcell hx hq hno hT hRw
              go_wp2_with fail
              refine HA.out.mono ?_
              rintro e w2 ⟨rfl, hb2⟩
              have hb3 := Below.next hb hb2
              clear hb hb2
              go_wp2_with fail
              go_ret
              exact ⟨by rw [hV.out]; rfl, hb3⟩
          · have hV : Hid (valS l = 0) := by
              show _ = _
              rw [valS_over h400'.out hall.out, if_neg]
              intro hc
              unfold overB at hc
              obtain ⟨j, hj, hq⟩ := List.any_eq_true.1 hc
              have := hno.out j (by have := List.mem_range.1 hj; have := HN.out; omega)
              rw [this] at hq; cases hq
            clear hno
            go_wp2_with fail
            go_ret
            exact ⟨by rw [hV.out]; rfl, hb⟩
end Go.Proofs.YtflpkkebampmfaaDoor
namespace Go.Proofs.YtflpkkebampmfaaDoor
open Go.RowKit Go.Shelf

theorem getD_atI {l : List Int} {k : Nat} (h : k < l.length) : l.getD k 0 = l[k] := by rw [List.getD_eq_getElem?_getD, List.getElem?_eq_getElem h]; rfl
theorem at_someI {l : List (Int)} {k : Nat} (h : k < l.length) : l[k]? = some (l.getD k 0) := by rw [List.getElem?_eq_getElem h, getD_atI h]
theorem at_cellI {l : List (Int)} {k : Nat} (h : k < l.length) : (l.map (Value.int .i64))[k]? = some (.int .i64 (l.getD k 0)) := by rw [List.getElem?_map, at_someI h]; rfl
theorem any_hitI {p : Int → Bool} {l : List (Int)} {k : Nat} (h : k < l.length) (hp : p (l.getD k 0) = true) : l.any p = true :=
  List.any_eq_true.2 ⟨_, by rw [getD_atI h]; exact List.getElem_mem h, hp⟩
theorem any_noneI {p : Int → Bool} {l : List (Int)} (h : ∀ j, j < l.length → p (l.getD j 0) = false) : l.any p = false := by
  rw [Bool.eq_false_iff]
  intro hc
  obtain ⟨x, hx, hp⟩ := List.any_eq_true.1 hc
  obtain ⟨j, hj, rfl⟩ := List.mem_iff_getElem.1 hx
  rw [← getD_atI hj, h j hj] at hp; cases hp

/-- the first place of a set, or -1 -/
def idxI (p : Int → Bool) (l : List (Int)) : Int := if l.any p then (l.findIdx p : Int) else -1
theorem idxI_hit {p : Int → Bool} {l : List (Int)} {k : Nat} (hk : k < l.length) (h : ∀ j, j < k → p (l.getD j 0) = false) (hp : p (l.getD k 0) = true) : idxI p l = k := by
  unfold idxI
  rw [if_pos (any_hitI hk hp)]
  have : l.findIdx p = k := by
    rw [List.findIdx_eq hk]
    refine ⟨by rw [← getD_atI hk]; exact hp, fun j hj => ?_⟩
    have := h j hj
    rw [getD_atI (by omega)] at this
    exact this
  rw [this]
theorem idxI_none {p : Int → Bool} {l : List (Int)} (h : ∀ j, j < l.length → p (l.getD j 0) = false) : idxI p l = -1 := by
  unfold idxI; rw [any_noneI h]; rfl
theorem idxI_ge (p : Int → Bool) (l : List (Int)) : decide (0 ≤ idxI p l) = l.any p := by
  unfold idxI
  cases l.any p <;> simp

set_option maxRecDepth 100000 in
set_option maxHeartbeats 1000000 in
theorem idxFI_c (g : Nat) (lb : Array Value) (eg : ∀ args w, (callFunc g args).run Tryd.prog w = .ok (.enter g args) w) (p : Int → Bool) (l : List (Int)) (a : Option Addr) (n c : Nat) (w : World)
    (h : Rd w a n c (l.map (Value.int .i64))) (hp : PredAt Tryd.prog g lb (Value.int .i64) p w) :
    Calls Tryd.prog 108 #[.slice a n c, .func (.func g) #[] lb] w fun e w' => e = .returned (.int .i64 (idxI p l)) ∧ Below w.heap.size w w' := by
  have hn : n ≤ l.length ∧ l.length ≤ n := by have := h.len; simp at this; omega
  obtain ⟨hn1, hn2⟩ := hn
  have hm := h.max
  have hle := h.le
  unfold maxLen at hm
  have HP := Lib.hid hp
  have HR := Lib.hid h
  clear hp h
  go_enter Tryd.func108, Tryd.ntmps108
  go_wp2_with fail
  go_loopw [8] (fun i wr => ∃ k : Nat, k ≤ n ∧ i = .int .i64 k ∧ Hid (∀ j, j < k → p (l.getD j 0) = false) ∧ Below w.heap.size w wr) (fun i _ => n - (intOf i).toNat)
  case atStart => exact ⟨0, Nat.zero_le _, rfl, Lib.hid (fun j hj => by omega), Below.refl _ _⟩
  case round =>
    obtain ⟨k, hk, rfl, hno, hb⟩ := hrel
    by_cases hlt : k < n
    · obtain ⟨b, o, ha, hcell⟩ := (HR.out.below hb).at' (by omega)
      have hc := hcell k _ (at_cellI (by omega))
      subst ha
      have HF : Hid (Calls Tryd.prog g (#[.int .i64 (l.getD k 0)] ++ lb) wr fun e w' => e = .returned (.bool (p (l.getD k 0))) ∧ ∃ q, w' = wr.drewN q) := HP.out wr (l.getD k 0) hb
      cases hq : p (l.getD k 0)
      · have hno' : Hid (∀ j, j < k + 1 → p (l.getD j 0) = false) := Lib.hid (fun j hj => by
          by_cases h1 : j < k
          · exact hno.out j h1
          · obtain rfl : j = k := by omega
            exact hq)
        rw [hq] at HF
        obtain ⟨x, hx⟩ : ∃ x, l.getD k 0 = x := ⟨_, rfl⟩
        rw [hx] at hc HF
        clear hq hcell hno hx
        go_wp2_with (go_at_fn g; refine HF.out.mono ?_; rintro e w' ⟨rfl, q, rfl⟩)
        go_roundw
        case rel => exact ⟨k + 1, by omega, by go_num, hno', below_drewN hb⟩
        case measure => simp [intOf]; omega
      · have hI : Hid (idxI p l = k) := idxI_hit (by omega) hno.out hq
        rw [hq] at HF
        obtain ⟨x, hx⟩ : ∃ x, l.getD k 0 = x := ⟨_, rfl⟩
        rw [hx] at hc HF
        clear hq hcell hno hx
        go_wp2_with (go_at_fn g; refine HF.out.mono ?_; rintro e w' ⟨rfl, q, rfl⟩)
        go_ret
        exact ⟨ret_int hI.out.symm, below_drewN hb⟩
    · have hI : Hid (idxI p l = -1) := idxI_none (fun j hj => hno.out j (by omega))
      clear hno
      go_wp2_with fail
      go_ret
      exact ⟨ret_int hI.out.symm, hb⟩

set_option maxRecDepth 100000 in
set_option maxHeartbeats 1000000 in
theorem containsFI_c (g : Nat) (lb : Array Value) (eg : ∀ args w, (callFunc g args).run Tryd.prog w = .ok (.enter g args) w) (p : Int → Bool) (l : List (Int)) (a : Option Addr) (n c : Nat) (w : World)
    (h : Rd w a n c (l.map (Value.int .i64))) (hp : PredAt Tryd.prog g lb (Value.int .i64) p w) :
    Calls Tryd.prog 88 #[.slice a n c, .func (.func g) #[] lb] w fun e w' => e = .returned (.bool (l.any p)) ∧ Below w.heap.size w w' := by
  have HC := Lib.hid (idxFI_c g lb eg p l a n c w h hp)
  have hi := idxI_ge p l
  clear h hp eg
  obtain ⟨i, hi2⟩ : ∃ i, idxI p l = i := ⟨_, rfl⟩
  rw [hi2] at HC hi
  have HI := Lib.hid hi
  clear hi hi2
  go_enter Tryd.func88, Tryd.ntmps88
  go_wp2_with fail
  refine HC.out.mono ?_
  rintro e w1 ⟨rfl, hb⟩
  go_wp2_with fail
  go_ret
  exact ⟨ret_bool HI.out, hb⟩


theorem heavy_at (w : World) : PredAt Tryd.prog 86 #[] (Value.int .i64) hvyB w := fun W x hb => by
  unfold FnGives
  clear hb
  by_cases h1 : x < 1
  · have hv : hvyB x = true := by unfold hvyB; simp [h1]
    have hd : decide (x < 1) = true := decide_eq_true h1
    rw [hv]; clear hv h1
    go_enter Tryd.func86, Tryd.ntmps86
    go_wp2_with fail
    go_ret
    exact ⟨rfl, 0, rfl⟩
  · have hv : hvyB x = decide (1000 < x) := by unfold hvyB; simp [h1]
    have hd : decide (x < 1) = false := decide_eq_false h1
    rw [hv]; clear hv h1
    go_enter Tryd.func86, Tryd.ntmps86
    go_wp2_with fail
    go_ret
    exact ⟨rfl, 0, rfl⟩
theorem unknown_at (w : World) (B : Nat) (i : Nat) (hc : w.cell? ⟨B, 0, none⟩ = some (.int .i64 i)) : PredAt Tryd.prog 87 #[.pointer (some ⟨B, 0, none⟩)] (Value.int .i64) (unkB i) w := fun W x hb => by
  have hc' : W.cell? ⟨B, 0, none⟩ = some (.int .i64 i) := (hb.cell (p := ⟨B, 0, none⟩) (cell_lt hc)).trans hc
  unfold FnGives
  clear hb hc
  by_cases h1 : x < 0
  · have hv : unkB i x = true := by unfold unkB; simp [h1]
    have hd : decide (x < 0) = true := decide_eq_true h1
    rw [hv]; clear hv h1
    go_enter Tryd.func87, Tryd.ntmps87
    go_wp2_with fail
    go_ret
    exact ⟨rfl, 0, rfl⟩
  · have hv : unkB i x = decide ((i : Int) ≤ x) := by unfold unkB; simp [h1]
    have hd : decide (x < 0) = false := decide_eq_false h1
    rw [hv]; clear hv h1
    go_enter Tryd.func87, Tryd.ntmps87
    go_wp2_with fail
    go_ret
    exact ⟨rfl, 0, rfl⟩

/-- a node's error by numbers -/
def nodF (kind server need : Int) (nw nk : Nat) (hv un : Bool) : Int :=
  if (kind ≠ 1 ∧ kind ≠ 2) ∨ (kind = 1 ∧ (need ≠ 0 ∨ nw ≠ 0 ∨ nk ≠ 0)) ∨ (kind = 2 ∧ server ≠ 0) then 1
  else if (server < 0 ∨ 12 ≤ server ∨ need < 0 ∨ 100000 < need) ∨ hv = true then 7
  else if nw ≠ 0 ∧ nw ≠ nk then 6
  else if un = true then 4 else 0
theorem nodE_F (nd : Nod) (i : Nat) : nodE nd i = nodF nd.kind nd.server nd.need nd.weights.length nd.kids.length (nd.weights.any hvyB) (nd.kids.any (unkB i)) := by
  have e : ∀ l : List Int, (l ≠ []) = (l.length ≠ 0) := fun l => by cases l <;> simp
  unfold nodE nodF
  simp only [e]

set_option maxRecDepth 100000 in
set_option maxHeartbeats 2000000 in
theorem xvalid_c (nd : Nod) (i : Nat) (aw : Option Addr) (nw cw : Nat) (ak : Option Addr) (nk ck : Nat) (w : World) (hw : Rd w aw nw cw (nd.weights.map (Value.int .i64))) (hk : Rd w ak nk ck (nd.kids.map (Value.int .i64))) :
    Calls Tryd.prog 72 #[.agg #[.int .i64 nd.kind, .int .i64 nd.server, .int .i64 nd.need, .slice aw nw cw, .slice ak nk ck], .int .i64 i] w fun e w' => e = .returned (.int .i64 (nodE nd i)) ∧ Below w.heap.size w w' := by
  obtain ⟨W2, hW2⟩ : ∃ W2, W2 = (w.alloc (Obj.cells #[Value.int IntKind.i64 nd.kind, Value.int IntKind.i64 nd.server, Value.int IntKind.i64 nd.need, Value.slice aw nw cw, Value.slice ak nk ck] 64)).alloc (Obj.cells #[Value.int IntKind.i64 i] 3) := ⟨_, rfl⟩
  have hb2 : Below w.heap.size w W2 := by rw [hW2]; exact ((Below.refl _ w).alloc (Nat.le_refl _) _).alloc (by simp) _
  have hcell : W2.cell? ⟨w.heap.size + 1, 0, none⟩ = some (.int .i64 i) := by
    rw [hW2]; exact cell_new' _ _ _ 0 _ rfl (by simp)
  have H1 : Hid (∀ y, Below W2.heap.size W2 y → Calls Tryd.prog 88 #[.slice aw nw cw, .func (.func 86) #[] #[]] y fun e w' => e = .returned (.bool (nd.weights.any hvyB)) ∧ Below y.heap.size y w') :=
    Lib.hid (fun y hb => containsFI_c 86 #[] (enters_of Tryd.func86 (by kernel_rfl) rfl) hvyB nd.weights aw nw cw y (hw.below (Below.next hb2 hb)) (heavy_at y))
  have H2 : Hid (∀ y, Below W2.heap.size W2 y → Calls Tryd.prog 88 #[.slice ak nk ck, .func (.func 87) #[] #[.pointer (some ⟨w.heap.size + 1, 0, none⟩)]] y fun e w' => e = .returned (.bool (nd.kids.any (unkB i))) ∧ Below y.heap.size y w') :=
    Lib.hid (fun y hb => containsFI_c 87 #[.pointer (some ⟨w.heap.size + 1, 0, none⟩)] (enters_of Tryd.func87 (by kernel_rfl) rfl) (unkB i) nd.kids ak nk ck y (hk.below (Below.next hb2 hb)) (unknown_at y (w.heap.size + 1) i ((hb.cell (p := ⟨w.heap.size + 1, 0, none⟩) (cell_lt hcell)).trans hcell)))
  have HC : Hid (∀ y, Below W2.heap.size W2 y → y.cell? ⟨w.heap.size, 3, none⟩ = some (.slice aw nw cw) ∧ y.cell? ⟨w.heap.size, 4, none⟩ = some (.slice ak nk ck)) := Lib.hid (fun y hb => by
    have q3 : W2.cell? ⟨w.heap.size, 3, none⟩ = some (.slice aw nw cw) := by rw [hW2]; exact cell_of_row _ _ 3 _ _ _ (heap_alloc_at (heap_alloc_new _ _) _)
    have q4 : W2.cell? ⟨w.heap.size, 4, none⟩ = some (.slice ak nk ck) := by rw [hW2]; exact cell_of_row _ _ 4 _ _ _ (heap_alloc_at (heap_alloc_new _ _) _)
    exact ⟨cell_keep hb q3, cell_keep hb q4⟩)
  have hlw : nd.weights.length = nw := by have := hw.len; simp at this; omega
  have hlk : nd.kids.length = nk := by have := hk.len; simp at this; omega
  have hE := nodE_F nd i
  rw [hlw, hlk] at hE
  rw [hE]
  have HB2 := Lib.hid hb2
  obtain ⟨hv, hhv⟩ : ∃ hv, nd.weights.any hvyB = hv := ⟨_, rfl⟩
  obtain ⟨un, hun⟩ : ∃ un, nd.kids.any (unkB i) = un := ⟨_, rfl⟩
  rw [hhv] at H1 ⊢
  rw [hun] at H2 ⊢
  obtain ⟨kind, server, need, ws, ks⟩ := nd
  simp only at hW2 H1 H2 ⊢
  clear hw hk hlw hlk hE hhv hun hcell hb2 ws ks
  by_cases k1 : kind = 1
  · subst k1
    by_cases n0 : need = 0
    · subst n0
      by_cases w0 : nw = 0
      · subst w0
        by_cases c0 : nk = 0
        · subst c0
          by_cases t0 : server < 0
          · have d0 : decide (server < 0) = true := decide_eq_true t0
            have hV : Hid (nodF 1 server 0 0 0 hv un = 7) := by show _ = _; unfold nodF; rw [if_neg (by omega), if_pos (by omega)]
            clear t0
            go_enter Tryd.func72, Tryd.ntmps72
            go_wp2_with fail
            go_ret
            exact ⟨ret_int hV.out.symm, by rw [← hW2]; exact HB2.out⟩
          have d0 : decide (server < 0) = false := decide_eq_false t0
          by_cases t1 : (12 : Int) ≤ server
          · have d1 : decide ((12 : Int) ≤ server) = true := decide_eq_true t1
            have hV : Hid (nodF 1 server 0 0 0 hv un = 7) := by show _ = _; unfold nodF; rw [if_neg (by omega), if_pos (by omega)]
            clear t1
            go_enter Tryd.func72, Tryd.ntmps72
            go_wp2_with fail
            go_ret
            exact ⟨ret_int hV.out.symm, by rw [← hW2]; exact HB2.out⟩
          have d1 : decide ((12 : Int) ≤ server) = false := decide_eq_false t1
          cases hv with
          | true =>
            have hV : Hid (nodF 1 server 0 0 0 true un = 7) := by show _ = _; unfold nodF; rw [if_neg (by omega), if_pos (.inr rfl)]
            clear t0 t1
            go_enter Tryd.func72, Tryd.ntmps72
            go_wp2_with fail
            rw [← hW2]; with_reducible refine (H1.out _ (Below.refl _ _)).mono ?_; rintro e w1 ⟨rfl, hb1⟩; obtain ⟨q3, q4⟩ := HC.out w1 hb1; have K1 := Lib.hid hb1; clear hb1
            go_wp2_with fail
            go_ret
            exact ⟨ret_int hV.out.symm, Below.next HB2.out K1.out⟩
          | false =>
            cases un with
            | true =>
              have hV : Hid (nodF 1 server 0 0 0 false true = 4) := by show _ = _; unfold nodF; rw [if_neg (by omega), if_neg (by simp; omega), if_neg (by omega), if_pos rfl]
              clear t0 t1
              go_enter Tryd.func72, Tryd.ntmps72
              go_wp2_with fail
              rw [← hW2]; with_reducible refine (H1.out _ (Below.refl _ _)).mono ?_; rintro e w1 ⟨rfl, hb1⟩; obtain ⟨q3, q4⟩ := HC.out w1 hb1; have K1 := Lib.hid hb1; clear hb1
              go_wp2_with fail
              with_reducible refine (H2.out w1 K1.out).mono ?_; rintro e w5 ⟨rfl, hb5⟩
              go_wp2_with fail
              go_ret
              exact ⟨ret_int hV.out.symm, Below.next HB2.out (Below.next K1.out hb5)⟩
            | false =>
              have hV : Hid (nodF 1 server 0 0 0 false false = 0) := by show _ = _; unfold nodF; rw [if_neg (by omega), if_neg (by simp; omega), if_neg (by omega), if_neg (by decide)]
              clear t0 t1
              go_enter Tryd.func72, Tryd.ntmps72
              go_wp2_with fail
              rw [← hW2]; with_reducible refine (H1.out _ (Below.refl _ _)).mono ?_; rintro e w1 ⟨rfl, hb1⟩; obtain ⟨q3, q4⟩ := HC.out w1 hb1; have K1 := Lib.hid hb1; clear hb1
              go_wp2_with fail
              with_reducible refine (H2.out w1 K1.out).mono ?_; rintro e w5 ⟨rfl, hb5⟩
              go_wp2_with fail
              go_ret
              exact ⟨ret_int hV.out.symm, Below.next HB2.out (Below.next K1.out hb5)⟩
        · have hd : decide (0 < nk) = true := decide_eq_true (by omega)
          have hV : Hid (nodF 1 server 0 0 nk hv un = 1) := by show _ = _; unfold nodF; rw [if_pos (by omega)]
          clear c0
          go_enter Tryd.func72, Tryd.ntmps72
          go_wp2_with fail
          go_ret
          exact ⟨ret_int hV.out.symm, by rw [← hW2]; exact HB2.out⟩
      · have hd : decide (0 < nw) = true := decide_eq_true (by omega)
        have hV : Hid (nodF 1 server 0 nw nk hv un = 1) := by show _ = _; unfold nodF; rw [if_pos (by omega)]
        clear w0
        go_enter Tryd.func72, Tryd.ntmps72
        go_wp2_with fail
        go_ret
        exact ⟨ret_int hV.out.symm, by rw [← hW2]; exact HB2.out⟩
    · have hd : (need != 0) = true := by simpa using n0
      have hV : Hid (nodF 1 server need nw nk hv un = 1) := by show _ = _; unfold nodF; rw [if_pos (by omega)]
      clear n0
      go_enter Tryd.func72, Tryd.ntmps72
      go_wp2_with fail
      go_ret
      exact ⟨ret_int hV.out.symm, by rw [← hW2]; exact HB2.out⟩
  · have hk1 : (kind == 1) = false := by simpa using k1
    by_cases k2 : kind = 2
    · subst k2
      by_cases s0 : server = 0
      · subst s0
        by_cases t0 : need < 0
        · have d0 : decide (need < 0) = true := decide_eq_true t0
          have hV : Hid (nodF 2 0 need nw nk hv un = 7) := by show _ = _; unfold nodF; rw [if_neg (by omega), if_pos (by omega)]
          clear t0
          go_enter Tryd.func72, Tryd.ntmps72
          go_wp2_with fail
          go_ret
          exact ⟨ret_int hV.out.symm, by rw [← hW2]; exact HB2.out⟩
        have d0 : decide (need < 0) = false := decide_eq_false t0
        by_cases t1 : (100000 : Int) < need
        · have d1 : decide ((100000 : Int) < need) = true := decide_eq_true t1
          have hV : Hid (nodF 2 0 need nw nk hv un = 7) := by show _ = _; unfold nodF; rw [if_neg (by omega), if_pos (by omega)]
          clear t1
          go_enter Tryd.func72, Tryd.ntmps72
          go_wp2_with fail
          go_ret
          exact ⟨ret_int hV.out.symm, by rw [← hW2]; exact HB2.out⟩
        have d1 : decide ((100000 : Int) < need) = false := decide_eq_false t1
        cases hv with
        | true =>
          have hV : Hid (nodF 2 0 need nw nk true un = 7) := by show _ = _; unfold nodF; rw [if_neg (by omega), if_pos (.inr rfl)]
          clear t0 t1
          go_enter Tryd.func72, Tryd.ntmps72
          go_wp2_with fail
          rw [← hW2]; with_reducible refine (H1.out _ (Below.refl _ _)).mono ?_; rintro e w1 ⟨rfl, hb1⟩; obtain ⟨q3, q4⟩ := HC.out w1 hb1; have K1 := Lib.hid hb1; clear hb1
          go_wp2_with fail
          go_ret
          exact ⟨ret_int hV.out.symm, Below.next HB2.out K1.out⟩
        | false =>
          by_cases w0 : nw = 0
          · subst w0
            cases un with
            | true =>
              have hV : Hid (nodF 2 0 need 0 nk false true = 4) := by show _ = _; unfold nodF; rw [if_neg (by omega), if_neg (by simp; omega), if_neg (by omega), if_pos rfl]
              clear t0 t1
              go_enter Tryd.func72, Tryd.ntmps72
              go_wp2_with fail
              rw [← hW2]; with_reducible refine (H1.out _ (Below.refl _ _)).mono ?_; rintro e w1 ⟨rfl, hb1⟩; obtain ⟨q3, q4⟩ := HC.out w1 hb1; have K1 := Lib.hid hb1; clear hb1
              go_wp2_with fail
              with_reducible refine (H2.out w1 K1.out).mono ?_; rintro e w5 ⟨rfl, hb5⟩
              go_wp2_with fail
              go_ret
              exact ⟨ret_int hV.out.symm, Below.next HB2.out (Below.next K1.out hb5)⟩
            | false =>
              have hV : Hid (nodF 2 0 need 0 nk false false = 0) := by show _ = _; unfold nodF; rw [if_neg (by omega), if_neg (by simp; omega), if_neg (by omega), if_neg (by decide)]
              clear t0 t1
              go_enter Tryd.func72, Tryd.ntmps72
              go_wp2_with fail
              rw [← hW2]; with_reducible refine (H1.out _ (Below.refl _ _)).mono ?_; rintro e w1 ⟨rfl, hb1⟩; obtain ⟨q3, q4⟩ := HC.out w1 hb1; have K1 := Lib.hid hb1; clear hb1
              go_wp2_with fail
              with_reducible refine (H2.out w1 K1.out).mono ?_; rintro e w5 ⟨rfl, hb5⟩
              go_wp2_with fail
              go_ret
              exact ⟨ret_int hV.out.symm, Below.next HB2.out (Below.next K1.out hb5)⟩
          · have dw : decide (0 < nw) = true := decide_eq_true (by omega)
            by_cases e0 : nw = nk
            · subst e0
              cases un with
              | true =>
                have hV : Hid (nodF 2 0 need nw nw false true = 4) := by show _ = _; unfold nodF; rw [if_neg (by omega), if_neg (by simp; omega), if_neg (by omega), if_pos rfl]
                clear t0 t1 w0
                go_enter Tryd.func72, Tryd.ntmps72
                go_wp2_with fail
                rw [← hW2]; with_reducible refine (H1.out _ (Below.refl _ _)).mono ?_; rintro e w1 ⟨rfl, hb1⟩; obtain ⟨q3, q4⟩ := HC.out w1 hb1; have K1 := Lib.hid hb1; clear hb1
                go_wp2_with fail
                with_reducible refine (H2.out w1 K1.out).mono ?_; rintro e w5 ⟨rfl, hb5⟩
                go_wp2_with fail
                go_ret
                exact ⟨ret_int hV.out.symm, Below.next HB2.out (Below.next K1.out hb5)⟩
              | false =>
                have hV : Hid (nodF 2 0 need nw nw false false = 0) := by show _ = _; unfold nodF; rw [if_neg (by omega), if_neg (by simp; omega), if_neg (by omega), if_neg (by decide)]
                clear t0 t1 w0
                go_enter Tryd.func72, Tryd.ntmps72
                go_wp2_with fail
                rw [← hW2]; with_reducible refine (H1.out _ (Below.refl _ _)).mono ?_; rintro e w1 ⟨rfl, hb1⟩; obtain ⟨q3, q4⟩ := HC.out w1 hb1; have K1 := Lib.hid hb1; clear hb1
                go_wp2_with fail
                with_reducible refine (H2.out w1 K1.out).mono ?_; rintro e w5 ⟨rfl, hb5⟩
                go_wp2_with fail
                go_ret
                exact ⟨ret_int hV.out.symm, Below.next HB2.out (Below.next K1.out hb5)⟩
            · have dn : ((nw : Int) != (nk : Int)) = true := by rw [bne_iff_ne]; omega
              have hV : Hid (nodF 2 0 need nw nk false un = 6) := by show _ = _; unfold nodF; rw [if_neg (by omega), if_neg (by simp; omega), if_pos (by omega)]
              clear t0 t1 w0 e0
              go_enter Tryd.func72, Tryd.ntmps72
              go_wp2_with fail
              rw [← hW2]; with_reducible refine (H1.out _ (Below.refl _ _)).mono ?_; rintro e w1 ⟨rfl, hb1⟩; obtain ⟨q3, q4⟩ := HC.out w1 hb1; have K1 := Lib.hid hb1; clear hb1
              go_wp2_with fail
              go_ret
              exact ⟨ret_int hV.out.symm, Below.next HB2.out K1.out⟩
      · have hd : (server != 0) = true := by simpa using s0
        have hV : Hid (nodF 2 server need nw nk hv un = 1) := by show _ = _; unfold nodF; rw [if_pos (by omega)]
        clear s0
        go_enter Tryd.func72, Tryd.ntmps72
        go_wp2_with fail
        go_ret
        exact ⟨ret_int hV.out.symm, by rw [← hW2]; exact HB2.out⟩
    · have hk2 : (kind == 2) = false := by simpa using k2
      have hV : Hid (nodF kind server need nw nk hv un = 1) := by show _ = _; unfold nodF; rw [if_pos (by omega)]
      clear k1 k2
      go_enter Tryd.func72, Tryd.ntmps72
      go_wp2_with fail
      go_ret
      exact ⟨ret_int hV.out.symm, by rw [← hW2]; exact HB2.out⟩
end Go.Proofs.YtflpkkebampmfaaDoor
namespace Go.Proofs.YtflpkkebampmfaaDoor
open Go.RowKit Go.Shelf

theorem xprE_hit {x : Xpr} {k : Nat} {nd : Nod} (h0 : x.nodes ≠ []) (h60 : ¬ 60 < x.nodes.length) (h : x.nodes[k]? = some nd) (hd : nodsE x.nodes 0 = nodsE (x.nodes.drop k) k) (he : nodE nd k ≠ 0) : xprE x = nodE nd k := by
  have : nodsE x.nodes 0 = nodE nd k := by rw [hd, nodsE_drop h, if_pos he]
  unfold xprE
  rw [if_neg h0, if_neg h60, this, if_pos he]
theorem xprE_next {x : Xpr} {k : Nat} {nd : Nod} (h : x.nodes[k]? = some nd) (hd : nodsE x.nodes 0 = nodsE (x.nodes.drop k) k) (he : nodE nd k = 0) : nodsE x.nodes 0 = nodsE (x.nodes.drop (k + 1)) (k + 1) := by
  rw [hd, nodsE_drop h, if_neg (by simpa using he)]
theorem xprE_end {x : Xpr} {n : Nat} (h0 : x.nodes ≠ []) (h60 : ¬ 60 < x.nodes.length) (hn : x.nodes.length = n) (hd : nodsE x.nodes 0 = nodsE (x.nodes.drop n) n) : xprE x = if x.root < 0 ∨ (n : Int) ≤ x.root then 4 else 0 := by
  have : nodsE x.nodes 0 = 0 := by rw [hd, ← hn, List.drop_length]; rfl
  unfold xprE
  rw [if_neg h0, if_neg h60, this, if_neg (by simp), hn]

set_option maxRecDepth 100000 in
set_option maxHeartbeats 2000000 in
theorem xpr_c (x : Xpr) (a : Option Addr) (n c : Nat) (w : World) (h : XM w a n c x.nodes) :
    Calls Tryd.prog 58 #[.agg #[.slice a n c, .int .i64 x.root]] w fun e w' => e = .returned (.int .i64 (xprE x)) ∧ Below w.heap.size w w' := by
  obtain ⟨W2, hW2⟩ : ∃ W2, W2 = w.alloc (Obj.cells #[.slice a n c, .int .i64 x.root] 24) := ⟨_, rfl⟩
  have hb2 : Below w.heap.size w W2 := by rw [hW2]; exact (Below.refl _ w).alloc (Nat.le_refl _) _
  have HX := Lib.hid (h.below hb2)
  have HN := Lib.hid h.len
  have hle := h.le
  have hm := h.max
  unfold maxLen at hm
  have HB2 := Lib.hid hb2
  clear h hb2
  by_cases hn0 : n = 0
  · subst hn0
    have hV : Hid (xprE x = 9) := by
      show _ = _; unfold xprE; rw [if_pos (List.eq_nil_of_length_eq_zero HN.out)]
    go_enter Tryd.func58, Tryd.ntmps58
    go_wp2_with fail
    go_ret
    exact ⟨ret_int hV.out.symm, by rw [← hW2]; exact HB2.out⟩
  have hne : ((n : Int) == 0) = false := by rw [beq_eq_false_iff_ne]; omega
  have H0 : Hid (x.nodes ≠ []) := Lib.hid (fun e => by have := HN.out; rw [e] at this; simp at this; omega)
  by_cases h60 : 60 < n
  · have hd : decide ((60 : Int) < (n : Int)) = true := decide_eq_true (by omega)
    have hV : Hid (xprE x = 3) := by
      show _ = _; unfold xprE; rw [if_neg H0.out, if_pos (by have := HN.out; omega)]
    clear hn0 h60
    go_enter Tryd.func58, Tryd.ntmps58
    go_wp2_with fail
    go_ret
    exact ⟨ret_int hV.out.symm, by rw [← hW2]; exact HB2.out⟩
  have hd : decide ((60 : Int) < (n : Int)) = false := decide_eq_false (by omega)
  have H60 : Hid (¬ 60 < x.nodes.length) := by show ¬ _; have := HN.out; omega
  go_enter Tryd.func58, Tryd.ntmps58
  go_wp2_with fail
  rw [← hW2]
  go_loopw [17] (fun i wr => ∃ k : Nat, k ≤ n ∧ i = .int .i64 k ∧ Hid (nodsE x.nodes 0 = nodsE (x.nodes.drop k) k) ∧ Below W2.heap.size W2 wr) (fun i _ => n - (intOf i).toNat)
  case atStart => exact ⟨0, Nat.zero_le _, rfl, Lib.hid (by simp), Below.refl _ _⟩
  case round =>
    obtain ⟨k, hk, rfl, hno, hb⟩ := hrel
    by_cases hlt : k < n
    · obtain ⟨nd, hnd⟩ : ∃ nd, x.nodes[k]? = some nd := ⟨_, List.getElem?_eq_getElem (by have := HN.out; omega)⟩
      obtain ⟨b, o, ha, hat⟩ := (HX.out.below hb).at' (by omega)
      have hM := hat k nd hnd
      obtain ⟨a3, n3, c3, m3, r3⟩ := hM.ws
      obtain ⟨a4, n4, c4, m4, r4⟩ := hM.ks
      have m0 := hM.c0
      have m1 := hM.c1
      have m2 := hM.c2
      subst ha
      have HV : Hid (∀ y, Below wr.heap.size wr y → Calls Tryd.prog 72 #[.agg #[.int .i64 nd.kind, .int .i64 nd.server, .int .i64 nd.need, .slice a3 n3 c3, .slice a4 n4 c4], .int .i64 k] y fun e w' => e = .returned (.int .i64 (nodE nd k)) ∧ Below y.heap.size y w') :=
        Lib.hid (fun y hy => xvalid_c nd k a3 n3 c3 a4 n4 c4 y (r3.below hy) (r4.below hy))
      have HHit : Hid (nodE nd k ≠ 0 → xprE x = nodE nd k) := Lib.hid (fun he => xprE_hit H0.out H60.out hnd hno.out he)
      have HNxt : Hid (nodE nd k = 0 → nodsE x.nodes 0 = nodsE (x.nodes.drop (k + 1)) (k + 1)) := Lib.hid (fun he => xprE_next hnd hno.out he)
      obtain ⟨kind, server, need, ws, ks⟩ := nd
      obtain ⟨E, hE⟩ : ∃ E, nodE ⟨kind, server, need, ws, ks⟩ k = E := ⟨_, rfl⟩
      rw [hE] at HV HHit HNxt
      simp only at m0 m1 m2 HV
      clear hM r3 r4 hat hnd hno hE
      by_cases he : E = 0
      · subst he
        have hN := HNxt.out rfl
        have HN2 := Lib.hid hN
        clear hN HHit HNxt
        have hba : Below wr.heap.size wr (wr.alloc (Obj.cells #[.int .i64 kind, .int .i64 server, .int .i64 need, .slice a3 n3 c3, .slice a4 n4 c4] 64)) := (Below.refl _ wr).alloc (Nat.le_refl _) _
        go_wp2_with fail
        refine (HV.out _ hba).mono ?_
        rintro e w5 ⟨rfl, hb5⟩
        have hb6 := Below.next hb (Below.next hba hb5)
        go_wp2_with fail
        go_roundw
        case rel => exact ⟨k + 1, by omega, by go_num, HN2, hb6⟩
        case measure => simp [intOf]; omega
      · have hV := HHit.out he
        have HV2 := Lib.hid hV
        have hE : (E != 0) = true := by simpa using he
        clear hV HHit HNxt he
        have hba : Below wr.heap.size wr (wr.alloc (Obj.cells #[.int .i64 kind, .int .i64 server, .int .i64 need, .slice a3 n3 c3, .slice a4 n4 c4] 64)) := (Below.refl _ wr).alloc (Nat.le_refl _) _
        go_wp2_with fail
        refine (HV.out _ hba).mono ?_
        rintro e w5 ⟨rfl, hb5⟩
        have hb6 := Below.next hb (Below.next hba hb5)
        go_wp2_with fail
        go_ret
        exact ⟨ret_int HV2.out.symm, Below.next HB2.out hb6⟩
    · obtain rfl : k = n := by omega
      have hV := xprE_end H0.out H60.out HN.out hno.out
      have hr : W2.cell? ⟨w.heap.size, 0, none⟩ = some (.slice a k c) ∧ W2.cell? ⟨w.heap.size, 1, none⟩ = some (.int .i64 x.root) := by
        rw [hW2]; exact ⟨cell_of_row _ _ 0 _ _ _ (heap_alloc_new _ _), cell_of_row _ _ 1 _ _ _ (heap_alloc_new _ _)⟩
      have q0 := cell_keep hb hr.1
      have q1 := cell_keep hb hr.2
      clear hno hr hW2
      obtain ⟨root, hroot⟩ : ∃ r, x.root = r := ⟨_, rfl⟩
      rw [hroot] at hV q1
      by_cases h1 : root < 0
      · have d1 : decide (root < 0) = true := decide_eq_true h1
        rw [if_pos (.inl h1)] at hV
        have HV := Lib.hid hV
        clear hV h1 hroot
        go_wp2_with fail
        go_ret
        exact ⟨ret_int HV.out.symm, Below.next HB2.out hb⟩
      · have d1 : decide (root < 0) = false := decide_eq_false h1
        by_cases h2 : (k : Int) ≤ root
        · have d2 : decide ((k : Int) ≤ root) = true := decide_eq_true h2
          rw [if_pos (.inr h2)] at hV
          have HV := Lib.hid hV
          clear hV h1 hroot h2
          go_wp2_with fail
          go_ret
          exact ⟨ret_int HV.out.symm, Below.next HB2.out hb⟩
        · have d2 : decide ((k : Int) ≤ root) = false := decide_eq_false h2
          rw [if_neg (by omega)] at hV
          have HV := Lib.hid hV
          clear hV h1 hroot h2
          go_wp2_with fail
          go_ret
          exact ⟨ret_int HV.out.symm, Below.next HB2.out hb⟩

/-- two struct arguments of two cells, laid -/
theorem args22 (w : World) (u0 u1 v0 v1 : Value) (t t' : TypeId) {W : World} (hW : W = (w.alloc (.cells #[u0, u1] t)).alloc (.cells #[v0, v1] t')) :
    Below w.heap.size w W ∧ ∀ y, Below W.heap.size W y → (y.cell? ⟨w.heap.size, 0, none⟩ = some u0 ∧ y.cell? ⟨w.heap.size, 1, none⟩ = some u1) ∧ y.cell? ⟨w.heap.size + 1, 0, none⟩ = some v0 ∧ y.cell? ⟨w.heap.size + 1, 1, none⟩ = some v1 := by
  refine ⟨by rw [hW]; exact ((Below.refl _ w).alloc (Nat.le_refl _) _).alloc (by simp) _, fun y hy => ?_⟩
  have g0 : W.heap[w.heap.size]? = some (.cells #[u0, u1] t (0, 0)) := by rw [hW]; exact heap_alloc_at (heap_alloc_new _ _) _
  have g1 : W.heap[w.heap.size + 1]? = some (.cells #[v0, v1] t' (0, 0)) := by
    rw [hW]
    have := heap_alloc_new (w.alloc (.cells #[u0, u1] t)) (.cells #[v0, v1] t')
    rwa [World.size_alloc] at this
  have e0 := heap_below hy g0
  have e1 := heap_below hy g1
  exact ⟨⟨cell_of_row _ _ 0 _ _ _ e0, cell_of_row _ _ 1 _ _ _ e0⟩, cell_of_row _ _ 0 _ _ _ e1, cell_of_row _ _ 1 _ _ _ e1⟩

set_option maxRecDepth 100000 in
set_option maxHeartbeats 1000000 in
theorem two_c (x y : Xpr) (a : Option Addr) (n c : Nat) (a2 : Option Addr) (n2 c2 : Nat) (w : World) (h : XM w a n c x.nodes) (h2 : XM w a2 n2 c2 y.nodes) :
    Calls Tryd.prog 34 #[.agg #[.slice a n c, .int .i64 x.root], .agg #[.slice a2 n2 c2, .int .i64 y.root]] w fun e w' => e = .returned (.int .i64 (if xprE x ≠ 0 then xprE x else xprE y)) ∧ Below w.heap.size w w' := by
  have H1 := Lib.hid (fun (v : World) (hb : Below w.heap.size w v) => xpr_c x a n c v (h.below hb))
  have H2 := Lib.hid (fun (v : World) (hb : Below w.heap.size w v) => xpr_c y a2 n2 c2 v (h2.below hb))
  clear h h2
  obtain ⟨E1, hE1⟩ : ∃ E, xprE x = E := ⟨_, rfl⟩
  obtain ⟨E2, hE2⟩ : ∃ E, xprE y = E := ⟨_, rfl⟩
  rw [hE1] at H1 ⊢
  rw [hE2] at H2 ⊢
  clear hE1 hE2
  obtain ⟨V, hV⟩ : ∃ V, (if E1 ≠ 0 then E1 else E2) = V := ⟨_, rfl⟩
  rw [hV]
  have HV := Lib.hid hV
  clear hV
  obtain ⟨W2, hW2⟩ : ∃ W2, W2 = (w.alloc (.cells #[.slice a n c, .int .i64 x.root] 24)).alloc (.cells #[.slice a2 n2 c2, .int .i64 y.root] 24) := ⟨_, rfl⟩
  obtain ⟨hb2, hc⟩ := args22 w _ _ _ _ _ _ hW2
  have HB2 := Lib.hid hb2
  have HC := Lib.hid hc
  clear hb2 hc
  go_enter Tryd.func34, Tryd.ntmps34
  go_wp2_with fail
  rw [← hW2]
  refine (H1.out W2 HB2.out).mono ?_
  rintro e w1 ⟨rfl, hb1⟩
  obtain ⟨_, q0, q1⟩ := HC.out w1 hb1
  by_cases he : E1 = 0
  · subst he
    go_wp2_with fail
    refine (H2.out w1 (Below.next HB2.out hb1)).mono ?_
    rintro e w5 ⟨rfl, hb5⟩
    go_wp2_with fail
    go_ret
    exact ⟨ret_int (by have := HV.out; rwa [if_neg (by simp)] at this), Below.next HB2.out (Below.next hb1 hb5)⟩
  · have hE : (E1 != 0) = true := by simpa using he
    have hV2 : Hid (E1 = V) := by have := HV.out; rw [if_pos (by simpa using he)] at this; exact this
    clear he HV
    go_wp2_with fail
    go_ret
    exact ⟨ret_int hV2.out, Below.next HB2.out hb1⟩
end Go.Proofs.YtflpkkebampmfaaDoor
