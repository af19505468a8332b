/- Same, told more closely; marks of range-func loops; loops over sequences of sets that are left early. -/
import Derived.Test.YthkboibhkpkliaaDoorW07b
import Derived.RangeFuncWrites
import Derived.Sort.QuietIn
namespace Go.Proofs.YthkboibhkpkliaaDoor
open Go.RowKit Go.Shelf

theorem drew_more {w wr : World} {q : Nat} (h : ∃ q, wr = w.drewN q) : ∃ q', wr.drewN q = w.drewN q' := by
  obtain ⟨p, rfl⟩ := h; exact ⟨p + q, World.drewN_drewN _ _ _⟩

set_option maxRecDepth 100000 in
set_option maxHeartbeats 2000000 in
theorem rsameq_c (l m : List (BitVec 16)) (a b : Option Addr) (n c n' c' : Nat) (w : World) (h : Rd w a n c (l.map setV)) (h' : Rd w b n' c' (m.map setV)) :
    Calls Tryd.prog 19 #[.slice a n c, .slice b n' c'] w fun e w' => e = .returned (.bool (decide (l = m))) ∧ ∃ q, w' = w.drewN q := by
  have hn : n ≤ l.length ∧ l.length ≤ n := by have := h.len; simp at this; omega
  obtain ⟨hn1, hn2⟩ := hn
  have hn' : n' ≤ m.length ∧ m.length ≤ n' := by have := h'.len; simp at this; omega
  obtain ⟨hm1, hm2⟩ := hn'
  have hm := h.max
  have hle := h.le
  have hm' := h'.max
  have hle' := h'.le
  unfold maxLen at hm hm'
  by_cases hnn : n = n'
  · subst hnn
    have hlm : Hid (l.length = m.length) := by show l.length = m.length; omega
    have hne : ((n : Int) != (n : Int)) = false := by simp
    go_enter Tryd.func19, Tryd.ntmps19
    go_wp2_with fail
    go_loopw [5] (fun i wr => ∃ (k : Nat), k ≤ n ∧ i = .int .i64 k ∧ Hid (l.take k = m.take k) ∧ Hid (∃ q, wr = w.drewN q)) (fun i _ => n - (intOf i).toNat)
    case atStart => exact ⟨0, Nat.zero_le _, rfl, rfl, ⟨0, rfl⟩⟩
    case round =>
      obtain ⟨k, hk, rfl, ht, hq⟩ := hrel
      have hbw : Below w.heap.size w wr := by obtain ⟨q, hq⟩ := hq.out; rw [hq]; exact below_drewN (Below.refl _ _)
      have hw := h.below hbw
      have hw' := h'.below hbw
      by_cases hlt : k < n
      · obtain ⟨x, hx⟩ : ∃ x, l[k]? = some x := ⟨_, List.getElem?_eq_getElem (by omega)⟩
        obtain ⟨y, hy⟩ : ∃ y, m[k]? = some y := ⟨_, List.getElem?_eq_getElem (by omega)⟩
        have T := Lib.hid (same_take hlm.out hx hy ht.out)
        obtain ⟨b1, o1, rfl, hcell⟩ := hw.at' (by omega)
        have hc : wr.cell? ⟨b1, o1 + k, none⟩ = some (.int .u16 (U x)) := hcell k (setV x) (by simp [hx])
        obtain ⟨b2, o2, rfl, hcell2⟩ := hw'.at' (by omega)
        have hc2 : wr.cell? ⟨b2, o2 + k, none⟩ = some (.int .u16 (U y)) := hcell2 k (setV y) (by simp [hy])
        have hk1 : (k : Int) < n := by omega
        have hk2 : (0 : Int) ≤ k := by omega
        clear hcell hcell2 hx hy h h' ht hw hw' hbw
        by_cases hxy : x = y
        · have hb : (x != y) = false := by simpa using hxy
          have HX := Lib.hid hxy
          clear hxy
          go_wp2_with fail
          go_quiet (fail)
          go_wp2_with fail
          go_roundw
          case rel => exact ⟨k + 1, by omega, by go_num, T.out.1 HX.out, drew_more hq⟩
          case measure => simp [intOf]; omega
        · have hb : (x != y) = true := by simpa using hxy
          have HX := Lib.hid hxy
          clear hxy
          go_wp2_with fail
          go_quiet (fail)
          go_wp2_with fail
          go_ret
          exact ⟨ret_bool (by simp [T.out.2 HX.out]), drew_more hq⟩
      · have hE : Hid (l = m) := by
          have := ht.out
          rw [List.take_of_length_le (by omega), List.take_of_length_le (by omega)] at this
          exact this
        clear ht h h' hw hw' hbw
        go_wp2_with fail
        go_ret
        exact ⟨ret_bool (by simp [hE.out]), hq⟩
  · have hne : ((n : Int) != (n' : Int)) = true := by rw [bne_iff_ne]; omega
    have hE : Hid (l ≠ m) := by intro e; subst e; omega
    clear hnn h h'
    go_enter Tryd.func19, Tryd.ntmps19
    go_wp2_with fail
    go_ret
    exact ⟨ret_bool (by simp [hE.out]), 0, rfl⟩


/-- the mark of a range-func loop -/
def markD (D : Nat) : Deferred := { target := .collected D, args := #[] }
theorem wpIn_mid {F : Fence} {n : Nat} {P : Program} {Q : Exit → Act → World → Prop} {a : Act} {w : World} {c : Code} (id : Nat) (M : Nat → World → Prop)
    (hE : ∀ a' w', Q .normal a' w' → Q (.exit id) a' w')
    (h : c.wpIn F n P (fun e a' w' => ∃ D, (e = .normal ∨ e = .exit id) ∧ a' = { a with defers := { target := .collected D, args := #[] } :: a.defers } ∧ M D w') a w)
    (h2 : ∀ D w', M D w' → Q .normal { a with defers := { target := .collected D, args := #[] } :: a.defers } w') : c.wpIn F n P Q a w :=
  wpIn_mono h (by
    rintro e a' w' ⟨D, rfl | rfl, rfl, hm⟩
    · exact h2 D w' hm
    · exact hE _ _ (h2 D w' hm))
theorem rangeFunc_ex {α : Type} {F : Fence} {n : Nat} {P : Program} {g : Operand} {ps : Array Tmp} {assign body : Code} {Q : Exit → Act → World → Prop} {a : Act} {w : World}
    (hro : F.round = none) (h1 : 1 ≤ n) {gf : Nat} {lb : Array Value} (hg : a.eval g = .func (.func gf) #[] lb) (hFg : F.fn gf) (eg : ∀ args w, (callFunc gf args).run P w = .ok (.enter gf args) w)
    {encs : α → Array Value} {Kp : World → World → Prop} {S Sp : List α → Prop} {N : Nat} {w0 : World} (hseq : SeqStopsK F (n - 1) P gf lb encs Kp S Sp N w0)
    (hKt : ∀ {A B C : World}, Kp A B → Kp B C → Kp A C) (hKb : ∀ (W : World) (l : Nat) (o o' : Obj), w.heap.size ≤ l → W.heap[l]? = some o → o.isCells = false → o.isWalk = false → Kp W (W.putObj l o')) (hb0 : Below w0.heap.size w0 w) (hps : ∀ x, (encs x).size = ps.size)
    (I : List α → World → Prop) (Ix : Code → List α → World → Prop) (hI : OwnFrom w.heap.size I) (hIx : ∀ c, OwnFrom w.heap.size (Ix c)) (h0 : I [] w)
    (hdone : ∀ (D : Nat) (xs : List α) (W : World), w.heap.size ≤ D → S xs → I xs W → W.heap[D]? = some (.deferred (some [])) → Q .normal { a with defers := { target := .collected D, args := #[] } :: a.defers } W)
    (hstop : ∀ (D : Nat) (c : Code) (pre : List α) (W : World), w.heap.size ≤ D → Sp pre → Ix c pre W → W.heap[D]? = some (.deferred (some [])) → c.wpIn F n P Q { a with defers := { target := .collected D, args := #[] } :: a.defers } W)
    (hA : ∃ a₁ : α → Act, (∀ (l : Nat) (x : α) (W : World) (K : Act → World → Prop), K (a₁ x) W →
      assign.wpIn (F.inRound l) (n - 1 - 1) P (Exit.then K (fun _ _ _ => False)) { tmps := (ps.zip (encs x)).foldl (fun t (p, v) => t.setIfInBounds p v) a.tmps, defers := [] } W) ∧
      ∀ (l : Nat) (pre : List α) (x : α) (W : World), I pre W → pre.length < N → body.wpIn (F.inRound l) (n - 1 - 1) P (ownPostG w.heap.size Kp I Ix (pre ++ [x]) W) (a₁ x) W) :
    (Code.rangeFunc g ps assign body).wpIn F n P Q a w := by
  obtain ⟨a₁, h2, h3⟩ := hA
  exact wpIn_rangeFunc_ownG hro h1 hg hFg eg hseq (fun h k => hKt h k) hKb hb0 hps I Ix hI hIx h0 a₁ h2 h3 hdone hstop

/-- a box of a slice variable that a loop fills with sets, and what it holds -/
def Fills (B0 Ba : Nat) (W : World) (l : List (BitVec 16)) : Prop := ∃ v, Boxed W Ba 28 v ∧ W.ownsRow B0 23 1 v l.length (l.map setV) ∧ True
theorem fills_own (B0 Ba B : Nat) : OwnFrom B (fun (l : List (BitVec 16)) W => Fills B0 Ba W l) :=
  Own.from (holdsRow_own B0 Ba 28 23 1 (fun l : List (BitVec 16) => l.length) (fun l => l.map setV) (fun _ _ => True)) B
/-- a box of a slice variable that stays as it is while another is filled -/
def Old (base Bo : Nat) (v : Value) (l : List (BitVec 16)) (W : World) : Prop := ∃ v', Boxed W Bo 28 v' ∧ W.ownsRow 0 23 1 v' l.length (l.map setV) ∧ (v' = v ∧ ∀ g, v.ownBlock = some g → g < base)
theorem old_own (base Bo B : Nat) (v : Value) (l : List (BitVec 16)) : OwnFrom B (fun (_ : List (BitVec 16)) W => Old base Bo v l W) :=
  Own.from (holdsRow_own 0 Bo 28 23 1 (fun _ : List (BitVec 16) => l.length) (fun _ => l.map setV) (fun _ v' => v' = v ∧ ∀ g, v.ownBlock = some g → g < base)) B
theorem row_mono {w : World} {B B' : Nat} {e : TypeId} {v : Value} {n : Nat} {l : List Value} (h : w.ownsRow B e 1 v n l) (hB : B' ≤ B) : w.ownsRow B' e 1 v n l := by
  obtain ⟨h1, h2⟩ := h
  refine ⟨h1, ?_⟩
  rcases h2 with h2 | ⟨g, cap, cur, hv, hb', r⟩
  · exact .inl h2
  · exact .inr ⟨g, cap, cur, hv, by omega, r⟩
theorem Old.keep {base Bo B : Nat} {vo v v' : Value} {l : List (BitVec 16)} {W w1 : World} {k : Nat} {xs : List Value} {tmp : Obj} (h : Old base Bo vo l W)
    (hrow : W.ownsRow base 23 1 v k xs) (hgrow : (W.alloc tmp).grownBy w1 v.ownBlock) (hne : Bo ≠ B) (hv1 : Boxed w1 B 28 v) : Old base Bo vo l (w1.setCell ⟨B, 0, none⟩ v') := by
  obtain ⟨v2, hb, hr, rfl, hlt⟩ := h
  have hr1 : w1.ownsRow 0 23 1 v2 l.length (l.map setV) := by
    refine (hr.alloc tmp).kept hgrow ?_
    rcases hr.2 with ⟨rfl, _⟩ | ⟨g, cap, cur, rfl, _⟩
    · exact .inl rfl
    · refine .inr fun e => ?_
      have h1 := hrow.lt g (by rw [← e]; rfl)
      have h2 := hlt g rfl
      omega
  exact ⟨v2, ((hb.alloc tmp).kept hgrow (hb.not_row (by decide) hrow)).kept (grownBy_setCell' w1 B v') (by simpa using hne), hr1.kept (grownBy_setCell' w1 B v') (.inr (hv1.not_row (by decide) hr1).symm), rfl, hlt⟩
def Bel (B : Nat) (W : World) (s : Nat) (Wr : World) : Prop := Below B W Wr ∧ s ≤ Wr.heap.size
theorem bel_own {B0 B s : Nat} {W : World} (hn : B0 ≤ W.heap.size) (hB : B0 ≤ B) : OwnFrom B (fun (_ : List (BitVec 16)) Wr => Bel B0 W s Wr) :=
  OwnFrom.and (ownFrom_below hn hB) (fun _ _ _ _ h hg _ => Nat.le_trans h hg.size)
def Mark (D : Nat) (W : World) : Prop := W.heap[D]? = some (.deferred (some []))
theorem mark_own {D B : Nat} (h : D < B) : OwnFrom B (fun (_ : List (BitVec 16)) W => Mark D W) := fun _ W W' row hm hg hr =>
  (hg.block D (Array.getElem?_eq_some_iff.1 hm).1 (fun e => by have := (hr D e.symm).1; omega)).trans hm
theorem Mark.below {D B : Nat} {W W' : World} (h : Mark D W) (hb : Below B W W') (hD : D < B) : Mark D W' := (hb.block D hD).trans h
theorem Mark.next {D : Nat} {W W' : World} (h : Mark D W) (hb : Below W.heap.size W W') : Mark D W' := h.below hb (Array.getElem?_eq_some_iff.1 h).1
theorem Fills.old {B0 Ba : Nat} {W : World} {l : List (BitVec 16)} (h : Fills B0 Ba W l) : ∃ v, Old W.heap.size Ba v l W := by
  obtain ⟨v, hv, hr, _⟩ := h
  refine ⟨v, v, hv, row_mono hr (Nat.zero_le _), rfl, fun g hg => ?_⟩
  rcases hr.2 with ⟨rfl, _⟩ | ⟨g', cap, cur, rfl, _, hgb, _⟩
  · simp [Value.ownBlock] at hg
  · obtain rfl : g' = g := by simpa [Value.ownBlock] using hg
    exact (Array.getElem?_eq_some_iff.1 hgb).1
theorem Old.fills {base Bo B0 : Nat} {W : World} (h : Old base Bo (.slice none 0 0) [] W) : Fills B0 Bo W [] := by
  obtain ⟨v', hv, _, rfl, _⟩ := h
  exact ⟨_, hv, World.ownsRow_nil _ _ _ _, trivial⟩
theorem Old.rd {base Bo : Nat} {v : Value} {l : List (BitVec 16)} {W : World} (h : Old base Bo v l W) (n : Nat) (hn : l.length = n) : ∃ a c, v = .slice a n c ∧ Rd W a n c (l.map setV) := by
  obtain ⟨v', hv, hr, rfl, _⟩ := h
  subst hn
  exact rd_of_row hr
theorem Fills.rd {B0 Ba : Nat} {l : List (BitVec 16)} {W : World} (h : Fills B0 Ba W l) (n : Nat) (hn : l.length = n) : ∃ a c, W.cell? ⟨Ba, 0, none⟩ = some (.slice a n c) ∧ Rd W a n c (l.map setV) := by
  obtain ⟨v', hv, hr, _⟩ := h
  subst hn
  obtain ⟨a, c, rfl, hrd⟩ := rd_of_row hr
  exact ⟨a, c, hv.cell, hrd⟩
theorem Rd.take {w : World} {a : Option Addr} {n c : Nat} {l : List Value} (h : Rd w a n c l) (m : Nat) (hm : m ≤ n) : Rd w a m c (l.take m) := by
  refine ⟨by have := h.len; simp; omega, by have := h.le; omega, h.max, h.nil, fun h0 => ?_⟩
  obtain ⟨b, o, ha, hc⟩ := h.at' (by omega)
  refine ⟨b, o, ha, fun i v hv => hc i v ?_⟩
  have hi := (List.getElem?_eq_some_iff.1 hv).1
  rw [List.length_take] at hi
  rwa [List.getElem?_take_of_lt (by omega)] at hv
theorem pure_own {p : List (BitVec 16) → Prop} (B : Nat) : OwnFrom B (fun l (_ : World) => p l) := fun _ _ _ _ h _ _ => h

/-- all marks come out -/
theorem leave_all {n : Nat} {P : Program} {fn : Func} {tmps : Array Value} {R : Ending → World → Prop} {u : FrameMode} {B : Nat} {w0 : World} (hB : B ≤ w0.heap.size)
    (h0 : ∀ W, Below B w0 W → LeavesInM Fence.wide n P fn tmps R [] u W) (hu : u ≠ .run) :
    ∀ (Ds : List Nat) (W : World), Ds.Nodup → (∀ D ∈ Ds, B ≤ D ∧ W.heap[D]? = some (.deferred (some []))) → Below B w0 W → LeavesInM Fence.wide n P fn tmps R (Ds.map markD) u W := by
  intro Ds
  induction Ds with
  | nil => intro W _ _ hb; exact h0 W hb
  | cons D Ds ih =>
    intro W hn hD hb
    obtain ⟨hn1, hn2⟩ := List.nodup_cons.1 hn
    have h1 := hD D (by simp)
    refine ⟨hu, .inl ⟨_, _, rfl, run_takeDeferred h1.2, ih _ hn2 (fun E hE => ⟨(hD E (by simp [hE])).1, ?_⟩) ?_⟩⟩
    · have hne : E ≠ D := fun e => hn1 (e ▸ hE)
      have h2 := (hD E (by simp [hE])).2
      exact ((grownBy_putObj' W D _).block E (Array.getElem?_eq_some_iff.1 h2).1 (by simpa using hne)).trans h2
    · exact hb.grown (grownBy_putObj' W D _) (Nat.le_trans hB hb.size) (fun k e => by cases e; exact h1.1)
end Go.Proofs.YthkboibhkpkliaaDoor
