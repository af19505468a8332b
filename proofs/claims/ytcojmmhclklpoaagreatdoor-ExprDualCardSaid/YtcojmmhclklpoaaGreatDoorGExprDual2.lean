/- Texts laid together. Handed drafts, as a law's frame opens them. Handed trees, choices, expressions, descriptions, as a law's frame opens them. Layer 10: the law Eval, walked. ref10.copied: a node of its own. ref10.Dual (printed by rdu.py). Layer 10: the law Dual, walked. -/
import Derived.Test.YtcojmmhclklpoaaGreatDoorGC4
import Derived.Test.YtcojmmhclklpoaaGreatDoorGC5
import Derived.Test.YtcojmmhclklpoaaGreatDoorGC6
import Derived.Test.YtcojmmhclklpoaaGreatDoorGC7
import Derived.Test.YtcojmmhclklpoaaGreatDoorGC8
import Derived.Test.YtcojmmhclklpoaaGreatDoorGC10
import Derived.Test.YtcojmmhclklpoaaGreatDoorGExprDual1
import Derived.Test.YtcojmmhclklpoaaGreatDoorProg
import Derived.OpenShut
import Derived.Deep.Slices
import Derived.Deep.Fields
import Derived.ChangeSame
namespace Go.Proofs.YtcojmmhclklpoaaGreatDoor
open Go.RowKit Go.ChangeShapes Go.WideShapes Go.Deep

section
variable {H : Type} {enc : TypeId × Value → H} {P : Program} {w : World} {base : Nat} {spare : Nat → Bool} {held : Bool}
theorem open_slice_fields {t e : TypeId} {fs : Array Field} {fuel : Nat} {cs : List Value} {x : DataW H × List MemPlace} (ht : P.underlying t = some (.slice e)) (he : P.underlying e = some (.struct fs))
    (hone : oneCellFields P fs = true) (hC : P.cellsOf e = fs.size) (h : DataW.trod enc P w base spare held fuel t cs = some x) :
    (cs = [.slice none 0 0] ∧ x = (.nil, [])) ∨
    ∃ (a : Addr) (len cap m : Nat) (D : Nat → DataW H) (Pl : Nat → List MemPlace), cs = [.slice (some a) len cap] ∧ base ≤ a.block ∧ len ≤ cap ∧ cap ≤ maxLen ∧ m = (if spare a.block then cap else len) ∧
      x = (.slice ((List.range len).map D) ((List.range (m - len)).map fun j => D (len + j)), MemPlace.row a (m * fs.size) ++ (List.range m).flatMap Pl) ∧
      ∀ i, i < m → ∃ (ys : List (DataW H × List MemPlace)) (n : Nat), D i = .agg (ys.map (·.1)) ∧ Pl i = ys.flatMap (·.2) ∧ ys.length = fs.size ∧
        ∀ (j : Nat) (f : Field), fs[j]? = some f → ∃ (v : Value) (y : DataW H × List MemPlace), w.cell? (a.add (i * fs.size + j)) = some v ∧ ys[j]? = some y ∧ DataW.trod enc P w base spare held n f.type [v] = some y := by
  rcases open_slice ht h with h0 | ⟨a, len, cap, m, n, D, Pl, hcs, hb, hl, hm, hmm, hx, hi⟩
  · exact .inl h0
  · refine .inr ⟨a, len, cap, m, D, Pl, hcs, hb, hl, hm, hmm, by rw [hC] at hx; exact hx, fun i him => ?_⟩
    obtain ⟨cs', hc, ht'⟩ := hi i him
    rw [hC] at hc
    obtain ⟨ys, n', hn', hy, hlen, hyl, hf⟩ := DataW.trod_struct he ht'
    obtain ⟨_, hcl, hat⟩ := World.cells?_some hc
    simp only [Prod.mk.injEq] at hy
    refine ⟨ys, n', hy.1, hy.2, hyl, fun j f hj => ?_⟩
    obtain ⟨ho, hk⟩ := hone_of hone j f hj
    have hjl : j < fs.size := (Array.getElem?_eq_some_iff.1 hj).1
    have hcell := hat j hjl
    have hv : cs'[j]? = some (cs'[j]'(by omega)) := List.getElem?_eq_getElem (by omega)
    have h1 := hf j f hj
    rw [ho, hk] at h1
    have hone' : (cs'.drop j).take 1 = [cs'[j]'(by omega)] := by
      rw [List.drop_eq_getElem_cons (by omega)]
      rfl
    rw [hone'] at h1
    have hys : ys[j]? = some (ys[j]'(by omega)) := List.getElem?_eq_getElem (by omega)
    refine ⟨_, _, ?_, hys, h1.trans hys⟩
    rw [← Go.Deep.add_add, hcell, hv]
end

theorem list_of {α : Type} {Q : Nat → α → Prop} : ∀ n, (∀ i, i < n → ∃ r, Q i r) → ∃ L : List α, L.length = n ∧ ∀ i r, L[i]? = some r → Q i r := by
  intro n
  induction n with
  | zero => intro _; exact ⟨[], rfl, fun i r h => by simp at h⟩
  | succ n ih =>
    intro h
    obtain ⟨L, hl, hL⟩ := ih (fun i hi => h i (by omega))
    obtain ⟨r, hr⟩ := h n (by omega)
    refine ⟨L ++ [r], by simp [hl], fun i q hq => ?_⟩
    by_cases hi : i < n
    · rw [List.getElem?_append_left (by omega)] at hq; exact hL i q hq
    · have := (List.getElem?_eq_some_iff.1 hq).1
      simp at this
      obtain rfl : i = n := by omega
      rw [List.getElem?_append_right (by omega), hl, Nat.sub_self] at hq
      cases hq; exact hr

theorem addr_plain {W : World} {a : Addr} {v : Value} (h : W.cell? (a.add 0) = some v) : a = ⟨a.block, a.off, none⟩ := by
  have : a.add 0 = a := by simp [Addr.add]
  rw [this] at h
  unfold World.cell? at h
  cases hs : a.spot with
  | none => cases a; simp_all
  | some s => rw [hs] at h; split at h <;> simp at h

theorem u8_bd {z : Int} (h : (Lit.int .u8 z).wf = true) : 0 ≤ z ∧ z < 256 := by
  simp [Lit.wf, IntKind.min, IntKind.max, IntKind.bits, IntKind.signed] at h; omega
set_option maxRecDepth 100000 in
theorem ints_of {H : Type} {enc : TypeId × Value → H} {W : World} {base : Nat} {held : Bool} {fuel : Nat} {cs : List Value} {x : DataW H × List MemPlace} (h : DataW.trod enc Tryz.prog W base (fun _ => true) held fuel 66 cs = some x) :
    ∃ a n c z, cs = [.slice a n c] ∧ IsInts .u8 W a n c z := by
  rcases open_ints Tryz.underlying66 Tryz.underlying5 (by kernel_rfl) h with ⟨hcs, _⟩ | ⟨x, l, c, zs, hcs, _, hl, hm, hz, _, hcell, hwz⟩
  · exact ⟨_, _, _, _, hcs, .nil⟩
  · exact ⟨_, _, _, _, hcs, .row hl hm (by simpa using hz) hcell hwz⟩
theorem open_pieces {H : Type} {enc : TypeId × Value → H} {w : World} {base : Nat} {held : Bool} {fuel : Nat} {cs : List Value} {x : DataW H × List MemPlace} (h : DataW.trod enc Tryz.prog w base (fun _ => true) held fuel 22 cs = some x) :
    ∃ a n c ps, cs = [.slice a n c] ∧ PM w a n c ps ∧ ∀ p ∈ ps, p.ok := by
  rcases open_slice_fields Tryz.underlying22 Tryz.underlying68 (by kernel_rfl) (by kernel_rfl) h with ⟨hcs, _⟩ | ⟨a, len, cap, m, D, Pl, hcs, _, hl, hm, hmm, _, hi⟩
  · exact ⟨none, 0, 0, [], hcs, ⟨rfl, Nat.le_refl _, by unfold maxLen; omega, fun hn => absurd hn (by decide)⟩, fun r hr => by cases hr⟩
  · have hlm : len ≤ m := by rw [hmm]; split <;> omega
    obtain ⟨L, hL1, hL2⟩ := list_of (α := Pce) (Q := fun i r => (w.cell? (a.add (i * 5 + 0)) = some (.int .u8 r.kind) ∧ w.cell? (a.add (i * 5 + 1)) = some (.int .u8 r.server) ∧ w.cell? (a.add (i * 5 + 2)) = some (.int .u8 r.need) ∧ w.cell? (a.add (i * 5 + 3)) = some (.bool r.heavy) ∧ ∃ a4 n4 c4, w.cell? (a.add (i * 5 + 4)) = some (.slice a4 n4 c4) ∧ Rd w a4 n4 c4 (r.kids.map (Value.int .u8))) ∧ r.ok) len (fun i hil => by
      obtain ⟨ys, n, _, _, _, hf⟩ := hi i (by omega)
      obtain ⟨v0, y0, c0, _, t0⟩ := hf 0 _ rfl
      obtain ⟨v1, y1, c1, _, t1⟩ := hf 1 _ rfl
      obtain ⟨v2, y2, c2, _, t2⟩ := hf 2 _ rfl
      obtain ⟨v3, y3, c3, _, t3⟩ := hf 3 _ rfl
      obtain ⟨v4, y4, c4, _, t4⟩ := hf 4 _ rfl
      obtain ⟨z0, e0, _, b0⟩ := DataW.trod_int Tryz.underlying5 t0
      obtain ⟨z1, e1, _, b1⟩ := DataW.trod_int Tryz.underlying5 t1
      obtain ⟨z2, e2, _, b2⟩ := DataW.trod_int Tryz.underlying5 t2
      obtain ⟨z3, e3, _⟩ := DataW.trod_bool Tryz.underlying4 t3
      obtain ⟨a4, n4, k4, z4, e4, i4⟩ := ints_of t4
      cases e0; cases e1; cases e2; cases e3; cases e4
      exact ⟨⟨z0, z1, z2, z3, z4⟩, ⟨c0, c1, c2, c3, a4, n4, k4, c4, i4.rd⟩, ⟨u8_bd b0, u8_bd b1, u8_bd b2⟩, fun z hz => u8_bd (i4.wf z hz)⟩)
    refine ⟨some a, len, cap, L, hcs, ⟨hL1, hl, hm, fun hn0 => ?_⟩, fun r hr => ?_⟩
    · obtain ⟨x0, hx0⟩ : ∃ x, L[0]? = some x := ⟨_, List.getElem?_eq_getElem (by omega)⟩
      have h0 := (hL2 0 x0 hx0).1.1
      rw [Nat.zero_mul, Nat.zero_add] at h0
      have ha := addr_plain h0
      refine ⟨a.block, a.off, by rw [← ha], fun i p hp => ?_⟩
      obtain ⟨⟨d0, d1, d2, d3, a4, n4, c4, d4, r4⟩, _⟩ := hL2 i p hp
      rw [ha, Addr.add_lit] at d0 d1 d2 d3 d4
      exact ⟨d0, by rw [Nat.add_assoc]; exact d1, by rw [Nat.add_assoc]; exact d2, by rw [Nat.add_assoc]; exact d3, a4, n4, c4, by rw [Nat.add_assoc]; exact d4, r4⟩
    · obtain ⟨i, hi⟩ := List.mem_iff_getElem?.1 hr
      exact (hL2 i r hi).2
theorem list3 {α : Type} (l : List α) (h : (⟨l⟩ : Array α).size = 3) : ∃ a b c, l = [a, b, c] := by
  match l, h with
  | [a, b, c], _ => exact ⟨a, b, c, rfl⟩
set_option maxRecDepth 100000 in
theorem open_draft {H : Type} {enc : TypeId × Value → H} {w : World} {base : Nat} {held : Bool} {fuel : Nat} {c : Value} {x : DataW H × List MemPlace} (h : DataW.trod enc Tryz.prog w base (fun _ => true) held fuel 24 [c] = some x) :
    ∃ a n cc ps, c = .slice a n cc ∧ PM w a n cc ps ∧ ∀ p ∈ ps, p.ok := by
  obtain ⟨xs, n, _, _, _, _, hfl⟩ := DataW.trod_struct Tryz.underlying24 h
  have k8 : Tryz.prog.cellsOf 22 = 1 := by kernel_rfl
  have h0 : DataW.trod enc Tryz.prog w base (fun _ => true) held n 22 (List.take (Tryz.prog.cellsOf 22) [c]) = xs[0]? := hfl 0 _ rfl
  rw [k8] at h0
  have hxl : xs.length = 1 := by assumption
  rw [List.getElem?_eq_getElem (by omega)] at h0
  obtain ⟨a, n1, cc, ps, e0, i0, i1⟩ := open_pieces h0
  simp at e0
  exact ⟨a, n1, cc, ps, e0, i0, i1⟩
/-- a case among the arguments -/
structure IsCase (W : World) (v : Value) (xs ys : List Pce) (b : Int) : Prop where
  val : ∃ a n c a2 n2 c2, v = .agg #[.slice a n c, .slice a2 n2 c2, .int .u16 b] ∧ PM W a n c xs ∧ PM W a2 n2 c2 ys
  okx : ∀ p ∈ xs, p.ok
  oky : ∀ p ∈ ys, p.ok
  num : (Lit.int .u16 b).wf = true
end Go.Proofs.YtcojmmhclklpoaaGreatDoor
namespace Go.Proofs.YtcojmmhclklpoaaGreatDoor
open Go.RowKit Go.ChangeShapes Go.WideShapes Go.Deep

theorem rdK_of {α : Type} (k : Nat) (hk0 : 0 < k) (enc : α → List Value) (hk : ∀ x, (enc x).length = k) {W : World} {a : Addr} {len cap : Nat} (hl : len ≤ cap) (hm : cap ≤ maxLen) (L : List α) (hn : L.length = len)
    (h : ∀ i x, L[i]? = some x → ∀ j, j < k → W.cell? (a.add (i * k + j)) = (enc x)[j]?) : RdK k W (some a) len cap (L.flatMap enc) := by
  refine ⟨by rw [flat_len k enc hk, hn], hl, hm, fun h => (by cases h), fun hn0 => ?_⟩
  obtain ⟨x0, hx0⟩ : ∃ x, L[0]? = some x := ⟨_, List.getElem?_eq_getElem (by omega)⟩
  have h0 := h 0 x0 hx0 0 hk0
  rw [Nat.zero_mul, Nat.zero_add, List.getElem?_eq_getElem (by rw [hk]; exact hk0)] at h0
  have ha := addr_plain h0
  refine ⟨a.block, a.off, by rw [← ha], fun i v hv => ?_⟩
  have hi := (List.getElem?_eq_some_iff.1 hv).1
  rw [flat_len k enc hk, hn] at hi
  have hq : i / k < len := Nat.div_lt_of_lt_mul (by rw [Nat.mul_comm]; exact hi)
  obtain ⟨x, hx⟩ : ∃ x, L[i / k]? = some x := ⟨_, List.getElem?_eq_getElem (by omega)⟩
  have hmod := Nat.mod_lt i hk0
  have h1 := h (i / k) x hx (i % k) hmod
  have h2 := flat_at k enc hk L (i / k) (i % k) x hx hmod
  have e : i / k * k + i % k = i := by rw [Nat.mul_comm]; exact Nat.div_add_mod i k
  rw [e] at h1 h2
  rw [hv] at h2
  rw [ha, Addr.add_lit] at h1
  rw [h1, ← h2]

/-- a description among the arguments -/
structure IsDraft (W : World) (v : Value) (xs : List Pce) : Prop where
  val : ∃ a n c, v = .agg #[.slice a n c] ∧ PM W a n c xs
  okx : ∀ p ∈ xs, p.ok
theorem list1 {α : Type} (l : List α) (h : (⟨l⟩ : Array α).size = 1) : ∃ a, l = [a] := by
  match l, h with
  | [a], _ => exact ⟨a, rfl⟩
theorem list2 {α : Type} (l : List α) (h : (⟨l⟩ : Array α).size = 2) : ∃ a b, l = [a, b] := by
  match l, h with
  | [a, b], _ => exact ⟨a, b, rfl⟩
set_option maxRecDepth 100000 in
theorem open_draftv {H : Type} {enc : TypeId × Value → H} {W : World} {base b0 : Nat} {held : Bool} {v : Value} {d : DataW H} {p : List MemPlace} {r : Reach}
    (hv : Value.okWide Tryz.prog W r b0 24 v) (h : DataW.Trod enc Tryz.prog W base (fun _ => true) held 24 v d p) : ∃ xs, IsDraft W v xs := by
  obtain ⟨cs, rfl, hsz⟩ := okWide_struct Tryz.underlying24 hv
  rw [show Tryz.prog.cellsOf 24 = 1 by kernel_rfl] at hsz
  obtain ⟨l⟩ := cs
  obtain ⟨c0, rfl⟩ := list1 l hsz
  obtain ⟨fuel, hf⟩ := h
  obtain ⟨a, n, cc, ps, e0, h1, h2⟩ := open_draft hf
  subst e0
  exact ⟨ps, ⟨a, n, cc, rfl, h1⟩, h2⟩

/-- a tree among the arguments -/
structure IsTree (W : World) (v : Value) (t : Tre) : Prop where
  val : ∃ a n c, v = .agg #[.slice a n c, .int .i64 t.root] ∧ TM W a n c t.nodes
/-- a choice among the arguments -/
structure IsChoice (W : World) (v : Value) (q : Cho) : Prop where
  val : v = .agg #[.int .i64 q.server, .int .i64 q.first, .int .i64 q.second]
theorem ints64_of {H : Type} {enc : TypeId × Value → H} {W : World} {base : Nat} {held : Bool} {fuel : Nat} {cs : List Value} {x : DataW H × List MemPlace} (h : DataW.trod enc Tryz.prog W base (fun _ => true) held fuel 69 cs = some x) :
    ∃ a n c z, cs = [.slice a n c] ∧ IsInts .i64 W a n c z := by
  rcases open_ints Tryz.underlying69 Tryz.underlying3 (by kernel_rfl) h with ⟨hcs, _⟩ | ⟨x, l, c, zs, hcs, _, hl, hm, hz, _, hcell, hwz⟩
  · exact ⟨_, _, _, _, hcs, .nil⟩
  · exact ⟨_, _, _, _, hcs, .row hl hm (by simpa using hz) hcell hwz⟩
theorem open_nodes {H : Type} {enc : TypeId × Value → H} {w : World} {base : Nat} {held : Bool} {fuel : Nat} {cs : List Value} {x : DataW H × List MemPlace} (h : DataW.trod enc Tryz.prog w base (fun _ => true) held fuel 30 cs = some x) :
    ∃ a n c ns, cs = [.slice a n c] ∧ XM w a n c ns := by
  rcases open_slice_fields Tryz.underlying30 Tryz.underlying71 (by kernel_rfl) (by kernel_rfl) h with ⟨hcs, _⟩ | ⟨a, len, cap, m, D, Pl, hcs, _, hl, hm, hmm, _, hi⟩
  · exact ⟨none, 0, 0, [], hcs, XM.none_ _⟩
  · have hlm : len ≤ m := by rw [hmm]; split <;> omega
    obtain ⟨L, hL1, hL2⟩ := list_of (α := Nod) (Q := fun i r => w.cell? (a.add (i * 5 + 0)) = some (.int .i64 r.kind) ∧ w.cell? (a.add (i * 5 + 1)) = some (.int .i64 r.server) ∧ w.cell? (a.add (i * 5 + 2)) = some (.int .i64 r.need) ∧ (∃ a3 n3 c3, w.cell? (a.add (i * 5 + 3)) = some (.slice a3 n3 c3) ∧ Rd w a3 n3 c3 (r.weights.map (Value.int .i64))) ∧ ∃ a4 n4 c4, w.cell? (a.add (i * 5 + 4)) = some (.slice a4 n4 c4) ∧ Rd w a4 n4 c4 (r.kids.map (Value.int .i64))) len (fun i hil => by
      obtain ⟨ys, n, _, _, _, hf⟩ := hi i (by omega)
      obtain ⟨v0, y0, c0, _, t0⟩ := hf 0 _ rfl
      obtain ⟨v1, y1, c1, _, t1⟩ := hf 1 _ rfl
      obtain ⟨v2, y2, c2, _, t2⟩ := hf 2 _ rfl
      obtain ⟨v3, y3, c3, _, t3⟩ := hf 3 _ rfl
      obtain ⟨v4, y4, c4, _, t4⟩ := hf 4 _ rfl
      obtain ⟨z0, e0, _, _⟩ := DataW.trod_int Tryz.underlying3 t0
      obtain ⟨z1, e1, _, _⟩ := DataW.trod_int Tryz.underlying3 t1
      obtain ⟨z2, e2, _, _⟩ := DataW.trod_int Tryz.underlying3 t2
      obtain ⟨a3, n3, k3, z3, e3, i3⟩ := ints64_of t3
      obtain ⟨a4, n4, k4, z4, e4, i4⟩ := ints64_of t4
      cases e0; cases e1; cases e2; cases e3; cases e4
      exact ⟨⟨z0, z1, z2, z3, z4⟩, c0, c1, c2, ⟨a3, n3, k3, c3, i3.rd⟩, a4, n4, k4, c4, i4.rd⟩)
    refine ⟨some a, len, cap, L, hcs, ⟨hL1, hl, hm, fun h => (by cases h), fun hn0 => ?_⟩⟩
    obtain ⟨x0, hx0⟩ : ∃ x, L[0]? = some x := ⟨_, List.getElem?_eq_getElem (by omega)⟩
    have h0 := (hL2 0 x0 hx0).1
    rw [Nat.zero_mul, Nat.zero_add] at h0
    have ha := addr_plain h0
    refine ⟨a.block, a.off, by rw [← ha], fun i p hp => ?_⟩
    obtain ⟨d0, d1, d2, ⟨a3, n3, c3, d3, r3⟩, a4, n4, c4, d4, r4⟩ := hL2 i p hp
    rw [ha, Addr.add_lit] at d0 d1 d2 d3 d4
    exact ⟨d0, by rw [Nat.add_assoc]; exact d1, by rw [Nat.add_assoc]; exact d2, ⟨a3, n3, c3, by rw [Nat.add_assoc]; exact d3, r3⟩, a4, n4, c4, by rw [Nat.add_assoc]; exact d4, r4⟩
/-- an expression among the arguments -/
structure IsXpr (W : World) (v : Value) (x : Xpr) : Prop where
  val : ∃ a n c, v = .agg #[.slice a n c, .int .i64 x.root] ∧ XM W a n c x.nodes
set_option maxRecDepth 100000 in
theorem open_xpr {H : Type} {enc : TypeId × Value → H} {W : World} {base b0 : Nat} {held : Bool} {v : Value} {d : DataW H} {p : List MemPlace} {r : Reach}
    (hv : Value.okWide Tryz.prog W r b0 32 v) (h : DataW.Trod enc Tryz.prog W base (fun _ => true) held 32 v d p) : ∃ x, IsXpr W v x := by
  obtain ⟨cs, rfl, hsz⟩ := okWide_struct Tryz.underlying32 hv
  rw [show Tryz.prog.cellsOf 32 = 2 by kernel_rfl] at hsz
  obtain ⟨l⟩ := cs
  obtain ⟨c0, c1, rfl⟩ := list2 l hsz
  obtain ⟨fuel, hf⟩ := h
  obtain ⟨xs, n, _, _, _, _, hfl⟩ := DataW.trod_struct Tryz.underlying32 hf
  have k8 : Tryz.prog.cellsOf 30 = 1 := by kernel_rfl
  have ku : Tryz.prog.cellsOf 3 = 1 := by kernel_rfl
  have h0 : DataW.trod enc Tryz.prog W base (fun _ => true) held n 30 (List.take (Tryz.prog.cellsOf 30) [c0, c1]) = xs[0]? := hfl 0 _ rfl
  have h1 : DataW.trod enc Tryz.prog W base (fun _ => true) held n 3 (List.take (Tryz.prog.cellsOf 3) [c1]) = xs[1]? := hfl 1 _ rfl
  rw [k8] at h0
  rw [ku] at h1
  have hxl : xs.length = 2 := by assumption
  rw [List.getElem?_eq_getElem (by omega)] at h0 h1
  obtain ⟨a, n1, cc, ns, e0, i0⟩ := open_nodes h0
  obtain ⟨z, e1, _, _⟩ := DataW.trod_int Tryz.underlying3 h1
  simp at e0 e1
  subst e0 e1
  exact ⟨⟨ns, z⟩, ⟨a, n1, cc, rfl, i0⟩⟩
end Go.Proofs.YtcojmmhclklpoaaGreatDoor
namespace Go.Proofs.YtcojmmhclklpoaaGreatDoor
open Go.RowKit Go.Shelf

theorem madN_small (p : Pce) (i : Nat) : (madN p i).weights.length ≤ 5 ∧ (madN p i).kids.length ≤ 5 := by
  have h5 : mk5 p ≤ 5 := Nat.min_le_right _ _
  unfold madN
  split
  · simp
  · refine ⟨?_, ?_⟩
    · show (mwtTo _ _).length ≤ 5
      unfold mwtTo
      split
      · rw [List.length_map, List.length_take]; omega
      · simp
    · show (mkdTo _ _ _).length ≤ 5
      unfold mkdTo
      rw [List.length_map, List.length_take]; omega
theorem madX_node {ps : List Pce} {k : Nat} {nd : Nod} (h : (madX ps).nodes[k]? = some nd) : nd.weights.length ≤ 5 ∧ nd.kids.length ≤ 5 := by
  unfold madX at h
  by_cases h0 : ps = []
  · rw [if_pos h0] at h
    have := List.mem_of_getElem? h
    simp at this
    subst this
    decide
  · rw [if_neg h0] at h
    obtain ⟨_, rfl⟩ := madT_at h
    exact madN_small _ _
theorem madX_few (ps : List Pce) : XprFew (madX ps) := fun k nd h => by have := madX_node h; omega
theorem madX_sum (ps : List Pce) : XprSum (madX ps) := fun k nd h => by have := madX_node h; omega
theorem U_of_wf' {a : Int} (h : (Lit.int .u16 a).wf = true) : ∃ x : BitVec 16, a = U x := by
  apply U_of
  simp [Lit.wf, IntKind.min, IntKind.max, IntKind.bits, IntKind.signed] at h
  omega
/-- more servers never undo it -/
theorem eval_more {x : Xpr} (s t : BitVec 16) (h : (evalS x s).1 = true) : (evalS x (s ||| t)).2 = 7 ∨ ((evalS x (s ||| t)).2 = 0 ∧ (evalS x (s ||| t)).1 = true) := by
  unfold evalS at h ⊢
  by_cases h1 : xprE x ≠ 0
  · rw [if_pos h1] at h; cases h
  · rw [if_neg h1] at h ⊢
    by_cases h2 : 4096 ≤ s.toNat
    · rw [if_pos h2] at h; cases h
    · rw [if_neg h2] at h
      by_cases h3 : 4096 ≤ (s ||| t).toNat
      · rw [if_pos h3]; exact .inl rfl
      · rw [if_neg h3]
        refine .inr ⟨rfl, holdX_mono (xprE_ok (by simpa using h1)) (fun p hp => ?_) h⟩
        rw [hasB_or, hp]; rfl

set_option maxRecDepth 100000 in
set_option maxHeartbeats 4000000 in
theorem evals_w (v : Value) (xs : List Pce) (a b : Int) (w : World) (ht : HasTab w) (hp : HasPow w) (hr : HasRng w) (hy : HasSyn w) (w0 : IsDraft w v xs) (w1 : (Lit.int .u16 a).wf = true) (w2 : (Lit.int .u16 b).wf = true) :
    Calls Tryz.prog 9 #[v, .int .u16 a, .int .u16 b] w fun e w' => e = .returned (.bool true) ∧ Below w.heap.size w w' := by
  have HA := Lib.hid (fun u (hb : Below w.heap.size w u) => awake10_c u (ht.below hb) (hp.below hb) (hr.below hb) (hy.below hb))
  obtain ⟨s, rfl⟩ := U_of_wf' w1
  obtain ⟨t, rfl⟩ := U_of_wf' w2
  obtain ⟨ax, nx, cx, rfl, hpx⟩ := w0.val
  have HMX := Lib.hid (fun u (hb : Below w.heap.size w u) => made_c xs w0.okx ax nx cx u (hpx.below hb))
  obtain ⟨hxo, _, _⟩ := madX_ok w0.okx
  have hxf := madX_few xs
  have hxs := madX_sum xs
  obtain ⟨X, hX⟩ : ∃ X, madX xs = X := ⟨_, rfl⟩
  rw [hX] at HMX hxo hxf hxs
  have HE := Lib.hid (fun a n c u h => evalx_c X hxf s a n c u h)
  have HE2 := Lib.hid (fun a n c u h => evalx_c X hxf (s ||| t) a n c u h)
  have HR := Lib.hid (fun a n c u h => reval_c X hxo hxs hxf s a n c u h)
  have HM := Lib.hid (eval_more (x := X) s t)
  obtain ⟨R, hR⟩ : ∃ R, evalS X s = R := ⟨_, rfl⟩
  obtain ⟨Q, hQ⟩ : ∃ Q, evalS X (s ||| t) = Q := ⟨_, rfl⟩
  rw [hR] at HE HR HM
  rw [hQ] at HE2 HM
  obtain ⟨v1, e1⟩ := R
  obtain ⟨v2, e2⟩ := Q
  simp only at HE HR HE2 HM
  have hee : (e1 == e1) = true := by simp
  clear hX hxo hxf hxs hR hQ ht hp hr hy w0 hpx w1 w2
  go_enter Tryz.func9, Tryz.ntmps9
  go_wp2_with fail
  obtain ⟨W0, hW0⟩ : ∃ W0, W0 = w.alloc (.cells #[.slice ax nx cx] 24) := ⟨_, rfl⟩
  rw [← hW0]
  have hb0 : Below w.heap.size w W0 := by rw [hW0]; exact (Below.refl _ _).alloc (Nat.le_refl _) _
  have g0 : W0.heap[w.heap.size]? = some (.cells #[.slice ax nx cx] 24 (0, 0)) := by rw [hW0]; exact heap_alloc_new _ _
  with_reducible refine (HA.out W0 hb0).mono ?_
  rintro e w1 ⟨rfl, b1⟩
  have HB1 := Lib.hid (Below.next hb0 b1)
  have r0 := cell_of_row _ _ 0 _ _ _ (heap_below b1 g0)
  clear b1 hb0 g0 hW0
  go_wp2_with fail
  clear r0
  with_reducible refine (HMX.out w1 HB1.out).mono ?_
  rintro e w2 ⟨a2, c2, rfl, hx2, b2⟩
  obtain ⟨N, hN⟩ : ∃ N, X.nodes.length = N := ⟨_, rfl⟩
  obtain ⟨RT, hRT⟩ : ∃ RT, X.root = RT := ⟨_, rfl⟩
  rw [hN] at hx2 ⊢
  rw [hRT] at HE HR HE2 ⊢
  have HX2 := Lib.hid hx2
  have HB2 := Lib.hid (Below.next HB1.out b2)
  clear hx2 b2 hN hRT HMX HA HB1
  go_wp2_with fail
  obtain ⟨W3, hW3⟩ : ∃ W3, W3 = w2.alloc (.cells #[.slice a2 N c2, .int .i64 RT] 32) := ⟨_, rfl⟩
  rw [← hW3]
  have hb3 : Below w2.heap.size w2 W3 := by rw [hW3]; exact (Below.refl _ _).alloc (Nat.le_refl _) _
  have g3 : W3.heap[w2.heap.size]? = some (.cells #[.slice a2 N c2, .int .i64 RT] 32 (0, 0)) := by rw [hW3]; exact heap_alloc_new _ _
  have HX3 := Lib.hid (HX2.out.below hb3)
  have HB3 := Lib.hid (Below.next HB2.out hb3)
  have HG3 := Lib.hid g3
  clear hW3 hb3 g3 HX2 HB2
  with_reducible refine (HE.out a2 N c2 W3 HX3.out).mono ?_
  rintro e w4 ⟨rfl, b4⟩
  have HX4 := Lib.hid (HX3.out.below b4)
  have HB4 := Lib.hid (Below.next HB3.out b4)
  have HG4 := Lib.hid (heap_below b4 HG3.out)
  obtain ⟨⟨r0, r1⟩, _⟩ := open2 HG4.out
  clear b4 HG3 HX3 HB3
  go_wp2_with fail
  clear r0 r1
  with_reducible refine (HR.out a2 N c2 w4 HX4.out).mono ?_
  rintro e w5 ⟨rfl, b5⟩
  have HX5 := Lib.hid (HX4.out.below b5)
  have HB5 := Lib.hid (Below.next HB4.out b5)
  have HG5 := Lib.hid (heap_below b5 HG4.out)
  obtain ⟨⟨r0, r1⟩, _⟩ := open2 HG5.out
  clear b5 HG4 HX4 HB4
  go_wp2_with fail
  clear r0 r1
  with_reducible refine (HE2.out a2 N c2 w5 HX5.out).mono ?_
  rintro e w6 ⟨rfl, b6⟩
  have HB6 := Lib.hid (Below.next HB5.out b6)
  clear b6 HG5 HX5 HB5
  cases v1
  · go_wp2_with fail
    go_ret
    exact ⟨rfl, HB6.out⟩
  · rcases HM.out rfl with rfl | ⟨rfl, rfl⟩
    all_goals
      go_wp2_with fail
      go_ret
      exact ⟨rfl, HB6.out⟩
end Go.Proofs.YtcojmmhclklpoaaGreatDoor
namespace Go.Proofs.YtcojmmhclklpoaaGreatDoor
open Go.RowKit Go.Shelf

set_option maxRecDepth 100000 in
set_option maxHeartbeats 2000000 in
theorem copied_c (kd sv nd : Int) (ws ks : List Int) (aw : Option Addr) (nw cw : Nat) (ak : Option Addr) (nk ck : Nat) (w : World) (h1 : Rd w aw nw cw (ws.map (Value.int .i64))) (h2 : Rd w ak nk ck (ks.map (Value.int .i64))) (hw : nw ≤ 1000000) (hk : nk ≤ 1000000) :
    Calls Tryz.prog 51 #[.agg #[.int .i64 kd, .int .i64 sv, .int .i64 nd, .slice aw nw cw, .slice ak nk ck]] w fun e w' => ∃ wv kv, e = .returned (.agg #[.int .i64 kd, .int .i64 sv, .int .i64 nd, wv, kv]) ∧ w'.ownsRow w.heap.size 3 1 wv nw (ws.map (Value.int .i64)) ∧ w'.ownsRow w.heap.size 3 1 kv nk (ks.map (Value.int .i64)) ∧ (∀ g, wv.ownBlock = some g → kv.ownBlock ≠ some g) ∧ Below w.heap.size w w' := by
  have H1 := Lib.hid h1
  have H2 := Lib.hid h2
  have hn1 := h1.len
  have hn2 := h2.len
  rw [List.length_map] at hn1 hn2
  have HN1 := Lib.hid hn1
  have HN2 := Lib.hid hn2
  clear h1 h2 hn1 hn2
  go_enter Tryz.func51, Tryz.ntmps51
  go_upto_region 1 with fail
  generalize hW2 : (w.alloc _).alloc _ = W2
  obtain ⟨gX, gR, hb2, hs2⟩ := box2' hW2
  have GX := Lib.hid gX
  have GR := Lib.hid gR
  have HB2 := Lib.hid hb2
  have HS2 := Lib.hid hs2
  obtain ⟨n0, n1, n2, n3, n4⟩ := open5 gX
  have n3 : ∀ ob, (W2.alloc ob).cell? ⟨w.heap.size, 3, none⟩ = some (.slice aw nw cw) := fun ob => (World.cell?_alloc_lt _ _ _ (cell_lt n3)).trans n3
  clear hW2 gX gR hb2 hs2 n0 n1 n2 n4
  go_upto_region 2 with (at_builtin; go_must (refine wpList_apps _ _ 69 8 (.int .i64 0) _ _ _ (ws.map (Value.int .i64)) Tryz.underlying69 Tryz.infoInt rfl (World.ownsRow_made W2 #[] 0 (Nat.le_refl _) (Nat.zero_le _) rfl) ((Below.refl _ W2).alloc (Nat.le_refl _) _) (Nat.le_refl _) (H1.out.below (HB2.out.alloc (by have := HS2.out; omega) _)) (by intro u hu; obtain ⟨_, _, rfl⟩ := List.mem_map.1 hu; rfl) rfl rfl rfl rfl (by unfold maxLen; simp; omega) (by simp; omega) ?_))
  intro v1 w1 hown1 hb1 _
  obtain ⟨a1, c1, rfl, _⟩ := rd_of_row hown1
  have gX1 := heap_below hb1 GX.out
  obtain ⟨m0, m1, m2, m3, m4⟩ := open5 gX1
  obtain ⟨z0, z1, z2, z3, z4⟩ := frz5 gX1
  have GX1 := Lib.hid gX1
  have HO1 := Lib.hid hown1
  have HB1 := Lib.hid hb1
  clear gX1 hown1 hb1 n3
  go_upto_region 2 with fail
  generalize hW3 : w1.setCell _ _ = W3
  have gX3 : W3.heap[w.heap.size]? = some (.cells #[.int .i64 kd, .int .i64 sv, .int .i64 nd, .slice a1 nw c1, .slice ak nk ck] 71 (0, 0)) := by rw [← hW3]; exact heap_set_at GX1.out 3 _
  have hk3 : ∀ g, g ≠ w.heap.size → W3.heap[g]? = w1.heap[g]? := fun g hg => by rw [← hW3]; exact Below.heap_setCell _ _ _ _ (by exact hg)
  have hs3 : W3.heap.size = w1.heap.size := by rw [← hW3]; simp
  have hs1 := HB1.out.size
  have hs2 := HS2.out
  have gR3 : W3.heap[w.heap.size + 1]? = some (.cells #[.int .i64 0, .int .i64 0, .int .i64 0, .slice none 0 0, .slice none 0 0] 71 (0, 0)) := by rw [hk3 _ (by omega)]; exact heap_below HB1.out GR.out
  have hb3 : Below w.heap.size w W3 := by
    rw [← hW3]
    exact (HB2.out.trans (HB1.out.mono (by omega))).setCell (p := ⟨w.heap.size, 3, none⟩) (Nat.le_refl _) _
  have ho3 : W3.ownsRow W2.heap.size 3 1 (.slice a1 nw c1) nw (ws.map (Value.int .i64)) := rowK_at HO1.out fun g hg => hk3 g (by have := (HO1.out.lt g hg).1; omega)
  obtain ⟨m0, m1, m2, m3, m4⟩ := open5 gX3
  have m4 : ∀ ob, (W3.alloc ob).cell? ⟨w.heap.size, 4, none⟩ = some (.slice ak nk ck) := fun ob => (World.cell?_alloc_lt _ _ _ (cell_lt m4)).trans m4
  have GX3 := Lib.hid gX3
  have GR3 := Lib.hid gR3
  have HB3 := Lib.hid hb3
  have HO3 := Lib.hid ho3
  have HS3 := Lib.hid (show w.heap.size + 2 ≤ W3.heap.size by omega)
  have HW23 := Lib.hid (show w.heap.size + 2 ≤ W2.heap.size by omega)
  clear hW3 gX3 hk3 hs3 hs1 hs2 gR3 hb3 ho3 z0 z1 z2 z3 z4 GX1 HO1 HB1 H1
  go_upto_region 3 with (at_builtin; go_must (refine wpList_apps _ _ 69 8 (.int .i64 0) _ _ _ (ks.map (Value.int .i64)) Tryz.underlying69 Tryz.infoInt rfl (World.ownsRow_made W3 #[] 0 (Nat.le_refl _) (Nat.zero_le _) rfl) ((Below.refl _ W3).alloc (Nat.le_refl _) _) (Nat.le_refl _) (H2.out.below (HB3.out.alloc (by have := HS3.out; omega) _)) (by intro u hu; obtain ⟨_, _, rfl⟩ := List.mem_map.1 hu; rfl) rfl rfl rfl rfl (by unfold maxLen; simp; omega) (by simp; omega) ?_))
  intro v5 w5 hown5 hb5 _
  obtain ⟨a5, c5, rfl, _⟩ := rd_of_row hown5
  have gX5 := heap_below hb5 GX3.out
  have gR5 := heap_below hb5 GR3.out
  obtain ⟨q0, q1, q2, q3, q4⟩ := open5 gX5
  obtain ⟨z0, z1, z2, z3, z4⟩ := frz5 gX5
  obtain ⟨o0, o1, o2, o3, o4⟩ := open5 gR5
  obtain ⟨y0, y1, y2, y3, y4⟩ := frz5 gR5
  have GX5 := Lib.hid gX5
  have GR5 := Lib.hid gR5
  have HO5 := Lib.hid hown5
  have HB5 := Lib.hid hb5
  clear gX5 gR5 hown5 hb5
  go_wp2_with fail
  generalize hWF : (((((w5.setCell _ _).setCell _ _).setCell _ _).setCell _ _).setCell _ _).setCell _ _ = WF
  have hs5 := HB5.out.size
  have hs3 := HS3.out
  have hs23 := HW23.out
  have e9 : WF.heap[w.heap.size + 1]? = some (.cells #[.int .i64 kd, .int .i64 sv, .int .i64 nd, .slice a1 nw c1, .slice a5 nk c5] 71 (0, 0)) := by
    rw [← hWF]
    exact heap_set_at (heap_set_at (heap_set_at (heap_set_at (heap_set_at (heap_set_other (by omega) _ _ GR5.out) 0 _) 1 _) 2 _) 3 _) 4 _
  have hkF : ∀ g, w.heap.size + 2 ≤ g → WF.heap[g]? = w5.heap[g]? := fun g hg => by
    rw [← hWF, Below.heap_setCell _ _ _ _ (by show g ≠ w.heap.size + 1; omega), Below.heap_setCell _ _ _ _ (by show g ≠ w.heap.size + 1; omega), Below.heap_setCell _ _ _ _ (by show g ≠ w.heap.size + 1; omega), Below.heap_setCell _ _ _ _ (by show g ≠ w.heap.size + 1; omega), Below.heap_setCell _ _ _ _ (by show g ≠ w.heap.size + 1; omega), Below.heap_setCell _ _ _ _ (by show g ≠ w.heap.size; omega)]
  have hbF : Below w.heap.size w WF := by
    rw [← hWF]
    exact ((((((HB3.out.trans (HB5.out.mono (by omega))).setCell (p := ⟨w.heap.size, 4, none⟩) (Nat.le_refl _) _).setCell (p := ⟨w.heap.size + 1, 0, none⟩) (Nat.le_succ _) _).setCell (p := ⟨w.heap.size + 1, 1, none⟩) (Nat.le_succ _) _).setCell (p := ⟨w.heap.size + 1, 2, none⟩) (Nat.le_succ _) _).setCell (p := ⟨w.heap.size + 1, 3, none⟩) (Nat.le_succ _) _).setCell (p := ⟨w.heap.size + 1, 4, none⟩) (Nat.le_succ _) _
  have hwF : WF.ownsRow w.heap.size 3 1 (.slice a1 nw c1) nw (ws.map (Value.int .i64)) := rowK_mono (rowK_at (rowK_below HO3.out HB5.out) fun g hg => hkF g (by have := (HO3.out.lt g hg).1; omega)) (by omega)
  have hkr : WF.ownsRow w.heap.size 3 1 (.slice a5 nk c5) nk (ks.map (Value.int .i64)) := rowK_mono (rowK_at HO5.out fun g hg => hkF g (by have := (HO5.out.lt g hg).1; omega)) (by omega)
  have hdj : ∀ g, (Value.slice a1 nw c1).ownBlock = some g → (Value.slice a5 nk c5).ownBlock ≠ some g := fun g h1 h2 => by
    have := (HO3.out.lt g h1).2; have := (HO5.out.lt g h2).1; omega
  refine bodyPost_ret (v := .agg #[.int .i64 kd, .int .i64 sv, .int .i64 nd, .slice a1 nw c1, .slice a5 nk c5]) ?_ rfl ⟨_, _, rfl, hwF, hkr, hdj, hbF⟩
  exact results_cell_row rfl _ _ _ _ _ _ _ rfl e9 Tryz.underlying71 rfl (by kernel_rfl)
end Go.Proofs.YtcojmmhclklpoaaGreatDoor
namespace Go.Proofs.YtcojmmhclklpoaaGreatDoor
open Go.RowKit Go.Shelf

set_option maxRecDepth 100000 in
set_option maxHeartbeats 8000000 in
theorem rdual_c (x : Xpr) (hs : XprSum x) (hf : XprFew x) (a : Option Addr) (n c : Nat) (w : World) (h : XM w a n c x.nodes) :
    Calls Tryz.prog 19 #[.agg #[.slice a n c, .int .i64 x.root]] w fun e w' => RetX (dualS x).1 (dualS x).2 w e w' := by
  have HX := Lib.hid h
  have HV := Lib.hid (fun (u : World) (hu : Below w.heap.size w u) => rvalid10_c x hs a n c u (h.below hu))
  have HF := Lib.hid hf
  clear h hf
  by_cases hx : xprE x = 0
  · have hR : dualS x = (dualX x, 0) := by unfold dualS; rw [if_neg (by rw [hx]; simp)]
    rw [hx] at HV
    rw [hR]
    have ok := xprE_ok hx
    have hn60 : n ≤ 60 := by have h1 := ok.most; have h2 := HX.out.len; omega
    have HO := Lib.hid ok
    have HN := Lib.hid HX.out.len
    clear hx hR ok
    go_enter Tryz.func19, Tryz.ntmps19
    go_wp2_with fail
    generalize hW2 : (w.alloc _).alloc _ = W2
    obtain ⟨gX, gR, hb2, hs2⟩ := box2 hW2
    have GX := Lib.hid gX
    have GR := Lib.hid gR
    have HB2 := Lib.hid hb2
    clear hW2 gX gR hb2
    with_reducible refine (HV.out W2 HB2.out).mono ?_
    rintro e w4 ⟨rfl, hb4⟩
    have gX4 := heap_below hb4 GX.out
    have x0 := cell_of_row _ _ 0 _ _ _ gX4
    have x1 := cell_of_row _ _ 1 _ _ _ gX4
    have hs4 := hb4.size
    obtain ⟨W5, hW5⟩ : ∃ W5, W5 = w4.alloc (.cells #[.slice none 0 0, .int .i64 x.root] 32) := ⟨_, rfl⟩
    have hb5 : Below w4.heap.size w4 W5 := by rw [hW5]; exact (Below.refl _ _).alloc (Nat.le_refl _) _
    have gO : W5.heap[w4.heap.size]? = some (.cells #[.slice none 0 0, .int .i64 x.root] 32 (0, 0)) := by rw [hW5]; exact heap_alloc_new _ _
    have hs5 : W5.heap.size = w4.heap.size + 1 := by rw [hW5]; simp
    have x05 : (w4.alloc (Obj.cells #[.slice none 0 0, .int .i64 x.root] 32)).cell? ⟨w.heap.size, 0, none⟩ = some (.slice a n c) := by rw [← hW5]; exact cell_keep hb5 x0
    have GX5 := Lib.hid (heap_below hb5 gX4)
    have GR5 := Lib.hid (heap_below hb5 (heap_below hb4 GR.out))
    have GO := Lib.hid gO
    have HB5 := Lib.hid (Below.next HB2.out (Below.next hb4 hb5))
    clear gX4 hb4 hb5 gO GX GR
    go_wp2_with fail
    rw [← hW5]
    clear hW5 x05 x0 x1
    obtain ⟨OB, hOB⟩ : ∃ OB, OB = w4.heap.size := ⟨_, rfl⟩
    rw [← hOB] at GO hs5 hs4 ⊢
    have hOBw : w.heap.size + 2 ≤ OB := by omega
    clear hs4 hs2 hOB
    go_loopw [6] (fun i wr => ∃ k v S, k ≤ n ∧ i = .int .i64 ((k : Nat) : Int) ∧ wr.heap[OB]? = some (.cells #[v, .int .i64 x.root] 32 (0, 0)) ∧ XB S (OB + 1) wr v 71 ((x.nodes.take k).map dualN) ∧ (∀ g, S g → OB + 1 ≤ g) ∧ Below OB W5 wr) (fun i _ => n - (intOf i).toNat)
    case atStart => exact ⟨0, _, fun _ => False, Nat.zero_le _, rfl, GO.out, XB.nil _ _ _ _ (fun _ h => h.elim), fun _ h => h.elim, Below.refl _ _⟩
    case round =>
      obtain ⟨k, v, S, hk, rfl, hbx, hxb, hSl, hb⟩ := hrel
      obtain ⟨⟨xx0, xx1⟩, _⟩ := open2 ((hb.block w.heap.size (by omega)).trans GX5.out)
      by_cases hlt : k < n
      · obtain ⟨nd, hnd⟩ : ∃ nd, x.nodes[k]? = some nd := ⟨_, List.getElem?_eq_getElem (by have := HN.out; omega)⟩
        have hbw : Below w.heap.size w wr := HB5.out.trans (hb.mono (by omega))
        obtain ⟨b, o, ha, hat⟩ := HX.out.at' (by omega)
        have hM := hat k nd hnd
        obtain ⟨aw, nw, cw, m3, rw3⟩ := hM.ws
        obtain ⟨ak, nk, ck, m4, rk4⟩ := hM.ks
        have m0 := cell_keep hbw hM.c0
        have m1 := cell_keep hbw hM.c1
        have m2 := cell_keep hbw hM.c2
        have m3 := cell_keep hbw m3
        have m4 := cell_keep hbw m4
        have ok := HO.out.node k nd hnd
        have hfew := HF.out k nd hnd
        have HST : Hid ((x.nodes.take (k + 1)).map dualN = (x.nodes.take k).map dualN ++ [dualN nd]) := Lib.hid (by rw [List.take_add_one, hnd, List.map_append]; rfl)
        obtain ⟨kind, server, need, ws, ks⟩ := nd
        simp only at m0 m1 m2 rw3 rk4 hfew
        have hwl := rw3.len
        have hkl := rk4.len
        rw [List.length_map] at hwl hkl
        have hnk : nk ≤ 1000 := by omega
        have hnw : nw ≤ 1000 := by
          rcases ok.arity with h5 | h5 <;> simp only at h5
          · rw [h5] at hwl; simp at hwl; omega
          · omega
        have HWL := Lib.hid hwl
        have HKL := Lib.hid hkl
        have HOK := Lib.hid ok
        have HW3 := Lib.hid rw3
        have HK4 := Lib.hid rk4
        have HBX := Lib.hid hbx
        have HXB := Lib.hid hxb
        have HSL := Lib.hid hSl
        have HB := Lib.hid hb
        have HBW := Lib.hid hbw
        have hOBr : OB < wr.heap.size := (Array.getElem?_eq_some_iff.1 hbx).1
        have HCP := Lib.hid (copied_c kind server need ws ks aw nw cw ak nk ck wr (rw3.below hbw) (rk4.below hbw) (by omega) (by omega))
        subst ha
        clear hM hat hnd hwl hkl ok rw3 rk4 hbx hxb hSl hb hbw hfew HW3 HK4
        go_wp2_with fail
        with_reducible refine HCP.out.mono ?_
        rintro e w6 ⟨wv, kv, rfl, hrw, hrk, hdj, hb6⟩
        obtain ⟨aw2, cw2, rfl, _⟩ := rd_of_row hrw
        obtain ⟨ak2, ck2, rfl, _⟩ := rd_of_row hrk
        obtain ⟨W7, hW7⟩ : ∃ W7, W7 = w6.alloc (.cells #[.int .i64 kind, .int .i64 server, .int .i64 need, .slice aw2 nw cw2, .slice ak2 nk ck2] 71) := ⟨_, rfl⟩
        have hb7 : Below w6.heap.size w6 W7 := by rw [hW7]; exact (Below.refl _ _).alloc (Nat.le_refl _) _
        have g7 : W7.heap[w6.heap.size]? = some (.cells #[.int .i64 kind, .int .i64 server, .int .i64 need, .slice aw2 nw cw2, .slice ak2 nk ck2] 71 (0, 0)) := by rw [hW7]; exact heap_alloc_new _ _
        have hs7 : W7.heap.size = w6.heap.size + 1 := by rw [hW7]; simp
        have hs6 := hb6.size
        have HB7 := Lib.hid (Below.next hb6 hb7)
        have HRW7 := Lib.hid (rowK_below hrw hb7)
        have HRK7 := Lib.hid (rowK_below hrk hb7)
        have HG7 := Lib.hid g7
        have HRL := Lib.hid (show (∀ g, (Value.slice aw2 nw cw2).ownBlock = some g → g < w6.heap.size) ∧ ∀ g, (Value.slice ak2 nk ck2).ownBlock = some g → g < w6.heap.size from ⟨fun g hg => (hrw.lt g hg).2, fun g hg => (hrk.lt g hg).2⟩)
        go_upto_region 9 with fail
        rw [← hW7]
        have hs7i : wr.heap.size + 1 ≤ W7.heap.size := by omega
        clear hrw hrk hdj hb6 hb7 g7 hW7 HCP HBW xx0 xx1 hs7
        obtain ⟨n0, n1, n2, n3, n4⟩ := open5 HG7.out
        by_cases hk2 : kind = 2
        · have e1 : (kind == 2) = true := by simpa using hk2
          subst hk2
          have hdn : dualN ⟨2, server, need, ws, ks⟩ = ⟨2, server, max 0 (sumN ⟨2, server, need, ws, ks⟩ - need + 1), ws, ks⟩ := by unfold dualN; rw [if_pos rfl]
          have hneed := HOK.out.need
          simp only at hneed
          have hsr := sum_rng HOK.out
          have hsum := hsr ks.length
          have hkl9 := HKL.out
          obtain ⟨aw3, cw3, e3, r3⟩ := rd_of_row HRW7.out
          obtain ⟨ak3, ck3, e4, r4⟩ := rd_of_row HRK7.out
          cases e3
          cases e4
          have hSUM := (fun u (hu : Below W7.heap.size W7 u) => rsum_c ⟨2, server, need, ws, ks⟩ HOK.out.arity (fun j hj => ⟨(hsr j).1, by have h1 := (hsr j).2; have h2 : j ≤ ks.length := hj; omega⟩) (fun j _ => rfl) aw2 nw cw2 ak2 nk ck2 u (r3.below hu) (r4.below hu))
          have hsn : sumN ⟨2, server, need, ws, ks⟩ = sumTo ⟨2, server, need, ws, ks⟩ ks.length := rfl
          rw [← hsn] at hsum
          simp only at hSUM
          obtain ⟨SS, hSS⟩ : ∃ SS, sumN ⟨2, server, need, ws, ks⟩ = SS := ⟨_, rfl⟩
          rw [hSS] at hdn hsum hSUM
          have HSUM := Lib.hid hSUM
          have HDN := Lib.hid hdn
          have HNS := Lib.hid hneed
          have hss2 : 0 ≤ SS ∧ SS ≤ 1000000 := ⟨hsum.1, by have := hsum.2; omega⟩
          clear hdn hsn hSS hsr r3 r4 hSUM hkl9 hsum
          go_wp2_with fail
          go_region_law (first
            | (go_simp; go_at_call 45; (with_reducible refine (HSUM.out _ (below_drew (Below.refl _ _))).mono ?_); rintro e w8 ⟨rfl, hb8⟩; have g8 := heap_below (below_undrew hb8) HG7.out; have q2 := (open5 g8).2.2.1; have y2 := (frz5 g8).2.2.1; have HB8 := Lib.hid (below_undrew hb8); have HG8 := Lib.hid g8; clear hb8 g8))
          all_goals
            have hw1 : IntKind.i64.wrap (SS - need) = SS - need := IntWalk.i64_in _ (by omega)
            have hw2 : IntKind.i64.wrap (SS - need + 1) = SS - need + 1 := IntWalk.i64_in _ (by omega)
            rw [hw1, hw2]
            clear hw1 hw2
            obtain ⟨ND, hND⟩ : ∃ ND, max 0 (SS - need + 1) = ND := ⟨_, rfl⟩
            have HDN2 : Hid (dualN ⟨2, server, need, ws, ks⟩ = ⟨2, server, ND, ws, ks⟩) := Lib.hid (by rw [HDN.out, hND])
            rw [hND]
            clear hND HDN
            have HDN := HDN2
            clear HDN2
            generalize hWZ : w8.setCell _ _ = WZ
            have hs8 := HB8.out.size
            have GZ := Lib.hid (show WZ.heap[w6.heap.size]? = some (.cells #[.int .i64 2, .int .i64 server, .int .i64 ND, .slice aw2 nw cw2, .slice ak2 nk ck2] 71 (0, 0)) by rw [← hWZ]; exact heap_set_at HG8.out 2 _)
            have hkz : ∀ g, g ≠ w6.heap.size → WZ.heap[g]? = w8.heap[g]? := fun g hg => by rw [← hWZ]; exact Below.heap_setCell _ _ _ _ (by exact hg)
            have hsz : WZ.heap.size = w8.heap.size := by rw [← hWZ]; simp
            have HRWZ := Lib.hid (rowK_at (rowK_below HRW7.out HB8.out) fun g hg => hkz g (by have := HRL.out.1 g hg; omega))
            have HRKZ := Lib.hid (rowK_at (rowK_below HRK7.out HB8.out) fun g hg => hkz g (by have := HRL.out.2 g hg; omega))
            have HBZ : Hid (Below wr.heap.size wr WZ) := Lib.hid (by rw [← hWZ]; exact (HB7.out.trans (HB8.out.mono (by omega))).setCell (p := ⟨w6.heap.size, 2, none⟩) hs6 _)
            have hszi : wr.heap.size + 1 ≤ WZ.heap.size := by omega
            clear hWZ hkz hsz hs8 HG8 HB8 q2 y2 hss2
            have hVW : ∀ g, v.ownBlock = some g → g < wr.heap.size := fun g hg => (HXB.out.lt_own g hg).2
            have HVW := Lib.hid hVW
            obtain ⟨V, hV1, hV2, hV3⟩ := (HXB.out.below HBZ.out).row
            have HXBZ := Lib.hid (HXB.out.below HBZ.out)
            have HBXZ := Lib.hid (heap_below HBZ.out HBX.out)
            have HBZB := Lib.hid (HB.out.trans (HBZ.out.mono (by omega)))
            rw [show ((x.nodes.take k).map dualN).length = k by rw [List.length_map, List.length_take]; have := HN.out; omega] at hV2 hV1
            obtain ⟨av, cv, rfl, _⟩ := rdK_of_row hV2
            obtain ⟨n0, n1, n2, n3, n4⟩ := open5 GZ.out
            have b0 := cell_of_row _ _ 0 _ _ _ HBXZ.out
            have hOBz : OB + 1 ≤ WZ.heap.size := by have := HBZ.out.size; omega
            have HV1 := Lib.hid hV1
            have HV3 := Lib.hid hV3
            clear hV1 hV3 hVW
            go_wp2_with (at_builtin; go_must (refine wpList_appK2 5 _ _ 30 72 (.agg #[.int .i64 0, .int .i64 0, .int .i64 0, .slice none 0 0, .slice none 0 0]) (nodVC ⟨2, server, ND, .slice aw2 nw cw2, .slice ak2 nk ck2⟩) _ Tryz.underlying30 Tryz.infoNod rfl (by decide) hV2 (Below.refl (OB + 1) WZ) hOBz rfl rfl rfl rfl rfl (by intro u hu; unfold nodVC at hu; simp at hu; rcases hu with rfl | rfl | rfl | rfl | rfl <;> rfl) (by unfold maxLen; omega) (by omega) ?_))
            intro v' w10 hown hb10 hg10 hs10 hv10
            obtain ⟨a5, c5, rfl, _⟩ := rdK_of_row hown
            have hO10 := (hg10.block OB (by omega) (fun e => by have := (hV2.lt _ e.symm).1; omega)).trans HBXZ.out
            have p0 := cell_of_row _ _ 0 _ _ _ hO10
            have f0 := frozen_row hO10 0
            have hp : NodS (fun g => (Value.slice aw2 nw cw2).ownBlock = some g ∨ (Value.slice ak2 nk ck2).ownBlock = some g) WZ ⟨2, server, ND, .slice aw2 nw cw2, .slice ak2 nk ck2⟩ (dualN ⟨2, server, need, ws, ks⟩) := by
              have := nodS_of (S := fun g => (Value.slice aw2 nw cw2).ownBlock = some g ∨ (Value.slice ak2 nk ck2).ownBlock = some g) (p := ⟨2, server, ND, .slice aw2 nw cw2, .slice ak2 nk ck2⟩) (nd := ⟨2, server, ND, ws, ks⟩) rfl rfl rfl HRWZ.out HRKZ.out (fun g hg => .inl hg) (fun g hg => .inr hg)
              rw [HDN.out]; exact this
            have hown2 : w10.ownsRow (OB + 1) 71 5 (.slice a5 (k + 1) c5) (((x.nodes.take k).map dualN).length + 1) (V.flatMap nodVC ++ nodVC ⟨2, server, ND, .slice aw2 nw cw2, .slice ak2 nk ck2⟩) := by
              rw [show ((x.nodes.take k).map dualN).length = k by rw [List.length_map, List.length_take]; have := HN.out; omega]
              exact hown
            have hxb2 := HXBZ.out.app (SW := fun g => (Value.slice aw2 nw cw2).ownBlock = some g ∨ (Value.slice ak2 nk ck2).ownBlock = some g) (x := WZ) (by rw [HV1.out, List.length_map, List.length_take]; have := HN.out; omega) HV3.out (Below.refl _ _) hg10 hown2 hv10 hp (fun g hg => by
              rcases hg with hg | hg
              · have := HRWZ.out.lt g hg
                exact ⟨this.2, fun e => by have := HVW.out g e; omega⟩
              · have := HRKZ.out.lt g hg
                exact ⟨this.2, fun e => by have := HVW.out g e; omega⟩)
            rw [← HST.out] at hxb2
            have HXB2 := Lib.hid hxb2
            have HO10 := Lib.hid hO10
            have HB10 := Lib.hid hb10
            have HRN := Lib.hid hown
            clear hown hown2 hb10 hg10 hs10 hv10 hO10 hp hxb2 hV2 b0 n0 n1 n2 n3 n4
            go_wp2_with fail
            go_roundw
            case rel =>
              refine ⟨k + 1, .slice a5 (k + 1) c5, _, by omega, by go_num, by rw [heap_set_at HO10.out]; rfl, HXB2.out.move (fun g hg => ?_) (fun g hg => ?_) (by simp), fun g hg => ?_, ?_⟩
              · refine Below.heap_setCell _ _ _ _ ?_
                show g ≠ OB
                rcases hg with hg | hg | hg
                · have := HSL.out g hg; omega
                · have := (HRWZ.out.lt g hg).1; omega
                · have := (HRKZ.out.lt g hg).1; omega
              · refine Below.heap_setCell _ _ _ _ ?_
                show g ≠ OB
                have := (HRN.out.lt g hg).1; omega
              · rcases hg with hg | hg | hg
                · exact HSL.out g hg
                · have := (HRWZ.out.lt g hg).1; omega
                · have := (HRKZ.out.lt g hg).1; omega
              · exact (HBZB.out.trans (HB10.out.mono (Nat.le_succ _))).setCell (p := ⟨OB, 0, none⟩) (Nat.le_refl _) _
            case measure => simp [intOf] <;> omega
        · have e1 : (kind == 2) = false := by simpa using hk2
          have hdn : dualN ⟨kind, server, need, ws, ks⟩ = ⟨kind, server, need, ws, ks⟩ := by unfold dualN; rw [if_neg hk2]
          have HDN := Lib.hid hdn
          clear hdn hk2
          obtain ⟨WZ, hWZ⟩ : ∃ WZ, WZ = W7 := ⟨_, rfl⟩
          subst hWZ
          have GZ := HG7
          have HRWZ := HRW7
          have HRKZ := HRK7
          have HBZ := HB7
          clear n0 n1 n2 n3 n4
          have hVW : ∀ g, v.ownBlock = some g → g < wr.heap.size := fun g hg => (HXB.out.lt_own g hg).2
          have HVW := Lib.hid hVW
          obtain ⟨V, hV1, hV2, hV3⟩ := (HXB.out.below HBZ.out).row
          have HXBZ := Lib.hid (HXB.out.below HBZ.out)
          have HBXZ := Lib.hid (heap_below HBZ.out HBX.out)
          have HBZB := Lib.hid (HB.out.trans (HBZ.out.mono (by omega)))
          rw [show ((x.nodes.take k).map dualN).length = k by rw [List.length_map, List.length_take]; have := HN.out; omega] at hV2 hV1
          obtain ⟨av, cv, rfl, _⟩ := rdK_of_row hV2
          obtain ⟨n0, n1, n2, n3, n4⟩ := open5 GZ.out
          have b0 := cell_of_row _ _ 0 _ _ _ HBXZ.out
          have hOBz : OB + 1 ≤ WZ.heap.size := by have := HBZ.out.size; omega
          have HV1 := Lib.hid hV1
          have HV3 := Lib.hid hV3
          clear hV1 hV3 hVW
          go_wp2_with (at_builtin; go_must (refine wpList_appK2 5 _ _ 30 72 (.agg #[.int .i64 0, .int .i64 0, .int .i64 0, .slice none 0 0, .slice none 0 0]) (nodVC ⟨kind, server, need, .slice aw2 nw cw2, .slice ak2 nk ck2⟩) _ Tryz.underlying30 Tryz.infoNod rfl (by decide) hV2 (Below.refl (OB + 1) WZ) hOBz rfl rfl rfl rfl rfl (by intro u hu; unfold nodVC at hu; simp at hu; rcases hu with rfl | rfl | rfl | rfl | rfl <;> rfl) (by unfold maxLen; omega) (by omega) ?_))
          intro v' w10 hown hb10 hg10 hs10 hv10
          obtain ⟨a5, c5, rfl, _⟩ := rdK_of_row hown
          have hO10 := (hg10.block OB (by omega) (fun e => by have := (hV2.lt _ e.symm).1; omega)).trans HBXZ.out
          have p0 := cell_of_row _ _ 0 _ _ _ hO10
          have f0 := frozen_row hO10 0
          have hp : NodS (fun g => (Value.slice aw2 nw cw2).ownBlock = some g ∨ (Value.slice ak2 nk ck2).ownBlock = some g) WZ ⟨kind, server, need, .slice aw2 nw cw2, .slice ak2 nk ck2⟩ (dualN ⟨kind, server, need, ws, ks⟩) := by
            have := nodS_of (S := fun g => (Value.slice aw2 nw cw2).ownBlock = some g ∨ (Value.slice ak2 nk ck2).ownBlock = some g) (p := ⟨kind, server, need, .slice aw2 nw cw2, .slice ak2 nk ck2⟩) (nd := ⟨kind, server, need, ws, ks⟩) rfl rfl rfl HRWZ.out HRKZ.out (fun g hg => .inl hg) (fun g hg => .inr hg)
            rw [HDN.out]; exact this
          have hown2 : w10.ownsRow (OB + 1) 71 5 (.slice a5 (k + 1) c5) (((x.nodes.take k).map dualN).length + 1) (V.flatMap nodVC ++ nodVC ⟨kind, server, need, .slice aw2 nw cw2, .slice ak2 nk ck2⟩) := by
            rw [show ((x.nodes.take k).map dualN).length = k by rw [List.length_map, List.length_take]; have := HN.out; omega]
            exact hown
          have hxb2 := HXBZ.out.app (SW := fun g => (Value.slice aw2 nw cw2).ownBlock = some g ∨ (Value.slice ak2 nk ck2).ownBlock = some g) (x := WZ) (by rw [HV1.out, List.length_map, List.length_take]; have := HN.out; omega) HV3.out (Below.refl _ _) hg10 hown2 hv10 hp (fun g hg => by
            rcases hg with hg | hg
            · have := HRWZ.out.lt g hg
              exact ⟨this.2, fun e => by have := HVW.out g e; omega⟩
            · have := HRKZ.out.lt g hg
              exact ⟨this.2, fun e => by have := HVW.out g e; omega⟩)
          rw [← HST.out] at hxb2
          have HXB2 := Lib.hid hxb2
          have HO10 := Lib.hid hO10
          have HB10 := Lib.hid hb10
          have HRN := Lib.hid hown
          clear hown hown2 hb10 hg10 hs10 hv10 hO10 hp hxb2 hV2 b0 n0 n1 n2 n3 n4
          go_wp2_with fail
          go_roundw
          case rel =>
            refine ⟨k + 1, .slice a5 (k + 1) c5, _, by omega, by go_num, by rw [heap_set_at HO10.out]; rfl, HXB2.out.move (fun g hg => ?_) (fun g hg => ?_) (by simp), fun g hg => ?_, ?_⟩
            · refine Below.heap_setCell _ _ _ _ ?_
              show g ≠ OB
              rcases hg with hg | hg | hg
              · have := HSL.out g hg; omega
              · have := (HRWZ.out.lt g hg).1; omega
              · have := (HRKZ.out.lt g hg).1; omega
            · refine Below.heap_setCell _ _ _ _ ?_
              show g ≠ OB
              have := (HRN.out.lt g hg).1; omega
            · rcases hg with hg | hg | hg
              · exact HSL.out g hg
              · have := (HRWZ.out.lt g hg).1; omega
              · have := (HRKZ.out.lt g hg).1; omega
            · exact (HBZB.out.trans (HB10.out.mono (Nat.le_succ _))).setCell (p := ⟨OB, 0, none⟩) (Nat.le_refl _) _
          case measure => simp [intOf] <;> omega
      · obtain rfl : k = n := by omega
        rw [List.take_of_length_le (by have := HN.out; omega)] at hxb
        obtain ⟨a', c', rfl, _⟩ := hxb.shape
        have o0 := cell_of_row _ _ 0 _ _ _ hbx
        have o1 := cell_of_row _ _ 1 _ _ _ hbx
        have gR9 := (hb.block (w.heap.size + 1) (by omega)).trans GR5.out
        have t0 := cell_of_row _ _ 0 _ _ _ gR9
        have t1 := cell_of_row _ _ 1 _ _ _ gR9
        have z0 := frozen_row gR9 0
        have z1 := frozen_row gR9 1
        have HBR := Lib.hid (HB5.out.trans (hb.mono (by omega)))
        have GR9 := Lib.hid gR9
        have HXB := Lib.hid hxb
        have HSL := Lib.hid hSl
        clear hbx hxb hSl hb gR9
        go_wp2_with fail
        clear t0 t1 z0 z1 o0 o1
        generalize hWF : (wr.setCell _ _).setCell _ _ = WF
        obtain ⟨e1, hbf⟩ := fin_box GR9.out (by omega) HBR.out hWF
        have hkeep : ∀ g, g ≠ w.heap.size + 1 → WF.heap[g]? = wr.heap[g]? := fun g hg => by
          rw [← hWF, Below.heap_setCell _ ⟨w.heap.size + 1, 1, none⟩ _ g hg, Below.heap_setCell _ ⟨w.heap.size + 1, 0, none⟩ _ g hg]
        have hsF : WF.heap.size = wr.heap.size := by rw [← hWF]; simp
        have hxb := HXB.out.move (w' := WF) (fun g hg => hkeep g (by have := HSL.out g hg; omega)) (fun g hg => hkeep g (by have := (HXB.out.lt_own g hg).1; omega)) (by omega)
        obtain ⟨a2, c2, e2, hxmr⟩ := hxb.xmr (lo := w.heap.size) (fun g hg => by have := HSL.out g hg; omega) (by omega)
        cases e2
        have f0 := cell_of_row _ _ 0 _ _ _ e1
        have f1 := cell_of_row _ _ 1 _ _ _ e1
        have HXM := Lib.hid hxmr
        have HBF := Lib.hid hbf
        clear hWF e1 hkeep hxb hxmr hbf hsF
        refine bodyPost_ret (v := .tuple #[.agg #[.slice a' (x.nodes.map dualN).length c', .int .i64 x.root], .int .i64 0]) ?_ rfl ⟨a', c', rfl, HXM.out, HBF.out⟩
        rw [results_cell_tmp rfl]
        go_simp
  · have hR : dualS x = (⟨[], 0⟩, xprE x) := by unfold dualS; rw [if_pos hx]
    obtain ⟨E, hE⟩ : ∃ E, xprE x = E := ⟨_, rfl⟩
    rw [hR, hE]
    rw [hE] at HV hx
    have hne : (E != 0) = true := by simpa using hx
    clear hR hE hx
    go_enter Tryz.func19, Tryz.ntmps19
    go_wp2_with fail
    generalize hW2 : (w.alloc _).alloc _ = W2
    obtain ⟨gX, gR, hb2, hs2⟩ := box2 hW2
    have GR := Lib.hid gR
    have HB2 := Lib.hid hb2
    clear hW2 gX gR hb2
    with_reducible refine (HV.out W2 HB2.out).mono ?_
    rintro e w4 ⟨rfl, hb4⟩
    have g4 := heap_below hb4 GR.out
    have t0 := cell_of_row _ _ 0 _ _ _ g4
    have t1 := cell_of_row _ _ 1 _ _ _ g4
    have z0 := frozen_row g4 0
    have z1 := frozen_row g4 1
    have G4 := Lib.hid g4
    have HB4 := Lib.hid (Below.next HB2.out hb4)
    clear g4 hb4 GR
    go_wp2_with fail
    clear t0 t1 z0 z1
    generalize hWF : (w4.setCell _ _).setCell _ _ = WF
    obtain ⟨e1, hbf⟩ := fin_box G4.out (by omega) HB4.out hWF
    have HBF := Lib.hid hbf
    have f0 := cell_of_row _ _ 0 _ _ _ e1
    have f1 := cell_of_row _ _ 1 _ _ _ e1
    clear hWF e1 hbf
    refine bodyPost_ret (v := .tuple #[.agg #[.slice none 0 0, .int .i64 0], .int .i64 E]) ?_ rfl (RetX.none_ rfl HBF.out)
    rw [results_cell_tmp rfl]
    go_simp
end Go.Proofs.YtcojmmhclklpoaaGreatDoor
namespace Go.Proofs.YtcojmmhclklpoaaGreatDoor
open Go.RowKit Go.Shelf

theorem dualX_ok {x : Xpr} (hx : XprOk x) (h5 : ∀ (k : Nat) nd, x.nodes[k]? = some nd → nd.kids.length ≤ 50) : XprOk (dualX x) ∧ XprFew (dualX x) := by
  have key : ∀ (k : Nat) nd, (dualX x).nodes[k]? = some nd → NodOk nd k ∧ nd.kids.length ≤ 1000 := fun k nd h => by
    unfold dualX at h
    rw [List.getElem?_map] at h
    cases hk : x.nodes[k]? with
    | none => rw [hk] at h; cases h
    | some n0 =>
      rw [hk] at h
      cases h
      have ok := hx.node k n0 hk
      have hl := h5 k n0 hk
      unfold dualN
      by_cases h2 : n0.kind = 2
      · rw [if_pos h2]
        have hs := sum_rng ok n0.kids.length
        have hn := ok.need
        have e : sumN n0 = sumTo n0 n0.kids.length := rfl
        refine ⟨⟨ok.kind, ok.server, ⟨Int.le_max_left _ _, ?_⟩, ok.weights, ok.arity, ok.kids, fun h => ?_⟩, by show n0.kids.length ≤ 1000; omega⟩
        · show max 0 (sumN n0 - n0.need + 1) ≤ 100000
          rw [e]; omega
        · simp only at h; omega
      · rw [if_neg h2]; exact ⟨ok, by omega⟩
  refine ⟨⟨?_, ?_, fun k nd h => (key k nd h).1, ?_⟩, fun k nd h => (key k nd h).2⟩
  · rw [dual_ok hx]; exact hx.pos
  · rw [dual_ok hx]; exact hx.most
  · rw [dual_ok hx]; exact hx.root
set_option maxRecDepth 100000 in
set_option maxHeartbeats 4000000 in
theorem duals_w (v : Value) (xs : List Pce) (a : Int) (w : World) (ht : HasTab w) (hp : HasPow w) (hr : HasRng w) (hy : HasSyn w) (w0 : IsDraft w v xs) (w1 : (Lit.int .u16 a).wf = true) :
    Calls Tryz.prog 4 #[v, .int .u16 a] w fun e w' => e = .returned (.bool true) ∧ Below w.heap.size w w' := by
  have HA := Lib.hid (fun u (hb : Below w.heap.size w u) => awake10_c u (ht.below hb) (hp.below hb) (hr.below hb) (hy.below hb))
  obtain ⟨s, rfl⟩ := U_of_wf' w1
  obtain ⟨ax, nx, cx, rfl, hpx⟩ := w0.val
  have HMX := Lib.hid (fun u (hb : Below w.heap.size w u) => made_c xs w0.okx ax nx cx u (hpx.below hb))
  obtain ⟨hxo, _, _⟩ := madX_ok w0.okx
  have hxf := madX_few xs
  have hxs := madX_sum xs
  obtain ⟨X, hX⟩ : ∃ X, madX xs = X := ⟨_, rfl⟩
  rw [hX] at HMX hxo hxf hxs
  have hds : dualS X = (dualX X, 0) := by unfold dualS; rw [if_neg (by rw [hxo]; simp)]
  have HE := Lib.hid (fun a n c u h => dual_c X hxf a n c u h)
  have HR := Lib.hid (fun a n c u h => rdual_c X hxs hxf a n c u h)
  rw [hds] at HE HR
  have hok := xprE_ok hxo
  obtain ⟨hdo, hdf⟩ := dualX_ok hok (fun k nd h => by
    rw [← hX] at h
    have := (madX_node h).2; omega)
  have HH1 := Lib.hid (fun a n c u h => rholds_c (dualX X) hdo hdf (s &&& 4095#16) a n c u h)
  have HH2 := Lib.hid (fun a n c u h => rholds_c X hok hxf (~~~s &&& 4095#16) a n c u h)
  have HSM := Lib.hid (fun a n c a2 n2 c2 u h h2 => same10_c (dualX X) a n c a2 n2 c2 u h h2)
  have hdl := dual_ok hok
  have hdh := dual_hold hok (s &&& 4095#16) (~~~s &&& 4095#16) (fun k hk => by
    unfold hasB
    have h1 : (4095#16).getLsbD k = true := by
      have key : ∀ q : Fin 12, (4095#16).getLsbD q.val = true := by decide
      exact key ⟨k, hk⟩
    rw [BitVec.getLsbD_and, BitVec.getLsbD_and, h1, BitVec.getLsbD_not]
    simp; omega)
  have hdr : (dualX X).root = X.root := rfl
  obtain ⟨Y, hY⟩ : ∃ Y, dualX X = Y := ⟨_, rfl⟩
  rw [hY] at HE HR HH1 HSM hdl hdh hdr
  obtain ⟨N, hN⟩ : ∃ N, X.nodes.length = N := ⟨_, rfl⟩
  obtain ⟨RT, hRT⟩ : ∃ RT, X.root = RT := ⟨_, rfl⟩
  obtain ⟨T1, hT1⟩ : ∃ T1, holdX Y (s &&& 4095#16) = T1 := ⟨_, rfl⟩
  obtain ⟨T2, hT2⟩ : ∃ T2, holdX X (~~~s &&& 4095#16) = T2 := ⟨_, rfl⟩
  rw [hT1] at HH1 hdh
  rw [hT2] at HH2 hdh
  unfold RetX at HE HR
  rw [hRT] at hdr HE HR HH2
  rw [hdr] at HSM HH1
  simp only [hdl, hN, hRT, hdr] at HE HR HMX
  have hne : (T1 != T2) = true := by rw [hdh]; cases T2 <;> rfl
  clear hX hxo hxf hxs hds hok hdo hdf hdl hdh hdr hY hN hRT hT1 hT2 ht hp hr hy w0 hpx w1
  go_enter Tryz.func4, Tryz.ntmps4
  go_wp2_with fail
  obtain ⟨W0, hW0⟩ : ∃ W0, W0 = w.alloc (.cells #[.slice ax nx cx] 24) := ⟨_, rfl⟩
  rw [← hW0]
  have hb0 : Below w.heap.size w W0 := by rw [hW0]; exact (Below.refl _ _).alloc (Nat.le_refl _) _
  have g0 : W0.heap[w.heap.size]? = some (.cells #[.slice ax nx cx] 24 (0, 0)) := by rw [hW0]; exact heap_alloc_new _ _
  with_reducible refine (HA.out W0 hb0).mono ?_
  rintro e w1 ⟨rfl, b1⟩
  have HB1 := Lib.hid (Below.next hb0 b1)
  have r0 := cell_of_row _ _ 0 _ _ _ (heap_below b1 g0)
  clear b1 hb0 g0 hW0 HA
  go_wp2_with fail
  clear r0
  with_reducible refine (HMX.out w1 HB1.out).mono ?_
  rintro e w2 ⟨a2, c2, rfl, hx2, b2⟩
  have HX2 := Lib.hid hx2
  have HB2 := Lib.hid (Below.next HB1.out b2)
  clear hx2 b2 HMX HB1
  go_wp2_with fail
  obtain ⟨W3, hW3⟩ : ∃ W3, W3 = w2.alloc (.cells #[.slice a2 N c2, .int .i64 RT] 32) := ⟨_, rfl⟩
  rw [← hW3]
  have hb3 : Below w2.heap.size w2 W3 := by rw [hW3]; exact (Below.refl _ _).alloc (Nat.le_refl _) _
  have HG3 := Lib.hid (show W3.heap[w2.heap.size]? = some (.cells #[.slice a2 N c2, .int .i64 RT] 32 (0, 0)) by rw [hW3]; exact heap_alloc_new _ _)
  have HX3 := Lib.hid (HX2.out.below hb3)
  have HB3 := Lib.hid (Below.next HB2.out hb3)
  clear hW3 hb3 HX2 HB2
  with_reducible refine (HE.out a2 N c2 W3 HX3.out).mono ?_
  rintro e w4 ⟨a4, c4, rfl, hx4, b4⟩
  have HY4 := Lib.hid hx4.xm
  have HX4 := Lib.hid (HX3.out.below b4)
  have HB4 := Lib.hid (Below.next HB3.out b4)
  have HG4 := Lib.hid (heap_below b4 HG3.out)
  obtain ⟨W5, hW5⟩ : ∃ W5, W5 = w4.alloc (.cells #[.slice a4 N c4, .int .i64 RT] 32) := ⟨_, rfl⟩
  have hb5 : Below w4.heap.size w4 W5 := by rw [hW5]; exact (Below.refl _ _).alloc (Nat.le_refl _) _
  have HD5 := Lib.hid (show W5.heap[w4.heap.size]? = some (.cells #[.slice a4 N c4, .int .i64 RT] 32 (0, 0)) by rw [hW5]; exact heap_alloc_new _ _)
  have HG5 := Lib.hid (heap_below hb5 HG4.out)
  have HX5 := Lib.hid (HX4.out.below hb5)
  have HY5 := Lib.hid (HY4.out.below hb5)
  have HB5 := Lib.hid (Below.next HB4.out hb5)
  have HW5 := Lib.hid hW5
  obtain ⟨⟨r0, r1⟩, _⟩ := open2 HG4.out
  have r0 : ∀ ob, (w4.alloc ob).cell? ⟨w2.heap.size, 0, none⟩ = _ := fun ob => (World.cell?_alloc_lt _ _ _ (cell_lt r0)).trans r0
  have r1 : ∀ ob, (w4.alloc ob).cell? ⟨w2.heap.size, 1, none⟩ = _ := fun ob => (World.cell?_alloc_lt _ _ _ (cell_lt r1)).trans r1
  clear hx4 b4 hb5 hW5 HG3 HX3 HB3 HY4 HX4 HB4 HG4
  go_wp2_with fail
  rw [← HW5.out]
  clear r0 r1
  with_reducible refine (HR.out a2 N c2 W5 HX5.out).mono ?_
  rintro e w6 ⟨a6, c6, rfl, hx6, b6⟩
  have hb7 : Below w6.heap.size w6 (w6.alloc (.cells #[.slice a6 N c6, .int .i64 RT] 32)) := (Below.refl _ _).alloc (Nat.le_refl _) _
  obtain ⟨W7, hW7⟩ : ∃ W7, W7 = w6.alloc (.cells #[.slice a6 N c6, .int .i64 RT] 32) := ⟨_, rfl⟩
  rw [← hW7] at hb7
  have HE7 := Lib.hid (show W7.heap[w6.heap.size]? = some (.cells #[.slice a6 N c6, .int .i64 RT] 32 (0, 0)) by rw [hW7]; exact heap_alloc_new _ _)
  have b67 := Below.next b6 hb7
  have HD7 := Lib.hid (heap_below b67 HD5.out)
  have HG7 := Lib.hid (heap_below b67 HG5.out)
  have HX7 := Lib.hid (HX5.out.below b67)
  have HY7 := Lib.hid (HY5.out.below b67)
  have HZ7 := Lib.hid (hx6.xm.below hb7)
  have HB7 := Lib.hid (Below.next HB5.out b67)
  clear hx6 b6 hb7 b67 HD5 HG5 HX5 HY5 HB5 HE HR HW5
  go_upto_region 6 with fail
  rw [← hW7]
  clear hW7
  have HKS := Lib.hid (fun (u : World) (hu : Below W7.heap.size W7 u) => And.intro (open2 (heap_below hu HD7.out)).1 (And.intro (open2 (heap_below hu HE7.out)).1 (open2 (heap_below hu HG7.out)).1))
  refine wp_region_noPanic ?_
  refine wp_region_takes (fun u => Below W7.heap.size W7 u) [0, 1, 2, 3, 4, 5] 15 (by kernel_rfl) (by kernel_rfl) (by kernel_rfl) (fun _ _ _ _ _ h => h) (below_drew (Below.refl _ _)) ?_
  repeat (refine wpTk_cons rfl (fun K hK => ?_); go_simp; apply Exists.intro; refine ⟨fun u hu => ?_, hK _ ?_⟩; (first | exact rfl | (obtain ⟨⟨s0, s1⟩, ⟨t0, t1⟩, q0, q1⟩ := HKS.out u hu; go_simp; done) | (obtain ⟨⟨s0, s1⟩, ⟨t0, t1⟩, q0, q1⟩ := HKS.out u hu; go_simp; exact rfl)); clear hK K)
  refine wpTk_nil ?_
  refine held_ready (rs := [6]) (by kernel_rfl) (by simp) ?_
  refine AllReadyH.cons rfl (fun K hK => ?_) AllReadyH.nil
  go_simp
  with_reducible refine (HSM.out a4 N c4 a6 N c6 W7.drew (HY7.out.below (below_drew (Below.refl _ _))) (HZ7.out.below (below_drew (Below.refl _ _)))).mono ?_
  rintro e w8 ⟨rfl, hb8⟩
  have HB8 := Lib.hid (below_undrew hb8)
  clear hb8
  go_simp
  refine hK.out _ _ HB8.out (fun hh => ?_)
  clear hh hK K; try simp only [Act.put, List.setIfInBounds_toArray, List.set_cons_zero, List.set_cons_succ]
  refine held_takes (f := 5) (by kernel_rfl) (fun _ _ _ _ _ h => h) HB8.out [7, 8, 9, 10, 11, 13, 14, 15, 16] _ _ (by kernel_rfl) ?_
  repeat (refine wpTk_cons rfl (fun K hK => ?_); go_simp; apply Exists.intro; refine ⟨fun u hu => ?_, hK _ ?_⟩; (first | exact rfl | (obtain ⟨⟨s0, s1⟩, ⟨t0, t1⟩, q0, q1⟩ := HKS.out u hu; go_simp; done) | (obtain ⟨⟨s0, s1⟩, ⟨t0, t1⟩, q0, q1⟩ := HKS.out u hu; go_simp; exact rfl)); clear hK K)
  refine wpTk_nil ?_
  refine held_ready (rs := [12]) (by kernel_rfl) (by simp) ?_
  refine AllReadyH.cons rfl (fun K hK => ?_) AllReadyH.nil
  go_simp
  have hbA : bits BinOp.and IntKind.u16 (U s) 4095 = U (s &&& 4095#16) := bv16_and s 4095#16
  rw [hbA]
  clear hbA
  with_reducible refine (HH1.out a4 N c4 w8 (HY7.out.below HB8.out)).mono ?_
  rintro e w9 ⟨rfl, hb9⟩
  have HB9 := Lib.hid (Below.next HB8.out hb9)
  clear hb9
  go_simp
  refine hK.out _ _ HB9.out (fun hh => ?_)
  clear hh hK K; try simp only [Act.put, List.setIfInBounds_toArray, List.set_cons_zero, List.set_cons_succ]
  refine held_ready (rs := [17]) (by kernel_rfl) (by simp) ?_
  refine AllReadyH.cons rfl (fun K hK => ?_) AllReadyH.nil
  go_simp
  have hbA : bits BinOp.and IntKind.u16 (bits BinOp.xor IntKind.u16 (if IntKind.u16.signed = true then -1 else IntKind.u16.max) (U s)) 4095 = U (~~~s &&& 4095#16) := by
    have h1 : bits BinOp.xor IntKind.u16 (if IntKind.u16.signed = true then -1 else IntKind.u16.max) (U s) = U (~~~s) := by
      have h := bv16_xor 65535#16 s
      rw [show 65535#16 ^^^ s = ~~~s from (BitVec.not_def (x := s)).symm] at h
      exact h
    rw [h1]
    exact bv16_and (~~~s) 4095#16
  rw [hbA]
  clear hbA
  with_reducible refine (HH2.out a2 N c2 w9 (HX7.out.below HB9.out)).mono ?_
  rintro e w10 ⟨rfl, hb10⟩
  have HB10 := Lib.hid (Below.next HB9.out hb10)
  clear hb10
  go_simp
  refine hK.out _ _ HB10.out (fun hh => ?_)
  clear hh hK K; try simp only [Act.put, List.setIfInBounds_toArray, List.set_cons_zero, List.set_cons_succ]
  refine held_takes (f := 0) (by kernel_rfl) (fun _ _ _ _ _ h => h) HB10.out [18, 19, 20] _ _ (by kernel_rfl) ?_
  repeat (refine wpTk_cons rfl (fun K hK => ?_); go_simp; apply Exists.intro; refine ⟨fun u hu => ?_, hK _ ?_⟩; (first | exact rfl | (obtain ⟨⟨s0, s1⟩, ⟨t0, t1⟩, q0, q1⟩ := HKS.out u hu; go_simp; done) | (obtain ⟨⟨s0, s1⟩, ⟨t0, t1⟩, q0, q1⟩ := HKS.out u hu; go_simp; exact rfl)); clear hK K)
  refine wpTk_nil ?_
  refine wpAnyH_done (by kernel_rfl) (NoPanic.normal ?_) _
  go_wp2_with fail
  go_ret
  exact ⟨congrArg (fun b => Ending.returned (.bool b)) hne, Below.next HB7.out HB10.out⟩
end Go.Proofs.YtcojmmhclklpoaaGreatDoor
