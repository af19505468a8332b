/- Texts laid together. Handed drafts, as a law's frame opens them. Handed trees, choices, expressions, descriptions, as a law's frame opens them. A handed expression with the reach of its lists, as a law's frame opens it. The reference's Few of layer 10. The reference's Same. The reference's node of layer 10 (printed by rnd.py). The reference's Valid of layer 10. Layer 20: the law Errors, walked. -/
import Derived.Test.YtflpkkebampmfaaDoorGIntersectErrors3
import Derived.Test.YtflpkkebampmfaaDoorGIntersectErrors4
import Derived.Test.YtflpkkebampmfaaDoorGIntersectErrors8
import Derived.Test.YtflpkkebampmfaaDoorGIntersectErrors9
import Derived.Test.YtflpkkebampmfaaDoorProg
import Derived.OpenShut
import Derived.Deep.Slices
import Derived.Deep.Fields
import Derived.ChangeSame
import Derived.SizedLaws
namespace Go.Proofs.YtflpkkebampmfaaDoor
open Go.RowKit Go.ChangeShapes Go.WideShapes Go.Deep

section
variable {H : Type} {enc : TypeId × Value → H} {P : Program} {w : World} {base : Nat} {spare : Nat → Bool} {held : Bool}
theorem open_slice_fields {t e : TypeId} {fs : Array Field} {fuel : Nat} {cs : List Value} {x : DataW H × List MemPlace} (ht : P.underlying t = some (.slice e)) (he : P.underlying e = some (.struct fs))
    (hone : oneCellFields P fs = true) (hC : P.cellsOf e = fs.size) (h : DataW.trod enc P w base spare held fuel t cs = some x) :
    (cs = [.slice none 0 0] ∧ x = (.nil, [])) ∨
    ∃ (a : Addr) (len cap m : Nat) (D : Nat → DataW H) (Pl : Nat → List MemPlace), cs = [.slice (some a) len cap] ∧ base ≤ a.block ∧ len ≤ cap ∧ cap ≤ maxLen ∧ m = (if spare a.block then cap else len) ∧
      x = (.slice ((List.range len).map D) ((List.range (m - len)).map fun j => D (len + j)), MemPlace.row a (m * fs.size) ++ (List.range m).flatMap Pl) ∧
      ∀ i, i < m → ∃ (ys : List (DataW H × List MemPlace)) (n : Nat), D i = .agg (ys.map (·.1)) ∧ Pl i = ys.flatMap (·.2) ∧ ys.length = fs.size ∧
        ∀ (j : Nat) (f : Field), fs[j]? = some f → ∃ (v : Value) (y : DataW H × List MemPlace), w.cell? (a.add (i * fs.size + j)) = some v ∧ ys[j]? = some y ∧ DataW.trod enc P w base spare held n f.type [v] = some y := by
  rcases open_slice ht h with h0 | ⟨a, len, cap, m, n, D, Pl, hcs, hb, hl, hm, hmm, hx, hi⟩
  · exact .inl h0
  · refine .inr ⟨a, len, cap, m, D, Pl, hcs, hb, hl, hm, hmm, by rw [hC] at hx; exact hx, fun i him => ?_⟩
    obtain ⟨cs', hc, ht'⟩ := hi i him
    rw [hC] at hc
    obtain ⟨ys, n', hn', hy, hlen, hyl, hf⟩ := DataW.trod_struct he ht'
    obtain ⟨_, hcl, hat⟩ := World.cells?_some hc
    simp only [Prod.mk.injEq] at hy
    refine ⟨ys, n', hy.1, hy.2, hyl, fun j f hj => ?_⟩
    obtain ⟨ho, hk⟩ := hone_of hone j f hj
    have hjl : j < fs.size := (Array.getElem?_eq_some_iff.1 hj).1
    have hcell := hat j hjl
    have hv : cs'[j]? = some (cs'[j]'(by omega)) := List.getElem?_eq_getElem (by omega)
    have h1 := hf j f hj
    rw [ho, hk] at h1
    have hone' : (cs'.drop j).take 1 = [cs'[j]'(by omega)] := by
      rw [List.drop_eq_getElem_cons (by omega)]
      rfl
    rw [hone'] at h1
    have hys : ys[j]? = some (ys[j]'(by omega)) := List.getElem?_eq_getElem (by omega)
    refine ⟨_, _, ?_, hys, h1.trans hys⟩
    rw [← Go.Deep.add_add, hcell, hv]
end

theorem list_of {α : Type} {Q : Nat → α → Prop} : ∀ n, (∀ i, i < n → ∃ r, Q i r) → ∃ L : List α, L.length = n ∧ ∀ i r, L[i]? = some r → Q i r := by
  intro n
  induction n with
  | zero => intro _; exact ⟨[], rfl, fun i r h => by simp at h⟩
  | succ n ih =>
    intro h
    obtain ⟨L, hl, hL⟩ := ih (fun i hi => h i (by omega))
    obtain ⟨r, hr⟩ := h n (by omega)
    refine ⟨L ++ [r], by simp [hl], fun i q hq => ?_⟩
    by_cases hi : i < n
    · rw [List.getElem?_append_left (by omega)] at hq; exact hL i q hq
    · have := (List.getElem?_eq_some_iff.1 hq).1
      simp at this
      obtain rfl : i = n := by omega
      rw [List.getElem?_append_right (by omega), hl, Nat.sub_self] at hq
      cases hq; exact hr

theorem addr_plain {W : World} {a : Addr} {v : Value} (h : W.cell? (a.add 0) = some v) : a = ⟨a.block, a.off, none⟩ := by
  have : a.add 0 = a := by simp [Addr.add]
  rw [this] at h
  unfold World.cell? at h
  cases hs : a.spot with
  | none => cases a; simp_all
  | some s => rw [hs] at h; split at h <;> simp at h

theorem u8_bd {z : Int} (h : (Lit.int .u8 z).wf = true) : 0 ≤ z ∧ z < 256 := by
  simp [Lit.wf, IntKind.min, IntKind.max, IntKind.bits, IntKind.signed] at h; omega
set_option maxRecDepth 100000 in
theorem ints_of {H : Type} {enc : TypeId × Value → H} {W : World} {base : Nat} {held : Bool} {fuel : Nat} {cs : List Value} {x : DataW H × List MemPlace} (h : DataW.trod enc Tryd.prog W base (fun _ => true) held fuel 83 cs = some x) :
    ∃ a n c z, cs = [.slice a n c] ∧ IsInts .u8 W a n c z := by
  rcases open_ints Tryd.underlying83 Tryd.underlying5 (by kernel_rfl) h with ⟨hcs, _⟩ | ⟨x, l, c, zs, hcs, _, hl, hm, hz, _, hcell, hwz⟩
  · exact ⟨_, _, _, _, hcs, .nil⟩
  · exact ⟨_, _, _, _, hcs, .row hl hm (by simpa using hz) hcell hwz⟩
theorem open_pieces {H : Type} {enc : TypeId × Value → H} {w : World} {base : Nat} {held : Bool} {fuel : Nat} {cs : List Value} {x : DataW H × List MemPlace} (h : DataW.trod enc Tryd.prog w base (fun _ => true) held fuel 43 cs = some x) :
    ∃ a n c ps, cs = [.slice a n c] ∧ PM w a n c ps ∧ ∀ p ∈ ps, p.ok := by
  rcases open_slice_fields Tryd.underlying43 Tryd.underlying85 (by kernel_rfl) (by kernel_rfl) h with ⟨hcs, _⟩ | ⟨a, len, cap, m, D, Pl, hcs, _, hl, hm, hmm, _, hi⟩
  · exact ⟨none, 0, 0, [], hcs, ⟨rfl, Nat.le_refl _, by unfold maxLen; omega, fun hn => absurd hn (by decide)⟩, fun r hr => by cases hr⟩
  · have hlm : len ≤ m := by rw [hmm]; split <;> omega
    obtain ⟨L, hL1, hL2⟩ := list_of (α := Pce) (Q := fun i r => (w.cell? (a.add (i * 5 + 0)) = some (.int .u8 r.kind) ∧ w.cell? (a.add (i * 5 + 1)) = some (.int .u8 r.server) ∧ w.cell? (a.add (i * 5 + 2)) = some (.int .u8 r.need) ∧ w.cell? (a.add (i * 5 + 3)) = some (.bool r.heavy) ∧ ∃ a4 n4 c4, w.cell? (a.add (i * 5 + 4)) = some (.slice a4 n4 c4) ∧ Rd w a4 n4 c4 (r.kids.map (Value.int .u8))) ∧ r.ok) len (fun i hil => by
      obtain ⟨ys, n, _, _, _, hf⟩ := hi i (by omega)
      obtain ⟨v0, y0, c0, _, t0⟩ := hf 0 _ rfl
      obtain ⟨v1, y1, c1, _, t1⟩ := hf 1 _ rfl
      obtain ⟨v2, y2, c2, _, t2⟩ := hf 2 _ rfl
      obtain ⟨v3, y3, c3, _, t3⟩ := hf 3 _ rfl
      obtain ⟨v4, y4, c4, _, t4⟩ := hf 4 _ rfl
      obtain ⟨z0, e0, _, b0⟩ := DataW.trod_int Tryd.underlying5 t0
      obtain ⟨z1, e1, _, b1⟩ := DataW.trod_int Tryd.underlying5 t1
      obtain ⟨z2, e2, _, b2⟩ := DataW.trod_int Tryd.underlying5 t2
      obtain ⟨z3, e3, _⟩ := DataW.trod_bool Tryd.underlying4 t3
      obtain ⟨a4, n4, k4, z4, e4, i4⟩ := ints_of t4
      cases e0; cases e1; cases e2; cases e3; cases e4
      exact ⟨⟨z0, z1, z2, z3, z4⟩, ⟨c0, c1, c2, c3, a4, n4, k4, c4, i4.rd⟩, ⟨u8_bd b0, u8_bd b1, u8_bd b2⟩, fun z hz => u8_bd (i4.wf z hz)⟩)
    refine ⟨some a, len, cap, L, hcs, ⟨hL1, hl, hm, fun hn0 => ?_⟩, fun r hr => ?_⟩
    · obtain ⟨x0, hx0⟩ : ∃ x, L[0]? = some x := ⟨_, List.getElem?_eq_getElem (by omega)⟩
      have h0 := (hL2 0 x0 hx0).1.1
      rw [Nat.zero_mul, Nat.zero_add] at h0
      have ha := addr_plain h0
      refine ⟨a.block, a.off, by rw [← ha], fun i p hp => ?_⟩
      obtain ⟨⟨d0, d1, d2, d3, a4, n4, c4, d4, r4⟩, _⟩ := hL2 i p hp
      rw [ha, Addr.add_lit] at d0 d1 d2 d3 d4
      exact ⟨d0, by rw [Nat.add_assoc]; exact d1, by rw [Nat.add_assoc]; exact d2, by rw [Nat.add_assoc]; exact d3, a4, n4, c4, by rw [Nat.add_assoc]; exact d4, r4⟩
    · obtain ⟨i, hi⟩ := List.mem_iff_getElem?.1 hr
      exact (hL2 i r hi).2
theorem list3 {α : Type} (l : List α) (h : (⟨l⟩ : Array α).size = 3) : ∃ a b c, l = [a, b, c] := by
  match l, h with
  | [a, b, c], _ => exact ⟨a, b, c, rfl⟩
set_option maxRecDepth 100000 in
theorem open_draft {H : Type} {enc : TypeId × Value → H} {w : World} {base : Nat} {held : Bool} {fuel : Nat} {c : Value} {x : DataW H × List MemPlace} (h : DataW.trod enc Tryd.prog w base (fun _ => true) held fuel 45 [c] = some x) :
    ∃ a n cc ps, c = .slice a n cc ∧ PM w a n cc ps ∧ ∀ p ∈ ps, p.ok := by
  obtain ⟨xs, n, _, _, _, _, hfl⟩ := DataW.trod_struct Tryd.underlying45 h
  have k8 : Tryd.prog.cellsOf 43 = 1 := by kernel_rfl
  have h0 : DataW.trod enc Tryd.prog w base (fun _ => true) held n 43 (List.take (Tryd.prog.cellsOf 43) [c]) = xs[0]? := hfl 0 _ rfl
  rw [k8] at h0
  have hxl : xs.length = 1 := by assumption
  rw [List.getElem?_eq_getElem (by omega)] at h0
  obtain ⟨a, n1, cc, ps, e0, i0, i1⟩ := open_pieces h0
  simp at e0
  exact ⟨a, n1, cc, ps, e0, i0, i1⟩
/-- a case among the arguments -/
structure IsCase (W : World) (v : Value) (xs ys : List Pce) (b : Int) : Prop where
  val : ∃ a n c a2 n2 c2, v = .agg #[.slice a n c, .slice a2 n2 c2, .int .u16 b] ∧ PM W a n c xs ∧ PM W a2 n2 c2 ys
  okx : ∀ p ∈ xs, p.ok
  oky : ∀ p ∈ ys, p.ok
  num : (Lit.int .u16 b).wf = true
set_option maxRecDepth 100000 in
theorem open_case {H : Type} {enc : TypeId × Value → H} {W : World} {base b0 : Nat} {held : Bool} {v : Value} {d : DataW H} {p : List MemPlace} {r : Reach}
    (hv : Value.okWide Tryd.prog W r b0 47 v) (h : DataW.Trod enc Tryd.prog W base (fun _ => true) held 47 v d p) : ∃ xs ys b, IsCase W v xs ys b := by
  obtain ⟨cs, rfl, hsz⟩ := okWide_struct Tryd.underlying47 hv
  rw [show Tryd.prog.cellsOf 47 = 3 by kernel_rfl] at hsz
  obtain ⟨l⟩ := cs
  obtain ⟨c0, c1, c2, rfl⟩ := list3 l hsz
  obtain ⟨fuel, hf⟩ := h
  obtain ⟨xs, n, _, _, _, _, hfl⟩ := DataW.trod_struct Tryd.underlying47 hf
  have k8 : Tryd.prog.cellsOf 45 = 1 := by kernel_rfl
  have ku : Tryd.prog.cellsOf 26 = 1 := by kernel_rfl
  have h0 : DataW.trod enc Tryd.prog W base (fun _ => true) held n 45 (List.take (Tryd.prog.cellsOf 45) [c0, c1, c2]) = xs[0]? := hfl 0 _ rfl
  have h1 : DataW.trod enc Tryd.prog W base (fun _ => true) held n 45 (List.take (Tryd.prog.cellsOf 45) [c1, c2]) = xs[1]? := hfl 1 _ rfl
  have h2 : DataW.trod enc Tryd.prog W base (fun _ => true) held n 26 (List.take (Tryd.prog.cellsOf 26) [c2]) = xs[2]? := hfl 2 _ rfl
  rw [k8] at h0 h1
  rw [ku] at h2
  have hxl : xs.length = 3 := by assumption
  rw [List.getElem?_eq_getElem (by omega)] at h0 h1 h2
  obtain ⟨a, n1, cc, z1, e0, i0, o0⟩ := open_draft h0
  obtain ⟨a2, n2, cc2, z2, e1, i1, o1⟩ := open_draft h1
  obtain ⟨s, e2, _, hs⟩ := DataW.trod_int Tryd.underlying26 h2
  simp at e2
  subst e0 e1 e2
  exact ⟨z1, z2, s, ⟨a, n1, cc, a2, n2, cc2, rfl, i0, i1⟩, o0, o1, hs⟩
end Go.Proofs.YtflpkkebampmfaaDoor
namespace Go.Proofs.YtflpkkebampmfaaDoor
open Go.RowKit Go.ChangeShapes Go.WideShapes Go.Deep

theorem rdK_of {α : Type} (k : Nat) (hk0 : 0 < k) (enc : α → List Value) (hk : ∀ x, (enc x).length = k) {W : World} {a : Addr} {len cap : Nat} (hl : len ≤ cap) (hm : cap ≤ maxLen) (L : List α) (hn : L.length = len)
    (h : ∀ i x, L[i]? = some x → ∀ j, j < k → W.cell? (a.add (i * k + j)) = (enc x)[j]?) : RdK k W (some a) len cap (L.flatMap enc) := by
  refine ⟨by rw [flat_len k enc hk, hn], hl, hm, fun h => (by cases h), fun hn0 => ?_⟩
  obtain ⟨x0, hx0⟩ : ∃ x, L[0]? = some x := ⟨_, List.getElem?_eq_getElem (by omega)⟩
  have h0 := h 0 x0 hx0 0 hk0
  rw [Nat.zero_mul, Nat.zero_add, List.getElem?_eq_getElem (by rw [hk]; exact hk0)] at h0
  have ha := addr_plain h0
  refine ⟨a.block, a.off, by rw [← ha], fun i v hv => ?_⟩
  have hi := (List.getElem?_eq_some_iff.1 hv).1
  rw [flat_len k enc hk, hn] at hi
  have hq : i / k < len := Nat.div_lt_of_lt_mul (by rw [Nat.mul_comm]; exact hi)
  obtain ⟨x, hx⟩ : ∃ x, L[i / k]? = some x := ⟨_, List.getElem?_eq_getElem (by omega)⟩
  have hmod := Nat.mod_lt i hk0
  have h1 := h (i / k) x hx (i % k) hmod
  have h2 := flat_at k enc hk L (i / k) (i % k) x hx hmod
  have e : i / k * k + i % k = i := by rw [Nat.mul_comm]; exact Nat.div_add_mod i k
  rw [e] at h1 h2
  rw [hv] at h2
  rw [ha, Addr.add_lit] at h1
  rw [h1, ← h2]

/-- a description among the arguments -/
structure IsDraft (W : World) (v : Value) (xs : List Pce) : Prop where
  val : ∃ a n c, v = .agg #[.slice a n c] ∧ PM W a n c xs
  okx : ∀ p ∈ xs, p.ok
theorem list1 {α : Type} (l : List α) (h : (⟨l⟩ : Array α).size = 1) : ∃ a, l = [a] := by
  match l, h with
  | [a], _ => exact ⟨a, rfl⟩
theorem list2 {α : Type} (l : List α) (h : (⟨l⟩ : Array α).size = 2) : ∃ a b, l = [a, b] := by
  match l, h with
  | [a, b], _ => exact ⟨a, b, rfl⟩
set_option maxRecDepth 100000 in
theorem open_draftv {H : Type} {enc : TypeId × Value → H} {W : World} {base b0 : Nat} {held : Bool} {v : Value} {d : DataW H} {p : List MemPlace} {r : Reach}
    (hv : Value.okWide Tryd.prog W r b0 45 v) (h : DataW.Trod enc Tryd.prog W base (fun _ => true) held 45 v d p) : ∃ xs, IsDraft W v xs := by
  obtain ⟨cs, rfl, hsz⟩ := okWide_struct Tryd.underlying45 hv
  rw [show Tryd.prog.cellsOf 45 = 1 by kernel_rfl] at hsz
  obtain ⟨l⟩ := cs
  obtain ⟨c0, rfl⟩ := list1 l hsz
  obtain ⟨fuel, hf⟩ := h
  obtain ⟨a, n, cc, ps, e0, h1, h2⟩ := open_draft hf
  subst e0
  exact ⟨ps, ⟨a, n, cc, rfl, h1⟩, h2⟩

theorem open_choices {H : Type} {enc : TypeId × Value → H} {w : World} {base : Nat} {held : Bool} {fuel : Nat} {cs : List Value} {x : DataW H × List MemPlace} (h : DataW.trod enc Tryd.prog w base (fun _ => true) held fuel 31 cs = some x) :
    ∃ a n c ns, cs = [.slice a n c] ∧ TM w a n c ns := by
  rcases open_slice_fields Tryd.underlying31 Tryd.underlying39 (by kernel_rfl) (by kernel_rfl) h with ⟨hcs, _⟩ | ⟨a, len, cap, m, D, Pl, hcs, _, hl, hm, hmm, _, hi⟩
  · exact ⟨none, 0, 0, [], hcs, RdK.none_ _ _⟩
  · have hlm : len ≤ m := by rw [hmm]; split <;> omega
    obtain ⟨L, hL1, hL2⟩ := list_of (α := Cho) (Q := fun i r => ∀ j, j < 3 → w.cell? (a.add (i * 3 + j)) = (choC r)[j]?) len (fun i hil => by
      obtain ⟨ys, n, _, _, _, hf⟩ := hi i (by omega)
      obtain ⟨v0, y0, c0, _, t0⟩ := hf 0 _ rfl
      obtain ⟨v1, y1, c1, _, t1⟩ := hf 1 _ rfl
      obtain ⟨v2, y2, c2, _, t2⟩ := hf 2 _ rfl
      obtain ⟨z0, e0, _, _⟩ := DataW.trod_int Tryd.underlying3 t0
      obtain ⟨z1, e1, _, _⟩ := DataW.trod_int Tryd.underlying3 t1
      obtain ⟨z2, e2, _, _⟩ := DataW.trod_int Tryd.underlying3 t2
      cases e0; cases e1; cases e2
      refine ⟨⟨z0, z1, z2⟩, fun j hj => ?_⟩
      match j, hj with
      | 0, _ => exact c0
      | 1, _ => exact c1
      | 2, _ => exact c2)
    exact ⟨some a, len, cap, L, hcs, rdK_of 3 (by decide) choC choC_len hl hm L hL1 (fun i x hx j hj => hL2 i x hx j hj)⟩
/-- a tree among the arguments -/
structure IsTree (W : World) (v : Value) (t : Tre) : Prop where
  val : ∃ a n c, v = .agg #[.slice a n c, .int .i64 t.root] ∧ TM W a n c t.nodes
set_option maxRecDepth 100000 in
theorem open_tree {H : Type} {enc : TypeId × Value → H} {W : World} {base b0 : Nat} {held : Bool} {v : Value} {d : DataW H} {p : List MemPlace} {r : Reach}
    (hv : Value.okWide Tryd.prog W r b0 33 v) (h : DataW.Trod enc Tryd.prog W base (fun _ => true) held 33 v d p) : ∃ t, IsTree W v t := by
  obtain ⟨cs, rfl, hsz⟩ := okWide_struct Tryd.underlying33 hv
  rw [show Tryd.prog.cellsOf 33 = 2 by kernel_rfl] at hsz
  obtain ⟨l⟩ := cs
  obtain ⟨c0, c1, rfl⟩ := list2 l hsz
  obtain ⟨fuel, hf⟩ := h
  obtain ⟨xs, n, _, _, _, _, hfl⟩ := DataW.trod_struct Tryd.underlying33 hf
  have k8 : Tryd.prog.cellsOf 31 = 1 := by kernel_rfl
  have ku : Tryd.prog.cellsOf 3 = 1 := by kernel_rfl
  have h0 : DataW.trod enc Tryd.prog W base (fun _ => true) held n 31 (List.take (Tryd.prog.cellsOf 31) [c0, c1]) = xs[0]? := hfl 0 _ rfl
  have h1 : DataW.trod enc Tryd.prog W base (fun _ => true) held n 3 (List.take (Tryd.prog.cellsOf 3) [c1]) = xs[1]? := hfl 1 _ rfl
  rw [k8] at h0
  rw [ku] at h1
  have hxl : xs.length = 2 := by assumption
  rw [List.getElem?_eq_getElem (by omega)] at h0 h1
  obtain ⟨a, n1, cc, ns, e0, i0⟩ := open_choices h0
  obtain ⟨z, e1, _, _⟩ := DataW.trod_int Tryd.underlying3 h1
  simp at e0 e1
  subst e0 e1
  exact ⟨⟨ns, z⟩, ⟨a, n1, cc, rfl, i0⟩⟩
/-- a choice among the arguments -/
structure IsChoice (W : World) (v : Value) (q : Cho) : Prop where
  val : v = .agg #[.int .i64 q.server, .int .i64 q.first, .int .i64 q.second]
set_option maxRecDepth 100000 in
theorem open_choice {H : Type} {enc : TypeId × Value → H} {W : World} {base b0 : Nat} {held : Bool} {v : Value} {d : DataW H} {p : List MemPlace} {r : Reach}
    (hv : Value.okWide Tryd.prog W r b0 39 v) (h : DataW.Trod enc Tryd.prog W base (fun _ => true) held 39 v d p) : ∃ q, IsChoice W v q := by
  obtain ⟨cs, rfl, hsz⟩ := okWide_struct Tryd.underlying39 hv
  rw [show Tryd.prog.cellsOf 39 = 3 by kernel_rfl] at hsz
  obtain ⟨l⟩ := cs
  obtain ⟨c0, c1, c2, rfl⟩ := list3 l hsz
  obtain ⟨fuel, hf⟩ := h
  obtain ⟨xs, n, _, _, _, _, hfl⟩ := DataW.trod_struct Tryd.underlying39 hf
  have ku : Tryd.prog.cellsOf 3 = 1 := by kernel_rfl
  have h0 : DataW.trod enc Tryd.prog W base (fun _ => true) held n 3 (List.take (Tryd.prog.cellsOf 3) [c0, c1, c2]) = xs[0]? := hfl 0 _ rfl
  have h1 : DataW.trod enc Tryd.prog W base (fun _ => true) held n 3 (List.take (Tryd.prog.cellsOf 3) [c1, c2]) = xs[1]? := hfl 1 _ rfl
  have h2 : DataW.trod enc Tryd.prog W base (fun _ => true) held n 3 (List.take (Tryd.prog.cellsOf 3) [c2]) = xs[2]? := hfl 2 _ rfl
  rw [ku] at h0 h1 h2
  have hxl : xs.length = 3 := by assumption
  rw [List.getElem?_eq_getElem (by omega)] at h0 h1 h2
  obtain ⟨z0, e0, _, _⟩ := DataW.trod_int Tryd.underlying3 h0
  obtain ⟨z1, e1, _, _⟩ := DataW.trod_int Tryd.underlying3 h1
  obtain ⟨z2, e2, _, _⟩ := DataW.trod_int Tryd.underlying3 h2
  simp at e0 e1 e2
  subst e0 e1 e2
  exact ⟨⟨z0, z1, z2⟩, ⟨rfl⟩⟩

theorem ints64_of {H : Type} {enc : TypeId × Value → H} {W : World} {base : Nat} {held : Bool} {fuel : Nat} {cs : List Value} {x : DataW H × List MemPlace} (h : DataW.trod enc Tryd.prog W base (fun _ => true) held fuel 62 cs = some x) :
    ∃ a n c z, cs = [.slice a n c] ∧ IsInts .i64 W a n c z := by
  rcases open_ints Tryd.underlying62 Tryd.underlying3 (by kernel_rfl) h with ⟨hcs, _⟩ | ⟨x, l, c, zs, hcs, _, hl, hm, hz, _, hcell, hwz⟩
  · exact ⟨_, _, _, _, hcs, .nil⟩
  · exact ⟨_, _, _, _, hcs, .row hl hm (by simpa using hz) hcell hwz⟩
theorem open_nodes {H : Type} {enc : TypeId × Value → H} {w : World} {base : Nat} {held : Bool} {fuel : Nat} {cs : List Value} {x : DataW H × List MemPlace} (h : DataW.trod enc Tryd.prog w base (fun _ => true) held fuel 22 cs = some x) :
    ∃ a n c ns, cs = [.slice a n c] ∧ XM w a n c ns := by
  rcases open_slice_fields Tryd.underlying22 Tryd.underlying64 (by kernel_rfl) (by kernel_rfl) h with ⟨hcs, _⟩ | ⟨a, len, cap, m, D, Pl, hcs, _, hl, hm, hmm, _, hi⟩
  · exact ⟨none, 0, 0, [], hcs, XM.none_ _⟩
  · have hlm : len ≤ m := by rw [hmm]; split <;> omega
    obtain ⟨L, hL1, hL2⟩ := list_of (α := Nod) (Q := fun i r => w.cell? (a.add (i * 5 + 0)) = some (.int .i64 r.kind) ∧ w.cell? (a.add (i * 5 + 1)) = some (.int .i64 r.server) ∧ w.cell? (a.add (i * 5 + 2)) = some (.int .i64 r.need) ∧ (∃ a3 n3 c3, w.cell? (a.add (i * 5 + 3)) = some (.slice a3 n3 c3) ∧ Rd w a3 n3 c3 (r.weights.map (Value.int .i64))) ∧ ∃ a4 n4 c4, w.cell? (a.add (i * 5 + 4)) = some (.slice a4 n4 c4) ∧ Rd w a4 n4 c4 (r.kids.map (Value.int .i64))) len (fun i hil => by
      obtain ⟨ys, n, _, _, _, hf⟩ := hi i (by omega)
      obtain ⟨v0, y0, c0, _, t0⟩ := hf 0 _ rfl
      obtain ⟨v1, y1, c1, _, t1⟩ := hf 1 _ rfl
      obtain ⟨v2, y2, c2, _, t2⟩ := hf 2 _ rfl
      obtain ⟨v3, y3, c3, _, t3⟩ := hf 3 _ rfl
      obtain ⟨v4, y4, c4, _, t4⟩ := hf 4 _ rfl
      obtain ⟨z0, e0, _, _⟩ := DataW.trod_int Tryd.underlying3 t0
      obtain ⟨z1, e1, _, _⟩ := DataW.trod_int Tryd.underlying3 t1
      obtain ⟨z2, e2, _, _⟩ := DataW.trod_int Tryd.underlying3 t2
      obtain ⟨a3, n3, k3, z3, e3, i3⟩ := ints64_of t3
      obtain ⟨a4, n4, k4, z4, e4, i4⟩ := ints64_of t4
      cases e0; cases e1; cases e2; cases e3; cases e4
      exact ⟨⟨z0, z1, z2, z3, z4⟩, c0, c1, c2, ⟨a3, n3, k3, c3, i3.rd⟩, a4, n4, k4, c4, i4.rd⟩)
    refine ⟨some a, len, cap, L, hcs, ⟨hL1, hl, hm, fun h => (by cases h), fun hn0 => ?_⟩⟩
    obtain ⟨x0, hx0⟩ : ∃ x, L[0]? = some x := ⟨_, List.getElem?_eq_getElem (by omega)⟩
    have h0 := (hL2 0 x0 hx0).1
    rw [Nat.zero_mul, Nat.zero_add] at h0
    have ha := addr_plain h0
    refine ⟨a.block, a.off, by rw [← ha], fun i p hp => ?_⟩
    obtain ⟨d0, d1, d2, ⟨a3, n3, c3, d3, r3⟩, a4, n4, c4, d4, r4⟩ := hL2 i p hp
    rw [ha, Addr.add_lit] at d0 d1 d2 d3 d4
    exact ⟨d0, by rw [Nat.add_assoc]; exact d1, by rw [Nat.add_assoc]; exact d2, ⟨a3, n3, c3, by rw [Nat.add_assoc]; exact d3, r3⟩, a4, n4, c4, by rw [Nat.add_assoc]; exact d4, r4⟩
/-- an expression among the arguments -/
structure IsXpr (W : World) (v : Value) (x : Xpr) : Prop where
  val : ∃ a n c, v = .agg #[.slice a n c, .int .i64 x.root] ∧ XM W a n c x.nodes
set_option maxRecDepth 100000 in
theorem open_xpr {H : Type} {enc : TypeId × Value → H} {W : World} {base b0 : Nat} {held : Bool} {v : Value} {d : DataW H} {p : List MemPlace} {r : Reach}
    (hv : Value.okWide Tryd.prog W r b0 24 v) (h : DataW.Trod enc Tryd.prog W base (fun _ => true) held 24 v d p) : ∃ x, IsXpr W v x := by
  obtain ⟨cs, rfl, hsz⟩ := okWide_struct Tryd.underlying24 hv
  rw [show Tryd.prog.cellsOf 24 = 2 by kernel_rfl] at hsz
  obtain ⟨l⟩ := cs
  obtain ⟨c0, c1, rfl⟩ := list2 l hsz
  obtain ⟨fuel, hf⟩ := h
  obtain ⟨xs, n, _, _, _, _, hfl⟩ := DataW.trod_struct Tryd.underlying24 hf
  have k8 : Tryd.prog.cellsOf 22 = 1 := by kernel_rfl
  have ku : Tryd.prog.cellsOf 3 = 1 := by kernel_rfl
  have h0 : DataW.trod enc Tryd.prog W base (fun _ => true) held n 22 (List.take (Tryd.prog.cellsOf 22) [c0, c1]) = xs[0]? := hfl 0 _ rfl
  have h1 : DataW.trod enc Tryd.prog W base (fun _ => true) held n 3 (List.take (Tryd.prog.cellsOf 3) [c1]) = xs[1]? := hfl 1 _ rfl
  rw [k8] at h0
  rw [ku] at h1
  have hxl : xs.length = 2 := by assumption
  rw [List.getElem?_eq_getElem (by omega)] at h0 h1
  obtain ⟨a, n1, cc, ns, e0, i0⟩ := open_nodes h0
  obtain ⟨z, e1, _, _⟩ := DataW.trod_int Tryd.underlying3 h1
  simp at e0 e1
  subst e0 e1
  exact ⟨⟨ns, z⟩, ⟨a, n1, cc, rfl, i0⟩⟩
end Go.Proofs.YtflpkkebampmfaaDoor
namespace Go.Proofs.YtflpkkebampmfaaDoor
open Go.RowKit Go.ChangeShapes Go.WideShapes Go.Deep

def XprRch (x : Xpr) : Prop := ∀ (k : Nat) nd, x.nodes[k]? = some nd → nd.weights.length ≤ 17592186044416 ∧ nd.kids.length ≤ 17592186044416
theorem Tryd.bytesInt : Tryd.prog.bytesOf 3 = 8 := by kernel_rfl
theorem ints64_rch {H : Type} {enc : TypeId × Value → H} {W : World} {base : Nat} {held : Bool} {fuel : Nat} {cs : List Value} {x : DataW H × List MemPlace} (h : DataW.trod enc Tryd.prog W base (fun _ => true) held fuel 62 cs = some x) (hw : ∀ n ∈ x.1.weights Tryd.prog 62, n ≤ reachBytes) :
    ∃ a n c z, cs = [.slice a n c] ∧ IsInts .i64 W a n c z ∧ z.length ≤ 17592186044416 := by
  rcases open_ints Tryd.underlying62 Tryd.underlying3 (by kernel_rfl) h with ⟨hcs, _⟩ | ⟨b, l, c, zs, hcs, _, hl, hm, hz, hx, hcell, hwz⟩
  · exact ⟨_, _, _, _, hcs, .nil, by simp⟩
  · refine ⟨_, _, _, _, hcs, .row hl hm (by simpa using hz) hcell hwz, ?_⟩
    have h1 := hw ((lits .i64 (zs.take l) : List (DataW H)).length * 8 + (lits .i64 (zs.drop l) : List (DataW H)).length * 8) (by
      rw [hx]
      simp only [DataW.weights, Tryd.underlying62, Tryd.bytesInt]
      rw [Nat.add_mul]
      exact List.mem_cons_self)
    simp only [lits, List.length_map, reachBytes] at h1
    omega
theorem open_nodesS {H : Type} {enc : TypeId × Value → H} {w : World} {base : Nat} {held : Bool} {fuel : Nat} {cs : List Value} {x : DataW H × List MemPlace} (h : DataW.trod enc Tryd.prog w base (fun _ => true) held fuel 22 cs = some x) (hw : ∀ n ∈ x.1.weights Tryd.prog 22, n ≤ reachBytes) :
    ∃ a n c ns, cs = [.slice a n c] ∧ XM w a n c ns ∧ ∀ nd ∈ ns, nd.weights.length ≤ 17592186044416 ∧ nd.kids.length ≤ 17592186044416 := by
  rcases open_slice_fields Tryd.underlying22 Tryd.underlying64 (by kernel_rfl) (by kernel_rfl) h with ⟨hcs, _⟩ | ⟨a, len, cap, m, D, Pl, hcs, _, hl, hm, hmm, hxx, hi⟩
  · exact ⟨none, 0, 0, [], hcs, XM.none_ _, fun nd h => by cases h⟩
  · have hlm : len ≤ m := by rw [hmm]; split <;> omega
    have hel : ∀ i, i < len → ∀ n ∈ (D i).weights Tryd.prog 64, n ≤ reachBytes := fun i hil n hn => by
      refine hw n ?_
      rw [hxx]
      simp only [DataW.weights, Tryd.underlying22]
      refine List.mem_cons_of_mem _ (List.mem_append_left _ ?_)
      have key : ∀ (l : List Nat), i ∈ l → n ∈ DataW.weightsAll Tryd.prog 64 (l.map D) := by
        intro l
        induction l with
        | nil => intro h; cases h
        | cons y l ih =>
          intro h
          rw [List.map_cons, DataW.weightsAll]
          rcases List.mem_cons.1 h with rfl | h
          · exact List.mem_append_left _ hn
          · exact List.mem_append_right _ (ih h)
      exact key _ (List.mem_range.2 hil)
    obtain ⟨L, hL1, hL2⟩ := list_of (α := Nod) (Q := fun i r => (w.cell? (a.add (i * 5 + 0)) = some (.int .i64 r.kind) ∧ w.cell? (a.add (i * 5 + 1)) = some (.int .i64 r.server) ∧ w.cell? (a.add (i * 5 + 2)) = some (.int .i64 r.need) ∧ (∃ a3 n3 c3, w.cell? (a.add (i * 5 + 3)) = some (.slice a3 n3 c3) ∧ Rd w a3 n3 c3 (r.weights.map (Value.int .i64))) ∧ ∃ a4 n4 c4, w.cell? (a.add (i * 5 + 4)) = some (.slice a4 n4 c4) ∧ Rd w a4 n4 c4 (r.kids.map (Value.int .i64))) ∧ r.weights.length ≤ 17592186044416 ∧ r.kids.length ≤ 17592186044416) len (fun i hil => by
      obtain ⟨ys, n, hD, _, hyl, hf⟩ := hi i (by omega)
      have hwi := hel i hil
      rw [hD] at hwi
      simp only [DataW.weights, Tryd.underlying64] at hwi
      obtain ⟨v0, y0, c0, _, t0⟩ := hf 0 _ rfl
      obtain ⟨v1, y1, c1, _, t1⟩ := hf 1 _ rfl
      obtain ⟨v2, y2, c2, _, t2⟩ := hf 2 _ rfl
      obtain ⟨v3, y3, c3, hy3, t3⟩ := hf 3 _ rfl
      obtain ⟨v4, y4, c4, hy4, t4⟩ := hf 4 _ rfl
      obtain ⟨z0, e0, _, _⟩ := DataW.trod_int Tryd.underlying3 t0
      obtain ⟨z1, e1, _, _⟩ := DataW.trod_int Tryd.underlying3 t1
      obtain ⟨z2, e2, _, _⟩ := DataW.trod_int Tryd.underlying3 t2
      obtain ⟨a3, n3, k3, z3, e3, i3, b3⟩ := ints64_rch t3 (fun n hn => hwi n (DataW.weights_mem_each (j := 3) rfl (by rw [List.getElem?_map, hy3]; rfl) n hn))
      obtain ⟨a4, n4, k4, z4, e4, i4, b4⟩ := ints64_rch t4 (fun n hn => hwi n (DataW.weights_mem_each (j := 4) rfl (by rw [List.getElem?_map, hy4]; rfl) n hn))
      cases e0; cases e1; cases e2; cases e3; cases e4
      exact ⟨⟨z0, z1, z2, z3, z4⟩, ⟨c0, c1, c2, ⟨a3, n3, k3, c3, i3.rd⟩, a4, n4, k4, c4, i4.rd⟩, b3, b4⟩)
    refine ⟨some a, len, cap, L, hcs, ⟨hL1, hl, hm, fun h => (by cases h), fun hn0 => ?_⟩, fun nd hnd => ?_⟩
    · obtain ⟨x0, hx0⟩ : ∃ x, L[0]? = some x := ⟨_, List.getElem?_eq_getElem (by omega)⟩
      have h0 := (hL2 0 x0 hx0).1.1
      rw [Nat.zero_mul, Nat.zero_add] at h0
      have ha := addr_plain h0
      refine ⟨a.block, a.off, by rw [← ha], fun i p hp => ?_⟩
      obtain ⟨⟨d0, d1, d2, ⟨a3, n3, c3, d3, r3⟩, a4, n4, c4, d4, r4⟩, _⟩ := hL2 i p hp
      rw [ha, Addr.add_lit] at d0 d1 d2 d3 d4
      exact ⟨d0, by rw [Nat.add_assoc]; exact d1, by rw [Nat.add_assoc]; exact d2, ⟨a3, n3, c3, by rw [Nat.add_assoc]; exact d3, r3⟩, a4, n4, c4, by rw [Nat.add_assoc]; exact d4, r4⟩
    · obtain ⟨i, hi⟩ := List.mem_iff_getElem?.1 hnd
      exact (hL2 i nd hi).2
set_option maxRecDepth 100000 in
theorem open_xprS {H : Type} {enc : TypeId × Value → H} {W : World} {base b0 : Nat} {held : Bool} {v : Value} {d : DataW H} {p : List MemPlace} {r : Reach}
    (hv : Value.okWide Tryd.prog W r b0 24 v) (h : DataW.Trod enc Tryd.prog W base (fun _ => true) held 24 v d p) (hw : ∀ n ∈ d.weights Tryd.prog 24, n ≤ reachBytes) : ∃ x, IsXpr W v x ∧ XprRch x := by
  obtain ⟨cs, rfl, hsz⟩ := okWide_struct Tryd.underlying24 hv
  rw [show Tryd.prog.cellsOf 24 = 2 by kernel_rfl] at hsz
  obtain ⟨l⟩ := cs
  obtain ⟨c0, c1, rfl⟩ := list2 l hsz
  obtain ⟨fuel, hf⟩ := h
  obtain ⟨xs, n, _, hdd, _, _, hfl⟩ := DataW.trod_struct Tryd.underlying24 hf
  have k8 : Tryd.prog.cellsOf 22 = 1 := by kernel_rfl
  have ku : Tryd.prog.cellsOf 3 = 1 := by kernel_rfl
  have h0 : DataW.trod enc Tryd.prog W base (fun _ => true) held n 22 (List.take (Tryd.prog.cellsOf 22) [c0, c1]) = xs[0]? := hfl 0 _ rfl
  have h1 : DataW.trod enc Tryd.prog W base (fun _ => true) held n 3 (List.take (Tryd.prog.cellsOf 3) [c1]) = xs[1]? := hfl 1 _ rfl
  rw [k8] at h0
  rw [ku] at h1
  have hxl : xs.length = 2 := by assumption
  have hx0 : xs[0]? = some (xs[0]'(by omega)) := List.getElem?_eq_getElem (by omega)
  rw [List.getElem?_eq_getElem (by omega)] at h0 h1
  simp only [Prod.mk.injEq] at hdd
  obtain ⟨rfl, _⟩ := hdd
  simp only [DataW.weights, Tryd.underlying24] at hw
  obtain ⟨a, n1, cc, ns, e0, i0, b0⟩ := open_nodesS h0 (fun n hn => hw n (DataW.weights_mem_each (j := 0) rfl (by rw [List.getElem?_map, hx0]; rfl) n hn))
  obtain ⟨z, e1, _, _⟩ := DataW.trod_int Tryd.underlying3 h1
  simp at e0 e1
  subst e0 e1
  exact ⟨⟨ns, z⟩, ⟨a, n1, cc, rfl, i0⟩, fun k nd hk => b0 nd (List.mem_of_getElem? hk)⟩
end Go.Proofs.YtflpkkebampmfaaDoor
namespace Go.Proofs.YtflpkkebampmfaaDoor
open Go.RowKit Go.Shelf

/-- kids and weights of the first nodes -/
def cntN (nodes : List Nod) : Nat → Nat
  | 0 => 0
  | k + 1 => cntN nodes k + ((nodes.getD k nod0).kids.length + (nodes.getD k nod0).weights.length)
def fewX (x : Xpr) : Bool := decide (x.nodes.length ≤ 70) && decide (cntN x.nodes x.nodes.length ≤ 400)
theorem cntN_bd {x : Xpr} (h : XprRch x) : ∀ k, k ≤ x.nodes.length → cntN x.nodes k ≤ k * 35184372088832 := by
  intro k
  induction k with
  | zero => intro _; simp [cntN]
  | succ k ih =>
    intro hk
    have h1 := ih (by omega)
    have h2 := h k (x.nodes[k]'(by omega)) (List.getElem?_eq_getElem (by omega))
    have e : x.nodes.getD k nod0 = x.nodes[k]'(by omega) := by rw [List.getD_eq_getElem?_getD, List.getElem?_eq_getElem (by omega)]; rfl
    rw [cntN, e]
    omega
/-- the sum as the code reckons it: it may wrap beyond 70 nodes -/
def cntW (nodes : List Nod) : Nat → Int
  | 0 => 0
  | k + 1 => wrap64 (wrap64 (cntW nodes k + ((nodes.getD k nod0).kids.length : Int)) + ((nodes.getD k nod0).weights.length : Int))
theorem cntW_eq {x : Xpr} (h : XprRch x) : ∀ k, k ≤ x.nodes.length → k ≤ 70 → cntW x.nodes k = (cntN x.nodes k : Int) := by
  intro k
  induction k with
  | zero => intro _ _; rfl
  | succ k ih =>
    intro hk h70
    have h1 := ih (by omega) (by omega)
    have h3 := cntN_bd h (k + 1) hk
    rw [cntN] at h3
    rw [cntW, cntN, h1]
    unfold wrap64
    omega

set_option maxRecDepth 100000 in
set_option maxHeartbeats 4000000 in
theorem few10_c (x : Xpr) (hr : XprRch x) (a : Option Addr) (n c : Nat) (w : World) (h : XM w a n c x.nodes) :
    Calls Tryd.prog 11 #[.agg #[.slice a n c, .int .i64 x.root]] w fun e w' => e = .returned (.bool (fewX x)) ∧ Below w.heap.size w w' := by
  obtain ⟨W2, hW2⟩ : ∃ W2, W2 = w.alloc (.cells #[.slice a n c, .int .i64 x.root] 24) := ⟨_, rfl⟩
  have hb2 : Below w.heap.size w W2 := by rw [hW2]; exact (Below.refl _ w).alloc (Nat.le_refl _) _
  have g2 : W2.heap[w.heap.size]? = some (.cells #[.slice a n c, .int .i64 x.root] 24 (0, 0)) := by rw [hW2]; exact heap_alloc_new _ _
  have HX := Lib.hid (h.below hb2)
  have HR := Lib.hid hr
  have HN := Lib.hid h.len
  have hle := h.le
  have hm := h.max
  unfold maxLen at hm
  have HB2 := Lib.hid hb2
  have HG2 := Lib.hid g2
  clear h hb2 hr g2
  go_enter Tryd.func11, Tryd.ntmps11
  go_wp2_with fail
  rw [← hW2]
  clear hW2
  go_loopw [3, 4] (fun v i wr => ∃ k : Nat, k ≤ n ∧ i = .int .i64 k ∧ v = .int .i64 (cntW x.nodes k) ∧ Below W2.heap.size W2 wr) (fun _ i _ => n - (intOf i).toNat)
  case atStart => exact ⟨0, Nat.zero_le _, rfl, rfl, Below.refl _ _⟩
  case round =>
    obtain ⟨k, hk, rfl, rfl, hb⟩ := hrel
    obtain ⟨⟨q0, q1⟩, _⟩ := open2 (heap_below hb HG2.out)
    by_cases hlt : k < n
    · obtain ⟨nd, hnd⟩ : ∃ nd, x.nodes[k]? = some nd := ⟨_, List.getElem?_eq_getElem (by have := HN.out; omega)⟩
      obtain ⟨b, o, ha, hat⟩ := (HX.out.below hb).at' (by omega)
      have hM := hat k nd hnd
      obtain ⟨a3, n3, c3, m3, r3⟩ := hM.ws
      obtain ⟨a4, n4, c4, m4, r4⟩ := hM.ks
      have h3 : nd.weights.length = n3 := by have := r3.len; simp at this; omega
      have h4 : nd.kids.length = n4 := by have := r4.len; simp at this; omega
      have hst : cntW x.nodes (k + 1) = wrap64 (wrap64 (cntW x.nodes k + (n4 : Int)) + (n3 : Int)) := by
        rw [cntW, show x.nodes.getD k nod0 = nd by rw [List.getD_eq_getElem?_getD, hnd]; rfl, h3, h4]
      obtain ⟨S, hS⟩ : ∃ S, cntW x.nodes k = S := ⟨_, rfl⟩
      rw [hS] at hst ⊢
      have HST := Lib.hid hst
      have HB := Lib.hid hb
      have q0d : wr.drew.cell? ⟨w.heap.size, 0, none⟩ = some (.slice a n c) := q0
      subst ha
      have m3d : wr.drew.cell? ⟨b, o + k * 5 + 3, none⟩ = some (.slice a3 n3 c3) := m3
      have m4d : wr.drew.cell? ⟨b, o + k * 5 + 4, none⟩ = some (.slice a4 n4 c4) := m4
      clear hM hat hnd hS r3 r4 h3 h4 hst hb
      go_wp2_with fail
      go_region
      all_goals
        go_wp2_with fail
        go_roundw
      case rel => exact ⟨k + 1, by omega, by go_num, by rw [HST.out], below_drew HB.out⟩
      case measure => simp [intOf]; omega
    · obtain rfl : k = n := by omega
      have HV : Hid (fewX x = (decide (k ≤ 70) && decide (cntN x.nodes k ≤ 400))) := Lib.hid (by unfold fewX; rw [HN.out])
      have HE : Hid (k ≤ 70 → cntW x.nodes k = (cntN x.nodes k : Int)) := Lib.hid (fun h => cntW_eq HR.out k (by rw [HN.out]; exact Nat.le_refl _) h)
      obtain ⟨S, hS⟩ : ∃ S, cntW x.nodes k = S := ⟨_, rfl⟩
      rw [hS] at HE ⊢
      by_cases h70 : k ≤ 70
      · have e := HE.out h70
        have d1 : decide ((k : Int) ≤ 70) = true := decide_eq_true (by omega)
        by_cases h4 : S ≤ 400
        · have d2 : decide (S ≤ 400) = true := decide_eq_true h4
          have HF : Hid (fewX x = true) := Lib.hid (by rw [HV.out, decide_eq_true h70, decide_eq_true (show cntN x.nodes k ≤ 400 by omega)]; rfl)
          clear e hS h4 h70
          go_wp2_with fail
          go_ret
          exact ⟨ret_bool HF.out.symm, Below.next HB2.out hb⟩
        · have d2 : decide (S ≤ 400) = false := decide_eq_false h4
          have HF : Hid (fewX x = false) := Lib.hid (by rw [HV.out, decide_eq_false (show ¬ cntN x.nodes k ≤ 400 by omega)]; simp)
          clear e hS h4 h70
          go_wp2_with fail
          go_ret
          exact ⟨ret_bool HF.out.symm, Below.next HB2.out hb⟩
      · have d1 : decide ((k : Int) ≤ 70) = false := decide_eq_false (by omega)
        have HF : Hid (fewX x = false) := Lib.hid (by rw [HV.out, decide_eq_false h70]; rfl)
        clear hS h70
        go_wp2_with fail
        go_ret
        exact ⟨ret_bool HF.out.symm, Below.next HB2.out hb⟩
end Go.Proofs.YtflpkkebampmfaaDoor
namespace Go.Proofs.YtflpkkebampmfaaDoor
open Go.RowKit Go.Shelf

set_option maxRecDepth 100000 in
set_option maxHeartbeats 2000000 in
theorem same20_c (t : Tre) (a : Option Addr) (n c : Nat) (a2 : Option Addr) (c2 : Nat) (w : World) (h : TM w a n c t.nodes) (h2 : TM w a2 n c2 t.nodes) :
    Calls Tryd.prog 14 #[.agg #[.slice a n c, .int .i64 t.root], .agg #[.slice a2 n c2, .int .i64 t.root]] w fun e w' => e = .returned (.bool true) ∧ Below w.heap.size w w' := by
  have hnl := TM.len h
  have hm := RdK.max h
  have hle := RdK.le h
  have hm2 := RdK.max h2
  have hle2 := RdK.le h2
  unfold maxLen at hm hm2
  obtain ⟨W2, hW2⟩ : ∃ W2, W2 = (w.alloc (.cells #[.slice a n c, .int .i64 t.root] 33)).alloc (.cells #[.slice a2 n c2, .int .i64 t.root] 33) := ⟨_, rfl⟩
  obtain ⟨hb2, hc⟩ := args22 w _ _ _ _ _ _ hW2
  have HB2 := Lib.hid hb2
  have HC := Lib.hid hc
  have H1 := Lib.hid (RdK.below h hb2)
  have H2 := Lib.hid (RdK.below h2 hb2)
  have HN := Lib.hid hnl
  clear h h2 hb2 hc hnl
  go_enter Tryd.func14, Tryd.ntmps14
  go_wp2_with fail
  rw [← hW2]
  clear hW2
  go_loopw [5] (fun i wr => ∃ k : Nat, k ≤ n ∧ i = .int .i64 k ∧ Below W2.heap.size W2 wr) (fun i _ => n - (intOf i).toNat)
  case atStart => exact ⟨0, Nat.zero_le _, rfl, Below.refl _ _⟩
  case round =>
    obtain ⟨k, hk, rfl, hb⟩ := hrel
    obtain ⟨⟨q0, q1⟩, q2, q3⟩ := HC.out wr hb
    by_cases hlt : k < n
    · obtain ⟨x, hx⟩ : ∃ x, t.nodes[k]? = some x := ⟨_, List.getElem?_eq_getElem (by have := HN.out; omega)⟩
      obtain ⟨b, o, ha, hat⟩ := TM.at3 (RdK.below H1.out hb) (by omega)
      obtain ⟨b', o', ha', hat'⟩ := TM.at3 (RdK.below H2.out hb) (by omega)
      obtain ⟨m0, m1, m2⟩ := hat k x hx
      obtain ⟨p0, p1, p2⟩ := hat' k x hx
      have HB := Lib.hid hb
      subst ha ha'
      clear hat hat' hx hb
      go_wp2_with fail
      go_quiet (fail)
      go_wp2_with fail
      go_roundw
      case rel => exact ⟨k + 1, by omega, by go_num, below_drewN HB.out⟩
      case measure => simp [intOf]; omega
    · obtain rfl : k = n := by omega
      go_wp2_with fail
      go_ret
      exact ⟨rfl, Below.next HB2.out hb⟩
end Go.Proofs.YtflpkkebampmfaaDoor
namespace Go.Proofs.YtflpkkebampmfaaDoor
open Go.RowKit Go.Shelf

set_option maxRecDepth 100000 in
set_option maxHeartbeats 8000000 in
theorem rnode_c (nd : Nod) (i0 : Nat) (aw : Option Addr) (nw cw : Nat) (ak : Option Addr) (nk ck : Nat) (w : World) (hsum : nw + nk ≤ 9223372036854775807) (hw : Rd w aw nw cw (nd.weights.map (Value.int .i64))) (hk : Rd w ak nk ck (nd.kids.map (Value.int .i64))) :
    Calls Tryd.prog 33 #[.agg #[.int .i64 nd.kind, .int .i64 nd.server, .int .i64 nd.need, .slice aw nw cw, .slice ak nk ck], .int .i64 i0] w fun e w' => e = .returned (.int .i64 (nodE nd i0)) ∧ Below w.heap.size w w' := by
  have hlw : nd.weights.length = nw := by have := hw.len; simp at this; omega
  have hlk : nd.kids.length = nk := by have := hk.len; simp at this; omega
  have hE := nodE_F nd i0
  rw [hlw, hlk] at hE
  obtain ⟨kind, server, need, ws, ks⟩ := nd
  simp only at hw hk hlw hlk hE ⊢
  obtain ⟨V, hV0⟩ : ∃ V, nodE ⟨kind, server, need, ws, ks⟩ i0 = V := ⟨_, rfl⟩
  rw [hV0] at hE ⊢
  obtain ⟨W2, hW2⟩ : ∃ W2, W2 = w.alloc (Obj.cells #[.int .i64 kind, .int .i64 server, .int .i64 need, .slice aw nw cw, .slice ak nk ck] 64) := ⟨_, rfl⟩
  have hb2 : Below w.heap.size w W2 := by rw [hW2]; exact (Below.refl _ w).alloc (Nat.le_refl _) _
  have hle := hw.le
  have hm := hw.max
  have hle2 := hk.le
  have hm2 := hk.max
  unfold maxLen at hm hm2
  have HV := Lib.hid hE
  have HW := Lib.hid (hw.below hb2)
  have HK := Lib.hid (hk.below hb2)
  have HB2 := Lib.hid hb2
  have HLW := Lib.hid hlw
  have HLK := Lib.hid hlk
  have g2 : W2.heap[w.heap.size]? = some (.cells #[.int .i64 kind, .int .i64 server, .int .i64 need, .slice aw nw cw, .slice ak nk ck] 64 (0, 0)) := by rw [hW2]; exact heap_alloc_new _ _
  have q3 := cell_of_row _ _ 3 _ _ _ g2
  have q4 := cell_of_row _ _ 4 _ _ _ g2
  clear g2 hb2 hE hV0 hw hk hlw hlk
  by_cases k1 : kind = 1
  · subst k1
    by_cases n0 : need = 0
    · subst n0
      by_cases w0 : nw = 0 ∧ nk = 0
      · obtain ⟨w0, c0⟩ := w0
        subst w0 c0
        by_cases t0 : server < 0
        · have d0 : decide (server < 0) = true := decide_eq_true t0
          have hV : Hid (V = 7) := Lib.hid (HV.out.trans (by unfold nodF; rw [if_neg (by omega), if_pos (by omega)]))
          clear t0
          go_enter Tryd.func33, Tryd.ntmps33
          go_wp2_with fail
          go_ret
          exact ⟨ret_int hV.out.symm, by rw [← hW2]; exact HB2.out⟩

        have d0 : decide (server < 0) = false := decide_eq_false t0
        by_cases t1 : (12 : Int) ≤ server
        · have d1 : decide ((12 : Int) ≤ server) = true := decide_eq_true t1
          have hV : Hid (V = 7) := Lib.hid (HV.out.trans (by unfold nodF; rw [if_neg (by omega), if_pos (by omega)]))
          clear t0 t1
          go_enter Tryd.func33, Tryd.ntmps33
          go_wp2_with fail
          go_ret
          exact ⟨ret_int hV.out.symm, by rw [← hW2]; exact HB2.out⟩

        have d1 : decide ((12 : Int) ≤ server) = false := decide_eq_false t1
        go_enter Tryd.func33, Tryd.ntmps33
        go_wp2_with fail
        rw [← hW2]
        clear hW2
        go_loopw [5] (fun i wr => ∃ k : Nat, k ≤ 0 ∧ i = .int .i64 k ∧ Hid (∀ (j : Nat) x, j < k → ws[j]? = some x → hvyB x = false) ∧ W2 = wr) (fun i _ => 0 - (intOf i).toNat)
        case atStart => exact ⟨0, Nat.zero_le _, rfl, Lib.hid (fun j x hj => by omega), rfl⟩
        case round =>
          obtain ⟨k, hk, rfl, hno, rfl⟩ := hrel
          by_cases hlt : k < 0
          · omega
          · have hkn : 0 = k := by omega
            have HHV : Hid (ws.any hvyB = false) := Lib.hid (by
              rw [List.any_eq_false]
              intro x hx
              obtain ⟨j, hj⟩ := List.mem_iff_getElem?.1 hx
              rw [hno.out j x (by have := (List.getElem?_eq_some_iff.1 hj).1; have := HLW.out; omega) hj]; decide)
            clear hno
            subst hkn
            have m0 : ¬ (0 < 0 ∧ 0 ≠ 0) := by omega
            have HM0 := Lib.hid m0
            have f1 : decide (0 < 0) = false := decide_eq_false (by omega)
            have hs : True := trivial
            clear hs
            go_wp2_with fail
            go_loopw [6] (fun i wr => ∃ k : Nat, k ≤ 0 ∧ i = .int .i64 k ∧ Hid (∀ (j : Nat) x, j < k → ks[j]? = some x → unkB i0 x = false) ∧ W2 = wr) (fun i _ => 0 - (intOf i).toNat)
            case atStart => exact ⟨0, Nat.zero_le _, rfl, Lib.hid (fun j x hj => by omega), rfl⟩
            case round =>
              obtain ⟨j, hj, rfl, hno, rfl⟩ := hrel
              by_cases hlt2 : j < 0
              · omega
              · have hkn2 : 0 = j := by omega
                have HUN : Hid (ks.any (unkB i0) = false) := Lib.hid (by
                  rw [List.any_eq_false]
                  intro x hx
                  obtain ⟨l, hl⟩ := List.mem_iff_getElem?.1 hx
                  rw [hno.out l x (by have := (List.getElem?_eq_some_iff.1 hl).1; have := HLK.out; omega) hl]; decide)
                have hV : Hid (V = 0) := Lib.hid (HV.out.trans (by
                  have := HM0.out
                  rw [HUN.out, HHV.out]; unfold nodF; rw [if_neg (by omega), if_neg (by simp; omega), if_neg (by omega), if_neg (by decide)]))
                clear hno
                subst hkn2
                go_wp2_with fail
                go_ret
                exact ⟨ret_int hV.out.symm, HB2.out⟩

      · have hd : decide ((0 : Int) < (nw : Int) + (nk : Int)) = true := decide_eq_true (by omega)
        have hd2 : decide (0 < nw + nk) = true := decide_eq_true (by omega)
        have hwr : wrap64 ((nw : Int) + (nk : Int)) = (nw : Int) + (nk : Int) := by unfold wrap64; omega
        have hV : Hid (V = 1) := Lib.hid (HV.out.trans (by unfold nodF; rw [if_pos (by omega)]))
        clear w0
        go_enter Tryd.func33, Tryd.ntmps33
        go_wp2_with fail
        go_ret
        exact ⟨ret_int hV.out.symm, by rw [← hW2]; exact HB2.out⟩

    · have hd : (need != 0) = true := by simpa using n0
      have hV : Hid (V = 1) := Lib.hid (HV.out.trans (by unfold nodF; rw [if_pos (by omega)]))
      clear n0
      go_enter Tryd.func33, Tryd.ntmps33
      go_wp2_with fail
      go_ret
      exact ⟨ret_int hV.out.symm, by rw [← hW2]; exact HB2.out⟩

  · have hk1 : (kind == 1) = false := by simpa using k1
    have hk1' : (kind != 1) = true := by simpa using k1
    by_cases k2 : kind = 2
    · subst k2
      by_cases s0 : server = 0
      · subst s0
        by_cases t0 : need < 0
        · have d0 : decide (need < 0) = true := decide_eq_true t0
          have hV : Hid (V = 7) := Lib.hid (HV.out.trans (by unfold nodF; rw [if_neg (by omega), if_pos (by omega)]))
          clear t0
          go_enter Tryd.func33, Tryd.ntmps33
          go_wp2_with fail
          go_ret
          exact ⟨ret_int hV.out.symm, by rw [← hW2]; exact HB2.out⟩

        have d0 : decide (need < 0) = false := decide_eq_false t0
        by_cases t1 : (100000 : Int) < need
        · have d1 : decide ((100000 : Int) < need) = true := decide_eq_true t1
          have hV : Hid (V = 7) := Lib.hid (HV.out.trans (by unfold nodF; rw [if_neg (by omega), if_pos (by omega)]))
          clear t0 t1
          go_enter Tryd.func33, Tryd.ntmps33
          go_wp2_with fail
          go_ret
          exact ⟨ret_int hV.out.symm, by rw [← hW2]; exact HB2.out⟩

        have d1 : decide ((100000 : Int) < need) = false := decide_eq_false t1
        go_enter Tryd.func33, Tryd.ntmps33
        go_wp2_with fail
        rw [← hW2]
        clear hW2
        go_loopw [5] (fun i wr => ∃ k : Nat, k ≤ nw ∧ i = .int .i64 k ∧ Hid (∀ (j : Nat) x, j < k → ws[j]? = some x → hvyB x = false) ∧ W2 = wr) (fun i _ => nw - (intOf i).toNat)
        case atStart => exact ⟨0, Nat.zero_le _, rfl, Lib.hid (fun j x hj => by omega), rfl⟩
        case round =>
          obtain ⟨k, hk, rfl, hno, rfl⟩ := hrel
          by_cases hlt : k < nw
          · obtain ⟨x, hx⟩ : ∃ x, ws[k]? = some x := ⟨_, List.getElem?_eq_getElem (by have := HLW.out; omega)⟩
            obtain ⟨bb, oo, ha, hcell⟩ := HW.out.at' (by omega)
            have hc := hcell k (.int .i64 x) (by rw [List.getElem?_map, hx]; rfl)
            subst ha
            have hany : hvyB x = true → V = 7 := fun hb => HV.out.trans (by
              have e : ws.any hvyB = true := List.any_eq_true.2 ⟨x, List.mem_of_getElem? hx, hb⟩
              rw [e]; unfold nodF; rw [if_neg (by omega), if_pos (.inr rfl)])
            have hnx : hvyB x = false → ∀ (j : Nat) y, j < k + 1 → ws[j]? = some y → hvyB y = false := fun hb j y hj hy => by
              by_cases h1 : j < k
              · exact hno.out j y h1 hy
              · obtain rfl : j = k := by omega
                rw [hx] at hy; cases hy; exact hb
            have HANY := Lib.hid hany
            have HNX := Lib.hid hnx
            clear hany hnx hno hcell hx
            by_cases b1 : x < 1
            · have e1 : decide (x < 1) = true := decide_eq_true b1
              have hV := Lib.hid (HANY.out (by unfold hvyB; rw [e1]; rfl))
              clear b1
              go_wp2_with fail
              go_ret
              exact ⟨ret_int hV.out.symm, HB2.out⟩
            have e1 : decide (x < 1) = false := decide_eq_false b1
            by_cases b2 : 1000 < x
            · have e2 : decide (1000 < x) = true := decide_eq_true b2
              have hV := Lib.hid (HANY.out (by unfold hvyB; rw [e2]; simp))
              clear b1 b2
              go_wp2_with fail
              go_ret
              exact ⟨ret_int hV.out.symm, HB2.out⟩
            have e2 : decide (1000 < x) = false := decide_eq_false b2
            have HN := Lib.hid (HNX.out (by unfold hvyB; rw [e1, e2]; rfl))
            clear b1 b2
            go_wp2_with fail
            go_roundw
            case rel => exact ⟨k + 1, by omega, by go_num, HN, by first | trivial | rfl⟩
            case measure => simp [intOf]; omega
          · have hkn : nw = k := by omega
            have HHV : Hid (ws.any hvyB = false) := Lib.hid (by
              rw [List.any_eq_false]
              intro x hx
              obtain ⟨j, hj⟩ := List.mem_iff_getElem?.1 hx
              rw [hno.out j x (by have := (List.getElem?_eq_some_iff.1 hj).1; have := HLW.out; omega) hj]; decide)
            clear hno
            subst hkn
            by_cases m0 : 0 < nw ∧ nw ≠ nk
            · have f1 : decide (0 < nw) = true := decide_eq_true m0.1
              have f2 : ((nw : Nat) : Int) ≠ ((nk : Nat) : Int) := by omega
              have f3 : (((nw : Nat) : Int) != ((nk : Nat) : Int)) = true := by simpa using f2
              have hV : Hid (V = 6) := Lib.hid (HV.out.trans (by rw [HHV.out]; unfold nodF; rw [if_neg (by omega), if_neg (by simp; omega), if_pos (by omega)]))
              clear m0 f2
              go_wp2_with fail
              go_ret
              exact ⟨ret_int hV.out.symm, HB2.out⟩
            have HM0 := Lib.hid m0
            have hsame : (nw = 0 ∨ nw = nk) := by omega
            clear m0
            rcases hsame with hs | hs
            · have f1 : decide (0 < nw) = false := decide_eq_false (by omega)
              have f0 : (nw : Nat) = 0 := hs
              clear hs
              go_wp2_with fail
              go_loopw [6] (fun i wr => ∃ k : Nat, k ≤ nk ∧ i = .int .i64 k ∧ Hid (∀ (j : Nat) x, j < k → ks[j]? = some x → unkB i0 x = false) ∧ W2 = wr) (fun i _ => nk - (intOf i).toNat)
              case atStart => exact ⟨0, Nat.zero_le _, rfl, Lib.hid (fun j x hj => by omega), rfl⟩
              case round =>
                obtain ⟨j, hj, rfl, hno, rfl⟩ := hrel
                by_cases hlt2 : j < nk
                · obtain ⟨x, hx⟩ : ∃ x, ks[j]? = some x := ⟨_, List.getElem?_eq_getElem (by have := HLK.out; omega)⟩
                  obtain ⟨bb, oo, ha, hcell⟩ := HK.out.at' (by omega)
                  have hc := hcell j (.int .i64 x) (by rw [List.getElem?_map, hx]; rfl)
                  subst ha
                  have hany : unkB i0 x = true → V = 4 := fun hb => HV.out.trans (by
                    have e : ks.any (unkB i0) = true := List.any_eq_true.2 ⟨x, List.mem_of_getElem? hx, hb⟩
                    have := HM0.out
                    rw [e, HHV.out]; unfold nodF; rw [if_neg (by omega), if_neg (by simp; omega), if_neg (by omega), if_pos rfl])
                  have hnx : unkB i0 x = false → ∀ (l : Nat) y, l < j + 1 → ks[l]? = some y → unkB i0 y = false := fun hb l y hl hy => by
                    by_cases h1 : l < j
                    · exact hno.out l y h1 hy
                    · obtain rfl : l = j := by omega
                      rw [hx] at hy; cases hy; exact hb
                  have HANY := Lib.hid hany
                  have HNX := Lib.hid hnx
                  clear hany hnx hno hcell hx
                  by_cases b1 : x < 0
                  · have e1 : decide (x < 0) = true := decide_eq_true b1
                    have hV := Lib.hid (HANY.out (by unfold unkB; rw [e1]; rfl))
                    clear b1
                    go_wp2_with fail
                    go_ret
                    exact ⟨ret_int hV.out.symm, HB2.out⟩
                  have e1 : decide (x < 0) = false := decide_eq_false b1
                  by_cases b2 : (i0 : Int) ≤ x
                  · have e2 : decide ((i0 : Int) ≤ x) = true := decide_eq_true b2
                    have hV := Lib.hid (HANY.out (by unfold unkB; rw [e2]; simp))
                    clear b1 b2
                    go_wp2_with fail
                    go_ret
                    exact ⟨ret_int hV.out.symm, HB2.out⟩
                  have e2 : decide ((i0 : Int) ≤ x) = false := decide_eq_false b2
                  have HN := Lib.hid (HNX.out (by unfold unkB; rw [e1, e2]; rfl))
                  clear b1 b2
                  go_wp2_with fail
                  go_roundw
                  case rel => exact ⟨j + 1, by omega, by go_num, HN, by first | trivial | rfl⟩
                  case measure => simp [intOf]; omega
                · have hkn2 : nk = j := by omega
                  have HUN : Hid (ks.any (unkB i0) = false) := Lib.hid (by
                    rw [List.any_eq_false]
                    intro x hx
                    obtain ⟨l, hl⟩ := List.mem_iff_getElem?.1 hx
                    rw [hno.out l x (by have := (List.getElem?_eq_some_iff.1 hl).1; have := HLK.out; omega) hl]; decide)
                  have hV : Hid (V = 0) := Lib.hid (HV.out.trans (by
                    have := HM0.out
                    rw [HUN.out, HHV.out]; unfold nodF; rw [if_neg (by omega), if_neg (by simp; omega), if_neg (by omega), if_neg (by decide)]))
                  clear hno
                  subst hkn2
                  go_wp2_with fail
                  go_ret
                  exact ⟨ret_int hV.out.symm, HB2.out⟩
            · by_cases hz : nw = 0
              · have f1 : decide (0 < nw) = false := decide_eq_false (by omega)
                clear hs
                go_wp2_with fail
                go_loopw [6] (fun i wr => ∃ k : Nat, k ≤ nk ∧ i = .int .i64 k ∧ Hid (∀ (j : Nat) x, j < k → ks[j]? = some x → unkB i0 x = false) ∧ W2 = wr) (fun i _ => nk - (intOf i).toNat)
                case atStart => exact ⟨0, Nat.zero_le _, rfl, Lib.hid (fun j x hj => by omega), rfl⟩
                case round =>
                  obtain ⟨j, hj, rfl, hno, rfl⟩ := hrel
                  by_cases hlt2 : j < nk
                  · obtain ⟨x, hx⟩ : ∃ x, ks[j]? = some x := ⟨_, List.getElem?_eq_getElem (by have := HLK.out; omega)⟩
                    obtain ⟨bb, oo, ha, hcell⟩ := HK.out.at' (by omega)
                    have hc := hcell j (.int .i64 x) (by rw [List.getElem?_map, hx]; rfl)
                    subst ha
                    have hany : unkB i0 x = true → V = 4 := fun hb => HV.out.trans (by
                      have e : ks.any (unkB i0) = true := List.any_eq_true.2 ⟨x, List.mem_of_getElem? hx, hb⟩
                      have := HM0.out
                      rw [e, HHV.out]; unfold nodF; rw [if_neg (by omega), if_neg (by simp; omega), if_neg (by omega), if_pos rfl])
                    have hnx : unkB i0 x = false → ∀ (l : Nat) y, l < j + 1 → ks[l]? = some y → unkB i0 y = false := fun hb l y hl hy => by
                      by_cases h1 : l < j
                      · exact hno.out l y h1 hy
                      · obtain rfl : l = j := by omega
                        rw [hx] at hy; cases hy; exact hb
                    have HANY := Lib.hid hany
                    have HNX := Lib.hid hnx
                    clear hany hnx hno hcell hx
                    by_cases b1 : x < 0
                    · have e1 : decide (x < 0) = true := decide_eq_true b1
                      have hV := Lib.hid (HANY.out (by unfold unkB; rw [e1]; rfl))
                      clear b1
                      go_wp2_with fail
                      go_ret
                      exact ⟨ret_int hV.out.symm, HB2.out⟩
                    have e1 : decide (x < 0) = false := decide_eq_false b1
                    by_cases b2 : (i0 : Int) ≤ x
                    · have e2 : decide ((i0 : Int) ≤ x) = true := decide_eq_true b2
                      have hV := Lib.hid (HANY.out (by unfold unkB; rw [e2]; simp))
                      clear b1 b2
                      go_wp2_with fail
                      go_ret
                      exact ⟨ret_int hV.out.symm, HB2.out⟩
                    have e2 : decide ((i0 : Int) ≤ x) = false := decide_eq_false b2
                    have HN := Lib.hid (HNX.out (by unfold unkB; rw [e1, e2]; rfl))
                    clear b1 b2
                    go_wp2_with fail
                    go_roundw
                    case rel => exact ⟨j + 1, by omega, by go_num, HN, by first | trivial | rfl⟩
                    case measure => simp [intOf]; omega
                  · have hkn2 : nk = j := by omega
                    have HUN : Hid (ks.any (unkB i0) = false) := Lib.hid (by
                      rw [List.any_eq_false]
                      intro x hx
                      obtain ⟨l, hl⟩ := List.mem_iff_getElem?.1 hx
                      rw [hno.out l x (by have := (List.getElem?_eq_some_iff.1 hl).1; have := HLK.out; omega) hl]; decide)
                    have hV : Hid (V = 0) := Lib.hid (HV.out.trans (by
                      have := HM0.out
                      rw [HUN.out, HHV.out]; unfold nodF; rw [if_neg (by omega), if_neg (by simp; omega), if_neg (by omega), if_neg (by decide)]))
                    clear hno
                    subst hkn2
                    go_wp2_with fail
                    go_ret
                    exact ⟨ret_int hV.out.symm, HB2.out⟩
              · have f1 : decide (0 < nw) = true := decide_eq_true (by omega)
                have f3 : (((nw : Nat) : Int) != ((nk : Nat) : Int)) = false := by rw [hs]; simp
                clear hs
                go_wp2_with fail
                go_loopw [6] (fun i wr => ∃ k : Nat, k ≤ nk ∧ i = .int .i64 k ∧ Hid (∀ (j : Nat) x, j < k → ks[j]? = some x → unkB i0 x = false) ∧ W2 = wr) (fun i _ => nk - (intOf i).toNat)
                case atStart => exact ⟨0, Nat.zero_le _, rfl, Lib.hid (fun j x hj => by omega), rfl⟩
                case round =>
                  obtain ⟨j, hj, rfl, hno, rfl⟩ := hrel
                  by_cases hlt2 : j < nk
                  · obtain ⟨x, hx⟩ : ∃ x, ks[j]? = some x := ⟨_, List.getElem?_eq_getElem (by have := HLK.out; omega)⟩
                    obtain ⟨bb, oo, ha, hcell⟩ := HK.out.at' (by omega)
                    have hc := hcell j (.int .i64 x) (by rw [List.getElem?_map, hx]; rfl)
                    subst ha
                    have hany : unkB i0 x = true → V = 4 := fun hb => HV.out.trans (by
                      have e : ks.any (unkB i0) = true := List.any_eq_true.2 ⟨x, List.mem_of_getElem? hx, hb⟩
                      have := HM0.out
                      rw [e, HHV.out]; unfold nodF; rw [if_neg (by omega), if_neg (by simp; omega), if_neg (by omega), if_pos rfl])
                    have hnx : unkB i0 x = false → ∀ (l : Nat) y, l < j + 1 → ks[l]? = some y → unkB i0 y = false := fun hb l y hl hy => by
                      by_cases h1 : l < j
                      · exact hno.out l y h1 hy
                      · obtain rfl : l = j := by omega
                        rw [hx] at hy; cases hy; exact hb
                    have HANY := Lib.hid hany
                    have HNX := Lib.hid hnx
                    clear hany hnx hno hcell hx
                    by_cases b1 : x < 0
                    · have e1 : decide (x < 0) = true := decide_eq_true b1
                      have hV := Lib.hid (HANY.out (by unfold unkB; rw [e1]; rfl))
                      clear b1
                      go_wp2_with fail
                      go_ret
                      exact ⟨ret_int hV.out.symm, HB2.out⟩
                    have e1 : decide (x < 0) = false := decide_eq_false b1
                    by_cases b2 : (i0 : Int) ≤ x
                    · have e2 : decide ((i0 : Int) ≤ x) = true := decide_eq_true b2
                      have hV := Lib.hid (HANY.out (by unfold unkB; rw [e2]; simp))
                      clear b1 b2
                      go_wp2_with fail
                      go_ret
                      exact ⟨ret_int hV.out.symm, HB2.out⟩
                    have e2 : decide ((i0 : Int) ≤ x) = false := decide_eq_false b2
                    have HN := Lib.hid (HNX.out (by unfold unkB; rw [e1, e2]; rfl))
                    clear b1 b2
                    go_wp2_with fail
                    go_roundw
                    case rel => exact ⟨j + 1, by omega, by go_num, HN, by first | trivial | rfl⟩
                    case measure => simp [intOf]; omega
                  · have hkn2 : nk = j := by omega
                    have HUN : Hid (ks.any (unkB i0) = false) := Lib.hid (by
                      rw [List.any_eq_false]
                      intro x hx
                      obtain ⟨l, hl⟩ := List.mem_iff_getElem?.1 hx
                      rw [hno.out l x (by have := (List.getElem?_eq_some_iff.1 hl).1; have := HLK.out; omega) hl]; decide)
                    have hV : Hid (V = 0) := Lib.hid (HV.out.trans (by
                      have := HM0.out
                      rw [HUN.out, HHV.out]; unfold nodF; rw [if_neg (by omega), if_neg (by simp; omega), if_neg (by omega), if_neg (by decide)]))
                    clear hno
                    subst hkn2
                    go_wp2_with fail
                    go_ret
                    exact ⟨ret_int hV.out.symm, HB2.out⟩

      · have hd : (server != 0) = true := by simpa using s0
        have hV : Hid (V = 1) := Lib.hid (HV.out.trans (by unfold nodF; rw [if_pos (by omega)]))
        clear s0
        go_enter Tryd.func33, Tryd.ntmps33
        go_wp2_with fail
        go_ret
        exact ⟨ret_int hV.out.symm, by rw [← hW2]; exact HB2.out⟩

    · have hk2 : (kind == 2) = false := by simpa using k2
      have hk2' : (kind != 2) = true := by simpa using k2
      have hV : Hid (V = 1) := Lib.hid (HV.out.trans (by unfold nodF; rw [if_pos (by omega)]))
      clear k1 k2
      go_enter Tryd.func33, Tryd.ntmps33
      go_wp2_with fail
      go_ret
      exact ⟨ret_int hV.out.symm, by rw [← hW2]; exact HB2.out⟩

end Go.Proofs.YtflpkkebampmfaaDoor
namespace Go.Proofs.YtflpkkebampmfaaDoor
open Go.RowKit Go.Shelf

/-- no node has so many weights and kids that their number is none of Go's -/
def XprSum (x : Xpr) : Prop := ∀ (k : Nat) nd, x.nodes[k]? = some nd → nd.weights.length + nd.kids.length ≤ 9223372036854775807

set_option maxRecDepth 100000 in
set_option maxHeartbeats 2000000 in
theorem rvalid10_c (x : Xpr) (hs : XprSum x) (a : Option Addr) (n c : Nat) (w : World) (h : XM w a n c x.nodes) :
    Calls Tryd.prog 12 #[.agg #[.slice a n c, .int .i64 x.root]] w fun e w' => e = .returned (.int .i64 (xprE x)) ∧ Below w.heap.size w w' := by
  obtain ⟨W2, hW2⟩ : ∃ W2, W2 = w.alloc (Obj.cells #[.slice a n c, .int .i64 x.root] 24) := ⟨_, rfl⟩
  have hb2 : Below w.heap.size w W2 := by rw [hW2]; exact (Below.refl _ w).alloc (Nat.le_refl _) _
  have HX := Lib.hid (h.below hb2)
  have HN := Lib.hid h.len
  have HSM := Lib.hid hs
  have hle := h.le
  have hm := h.max
  unfold maxLen at hm
  have HB2 := Lib.hid hb2
  clear h hb2 hs
  by_cases hn0 : n = 0
  · subst hn0
    have hV : Hid (xprE x = 9) := by
      show _ = _; unfold xprE; rw [if_pos (List.eq_nil_of_length_eq_zero HN.out)]
    go_enter Tryd.func12, Tryd.ntmps12
    go_wp2_with fail
    go_ret
    exact ⟨ret_int hV.out.symm, by rw [← hW2]; exact HB2.out⟩
  have hne : ((n : Int) == 0) = false := by rw [beq_eq_false_iff_ne]; omega
  have H0 : Hid (x.nodes ≠ []) := Lib.hid (fun e => by have := HN.out; rw [e] at this; simp at this; omega)
  by_cases h60 : 60 < n
  · have hd : decide ((60 : Int) < (n : Int)) = true := decide_eq_true (by omega)
    have hV : Hid (xprE x = 3) := by
      show _ = _; unfold xprE; rw [if_neg H0.out, if_pos (by have := HN.out; omega)]
    clear hn0 h60
    go_enter Tryd.func12, Tryd.ntmps12
    go_wp2_with fail
    go_ret
    exact ⟨ret_int hV.out.symm, by rw [← hW2]; exact HB2.out⟩
  have hd : decide ((60 : Int) < (n : Int)) = false := decide_eq_false (by omega)
  have H60 : Hid (¬ 60 < x.nodes.length) := by show ¬ _; have := HN.out; omega
  have HR : Hid (∀ y : World, Below W2.heap.size W2 y → y.cell? ⟨w.heap.size, 0, none⟩ = some (.slice a n c) ∧ y.cell? ⟨w.heap.size, 1, none⟩ = some (.int .i64 x.root)) := Lib.hid (fun y hy => by
    have g : W2.heap[w.heap.size]? = some (.cells #[.slice a n c, .int .i64 x.root] 24 (0, 0)) := by rw [hW2]; exact heap_alloc_new _ _
    have g' := heap_below hy g
    exact ⟨cell_of_row _ _ 0 _ _ _ g', cell_of_row _ _ 1 _ _ _ g'⟩)
  go_enter Tryd.func12, Tryd.ntmps12
  go_wp2_with fail
  rw [← hW2]
  clear hW2
  go_loopw [3] (fun i wr => ∃ k : Nat, k ≤ n ∧ i = .int .i64 k ∧ Hid (nodsE x.nodes 0 = nodsE (x.nodes.drop k) k) ∧ Below W2.heap.size W2 wr) (fun i _ => n - (intOf i).toNat)
  case atStart => exact ⟨0, Nat.zero_le _, rfl, Lib.hid (by simp), Below.refl _ _⟩
  case round =>
    obtain ⟨k, hk, rfl, hno, hb⟩ := hrel
    obtain ⟨q0, q1⟩ := HR.out wr hb
    by_cases hlt : k < n
    · obtain ⟨nd, hnd⟩ : ∃ nd, x.nodes[k]? = some nd := ⟨_, List.getElem?_eq_getElem (by have := HN.out; omega)⟩
      obtain ⟨b, o, ha, hat⟩ := (HX.out.below hb).at' (by omega)
      have hM := hat k nd hnd
      obtain ⟨a3, n3, c3, m3, r3⟩ := hM.ws
      obtain ⟨a4, n4, c4, m4, r4⟩ := hM.ks
      have m0 := hM.c0
      have m1 := hM.c1
      have m2 := hM.c2
      subst ha
      have hsm := HSM.out k nd hnd
      have HV : Hid (∀ y, Below wr.heap.size wr y → Calls Tryd.prog 33 #[.agg #[.int .i64 nd.kind, .int .i64 nd.server, .int .i64 nd.need, .slice a3 n3 c3, .slice a4 n4 c4], .int .i64 k] y fun e w' => e = .returned (.int .i64 (nodE nd k)) ∧ Below y.heap.size y w') :=
        Lib.hid (fun y hy => rnode_c nd k a3 n3 c3 a4 n4 c4 y (by have h1 := r3.len; have h2 := r4.len; simp at h1 h2; omega) (r3.below hy) (r4.below hy))
      have HHit : Hid (nodE nd k ≠ 0 → xprE x = nodE nd k) := Lib.hid (fun he => xprE_hit H0.out H60.out hnd hno.out he)
      have HNxt : Hid (nodE nd k = 0 → nodsE x.nodes 0 = nodsE (x.nodes.drop (k + 1)) (k + 1)) := Lib.hid (fun he => xprE_next hnd hno.out he)
      obtain ⟨kind, server, need, ws, ks⟩ := nd
      obtain ⟨E, hE⟩ : ∃ E, nodE ⟨kind, server, need, ws, ks⟩ k = E := ⟨_, rfl⟩
      rw [hE] at HV HHit HNxt
      simp only at m0 m1 m2 HV
      clear hM r3 r4 hat hnd hno hE hsm
      by_cases he : E = 0
      · subst he
        have hN := HNxt.out rfl
        have HN2 := Lib.hid hN
        clear hN HHit HNxt
        go_wp2_with fail
        with_reducible refine (HV.out _ (Below.refl _ _)).mono ?_
        rintro e w5 ⟨rfl, hb5⟩
        have hb6 := Below.next hb hb5
        go_wp2_with fail
        go_roundw
        case rel => exact ⟨k + 1, by omega, by go_num, HN2, hb6⟩
        case measure => simp [intOf]; omega
      · have hV := HHit.out he
        have HV2 := Lib.hid hV
        have hE : (E != 0) = true := by simpa using he
        clear hV HHit HNxt he
        go_wp2_with fail
        with_reducible refine (HV.out _ (Below.refl _ _)).mono ?_
        rintro e w5 ⟨rfl, hb5⟩
        have hb6 := Below.next hb hb5
        go_wp2_with fail
        go_ret
        exact ⟨ret_int HV2.out.symm, Below.next HB2.out hb6⟩
    · obtain rfl : k = n := by omega
      have hV := xprE_end H0.out H60.out HN.out hno.out
      clear hno
      obtain ⟨root, hroot⟩ : ∃ r, x.root = r := ⟨_, rfl⟩
      rw [hroot] at hV q1
      by_cases h1 : root < 0
      · have d1 : decide (root < 0) = true := decide_eq_true h1
        rw [if_pos (.inl h1)] at hV
        have HV := Lib.hid hV
        clear hV h1 hroot
        go_wp2_with fail
        go_ret
        exact ⟨ret_int HV.out.symm, Below.next HB2.out hb⟩
      · have d1 : decide (root < 0) = false := decide_eq_false h1
        by_cases h2 : (k : Int) ≤ root
        · have d2 : decide ((k : Int) ≤ root) = true := decide_eq_true h2
          rw [if_pos (.inr h2)] at hV
          have HV := Lib.hid hV
          clear hV h1 hroot h2
          go_wp2_with fail
          go_ret
          exact ⟨ret_int HV.out.symm, Below.next HB2.out hb⟩
        · have d2 : decide ((k : Int) ≤ root) = false := decide_eq_false h2
          rw [if_neg (by omega)] at hV
          have HV := Lib.hid hV
          clear hV h1 hroot h2
          go_wp2_with fail
          go_ret
          exact ⟨ret_int HV.out.symm, Below.next HB2.out hb⟩
end Go.Proofs.YtflpkkebampmfaaDoor
namespace Go.Proofs.YtflpkkebampmfaaDoor
open Go.RowKit Go.Shelf

theorem xprSum_of {x : Xpr} (h : XprRch x) : XprSum x := fun k nd hk => by have := h k nd hk; omega

set_option maxRecDepth 100000 in
set_option maxHeartbeats 8000000 in
theorem errors_w (v : Value) (x : Xpr) (v2 : Value) (y : Xpr) (b : Int) (w : World) (ht : HasTab w) (hr : HasRng w) (hy : HasSyn w) (w0 : IsXpr w v x ∧ XprRch x) (w1 : IsXpr w v2 y ∧ XprRch y) (w2 : (Lit.int .u16 b).wf = true) :
    Calls Tryd.prog 3 #[v, v2, .int .u16 b] w fun e w' => e = .returned (.bool true) ∧ Below w.heap.size w w' := by
  have HA := Lib.hid (fun u (hb : Below w.heap.size w u) => awake20_c u (ht.below hb) (hr.below hb) (hy.below hb))
  obtain ⟨bv, rfl⟩ : ∃ q : BitVec 16, b = U q := by
    apply U_of
    simp [Lit.wf, IntKind.min, IntKind.max, IntKind.bits, IntKind.signed] at w2
    omega
  obtain ⟨a1, n1, c1, rfl, hx1⟩ := w0.1.val
  obtain ⟨a2, n2, c2, rfl, hx2⟩ := w1.1.val
  have HF1 := Lib.hid (fun u (hb : Below w.heap.size w u) => few10_c x w0.2 a1 n1 c1 u (hx1.below hb))
  have HF2 := Lib.hid (fun u (hb : Below w.heap.size w u) => few10_c y w1.2 a2 n2 c2 u (hx2.below hb))
  have HV1 := Lib.hid (fun u (hb : Below w.heap.size w u) => rvalid10_c x (xprSum_of w0.2) a1 n1 c1 u (hx1.below hb))
  have HV2 := Lib.hid (fun u (hb : Below w.heap.size w u) => rvalid10_c y (xprSum_of w1.2) a2 n2 c2 u (hx2.below hb))
  have HP := Lib.hid (fun E hE h0 u (hb : Below w.heap.size w u) => prove_err x y bv E hE h0 a1 n1 c1 a2 n2 c2 u (hx1.below hb) (hx2.below hb))
  have HC := Lib.hid (fun E hE h0 tv rt u (hb : Below w.heap.size w u) => check_err x y bv E hE h0 a1 n1 c1 a2 n2 c2 tv rt u (hx1.below hb) (hx2.below hb))
  obtain ⟨W2, hW2⟩ : ∃ W2, W2 = (w.alloc (.cells #[.slice a1 n1 c1, .int .i64 x.root] 24)).alloc (.cells #[.slice a2 n2 c2, .int .i64 y.root] 24) := ⟨_, rfl⟩
  obtain ⟨hb2, hk⟩ := args22 w _ _ _ _ _ _ hW2
  have HB2 := Lib.hid hb2
  have HK := Lib.hid hk
  obtain ⟨F1, hF1⟩ : ∃ F, fewX x = F := ⟨_, rfl⟩
  obtain ⟨F2, hF2⟩ : ∃ F, fewX y = F := ⟨_, rfl⟩
  obtain ⟨e1, he1⟩ : ∃ e, xprE x = e := ⟨_, rfl⟩
  obtain ⟨e2, he2⟩ : ∃ e, xprE y = e := ⟨_, rfl⟩
  rw [hF1] at HF1
  rw [hF2] at HF2
  rw [he1] at HV1 HP HC
  rw [he2] at HV2 HP HC
  clear ht hr hy w0 w1 w2 hx1 hx2 hb2 hk hF1 hF2 he1 he2
  go_enter Tryd.func3, Tryd.ntmps3
  go_wp2_with fail
  rw [← hW2]
  with_reducible refine (HA.out W2 HB2.out).mono ?_
  rintro e w1 ⟨rfl, b1⟩
  obtain ⟨⟨k0, k1⟩, k2, k3⟩ := HK.out w1 b1
  have HB1 := Lib.hid (Below.next HB2.out b1)
  have HK1 := Lib.hid b1
  clear b1 hW2
  go_wp2_with fail
  with_reducible refine (HF1.out w1 HB1.out).mono ?_
  rintro e w3 ⟨rfl, b3⟩
  have HB3 := Lib.hid (Below.next HB1.out b3)
  have HK3 := Lib.hid (Below.next HK1.out b3)
  obtain ⟨⟨k0, k1⟩, k2, k3⟩ := HK.out w3 HK3.out
  clear b3
  cases F1
  · go_wp2_with fail
    with_reducible refine (HA.out w3 HB3.out).mono ?_
    rintro e w4 ⟨rfl, b4⟩
    have HB4 := Lib.hid (Below.next HB3.out b4)
    clear b4
    go_wp2_with fail
    go_ret
    exact ⟨rfl, HB4.out⟩
  go_wp2_with fail
  with_reducible refine (HF2.out w3 HB3.out).mono ?_
  rintro e w4 ⟨rfl, b4⟩
  have HB4 := Lib.hid (Below.next HB3.out b4)
  have HK4 := Lib.hid (Below.next HK3.out b4)
  obtain ⟨⟨k0, k1⟩, k2, k3⟩ := HK.out w4 HK4.out
  clear b4
  cases F2
  · go_wp2_with fail
    with_reducible refine (HA.out w4 HB4.out).mono ?_
    rintro e w5 ⟨rfl, b5⟩
    have HB5 := Lib.hid (Below.next HB4.out b5)
    clear b5
    go_wp2_with fail
    go_ret
    exact ⟨rfl, HB5.out⟩
  go_wp2_with fail
  with_reducible refine (HV1.out w4 HB4.out).mono ?_
  rintro e w5 ⟨rfl, b5⟩
  have HB5 := Lib.hid (Below.next HB4.out b5)
  have HK5 := Lib.hid (Below.next HK4.out b5)
  obtain ⟨⟨k0, k1⟩, k2, k3⟩ := HK.out w5 HK5.out
  clear b5
  by_cases z1 : e1 = 0
  · subst z1
    go_wp2_with fail
    with_reducible refine (HV2.out w5 HB5.out).mono ?_
    rintro e w6 ⟨rfl, b6⟩
    have HB6 := Lib.hid (Below.next HB5.out b6)
    have HK6 := Lib.hid (Below.next HK5.out b6)
    obtain ⟨⟨k0, k1⟩, k2, k3⟩ := HK.out w6 HK6.out
    clear b6
    by_cases z2 : e2 = 0
    · subst z2
      go_wp2_with fail
      go_ret
      exact ⟨rfl, HB6.out⟩
    have HE : Hid ((if (0 : Int) ≠ 0 then (0 : Int) else e2) = e2) := Lib.hid (by rw [if_neg (by decide)])
    have HZ := Lib.hid z2
    have dz : (e2 == 0) = false := by simpa using z2
    have dee : (e2 == e2) = true := by simp
    clear z2
    go_wp2_with fail
    with_reducible refine (HP.out e2 HE.out HZ.out w6 HB6.out).mono ?_
    rintro e w7 ⟨rfl, b7⟩
    obtain ⟨W8, hW8⟩ : ∃ W8, W8 = w7.alloc (.cells #[.slice none 0 0, .int .i64 0] 33) := ⟨_, rfl⟩
    have b8 : Below w7.heap.size w7 W8 := by rw [hW8]; exact (Below.refl _ _).alloc (Nat.le_refl _) _
    have g8 : W8.heap[w7.heap.size]? = some (.cells #[.slice none 0 0, .int .i64 0] 33 (0, 0)) := by rw [hW8]; exact heap_alloc_new _ _
    have HB8 := Lib.hid (Below.next HB6.out (Below.next b7 b8))
    have HK8 := Lib.hid (Below.next HK6.out (Below.next b7 b8))
    have HS := Lib.hid (same20_c ⟨[], 0⟩ none 0 0 none 0 W8 (RdK.none_ 3 _) (RdK.none_ 3 _))
    obtain ⟨⟨z0, z1⟩, _⟩ := open2 g8
    rw [hW8] at z0 z1
    clear b7 b8 g8
    unfold treV
    go_wp2_with fail
    rw [← hW8]
    with_reducible refine HS.out.mono ?_
    rintro e w9 ⟨rfl, b9⟩
    have HB9 := Lib.hid (Below.next HB8.out b9)
    obtain ⟨⟨k0, k1⟩, k2, k3⟩ := HK.out w9 (Below.next HK8.out b9)
    clear b9 hW8 z0 z1
    obtain ⟨W10, hW10⟩ : ∃ W10, W10 = w9.alloc (.cells #[.int .i64 (-1), .int .i64 0, .int .i64 0] 39) := ⟨_, rfl⟩
    have HB10 : Hid (Below w.heap.size w W10) := Lib.hid (by rw [hW10]; exact HB9.out.alloc HB9.out.size _)
    have HCC := Lib.hid (HC.out e2 HE.out HZ.out (.slice (some ⟨w9.heap.size, 0, none⟩) 1 1) 0 W10 HB10.out)
    go_wp2_with fail
    rw [← hW10]
    with_reducible refine HCC.out.mono ?_
    rintro e w11 ⟨rfl, b11⟩
    have HB11 := Lib.hid (Below.next HB10.out b11)
    clear b11
    go_wp2_with fail
    go_ret
    exact ⟨rfl, HB11.out⟩
  · have HE : Hid ((if e1 ≠ 0 then e1 else e2) = e1) := Lib.hid (by rw [if_pos z1])
    have HZ := Lib.hid z1
    have dz : (e1 == 0) = false := by simpa using z1
    have dee : (e1 == e1) = true := by simp
    clear z1
    go_wp2_with fail
    with_reducible refine (HP.out e1 HE.out HZ.out w5 HB5.out).mono ?_
    rintro e w7 ⟨rfl, b7⟩
    obtain ⟨W8, hW8⟩ : ∃ W8, W8 = w7.alloc (.cells #[.slice none 0 0, .int .i64 0] 33) := ⟨_, rfl⟩
    have b8 : Below w7.heap.size w7 W8 := by rw [hW8]; exact (Below.refl _ _).alloc (Nat.le_refl _) _
    have g8 : W8.heap[w7.heap.size]? = some (.cells #[.slice none 0 0, .int .i64 0] 33 (0, 0)) := by rw [hW8]; exact heap_alloc_new _ _
    have HB8 := Lib.hid (Below.next HB5.out (Below.next b7 b8))
    have HK8 := Lib.hid (Below.next HK5.out (Below.next b7 b8))
    have HS := Lib.hid (same20_c ⟨[], 0⟩ none 0 0 none 0 W8 (RdK.none_ 3 _) (RdK.none_ 3 _))
    obtain ⟨⟨z0, z1⟩, _⟩ := open2 g8
    rw [hW8] at z0 z1
    clear b7 b8 g8
    unfold treV
    go_wp2_with fail
    rw [← hW8]
    with_reducible refine HS.out.mono ?_
    rintro e w9 ⟨rfl, b9⟩
    have HB9 := Lib.hid (Below.next HB8.out b9)
    obtain ⟨⟨k0, k1⟩, k2, k3⟩ := HK.out w9 (Below.next HK8.out b9)
    clear b9 hW8 z0 z1
    obtain ⟨W10, hW10⟩ : ∃ W10, W10 = w9.alloc (.cells #[.int .i64 (-1), .int .i64 0, .int .i64 0] 39) := ⟨_, rfl⟩
    have HB10 : Hid (Below w.heap.size w W10) := Lib.hid (by rw [hW10]; exact HB9.out.alloc HB9.out.size _)
    have HCC := Lib.hid (HC.out e1 HE.out HZ.out (.slice (some ⟨w9.heap.size, 0, none⟩) 1 1) 0 W10 HB10.out)
    go_wp2_with fail
    rw [← hW10]
    with_reducible refine HCC.out.mono ?_
    rintro e w11 ⟨rfl, b11⟩
    have HB11 := Lib.hid (Below.next HB10.out b11)
    clear b11
    go_wp2_with fail
    go_ret
    exact ⟨rfl, HB11.out⟩
end Go.Proofs.YtflpkkebampmfaaDoor
