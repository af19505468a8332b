/- Texts laid together. Numbers in texts, plain: what the readers of numbers read. No program. Reading slices of elements of k cells. Plain lemmas over the model, no program. strings.Builder's copyCheck and WriteString (turned from the shelf's worked proofs), a builder with its bytes. Package family: Accepts, Support, Valid; slices.Contains, ContainsFunc of sets. Of, plain: the expression of a family, step by step. No program. Expressions and trees in memory. Plain lemmas over the model, no program. family.Valid. slices.IndexFunc and ContainsFunc of ints; a node's error (expr.valid). expr.Valid, intersect.two. expr.holds, Eval; intersect.satisfied, support. The prover: add. -/
import Derived.Test.YtcojmmhclklpoaaGreatDoorGC1
import Derived.Test.YtcojmmhclklpoaaGreatDoorGC2
import Derived.Test.YtcojmmhclklpoaaGreatDoorProg
import Derived.Lib.AtoiTie
import Derived.Maps.AppendAt
import Derived.Shelf.Strings.BuilderK
import Derived.Shelf.GgClosure.Gives
import Derived.Deep.AppendLies
import Derived.Deep.RegionLaw
namespace Go.Proofs.YtcojmmhclklpoaaGreatDoor

theorem dig_val (d : Nat) (h : d < 10) : Lib.digitVal (UInt8.ofNat (48 + d)) = some d ∧ digB (UInt8.ofNat (48 + d)) = true := by
  have : ∀ d : Fin 10, Lib.digitVal (UInt8.ofNat (48 + d.val)) = some d.val ∧ digB (UInt8.ofNat (48 + d.val)) = true := by decide +kernel
  exact this ⟨d, h⟩
theorem decFrom_snoc (b : UInt8) (d : Nat) (hd : Lib.digitVal b = some d) : ∀ (l : Byts) (acc n : Nat), Lib.decFrom acc l = some n → Lib.decFrom acc (l ++ [b]) = some (n * 10 + d)
  | [], acc, n, h => by
    simp only [Lib.decFrom, Option.some.injEq] at h
    subst h
    simp [Lib.decFrom, hd]
  | c :: l, acc, n, h => by
    simp only [Lib.decFrom, List.cons_append] at h ⊢
    cases hc : Lib.digitVal c with
    | none => rw [hc] at h; cases h
    | some e => rw [hc] at h; exact decFrom_snoc b d hd l _ n h
theorem dec_from : ∀ (u : Nat), Lib.decFrom 0 (Lib.decDigits u) = some u ∧ ∀ c ∈ Lib.decDigits u, digB c = true := by
  intro u
  induction u using Nat.strongRecOn with
  | _ u ih =>
    rw [Lib.decDigits]
    split
    · rename_i h
      obtain ⟨h1, h2⟩ := dig_val u h
      refine ⟨by rw [Lib.decFrom, h1]; simp only [Lib.decFrom, Nat.zero_mul, Nat.zero_add], fun c hc => ?_⟩
      rw [List.mem_singleton] at hc; subst hc; exact h2
    · rename_i h
      obtain ⟨h1, h2⟩ := ih (u / 10) (by omega)
      obtain ⟨h3, h4⟩ := dig_val (u % 10) (by omega)
      refine ⟨?_, fun c hc => ?_⟩
      · rw [decFrom_snoc _ _ h3 _ _ _ h1]
        congr 1; omega
      · rcases List.mem_append.1 hc with hc | hc
        · exact h2 c hc
        · rw [List.mem_singleton] at hc; subst hc; exact h4
theorem dec_atoi100 (v : Nat) (hv : (Lib.decDigits v).length ≤ 18) : Lib.atoiAll (Lib.decDigits v) = .ok (v : Int) := by
  rw [Lib.atoiAll_short _ hv]
  obtain ⟨h1, h2⟩ := dec_from v
  obtain ⟨c, r, hc, hd⟩ := dec_cons v
  rw [hc] at h1 ⊢
  have h45 : (c == 45) = false := by
    rw [beq_eq_false_iff_ne]; intro e; subst e; revert hd; decide
  have h43 : (c == 43) = false := by
    rw [beq_eq_false_iff_ne]; intro e; subst e; revert hd; decide
  have h3 : Lib.decNat (c :: r) = some v := by unfold Lib.decNat; simpa using h1
  unfold Lib.atoi
  simp only [h45, h43, h3]
  rfl
/-- what the program's number reads -/
def numX (s : Byts) : Option (Nat × Byts) := match Lib.atoiAll (s.takeWhile digB) with
  | .ok v => if v ≤ 100000 ∧ Lib.itoa v = s.takeWhile digB then some (v.toNat, s.dropWhile digB) else none
  | _ => none
theorem take_dec {v : Nat} {r : Byts} (h : nonD r) : (Lib.decDigits v ++ r).takeWhile digB = Lib.decDigits v ∧ (Lib.decDigits v ++ r).dropWhile digB = r := by
  have h2 := (dec_from v).2
  have h3 : r.takeWhile digB = [] ∧ r.dropWhile digB = r := by
    cases r with
    | nil => exact ⟨rfl, rfl⟩
    | cons c r =>
      have := h c r rfl
      simp [this]
  exact ⟨by rw [List.takeWhile_append_of_pos h2, h3.1, List.append_nil], by rw [List.dropWhile_append_of_pos h2, h3.2]⟩
theorem numX_rd : NumRd numX := ⟨fun v r hv hr => by
  obtain ⟨h1, h2⟩ := take_dec (v := v) hr
  unfold numX
  have hl : (Lib.decDigits v).length ≤ 18 := by
    rw [Lib.decDigits_length]
    unfold Lib.nDigits
    split
    · omega
    · unfold Lib.nDigits
      split
      · omega
      · unfold Lib.nDigits
        split
        · omega
        · unfold Lib.nDigits
          split
          · omega
          · unfold Lib.nDigits
            split
            · omega
            · unfold Lib.nDigits
              split
              · omega
              · omega
  rw [h1, dec_atoi100 v hl]
  simp only
  rw [if_pos ⟨by omega, by unfold Lib.itoa; rw [if_neg (by omega)]; simp⟩, h2]; simp⟩
theorem itoa_dig {v : Int} {d : Byts} (h : Lib.itoa v = d) (hd : ∀ c ∈ d, digB c = true) : 0 ≤ v ∧ d = Lib.decDigits v.toNat := by
  unfold Lib.itoa at h
  by_cases hv : v < 0
  · rw [if_pos hv] at h
    have := hd 45 (by rw [← h]; simp)
    exact absurd this (by decide)
  · rw [if_neg hv] at h
    exact ⟨by omega, h.symm⟩
theorem tw_dig (s : Byts) : ∀ c ∈ s.takeWhile digB, digB c = true := by
  induction s with
  | nil => intro c h; simp at h
  | cons a s ih =>
    intro c h
    by_cases ha : digB a = true
    · rw [List.takeWhile_cons_of_pos ha] at h
      rcases List.mem_cons.1 h with rfl | h
      · exact ha
      · exact ih c h
    · rw [List.takeWhile_cons_of_neg ha] at h; cases h
theorem numX_ex : NumEx numX := ⟨fun s r v h => by
  unfold numX at h
  cases ha : Lib.atoiAll (s.takeWhile digB)
  · rename_i z
    rw [ha] at h
    simp only at h
    split at h
    · rename_i hc
      simp only [Option.some.injEq, Prod.mk.injEq] at h
      obtain ⟨rfl, rfl⟩ := h
      obtain ⟨h1, h2⟩ := itoa_dig hc.2 (tw_dig s)
      exact ⟨by rw [← h2, List.takeWhile_append_dropWhile], by omega⟩
    · cases h
  · rw [ha] at h; cases h
  · rw [ha] at h; cases h⟩
/-- a number is read by at least one byte -/
theorem numX_len {s r : Byts} {v : Nat} (h : numX s = some (v, r)) : r.length + 1 ≤ s.length := by
  obtain ⟨h1, _⟩ := numX_ex.ex s r v h
  rw [h1, List.length_append]
  have := dec_len1 v
  omega
end Go.Proofs.YtcojmmhclklpoaaGreatDoor
namespace Go.Proofs.YtcojmmhclklpoaaGreatDoor
open Go.RowKit

/-- The slice value '.slice a n c' reads, in w, as n elements of k cells, these the list l of all cells. -/
structure RdK (k : Nat) (w : World) (a : Option Addr) (n c : Nat) (l : List Value) : Prop where
  len : n * k = l.length
  le : n ≤ c
  max : c ≤ maxLen
  nil : a = none → c = 0
  at' : 0 < n → ∃ b o, a = some ⟨b, o, none⟩ ∧ ∀ i v, l[i]? = some v → w.cell? ⟨b, o + i, none⟩ = some v

theorem RdK.none_ (k : Nat) (w : World) : RdK k w none 0 0 [] := ⟨by simp, Nat.le_refl _, by simp [maxLen], fun _ => rfl, fun h => absurd h (by decide)⟩
theorem RdK.below {k : Nat} {w w' : World} {a : Option Addr} {n c : Nat} {l : List Value} (h : RdK k w a n c l) (hb : Below w.heap.size w w') : RdK k w' a n c l := by
  refine ⟨h.len, h.le, h.max, h.nil, fun hn => ?_⟩
  obtain ⟨b, o, ha, hc⟩ := h.at' hn
  refine ⟨b, o, ha, fun i v hv => ?_⟩
  have := hc i v hv
  exact (hb.cell (p := ⟨b, o + i, none⟩) (cell_lt this)).trans this
/-- a row of the call's own, elements of k cells, read -/
theorem rdK_of_row {k : Nat} {w : World} {B n : Nat} {e : TypeId} {v : Value} {l : List Value} (h : w.ownsRow B e k v n l) : ∃ a c, v = .slice a n c ∧ RdK k w a n c l := by
  have hl := h.1
  obtain ⟨h1, h2⟩ := h
  rcases h2 with ⟨rfl, h0⟩ | ⟨g, cap, cur, rfl, hb, hg, hle, hm, hs, ht⟩
  · subst h0
    obtain rfl := List.eq_nil_of_length_eq_zero (by simpa using h1)
    exact ⟨none, 0, rfl, RdK.none_ _ _⟩
  · refine ⟨some ⟨g, 0, none⟩, cap, rfl, hl.symm, hle, hm, fun h => (by cases h), fun _ => ⟨g, 0, rfl, fun i v hv => ?_⟩⟩
    have := World.ownsRow.cells (w := w) (base := B) (e := e) (size := k) (v := .slice (some ⟨g, 0, none⟩) n cap) (n := n) (xs := l) ⟨h1, .inr ⟨g, cap, cur, rfl, hb, hg, hle, hm, hs, ht⟩⟩ (g := g) rfl i v hv
    rw [Addr.add_lit] at this; simpa using this
theorem rowK_below {k : Nat} {w w' : World} {B n : Nat} {e : TypeId} {v : Value} {l : List Value} (h : w.ownsRow B e k v n l) (hb : Below w.heap.size w w') : w'.ownsRow B e k v n l := by
  obtain ⟨h1, h2⟩ := h
  refine ⟨h1, ?_⟩
  rcases h2 with h2 | ⟨g, cap, cur, hv, hb', hg, r⟩
  · exact .inl h2
  · exact .inr ⟨g, cap, cur, hv, hb', by rw [hb.block g (Array.getElem?_eq_some_iff.1 hg).1]; exact hg, r⟩
theorem rowK_mono {k : Nat} {w : World} {B B' n : Nat} {e : TypeId} {v : Value} {l : List Value} (h : w.ownsRow B e k v n l) (hs : B' ≤ B) : w.ownsRow B' e k v n l := by
  obtain ⟨h1, h2⟩ := h
  refine ⟨h1, ?_⟩
  rcases h2 with h2 | ⟨g, cap, cur, hv, hb', r⟩
  · exact .inl h2
  · exact .inr ⟨g, cap, cur, hv, Nat.le_trans hs hb', r⟩
/-- a slice literal of elements of k cells -/
theorem RdK.lit' (k : Nat) (w : World) (cs : Array Value) (e : TypeId) (n : Nat) (l : List Value) (hl : cs.toList = l) (hn : n * k = l.length) (hm : n ≤ 1000000) {b : Nat} (hb : b = w.heap.size) : RdK k (w.alloc (.cells cs e)) (some ⟨b, 0, none⟩) n n l := by
  subst hl hb
  refine ⟨hn, Nat.le_refl _, by unfold maxLen; omega, fun h => (by cases h), fun _ => ⟨_, _, rfl, fun i v hv => ?_⟩⟩
  rw [Nat.zero_add]
  exact cell_new w cs e i v (by simpa using hv)

/-- the cells of elements, one behind another -/
theorem flat_at {α : Type} (k : Nat) (enc : α → List Value) (hk : ∀ x, (enc x).length = k) : ∀ (L : List α) (i j : Nat) (x : α), L[i]? = some x → j < k → (L.flatMap enc)[i * k + j]? = (enc x)[j]? := by
  intro L
  induction L with
  | nil => intro i j x h; simp at h
  | cons y L ih =>
    intro i j x h hj
    rw [List.flatMap_cons]
    cases i with
    | zero =>
      simp at h; subst h
      rw [Nat.zero_mul, Nat.zero_add, List.getElem?_append_left (by rw [hk]; exact hj)]
    | succ i =>
      have h' : L[i]? = some x := by simpa using h
      rw [List.getElem?_append_right (by rw [hk, Nat.succ_mul]; omega), hk, show (i + 1) * k + j - k = i * k + j by rw [Nat.succ_mul]; omega]
      exact ih i j x h' hj
theorem flat_len {α : Type} (k : Nat) (enc : α → List Value) (hk : ∀ x, (enc x).length = k) (L : List α) : (L.flatMap enc).length = L.length * k := by
  induction L with
  | nil => simp
  | cons y L ih => rw [List.flatMap_cons, List.length_append, ih, hk, List.length_cons, Nat.succ_mul, Nat.add_comm]
/-- the cells of one element -/
theorem RdK.cells {k : Nat} {w : World} {a : Option Addr} {n c : Nat} {α : Type} {enc : α → List Value} {L : List α} (h : RdK k w a n c (L.flatMap enc)) (hk : ∀ x, (enc x).length = k) (hn : 0 < n) :
    ∃ b o, a = some ⟨b, o, none⟩ ∧ ∀ i x, L[i]? = some x → ∀ j, j < k → w.cell? ⟨b, o + i * k + j, none⟩ = (enc x)[j]? := by
  obtain ⟨b, o, ha, hc⟩ := h.at' hn
  refine ⟨b, o, ha, fun i x hx j hj => ?_⟩
  have h1 := flat_at k enc hk L i j x hx hj
  have h2 : (enc x)[j]? = some ((enc x)[j]'(by rw [hk]; exact hj)) := List.getElem?_eq_getElem _
  rw [h2] at h1
  rw [Nat.add_assoc, hc _ _ h1, h2]

theorem heap_set_at {w : World} {B : Nat} {cs : Array Value} {t : TypeId} {f : Nat × Nat} (h : w.heap[B]? = some (.cells cs t f)) (i : Nat) (v : Value) :
    (w.setCell ⟨B, i, none⟩ v).heap[B]? = some (.cells (cs.setIfInBounds i v) t f) := by
  unfold World.setCell; simp [Array.getElem?_modify, h]
theorem heap_alloc_at {w : World} {B : Nat} {ob : Obj} (h : w.heap[B]? = some ob) (o : Obj) : (w.alloc o).heap[B]? = some ob :=
  (Below.heap_alloc w o B (Array.getElem?_eq_some_iff.1 h).1).trans h
theorem heap_set_other {w : World} {B B' : Nat} (hne : B ≠ B') (i : Nat) (v : Value) {ob : Obj} (h : w.heap[B]? = some ob) : (w.setCell ⟨B', i, none⟩ v).heap[B]? = some ob :=
  (Below.heap_setCell _ _ _ _ hne).trans h
theorem heap_below {w w' : World} {B : Nat} {ob : Obj} (hb : Below w.heap.size w w') (h : w.heap[B]? = some ob) : w'.heap[B]? = some ob :=
  (hb.block B (Array.getElem?_eq_some_iff.1 h).1).trans h

theorem below_drew {B : Nat} {a w : World} (h : Below B a w) : Below B a w.drew := ⟨h.os, h.tape, h.output, h.size, h.block⟩
theorem below_undrew {w w' : World} (h : Below w.drew.heap.size w.drew w') : Below w.heap.size w w' := ⟨h.os, h.tape, h.output, h.size, h.block⟩
/-- three cells of an old block, kept -/
theorem keep3 {w w' : World} {B : Nat} {x y z : Value} (hb : Below w.heap.size w w') (h0 : w.cell? ⟨B, 0, none⟩ = some x) (h1 : w.cell? ⟨B, 1, none⟩ = some y) (h2 : w.cell? ⟨B, 2, none⟩ = some z) :
    w'.cell? ⟨B, 0, none⟩ = some x ∧ w'.cell? ⟨B, 1, none⟩ = some y ∧ w'.cell? ⟨B, 2, none⟩ = some z :=
  ⟨(hb.cell (p := ⟨B, 0, none⟩) (cell_lt h0)).trans h0, (hb.cell (p := ⟨B, 1, none⟩) (cell_lt h1)).trans h1, (hb.cell (p := ⟨B, 2, none⟩) (cell_lt h2)).trans h2⟩
theorem open3 {w : World} {B : Nat} {x y z : Value} {t : TypeId} (h : w.heap[B]? = some (.cells #[x, y, z] t (0, 0))) :
    (w.cell? ⟨B, 0, none⟩ = some x ∧ w.cell? ⟨B, 1, none⟩ = some y ∧ w.cell? ⟨B, 2, none⟩ = some z) ∧ w.frozen? ⟨B, 0, none⟩ = false ∧ w.frozen? ⟨B, 1, none⟩ = false ∧ w.frozen? ⟨B, 2, none⟩ = false :=
  ⟨⟨cell_of_row _ _ 0 _ _ _ h, cell_of_row _ _ 1 _ _ _ h, cell_of_row _ _ 2 _ _ _ h⟩, by simp [World.frozen?, h], by simp [World.frozen?, h], by simp [World.frozen?, h]⟩

/-- 'out = append(out, x)' on a slice of the call's own, elements of k cells: the element stands in the last block. -/
theorem wpList_appK {P : Program} {ops : Array Oper} {rest : List Oper} {o : Oper} {a : Act} {Q : Exit → Act → World → Prop} {B : Nat} {w0 wr : World} {e : TypeId} {v : Value} {l : List Value} {n : Nat}
    (k : Nat) (s xo : Operand) (t : TypeId) (bytes : Nat) (z : Value) (x : List Value) (ty : TypeId)
    (ht : P.underlying t = some (.slice e)) (hi : (P.info? e).map (fun i => (i.zero, i.size, i.bytes)) = some (some z, k, bytes)) (hz : z.cells.size = k) (hk : 0 < k)
    (hown : wr.ownsRow B e k v n l) (hb : Below B w0 wr) (hB : B ≤ w0.heap.size)
    (hg : o.guard = none) (hop : o.op = Op.call { callee := Callee.builtin Builtin.append, args := #[s, xo], argTypes := #[t, t] })
    (hs : a.eval s = v) (hx : a.eval xo = .slice (some ⟨wr.heap.size, 0, none⟩) 1 1) (hxl : x.length = k) (h1 : ∀ u ∈ x, u.oneCell' = true)
    (hlen : n + 1 ≤ maxLen) (hby : (n + 1) * bytes ≤ 140737488355328)
    (hK : ∀ v' w1, w1.ownsRow B e k v' (n + 1) (l ++ x) → Below B w0 w1 → wr.grownBy w1 v.ownBlock → wr.heap.size < w1.heap.size → wpList P ops Q rest (a.put o.dst v') w1) :
    wpList P ops Q (o :: rest) a (wr.alloc (.cells x.toArray ty)) := by
  obtain ⟨i, hi1, hi2, hi3, hi4⟩ := info_parts hi
  have hsz := hb.size
  refine wpList_append_own _ hg s xo t hop B e i z k bytes ht hi1 hi2 hi3 hi4 hz hk v n l hs (hown.alloc _) ⟨wr.heap.size, 0, none⟩ 1 1 x hx (by rw [Nat.one_mul]; exact hxl) ?_ h1 hlen hby (by simp; omega) ?_
  · intro j u hj
    rw [Addr.add_lit, Nat.zero_add]
    exact cell_new wr x.toArray ty j u (by simpa using hj)
  · intro v' w1 h2 h3 _
    have h4 := h3.size
    simp only [World.size_alloc] at h4
    refine hK v' w1 h2 ((hb.alloc (by omega) _).grown h3 (by simp; omega) fun k hk => (hown.lt k hk).1) ?_ (by omega)
    exact ⟨h3.os, h3.tape, h3.output, by omega, fun k hk hne => (h3.block k (by simp; omega) hne).trans (Below.heap_alloc wr _ k hk)⟩

/-- 'out = append(out, xs...)', elements of k cells. -/
theorem wpList_appsK {P : Program} {ops : Array Oper} {rest : List Oper} {o : Oper} {a : Act} {Q : Exit → Act → World → Prop} {B : Nat} {w0 wr : World} {e : TypeId} {v : Value} {l : List Value} {n : Nat}
    (k : Nat) (s xo : Operand) (t : TypeId) (bytes : Nat) (z : Value) (ao : Option Addr) (m c : Nat) (news : List Value)
    (ht : P.underlying t = some (.slice e)) (hi : (P.info? e).map (fun i => (i.zero, i.size, i.bytes)) = some (some z, k, bytes)) (hz : z.cells.size = k) (hk : 0 < k)
    (hown : wr.ownsRow B e k v n l) (hb : Below B w0 wr) (hB : B ≤ w0.heap.size) (hr : RdK k wr ao m c news) (h1 : ∀ u ∈ news, u.oneCell' = true)
    (hg : o.guard = none) (hop : o.op = Op.call { callee := Callee.builtin Builtin.append, args := #[s, xo], argTypes := #[t, t] })
    (hs : a.eval s = v) (hx : a.eval xo = .slice ao m c)
    (hlen : n + m ≤ maxLen) (hby : (n + m) * bytes ≤ 140737488355328)
    (hK : ∀ v' w1, w1.ownsRow B e k v' (n + m) (l ++ news) → Below B w0 w1 → wr.grownBy w1 v.ownBlock → wpList P ops Q rest (a.put o.dst v') w1) :
    wpList P ops Q (o :: rest) a wr := by
  obtain ⟨i, hi1, hi2, hi3, hi4⟩ := info_parts hi
  have hsz := hb.size
  cases ao with
  | none =>
    have hc := hr.nil rfl
    have hm : m = 0 := by have := hr.le; omega
    subst hc hm
    have hnil : news = [] := List.eq_nil_of_length_eq_zero (by rw [← hr.len, Nat.zero_mul])
    subst hnil
    exact wpList_append_own_none hg s xo t hop B e i k ht hi1 v n l hs hown hx (hK v wr (by simpa using hown) hb (World.grownBy.refl _ _))
  | some ad =>
    refine wpList_append_own _ hg s xo t hop B e i z k bytes ht hi1 hi2 hi3 hi4 hz hk v n l hs hown ad m c news hx hr.len.symm ?_ h1 hlen hby (by omega) ?_
    · intro j u hj
      have hj' := (List.getElem?_eq_some_iff.1 hj).1
      have hm0 : 0 < m := by
        apply Nat.pos_of_ne_zero
        intro h0
        have := hr.len
        rw [h0, Nat.zero_mul] at this; omega
      obtain ⟨b, of, ha, hcell⟩ := hr.at' hm0
      cases ha
      rw [Addr.add_lit]
      exact hcell j u hj
    · intro v' w1 h2 h3 _
      exact hK v' w1 h2 (hb.grown h3 (by omega) fun k hk => (hown.lt k hk).1) h3
/-- the row of a slice being built does not lie where another is read -/
def Clear (n : Nat) (v : Value) (a : Option Addr) : Prop := 0 < n → ∀ b o, a = some ⟨b, o, none⟩ → v.ownBlock ≠ some b
theorem Rd.grown {w w' : World} {a : Option Addr} {n c : Nat} {l : List Value} {v : Value} (h : Rd w a n c l) (hg : w.grownBy w' v.ownBlock) (hc : Clear n v a) : Rd w' a n c l := by
  refine ⟨h.len, h.le, h.max, h.nil, fun hn => ?_⟩
  obtain ⟨b, o, ha, hcell⟩ := h.at' hn
  exact ⟨b, o, ha, fun i x hx => hg.cell (hcell i x hx) (fun e => hc hn b o ha e.symm)⟩
theorem RdK.grown {k : Nat} {w w' : World} {a : Option Addr} {n c : Nat} {l : List Value} {v : Value} (h : RdK k w a n c l) (hg : w.grownBy w' v.ownBlock) (hc : Clear n v a) : RdK k w' a n c l := by
  refine ⟨h.len, h.le, h.max, h.nil, fun hn => ?_⟩
  obtain ⟨b, o, ha, hcell⟩ := h.at' hn
  exact ⟨b, o, ha, fun i x hx => hg.cell (hcell i x hx) (fun e => hc hn b o ha e.symm)⟩
theorem Clear.step {w : World} {a : Option Addr} {n c : Nat} {l : List Value} {v v' : Value} (h : Clear n v a) (hr : Rd w a n c l) (hv : ∀ g, v'.ownBlock = some g → v.ownBlock = some g ∨ w.heap.size ≤ g) : Clear n v' a := by
  intro hn b o ha e
  rcases hv b e with h1 | h1
  · exact h hn b o ha h1
  · obtain ⟨b', o', ha', hcell⟩ := hr.at' hn
    rw [ha] at ha'; cases ha'
    have hl := hr.len
    have := cell_lt (hcell 0 _ (List.getElem?_eq_getElem (show 0 < l.length by omega)))
    omega
theorem Clear.fresh {w : World} {B k n m _c : Nat} {e : TypeId} {v : Value} {xs : List Value} {b o : Nat} (h : w.ownsRow B e k v m xs) (hb : w.heap.size ≤ b) : Clear n v (some ⟨b, o, none⟩) := by
  intro _ b' o' ha e
  cases ha
  have := (h.lt b e).2
  omega

theorem Clear.own {w w1 : World} {B k m n c : Nat} {e e' : TypeId} {v : Value} {xs l : List Value} {am : Option Addr} (hmo : Own w w1 e (.slice am n c) l) (h : w.ownsRow B e' k v m xs) : Clear n v am := by
  intro hn b o ha he
  rcases hmo.2 with ⟨h0, _⟩ | ⟨g, cap, cur, h0, hg, _⟩
  · injection h0 with h1; rw [ha] at h1; cases h1
  · injection h0 with h1
    rw [ha] at h1
    injection h1 with h1
    injection h1 with h1
    have := (h.lt _ he).2
    omega

/-- 'out = append(out, x)', and where the new row lies. -/
theorem wpList_appK2 {P : Program} {ops : Array Oper} {rest : List Oper} {o : Oper} {a : Act} {Q : Exit → Act → World → Prop} {B : Nat} {w0 wr : World} {e : TypeId} {v : Value} {l : List Value} {n : Nat}
    (k : Nat) (s xo : Operand) (t : TypeId) (bytes : Nat) (z : Value) (x : List Value) (ty : TypeId)
    (ht : P.underlying t = some (.slice e)) (hi : (P.info? e).map (fun i => (i.zero, i.size, i.bytes)) = some (some z, k, bytes)) (hz : z.cells.size = k) (hk : 0 < k)
    (hown : wr.ownsRow B e k v n l) (hb : Below B w0 wr) (hB : B ≤ w0.heap.size)
    (hg : o.guard = none) (hop : o.op = Op.call { callee := Callee.builtin Builtin.append, args := #[s, xo], argTypes := #[t, t] })
    (hs : a.eval s = v) (hx : a.eval xo = .slice (some ⟨wr.heap.size, 0, none⟩) 1 1) (hxl : x.length = k) (h1 : ∀ u ∈ x, u.oneCell' = true)
    (hlen : n + 1 ≤ maxLen) (hby : (n + 1) * bytes ≤ 140737488355328)
    (hK : ∀ v' w1, w1.ownsRow B e k v' (n + 1) (l ++ x) → Below B w0 w1 → wr.grownBy w1 v.ownBlock → wr.heap.size < w1.heap.size → (∀ g, v'.ownBlock = some g → v.ownBlock = some g ∨ wr.heap.size ≤ g) → wpList P ops Q rest (a.put o.dst v') w1) :
    wpList P ops Q (o :: rest) a (wr.alloc (.cells x.toArray ty)) := by
  obtain ⟨i, hi1, hi2, hi3, hi4⟩ := info_parts hi
  have hsz := hb.size
  refine wpList_append_own_at _ hg s xo t hop B e i z k bytes ht hi1 hi2 hi3 hi4 hz hk v n l hs (hown.alloc _) ⟨wr.heap.size, 0, none⟩ 1 1 x hx (by rw [Nat.one_mul]; exact hxl) ?_ h1 hlen hby (by simp; omega) ?_
  · intro j u hj
    rw [Addr.add_lit, Nat.zero_add]
    exact cell_new wr x.toArray ty j u (by simpa using hj)
  · intro v' w1 h2 h3 _ h5
    have h4 := h3.size
    simp only [World.size_alloc] at h4
    refine hK v' w1 h2 ((hb.alloc (by omega) _).grown h3 (by simp; omega) fun k hk => (hown.lt k hk).1) ?_ (by omega) ?_
    · exact ⟨h3.os, h3.tape, h3.output, by omega, fun k hk hne => (h3.block k (by simp; omega) hne).trans (Below.heap_alloc wr _ k hk)⟩
    · intro g hg
      rcases h5 with h5 | h5
      · exact .inl (h5 ▸ hg)
      · rw [h5] at hg; simp at hg; omega
end Go.Proofs.YtcojmmhclklpoaaGreatDoor
namespace Go.Proofs.YtcojmmhclklpoaaGreatDoor
open Go.RowKit Go.Shelf

theorem Tryz.infoByt : (Tryz.prog.info? 5).map (fun i => (i.zero, i.size, i.bytes)) = some (some (.int .u8 0), 1, 1) := by kernel_rfl
theorem Tryz.sizeBld : (Tryz.prog.info? 92).map (·.size) = some 2 := by kernel_rfl
theorem Tryz.liesBld : liesAt Tryz.prog Tryz.prog.depth 92 (2 / Tryz.prog.cellsOf 92) 0 92 1 = true := by kernel_rfl
abbrev bldT : TypeId := 92
abbrev bytT : TypeId := 5

set_option maxHeartbeats 1000000 in
set_option maxRecDepth 100000 in
theorem bcopy_used (b : Nat) (w : World) (h0 : w.cell? ⟨b, 0, none⟩ = some (.pointer (some ⟨b, 0, none⟩))) :
    Calls Tryz.prog 119 #[.pointer (some ⟨b, 0, none⟩)] w fun e w' => e = .returned (.tuple #[]) ∧ w' = w := by
  obtain ⟨j, hj, _⟩ := Option.map_eq_some_iff.1 Tryz.sizeBld
  go_enter Tryz.func119, Tryz.ntmps119
  go_wp2
  rw [Lib.run_neq_ptr_same w _ Tryz.underlying90 hj]
  go_wp2
  go_end0
  exact ⟨rfl, rfl⟩

set_option maxHeartbeats 1000000 in
set_option maxRecDepth 100000 in
theorem bcopy_fresh (b : Nat) (w : World) (h0 : w.cell? ⟨b, 0, none⟩ = some (.pointer none)) (hsh : w.shape? b = some (92, 2)) (hfz : w.frozen? ⟨b, 0, none⟩ = false) :
    Calls Tryz.prog 119 #[.pointer (some ⟨b, 0, none⟩)] w fun e w' => e = .returned (.tuple #[]) ∧ w' = w.setCell ⟨b, 0, none⟩ (.pointer (some ⟨b, 0, none⟩)) := by
  obtain ⟨j, hj, hjs⟩ := Option.map_eq_some_iff.1 Tryz.sizeBld
  go_enter Tryz.func119, Tryz.ntmps119
  go_wp2
  rw [Lib.run_to_unsafe w ⟨b, 0, none⟩ Tryz.underlying90 Tryz.underlying151 hj (by rw [hjs]; decide) hsh (Nat.zero_lt_succ 1)]
  simp only [Result.andThen]
  rw [Oper.upon_value]
  go_wp2
  rw [run_callFunc_extern Tryz.func128 (by kernel_rfl) (by kernel_rfl) (by kernel_rfl) (e := Extern.AbiNoEscape.same) (by kernel_rfl)]
  rw [Lib.run_noEscape]
  simp only [Result.andThen]
  rw [Oper.upon_value]
  go_wp2
  rw [Lib.run_from_unsafe w ⟨b, 0, none⟩ Tryz.underlying151 Tryz.underlying90 hj hsh Tryz.liesBld]
  simp only [Result.andThen]
  rw [Oper.upon_value]
  go_wp2
  go_end0
  exact ⟨rfl, rfl⟩

theorem bcopy_k (B b : Nat) (bs : List Value) (w : World) (h : Lib.IsBuilderF bldT bytT B b bs w) :
    Calls Tryz.prog 119 #[.pointer (some ⟨b, 0, none⟩)] w fun e w' => e = .returned (.tuple #[]) ∧ (Lib.BuilderAtF bldT bytT B b (.pointer (some ⟨b, 0, none⟩)) bs w' ∧ Below B w w' ∧ Lib.OthersKept bytT (some b) w w') := by
  rcases h with h | h
  · refine (bcopy_fresh b w h.cell0 h.shape h.frozen0).mono ?_
    rintro e w' ⟨rfl, rfl⟩
    exact ⟨rfl, h.used _, (Below.refl B w).setCell (p := ⟨b, 0, none⟩) h.1 _, (Lib.OthersKept.refl _ _ w).setCell ⟨b, 0, none⟩ rfl _⟩
  · refine (bcopy_used b w h.cell0).mono ?_
    rintro e w' ⟨rfl, rfl⟩
    exact ⟨rfl, h, Below.refl B _, Lib.OthersKept.refl _ _ _⟩

set_option maxHeartbeats 2000000 in
set_option maxRecDepth 100000 in
theorem bwrite_k (B b : Nat) (bs : List Value) (s : ByteArray) (w : World) (h : Lib.IsBuilderF bldT bytT B b bs w) (hlen : bs.length + s.size ≤ 140737488355328) (hBw : B ≤ w.heap.size) :
    Calls Tryz.prog 93 #[.pointer (some ⟨b, 0, none⟩), .string s] w fun e w' => e = .returned (.tuple #[.int .i64 s.size, .nilIface]) ∧ (Lib.BuilderAtF bldT bytT B b (.pointer (some ⟨b, 0, none⟩)) (bs ++ Lib.strCells s) w' ∧ Below B w w' ∧ Lib.OthersKept bytT (some b) w w') := by
  obtain ⟨i0, hi, hz0, hz1, hz2⟩ := info_parts Tryz.infoByt
  go_enter Tryz.func93, Tryz.ntmps93
  go_wp2_with (go_at_call 119; refine (bcopy_k B b bs _ h).mono ?_)
  rintro e w1 ⟨rfl, h1, hb1, hk1⟩
  obtain ⟨hB, v, hbk, hown, hne⟩ := h1
  have c0 : w1.cell? ⟨b, 0, none⟩ = some (.pointer (some ⟨b, 0, none⟩)) := by rw [Lib.cell_of_heap hbk]; rfl
  have c1 : w1.cell? ⟨b, 1, none⟩ = some v := by rw [Lib.cell_of_heap hbk]; rfl
  go_wp2_with (at_builtin; refine Lib.wpList_append_own_stringF _ rfl _ _ 66 9 rfl B bytT i0 Tryz.underlying66 Tryz.underlying9 hi hz0 hz1 hz2 _ _ _ rfl hown s rfl ?c3 ?c4 ?c5 ?_)
  case c3 => unfold maxLen; omega
  case c4 => omega
  case c5 => have := hb1.size; omega
  intro v' w2 hown' hgrow _
  have hlt : b < w1.heap.size := by
    rcases Nat.lt_or_ge b w1.heap.size with h' | h'
    · exact h'
    · simp [Array.getElem?_eq_none h'] at hbk
  have hb2 : w2.heap[b]? = some (.cells #[.pointer (some ⟨b, 0, none⟩), v] bldT (0, 0)) := by
    rw [hgrow.block b hlt (fun e => hne e.symm)]
    exact hbk
  have d0 : w2.cell? ⟨b, 0, none⟩ = some (.pointer (some ⟨b, 0, none⟩)) := by rw [Lib.cell_of_heap hb2]; rfl
  have d1 : w2.cell? ⟨b, 1, none⟩ = some v := by rw [Lib.cell_of_heap hb2]; rfl
  have f1 : w2.frozen? ⟨b, 1, none⟩ = false := Lib.frozen_of_heap hb2 1
  obtain ⟨ao, n', cap, rfl⟩ : ∃ ao n' cap, v' = .slice ao n' cap := by
    rcases hown'.2 with ⟨hv, _⟩ | ⟨g, cap, cur, fz, hv, _⟩
    · exact ⟨_, _, _, hv⟩
    · exact ⟨_, _, _, hv⟩
  go_wp2
  go_ret2
  refine ⟨rfl, ?_, ?_, (hk1.grown hgrow (Lib.ownsRowF_kind hown)).setCell ⟨b, 1, none⟩ rfl _⟩
  · exact Lib.BuilderAtF.put (T := bldT) (e := bytT) hB hb2 (bs' := bs ++ Lib.strCells s) (by simpa [Lib.strCells_length] using hown') (by decide)
  · exact (hb1.grown hgrow (by have := hb1.size; omega) (fun k hk => (hown.lt k hk).1)).setCell (p := ⟨b, 1, none⟩) hB _
end Go.Proofs.YtcojmmhclklpoaaGreatDoor
namespace Go.Proofs.YtcojmmhclklpoaaGreatDoor
open Go.RowKit Go.Shelf

def setV2 (x : BitVec 16) : Value := .int .u16 (U x)

theorem at_some {l : List (BitVec 16)} {k : Nat} (h : k < l.length) : l[k]? = some (l.getD k 0#16) := by rw [List.getElem?_eq_getElem h, getD_at h]
theorem at_cell {l : List (BitVec 16)} {k : Nat} (h : k < l.length) : (l.map setV2)[k]? = some (.int .u16 (U (l.getD k 0#16))) := by rw [List.getElem?_map, at_some h]; rfl
theorem any_hit {p : BitVec 16 → Bool} {l : List (BitVec 16)} {k : Nat} (h : k < l.length) (hp : p (l.getD k 0#16) = true) : l.any p = true :=
  List.any_eq_true.2 ⟨_, by rw [getD_at h]; exact List.getElem_mem h, hp⟩
theorem any_none {p : BitVec 16 → Bool} {l : List (BitVec 16)} (h : ∀ j, j < l.length → p (l.getD j 0#16) = false) : l.any p = false := by
  rw [Bool.eq_false_iff]
  intro hc
  obtain ⟨x, hx, hp⟩ := List.any_eq_true.1 hc
  obtain ⟨j, hj, rfl⟩ := List.mem_iff_getElem.1 hx
  rw [← getD_at hj, h j hj] at hp; cases hp

/-- the first place of a set, or -1 -/
def idxS (p : BitVec 16 → Bool) (l : List (BitVec 16)) : Int := if l.any p then (l.findIdx p : Int) else -1
theorem idxS_hit {p : BitVec 16 → Bool} {l : List (BitVec 16)} {k : Nat} (hk : k < l.length) (h : ∀ j, j < k → p (l.getD j 0#16) = false) (hp : p (l.getD k 0#16) = true) : idxS p l = k := by
  unfold idxS
  rw [if_pos (any_hit hk hp)]
  have : l.findIdx p = k := by
    rw [List.findIdx_eq hk]
    refine ⟨by rw [← getD_at hk]; exact hp, fun j hj => ?_⟩
    have := h j hj
    rw [getD_at (by omega)] at this
    exact this
  rw [this]
theorem idxS_none {p : BitVec 16 → Bool} {l : List (BitVec 16)} (h : ∀ j, j < l.length → p (l.getD j 0#16) = false) : idxS p l = -1 := by
  unfold idxS; rw [any_none h]; rfl
theorem idxS_ge (p : BitVec 16 → Bool) (l : List (BitVec 16)) : decide (0 ≤ idxS p l) = l.any p := by
  unfold idxS
  cases l.any p <;> simp

set_option maxRecDepth 100000 in
set_option maxHeartbeats 1000000 in
theorem idxF_c (g : Nat) (lb : Array Value) (eg : ∀ args w, (callFunc g args).run Tryz.prog w = .ok (.enter g args) w) (p : BitVec 16 → Bool) (l : List (BitVec 16)) (a : Option Addr) (n c : Nat) (w : World)
    (h : Rd w a n c (l.map setV2)) (hp : PredAt Tryz.prog g lb setV2 p w) :
    Calls Tryz.prog 113 #[.slice a n c, .func (.func g) #[] lb] w fun e w' => e = .returned (.int .i64 (idxS p l)) ∧ Below w.heap.size w w' := by
  have hn : n ≤ l.length ∧ l.length ≤ n := by have := h.len; simp at this; omega
  obtain ⟨hn1, hn2⟩ := hn
  have hm := h.max
  have hle := h.le
  unfold maxLen at hm
  have HP := Lib.hid hp
  have HR := Lib.hid h
  clear hp h
  go_enter Tryz.func113, Tryz.ntmps113
  go_wp2_with fail
  go_loopw [8] (fun i wr => ∃ k : Nat, k ≤ n ∧ i = .int .i64 k ∧ Hid (∀ j, j < k → p (l.getD j 0#16) = false) ∧ Below w.heap.size w wr) (fun i _ => n - (intOf i).toNat)
  case atStart => exact ⟨0, Nat.zero_le _, rfl, Lib.hid (fun j hj => by omega), Below.refl _ _⟩
  case round =>
    obtain ⟨k, hk, rfl, hno, hb⟩ := hrel
    by_cases hlt : k < n
    · obtain ⟨b, o, ha, hcell⟩ := (HR.out.below hb).at' (by omega)
      have hc := hcell k _ (at_cell (by omega))
      subst ha
      have HF : Hid (Calls Tryz.prog g (#[.int .u16 (U (l.getD k 0#16))] ++ lb) wr fun e w' => e = .returned (.bool (p (l.getD k 0#16))) ∧ ∃ q, w' = wr.drewN q) := HP.out wr (l.getD k 0#16) hb
      cases hq : p (l.getD k 0#16)
      · have hno' : Hid (∀ j, j < k + 1 → p (l.getD j 0#16) = false) := Lib.hid (fun j hj => by
          by_cases h1 : j < k
          · exact hno.out j h1
          · obtain rfl : j = k := by omega
            exact hq)
        rw [hq] at HF
        obtain ⟨x, hx⟩ : ∃ x, l.getD k 0#16 = x := ⟨_, rfl⟩
        rw [hx] at hc HF
        clear hq hcell hno hx
        go_wp2_with (go_at_fn g; refine HF.out.mono ?_; rintro e w' ⟨rfl, q, rfl⟩)
        go_roundw
        case rel => exact ⟨k + 1, by omega, by go_num, hno', below_drewN hb⟩
        case measure => simp [intOf]; omega
      · have hI : Hid (idxS p l = k) := idxS_hit (by omega) hno.out hq
        rw [hq] at HF
        obtain ⟨x, hx⟩ : ∃ x, l.getD k 0#16 = x := ⟨_, rfl⟩
        rw [hx] at hc HF
        clear hq hcell hno hx
        go_wp2_with (go_at_fn g; refine HF.out.mono ?_; rintro e w' ⟨rfl, q, rfl⟩)
        go_ret
        exact ⟨ret_int hI.out.symm, below_drewN hb⟩
    · have hI : Hid (idxS p l = -1) := idxS_none (fun j hj => hno.out j (by omega))
      clear hno
      go_wp2_with fail
      go_ret
      exact ⟨ret_int hI.out.symm, hb⟩

set_option maxRecDepth 100000 in
set_option maxHeartbeats 1000000 in
theorem containsF_c (g : Nat) (lb : Array Value) (eg : ∀ args w, (callFunc g args).run Tryz.prog w = .ok (.enter g args) w) (p : BitVec 16 → Bool) (l : List (BitVec 16)) (a : Option Addr) (n c : Nat) (w : World)
    (h : Rd w a n c (l.map setV2)) (hp : PredAt Tryz.prog g lb setV2 p w) :
    Calls Tryz.prog 84 #[.slice a n c, .func (.func g) #[] lb] w fun e w' => e = .returned (.bool (l.any p)) ∧ Below w.heap.size w w' := by
  have HC := Lib.hid (idxF_c g lb eg p l a n c w h hp)
  have hi := idxS_ge p l
  clear h hp eg
  obtain ⟨i, hi2⟩ : ∃ i, idxS p l = i := ⟨_, rfl⟩
  rw [hi2] at HC hi
  have HI := Lib.hid hi
  clear hi hi2
  go_enter Tryz.func84, Tryz.ntmps84
  go_wp2_with fail
  refine HC.out.mono ?_
  rintro e w1 ⟨rfl, hb⟩
  go_wp2_with fail
  go_ret
  exact ⟨ret_bool HI.out, hb⟩

set_option maxHeartbeats 400000 in
theorem contains_c (x y : BitVec 16) (w : World) :
    Calls Tryz.prog 86 #[.int .u16 (U x), .int .u16 (U y)] w fun e w' => e = .returned (.bool (subB x y)) ∧ w' = w := by
  go_enter Tryz.func86, Tryz.ntmps86
  go_wp2
  go_ret
  exact ⟨rfl, rfl⟩

theorem accepts1_at (w : World) (B : Nat) (s : BitVec 16) (hc : w.cell? ⟨B, 0, none⟩ = some (.int .u16 (U s))) :
    PredAt Tryz.prog 85 #[.pointer (some ⟨B, 0, none⟩)] setV2 (fun x => subB s x) w := fun W x hb => by
  have hc' : W.cell? ⟨B, 0, none⟩ = some (.int .u16 (U s)) := (hb.cell (p := ⟨B, 0, none⟩) (cell_lt hc)).trans hc
  unfold FnGives setV2
  clear hb hc
  go_enter Tryz.func85, Tryz.ntmps85
  go_wp2_with fail
  refine (contains_c s x _).mono ?_
  rintro e w1 ⟨rfl, rfl⟩
  go_wp2_with fail
  go_ret
  exact ⟨rfl, 0, rfl⟩

set_option maxRecDepth 100000 in
set_option maxHeartbeats 1000000 in
theorem accepts_c (l : List (BitVec 16)) (s : BitVec 16) (a : Option Addr) (n c : Nat) (w : World) (h : Rd w a n c (l.map setV2)) :
    Calls Tryz.prog 44 #[.slice a n c, .int .u16 (U s)] w fun e w' => e = .returned (.bool (accS l s)) ∧ Below w.heap.size w w' := by
  have hb0 : Below w.heap.size w (w.alloc (.cells #[.int .u16 (U s)] 37)) := (Below.refl _ w).alloc (Nat.le_refl _) _
  have HC := Lib.hid (containsF_c 85 #[.pointer (some ⟨w.heap.size, 0, none⟩)] (enters_of Tryz.func85 (by kernel_rfl) rfl) (fun x => subB s x) l a n c _ (h.below hb0) (accepts1_at _ w.heap.size s (cell_new _ _ _ 0 _ rfl)))
  have HB := Lib.hid hb0
  clear h hb0
  go_enter Tryz.func44, Tryz.ntmps44
  go_wp2_with fail
  refine HC.out.mono ?_
  rintro e w1 ⟨rfl, hb⟩
  go_wp2_with fail
  go_ret
  exact ⟨rfl, Below.next HB.out hb⟩

/-- the union -/
def supS (l : List (BitVec 16)) : BitVec 16 := l.foldl (· ||| ·) 0#16
theorem supS_take {l : List (BitVec 16)} {k : Nat} (h : k < l.length) : supS (l.take (k + 1)) = supS (l.take k) ||| l.getD k 0#16 := by
  unfold supS; rw [List.take_add_one, at_some h]; simp

set_option maxRecDepth 100000 in
set_option maxHeartbeats 1000000 in
theorem support_c (l : List (BitVec 16)) (a : Option Addr) (n c : Nat) (w : World) (h : Rd w a n c (l.map setV2)) :
    Calls Tryz.prog 63 #[.slice a n c] w fun e w' => e = .returned (.int .u16 (U (supS l))) ∧ w' = w := by
  have hn : n ≤ l.length ∧ l.length ≤ n := by have := h.len; simp at this; omega
  obtain ⟨hn1, hn2⟩ := hn
  have hm := h.max
  have hle := h.le
  unfold maxLen at hm
  go_enter Tryz.func63, Tryz.ntmps63
  go_wp2_with fail
  go_loop [3, 8] (fun v i => ∃ (k : Nat) (s : BitVec 16), k ≤ n ∧ i = .int .i64 k ∧ v = .int .u16 (U s) ∧ Hid (s = supS (l.take k))) (fun _ i => n - (intOf i).toNat)
  case atStart => exact ⟨0, 0#16, Nat.zero_le _, rfl, rfl, rfl⟩
  case round =>
    obtain ⟨k, s, hk, rfl, rfl, hs⟩ := hrel
    by_cases hlt : k < n
    · obtain ⟨b, o, ha, hcell⟩ := h.at' (by omega)
      have hc := hcell k _ (at_cell (by omega))
      have HS := Lib.hid (supS_take (l := l) (k := k) (by omega))
      obtain ⟨x, hx⟩ : ∃ x, l.getD k 0#16 = x := ⟨_, rfl⟩
      rw [hx] at hc HS
      subst ha
      clear hcell h hx
      go_wp2_with fail
      go_round
      case rel => exact ⟨k + 1, s ||| x, by omega, by go_num, rfl, by show _ = _; rw [HS.out, hs.out]⟩
      case measure => simp [intOf]; omega
    · have hE : Hid (l.take k = l) := List.take_of_length_le (by omega)
      clear h
      go_wp2_with fail
      go_ret
      exact ⟨by rw [hs.out, hE.out]; rfl, rfl⟩

end Go.Proofs.YtcojmmhclklpoaaGreatDoor
namespace Go.Proofs.YtcojmmhclklpoaaGreatDoor

/-- the servers' nodes -/
def srvN (mem : List Nat) : List Nod := mem.map fun (m : Nat) => ⟨1, (m : Int), 0, [], []⟩
/-- the indices of a set's members -/
def kidsO (mem : List Nat) (s : BitVec 16) : List Int := (memS s).map fun m => ((mem.idxOf m : Nat) : Int)
def stepO (mem : List Nat) (st : List Nod × List Int) (s : BitVec 16) : List Nod × List Int :=
  if (kidsO mem s).length = 1 then (st.1, st.2 ++ kidsO mem s) else (st.1 ++ [⟨2, 0, ((kidsO mem s).length : Int), [], kidsO mem s⟩], st.2 ++ [(st.1.length : Int)])
def memO (f : List (BitVec 16)) : List Nat := memS (supS f)
def ofT (f : List (BitVec 16)) (j : Nat) : List Nod × List Int := (f.take j).foldl (stepO (memO f)) (srvN (memO f), [])
def ofX (f : List (BitVec 16)) : Xpr :=
  if (ofT f f.length).2.length = 1 then ⟨(ofT f f.length).1, (ofT f f.length).2.getD 0 0⟩ else ⟨(ofT f f.length).1 ++ [⟨2, 0, 1, [], (ofT f f.length).2⟩], ((ofT f f.length).1.length : Int)⟩
/-- what Of answers -/
def ofE (f : List (BitVec 16)) : Xpr × Int := if valS f ≠ 0 then (⟨[], 0⟩, valS f) else if 60 < (ofX f).nodes.length then (⟨[], 0⟩, 3) else (ofX f, 0)
theorem ofT_zero (f : List (BitVec 16)) : ofT f 0 = (srvN (memO f), []) := rfl
theorem ofT_succ {f : List (BitVec 16)} {j : Nat} {s : BitVec 16} (h : f[j]? = some s) : ofT f (j + 1) = stepO (memO f) (ofT f j) s := by
  unfold ofT
  rw [List.take_add_one, h, List.foldl_append]; rfl
theorem srvN_succ {mem : List Nat} {k m : Nat} (h : mem[k]? = some m) : srvN (mem.take (k + 1)) = srvN (mem.take k) ++ [⟨1, (m : Int), 0, [], []⟩] := by
  unfold srvN
  rw [List.take_add_one, h, List.map_append]; rfl
theorem srvN_len (mem : List Nat) : (srvN mem).length = mem.length := List.length_map _
theorem kidsO_len (mem : List Nat) (s : BitVec 16) : (kidsO mem s).length = (memS s).length := List.length_map _
theorem step_len (mem : List Nat) (st : List Nod × List Int) (s : BitVec 16) : (stepO mem st s).1.length ≤ st.1.length + 1 ∧ (stepO mem st s).2.length = st.2.length + 1 := by
  unfold stepO
  split
  · rename_i h; exact ⟨Nat.le_succ _, by rw [List.length_append, h]⟩
  · simp
theorem ofT_len (f : List (BitVec 16)) : ∀ j, j ≤ f.length → (ofT f j).1.length ≤ (memO f).length + j ∧ (ofT f j).2.length = j := by
  intro j
  induction j with
  | zero => intro _; rw [ofT_zero]; exact ⟨by rw [srvN_len]; omega, rfl⟩
  | succ j ih =>
    intro hj
    have h1 := ih (by omega)
    rw [ofT_succ (List.getElem?_eq_getElem (show j < f.length by omega))]
    have h2 := step_len (memO f) (ofT f j) f[j]
    omega
/-! the places of servers -/
def plA (mem : List Nat) (k : Nat) : Array Value := ((List.range 12).map fun s => Value.int .i64 ((if s ∈ mem.take k then mem.idxOf s else 0 : Nat) : Int)).toArray
theorem plA_zero (mem : List Nat) : plA mem 0 = Array.replicate 12 (.int .i64 0) := by unfold plA; simp [List.range_succ, Array.replicate_succ]
theorem plA_size (mem : List Nat) (k : Nat) : (plA mem k).size = 12 := by simp [plA]
theorem plA_at (mem : List Nat) (k s : Nat) (h : s < 12) : (plA mem k)[s]? = some (.int .i64 ((if s ∈ mem.take k then mem.idxOf s else 0 : Nat) : Int)) := by
  unfold plA
  rw [List.getElem?_toArray, List.getElem?_map, List.getElem?_range h]; rfl
theorem plA_step {mem : List Nat} (hn : mem.Nodup) {k m : Nat} (h : mem[k]? = some m) (hm : m < 12) : (plA mem k).setIfInBounds m (.int .i64 (k : Int)) = plA mem (k + 1) := by
  have hk := (List.getElem?_eq_some_iff.1 h).1
  have hid : mem.idxOf m = k := by
    have e : mem[k] = m := (List.getElem?_eq_some_iff.1 h).2
    rw [← e]
    exact List.Nodup.idxOf_getElem hn k hk
  apply Array.ext_getElem?
  intro i
  rw [Array.getElem?_setIfInBounds]
  by_cases hi : i < 12
  · rw [plA_at mem (k + 1) i hi, plA_at mem k i hi, plA_size]
    by_cases e : m = i
    · subst e
      rw [if_pos rfl, if_pos hm, if_pos, hid]
      rw [List.take_add_one, h]; simp
    · rw [if_neg e]
      congr 2
      rw [List.take_add_one, h]
      have : (i ∈ mem.take k ++ (some m).toList) ↔ i ∈ mem.take k := by
        simp
        intro e2; exact absurd e2.symm e
      by_cases h3 : i ∈ mem.take k
      · rw [if_pos h3, if_pos (this.2 h3)]
      · rw [if_neg h3, if_neg (fun h4 => h3 (this.1 h4))]
  · have e1 : (plA mem (k + 1))[i]? = none := Array.getElem?_eq_none (by rw [plA_size]; omega)
    have e2 : (plA mem k)[i]? = none := Array.getElem?_eq_none (by rw [plA_size]; omega)
    rw [if_neg (by omega), e1, e2]
theorem memO_nodup (f : List (BitVec 16)) : (memO f).Nodup := by
  exact (memS_sorted _).imp (fun h => Nat.ne_of_lt h)
/-- servers of a valid family -/
theorem supS_has (l : List (BitVec 16)) (p : Nat) : hasB (supS l) p = true ↔ ∃ s ∈ l, hasB s p = true := by
  unfold supS
  have h : ∀ (l : List (BitVec 16)) (o : BitVec 16), hasB (l.foldl (fun o x => o ||| x) o) p = true ↔ (hasB o p = true ∨ ∃ s ∈ l, hasB s p = true) := by
    intro l
    induction l with
    | nil => intro o; simp
    | cons a l ih =>
      intro o
      rw [List.foldl_cons, ih]
      have : hasB (o ||| a) p = (hasB o p || hasB a p) := by unfold hasB; simp
      rw [this]
      simp only [Bool.or_eq_true, List.mem_cons]
      constructor
      · rintro ((h | h) | ⟨s, h1, h2⟩)
        · exact .inl h
        · exact .inr ⟨a, .inl rfl, h⟩
        · exact .inr ⟨s, .inr h1, h2⟩
      · rintro (h | ⟨s, h1 | h1, h2⟩)
        · exact .inl (.inl h)
        · subst h1; exact .inl (.inr h2)
        · exact .inr ⟨s, h1, h2⟩
  have := h l 0#16
  rw [this]
  constructor
  · rintro (h | h)
    · exact absurd h (by unfold hasB; simp)
    · exact h
  · exact .inr
theorem valS_ok {l : List (BitVec 16)} (h : valS l = 0) : l.length ≤ 400 ∧ (∀ j, j < l.length → e1 l j = 0) ∧ overB l = false := by
  unfold valS at h
  by_cases h1 : 400 < l.length
  · rw [if_pos h1] at h; cases h
  · rw [if_neg h1] at h
    by_cases h2 : firstE (e1 l) l.length ≠ 0
    · rw [if_pos h2] at h; exact absurd h h2
    · rw [if_neg h2] at h
      refine ⟨by omega, firstE_zero _ _ (by simpa using h2), ?_⟩
      cases ho : overB l
      · rfl
      · rw [ho] at h; cases h
theorem valS_lt {l : List (BitVec 16)} (h : valS l = 0) : ∀ s ∈ l, s.toNat < 4096 := by
  obtain ⟨_, h2, _⟩ := valS_ok h
  intro s hs
  obtain ⟨j, hj⟩ := List.getElem?_of_mem hs
  have hl := (List.getElem?_eq_some_iff.1 hj).1
  have h3 := (e1_zero (h2 j hl)).1
  rw [List.getD_eq_getElem?_getD, hj] at h3
  simp only [Option.getD_some] at h3
  unfold U at h3; omega
theorem has_lt12 {s : BitVec 16} (h : s.toNat < 4096) {p : Nat} (hp : hasB s p = true) : p < 12 := by
  refine Classical.byContradiction fun hc => ?_
  unfold hasB at hp
  rw [BitVec.getLsbD, Nat.testBit_lt_two_pow (Nat.lt_of_lt_of_le h (Nat.pow_le_pow_right (n := 2) (by omega) (show 12 ≤ p by omega)))] at hp
  cases hp
theorem mem12 {l : List (BitVec 16)} (h : valS l = 0) : ∀ m ∈ memO l, m < 12 := by
  intro m hm
  unfold memO at hm
  obtain ⟨s, hs, hp⟩ := (supS_has l m).1 (mem_memS.1 hm)
  exact has_lt12 (valS_lt h s hs) hp
theorem memO_mem {l : List (BitVec 16)} (_h : valS l = 0) {s : BitVec 16} (hs : s ∈ l) {m : Nat} (hm : m ∈ memS s) : m ∈ memO l := by
  have h1 := (mem_memS.1 hm)
  exact mem_memS.2 ((supS_has l m).2 ⟨s, hs, h1⟩)
theorem sub12 {L : List Nat} (hs : L.Pairwise (· < ·)) (h : ∀ m ∈ L, m < 12) : L.length ≤ 12 := by
  have : ∀ (L : List Nat) (b : Nat), L.Pairwise (· < ·) → (∀ m ∈ L, b ≤ m ∧ m < 12) → L.length ≤ 12 - b := by
    intro L
    induction L with
    | nil => intro b _ _; simp
    | cons a L ih =>
      intro b hp hm
      obtain ⟨h1, h2⟩ := List.pairwise_cons.1 hp
      have ha := hm a (by simp)
      have := ih (a + 1) h2 (fun m hm' => ⟨h1 m hm', (hm m (List.mem_cons_of_mem _ hm')).2⟩)
      rw [List.length_cons]; omega
  exact this L 0 hs (fun m hm => ⟨Nat.zero_le _, h m hm⟩)
theorem memO_len {l : List (BitVec 16)} (h : valS l = 0) : (memO l).length ≤ 12 := sub12 (memS_sorted _) (mem12 h)
theorem kids12 {l : List (BitVec 16)} (h : valS l = 0) {s : BitVec 16} (hs : s ∈ l) : (memS s).length ≤ 12 := sub12 (memS_sorted _) fun _m hm => has_lt12 (valS_lt h s hs) (mem_memS.1 hm)
end Go.Proofs.YtcojmmhclklpoaaGreatDoor
namespace Go.Proofs.YtcojmmhclklpoaaGreatDoor
open Go.RowKit

/-- the five cells of a node -/
structure NodM (w : World) (b o : Nat) (nd : Nod) : Prop where
  c0 : w.cell? ⟨b, o, none⟩ = some (.int .i64 nd.kind)
  c1 : w.cell? ⟨b, o + 1, none⟩ = some (.int .i64 nd.server)
  c2 : w.cell? ⟨b, o + 2, none⟩ = some (.int .i64 nd.need)
  ws : ∃ a n c, w.cell? ⟨b, o + 3, none⟩ = some (.slice a n c) ∧ Rd w a n c (nd.weights.map (Value.int .i64))
  ks : ∃ a n c, w.cell? ⟨b, o + 4, none⟩ = some (.slice a n c) ∧ Rd w a n c (nd.kids.map (Value.int .i64))
/-- the slice value '.slice a n c' reads as these nodes -/
structure XM (w : World) (a : Option Addr) (n c : Nat) (nodes : List Nod) : Prop where
  len : nodes.length = n
  le : n ≤ c
  max : c ≤ maxLen
  nil : a = none → c = 0
  at' : 0 < n → ∃ b o, a = some ⟨b, o, none⟩ ∧ ∀ i nd, nodes[i]? = some nd → NodM w b (o + i * 5) nd
theorem XM.none_ (w : World) : XM w none 0 0 [] := ⟨rfl, Nat.le_refl _, by simp [maxLen], fun _ => rfl, fun h => absurd h (by decide)⟩

theorem cell_keep {w w' : World} {b o : Nat} {v : Value} (hb : Below w.heap.size w w') (h : w.cell? ⟨b, o, none⟩ = some v) : w'.cell? ⟨b, o, none⟩ = some v :=
  (hb.cell (p := ⟨b, o, none⟩) (cell_lt h)).trans h
theorem NodM.below {w w' : World} {b o : Nat} {nd : Nod} (h : NodM w b o nd) (hb : Below w.heap.size w w') : NodM w' b o nd := by
  obtain ⟨a, n, c, h3, r3⟩ := h.ws
  obtain ⟨a', n', c', h4, r4⟩ := h.ks
  exact ⟨cell_keep hb h.c0, cell_keep hb h.c1, cell_keep hb h.c2, ⟨a, n, c, cell_keep hb h3, r3.below hb⟩, ⟨a', n', c', cell_keep hb h4, r4.below hb⟩⟩
theorem XM.below {w w' : World} {a : Option Addr} {n c : Nat} {nodes : List Nod} (h : XM w a n c nodes) (hb : Below w.heap.size w w') : XM w' a n c nodes := by
  refine ⟨h.len, h.le, h.max, h.nil, fun hn => ?_⟩
  obtain ⟨b, o, ha, hc⟩ := h.at' hn
  exact ⟨b, o, ha, fun i nd hi => (hc i nd hi).below hb⟩
theorem NodM.drewN {w : World} {b o : Nat} {nd : Nod} (h : NodM w b o nd) (q : Nat) : NodM (w.drewN q) b o nd := by
  obtain ⟨a, n, c, h3, r3⟩ := h.ws
  obtain ⟨a', n', c', h4, r4⟩ := h.ks
  exact ⟨h.c0, h.c1, h.c2, ⟨a, n, c, h3, ⟨r3.len, r3.le, r3.max, r3.nil, r3.at'⟩⟩, ⟨a', n', c', h4, ⟨r4.len, r4.le, r4.max, r4.nil, r4.at'⟩⟩⟩
theorem XM.drewN {w : World} {a : Option Addr} {n c : Nat} {nodes : List Nod} (h : XM w a n c nodes) (q : Nat) : XM (w.drewN q) a n c nodes := by
  refine ⟨h.len, h.le, h.max, h.nil, fun hn => ?_⟩
  obtain ⟨b, o, ha, hc⟩ := h.at' hn
  exact ⟨b, o, ha, fun i nd hi => (hc i nd hi).drewN q⟩
theorem XM.take {w : World} {a : Option Addr} {n c : Nat} {nodes : List Nod} (h : XM w a n c nodes) (k : Nat) (hk : k ≤ n) : XM w a k c (nodes.take k) := by
  refine ⟨by rw [List.length_take, h.len]; omega, by have := h.le; omega, h.max, h.nil, fun hn => ?_⟩
  obtain ⟨b, o, ha, hc⟩ := h.at' (by omega)
  refine ⟨b, o, ha, fun i nd hi => hc i nd ?_⟩
  rw [List.getElem?_take] at hi
  split at hi
  · exact hi
  · cases hi

/-! nodes as values, in a row of the call's own -/
structure NodV where
  kind : Int
  server : Int
  need : Int
  wv : Value
  kv : Value
def nodVC (p : NodV) : List Value := [.int .i64 p.kind, .int .i64 p.server, .int .i64 p.need, p.wv, p.kv]
theorem nodVC_len (p : NodV) : (nodVC p).length = 5 := rfl
/-- a node's value reads as the node -/
structure NodR (w : World) (p : NodV) (nd : Nod) : Prop where
  e0 : p.kind = nd.kind
  e1 : p.server = nd.server
  e2 : p.need = nd.need
  ws : ∃ a n c, p.wv = .slice a n c ∧ Rd w a n c (nd.weights.map (Value.int .i64))
  ks : ∃ a n c, p.kv = .slice a n c ∧ Rd w a n c (nd.kids.map (Value.int .i64))
theorem NodR.below {w w' : World} {p : NodV} {nd : Nod} (h : NodR w p nd) (hb : Below w.heap.size w w') : NodR w' p nd := by
  obtain ⟨a, n, c, h3, r3⟩ := h.ws
  obtain ⟨a', n', c', h4, r4⟩ := h.ks
  exact ⟨h.e0, h.e1, h.e2, ⟨a, n, c, h3, r3.below hb⟩, ⟨a', n', c', h4, r4.below hb⟩⟩
theorem XM.of_rdK {w : World} {a : Option Addr} {n c : Nat} {V : List NodV} {nodes : List Nod} (h : RdK 5 w a n c (V.flatMap nodVC)) (hn : V.length = nodes.length) (hV : ∀ (i : Nat) p nd, V[i]? = some p → nodes[i]? = some nd → NodR w p nd) : XM w a n c nodes := by
  have hl := h.len
  rw [flat_len 5 nodVC nodVC_len] at hl
  have hVn : V.length = n := by omega
  refine ⟨by omega, h.le, h.max, h.nil, fun h0 => ?_⟩
  obtain ⟨b, o, ha, hc⟩ := RdK.cells h nodVC_len h0
  refine ⟨b, o, ha, fun i nd hi => ?_⟩
  have hil := (List.getElem?_eq_some_iff.1 hi).1
  obtain ⟨p, hp⟩ : ∃ p, V[i]? = some p := ⟨_, List.getElem?_eq_getElem (by omega)⟩
  have r := hV i p nd hp hi
  have g := hc i p hp
  obtain ⟨a3, n3, c3, h3, r3⟩ := r.ws
  obtain ⟨a4, n4, c4, h4, r4⟩ := r.ks
  refine ⟨?_, ?_, ?_, ⟨a3, n3, c3, ?_, r3⟩, ⟨a4, n4, c4, ?_, r4⟩⟩
  · rw [← r.e0]; exact g 0 (by omega)
  · rw [← r.e1]; exact g 1 (by omega)
  · rw [← r.e2]; exact g 2 (by omega)
  · rw [← h3]; exact g 3 (by omega)
  · rw [← h4]; exact g 4 (by omega)
theorem XM.of_row {w : World} {B n : Nat} {e : TypeId} {v : Value} {V : List NodV} {nodes : List Nod} (h : w.ownsRow B e 5 v n (V.flatMap nodVC)) (hn : V.length = nodes.length) (hV : ∀ (i : Nat) p nd, V[i]? = some p → nodes[i]? = some nd → NodR w p nd) : ∃ a c, v = .slice a n c ∧ XM w a n c nodes := by
  obtain ⟨a, c, hv, hr⟩ := rdK_of_row h
  exact ⟨a, c, hv, .of_rdK hr hn hV⟩

/-! trees -/
def choC (c : Cho) : List Value := [.int .i64 c.server, .int .i64 c.first, .int .i64 c.second]
theorem choC_len (c : Cho) : (choC c).length = 3 := rfl
def choA (c : Cho) : Value := .agg #[.int .i64 c.server, .int .i64 c.first, .int .i64 c.second]
abbrev TM (w : World) (a : Option Addr) (n c : Nat) (nodes : List Cho) : Prop := RdK 3 w a n c (nodes.flatMap choC)
theorem TM.len {w : World} {a : Option Addr} {n c : Nat} {nodes : List Cho} (h : TM w a n c nodes) : nodes.length = n := by
  have := RdK.len h; rw [flat_len 3 choC choC_len] at this; omega
/-- the three cells of a node of a tree -/
theorem TM.at3 {w : World} {a : Option Addr} {n c : Nat} {nodes : List Cho} (h : TM w a n c nodes) (hn : 0 < n) : ∃ b o, a = some ⟨b, o, none⟩ ∧ ∀ i x, nodes[i]? = some x → w.cell? ⟨b, o + i * 3, none⟩ = some (.int .i64 x.server) ∧ w.cell? ⟨b, o + i * 3 + 1, none⟩ = some (.int .i64 x.first) ∧ w.cell? ⟨b, o + i * 3 + 2, none⟩ = some (.int .i64 x.second) := by
  obtain ⟨b, o, ha, hc⟩ := RdK.cells h choC_len hn
  exact ⟨b, o, ha, fun i x hx => ⟨hc i x hx 0 (by omega), hc i x hx 1 (by omega), hc i x hx 2 (by omega)⟩⟩
end Go.Proofs.YtcojmmhclklpoaaGreatDoor
namespace Go.Proofs.YtcojmmhclklpoaaGreatDoor
open Go.RowKit Go.Shelf

theorem Rd.take {w : World} {a : Option Addr} {n c : Nat} {l : List Value} (h : Rd w a n c l) (k : Nat) (hk : k ≤ n) : Rd w a k c (l.take k) := by
  refine ⟨by rw [List.length_take, ← h.len]; omega, by have := h.le; omega, h.max, h.nil, fun hn => ?_⟩
  obtain ⟨b, o, ha, hc⟩ := h.at' (by omega)
  refine ⟨b, o, ha, fun i v hv => hc i v ?_⟩
  rw [List.getElem?_take] at hv
  split at hv
  · exact hv
  · cases hv

@[go_sem] theorem bv16_and_out (x : BitVec 16) : bits .and .u16 (U x) 61440 = U (x &&& 61440#16) := by
  have := bv16_and x 61440#16
  rwa [show U 61440#16 = 61440 by decide] at this
theorem out_iff (x : BitVec 16) : (x &&& 61440#16 != 0#16) = decide (4096 ≤ U x) := by
  rw [Bool.eq_iff_iff, bne_iff_ne, decide_eq_true_iff]
  have hx := x.isLt
  constructor
  · intro h
    refine Classical.byContradiction fun hc => h ?_
    have hlt : x.toNat < 2 ^ 12 := by unfold U at hc; omega
    apply BitVec.eq_of_getLsbD_eq
    intro i hi
    simp only [BitVec.getLsbD_and, BitVec.getLsbD_zero]
    by_cases h12 : i < 12
    · have : ∀ i : Fin 12, (61440#16).getLsbD i.val = false := by decide
      rw [this ⟨i, h12⟩, Bool.and_false]
    · have : x.getLsbD i = false := Nat.testBit_lt_two_pow (Nat.lt_of_lt_of_le hlt (Nat.pow_le_pow_right (by decide) (by omega)))
      rw [this, Bool.false_and]
  · intro h hc
    have hlt : x.toNat < 2 ^ 12 := by
      apply Nat.lt_pow_two_of_testBit
      intro i hi
      by_cases h16 : i < 16
      · have h1 := congrArg (fun y => y.getLsbD i) hc
        simp only [BitVec.getLsbD_and, BitVec.getLsbD_zero] at h1
        have : ∀ i : Fin 4, (61440#16).getLsbD (i.val + 12) = true := by decide
        have h2 := this ⟨i - 12, by omega⟩
        simp only [show i - 12 + 12 = i by omega] at h2
        rw [h2, Bool.and_true] at h1
        exact h1
      · exact Nat.testBit_lt_two_pow (Nat.lt_of_lt_of_le hx (Nat.pow_le_pow_right (by decide) (by omega)))
    unfold U at h; omega

theorem valS_first {l : List (BitVec 16)} {k : Nat} (hn : ¬ 400 < l.length) (hk : k < l.length) (h : ∀ j, j < k → e1 l j = 0) (he : e1 l k ≠ 0) : valS l = e1 l k := by
  unfold valS
  rw [if_neg hn, firstE_hit _ _ k hk h he, if_pos he]
theorem valS_over {l : List (BitVec 16)} (hn : ¬ 400 < l.length) (h : ∀ j, j < l.length → e1 l j = 0) : valS l = if overB l then 1 else 0 := by
  unfold valS
  rw [if_neg hn, firstE_none _ _ h]; rfl
theorem e1_out {l : List (BitVec 16)} {k : Nat} (h : 4096 ≤ U (l.getD k 0#16)) : e1 l k = 7 := by unfold e1; rw [if_pos h]
theorem e1_zero0 {l : List (BitVec 16)} (h : ¬ 4096 ≤ U (l.getD 0 0#16)) : e1 l 0 = 0 := by unfold e1; rw [if_neg h, if_neg (by omega)]
theorem e1_next {l : List (BitVec 16)} {k : Nat} (h : ¬ 4096 ≤ U (l.getD (k + 1) 0#16)) : e1 l (k + 1) = if 0 ≤ cmpS (l.getD k 0#16) (l.getD (k + 1) 0#16) then 1 else 0 := by
  unfold e1; rw [if_neg h]
  by_cases hc : 0 ≤ cmpS (l.getD k 0#16) (l.getD (k + 1) 0#16)
  · rw [if_pos ⟨by omega, by simpa using hc⟩, if_pos hc]
  · rw [if_neg (fun h => hc (by simpa using h.2)), if_neg hc]

set_option maxRecDepth 100000 in
set_option maxHeartbeats 2000000 in
theorem valid_c (l : List (BitVec 16)) (a : Option Addr) (n c : Nat) (w : World) (h : Rd w a n c (l.map setV2)) :
    Calls Tryz.prog 61 #[.slice a n c] w fun e w' => e = .returned (.int .i64 (valS l)) ∧ Below w.heap.size w w' := by
  have hnl : l.length = n := by have := h.len; simp at this; omega
  have hm := h.max
  have hle := h.le
  unfold maxLen at hm
  have HR := Lib.hid h
  have HN := Lib.hid hnl
  clear h hnl
  by_cases h400 : (400 : Int) < (n : Int)
  · have hV : Hid (valS l = 3) := by show _ = _; unfold valS; rw [if_pos (by have := HN.out; omega)]
    go_enter Tryz.func61, Tryz.ntmps61
    go_wp2_with fail
    go_ret
    exact ⟨by rw [hV.out]; rfl, Below.refl _ _⟩
  · have hd4 : decide ((400 : Int) < (n : Int)) = false := by simpa using h400
    have h400' : Hid (¬ 400 < l.length) := by show ¬ _; have := HN.out; omega
    clear h400
    go_enter Tryz.func61, Tryz.ntmps61
    go_wp2_with fail
    go_loopw [12] (fun i wr => ∃ k : Nat, k ≤ n ∧ i = .int .i64 k ∧ Hid (∀ j, j < k → e1 l j = 0) ∧ Below w.heap.size w wr) (fun i _ => n - (intOf i).toNat)
    case atStart => exact ⟨0, Nat.zero_le _, rfl, Lib.hid (fun j hj => by omega), Below.refl _ _⟩
    case round =>
      obtain ⟨k, hk, rfl, hno, hb⟩ := hrel
      by_cases hlt : k < n
      · obtain ⟨b, o, ha, hcell⟩ := (HR.out.below hb).at' (by omega)
        have hc := hcell k _ (at_cell (by have := HN.out; omega))
        have hlen : Hid (k < l.length) := by show k < _; have := HN.out; omega
        subst ha
        by_cases ho : 4096 ≤ U (l.getD k 0#16)
        · have hV : Hid (valS l = 7) := by show _ = _; rw [valS_first h400'.out hlen.out hno.out (by rw [e1_out ho]; decide), e1_out ho]
          have ho1 := out_iff (l.getD k 0#16)
          obtain ⟨x, hx⟩ : ∃ x, l.getD k 0#16 = x := ⟨_, rfl⟩
          rw [hx] at ho ho1 hc
          rw [decide_eq_true ho] at ho1
          clear hcell hx ho hno
          go_wp2_with fail
          go_ret
          exact ⟨by rw [hV.out]; rfl, hb⟩
        · have ho1 := out_iff (l.getD k 0#16)
          rw [decide_eq_false ho] at ho1
          cases k with
          | zero =>
            have hno' : Hid (∀ j, j < 0 + 1 → e1 l j = 0) := Lib.hid (fun j hj => by obtain rfl : j = 0 := (by omega); exact e1_zero0 ho)
            obtain ⟨x, hx⟩ : ∃ x, l.getD 0 0#16 = x := ⟨_, rfl⟩
            rw [hx] at ho1 hc
            rw [Nat.add_zero] at hc
            clear hcell hx ho hno
            go_wp2_with fail
            go_roundw
            case rel => exact ⟨0 + 1, by omega, rfl, hno', hb⟩
            case measure => simp [intOf]; omega
          | succ k =>
            have hc0 := hcell k _ (at_cell (by have := hlen.out; omega))
            have he := e1_next ho
            by_cases hcmp : 0 ≤ cmpS (l.getD k 0#16) (l.getD (k + 1) 0#16)
            · rw [if_pos hcmp] at he
              have hV : Hid (valS l = 1) := by show _ = _; rw [valS_first h400'.out hlen.out hno.out (by rw [he]; decide), he]
              obtain ⟨x, hx⟩ : ∃ x, l.getD k 0#16 = x := ⟨_, rfl⟩
              obtain ⟨y, hy⟩ : ∃ y, l.getD (k + 1) 0#16 = y := ⟨_, rfl⟩
              have HC := Lib.hid (fun w => compare_c x y _ _ w rfl rfl)
              rw [hx, hy] at hcmp
              rw [hx] at hc0
              rw [hy] at hc ho1
              clear hcell hx hy ho hno he
              go_wp2_with fail
              refine (HC.out _).mono ?_
              rintro e w2 ⟨rfl, hb2⟩
              go_wp2_with fail
              go_ret
              exact ⟨by rw [hV.out]; rfl, Below.next hb hb2⟩
            · rw [if_neg hcmp] at he
              have hno' : Hid (∀ j, j < k + 1 + 1 → e1 l j = 0) := Lib.hid (fun j hj => by
                by_cases h1 : j < k + 1
                · exact hno.out j h1
                · obtain rfl : j = k + 1 := by omega
                  exact he)
              obtain ⟨x, hx⟩ : ∃ x, l.getD k 0#16 = x := ⟨_, rfl⟩
              obtain ⟨y, hy⟩ : ∃ y, l.getD (k + 1) 0#16 = y := ⟨_, rfl⟩
              have HC := Lib.hid (fun w => compare_c x y _ _ w rfl rfl)
              rw [hx, hy] at hcmp
              rw [hx] at hc0
              rw [hy] at hc ho1
              have hcm : decide (0 ≤ cmpS x y) = false := by simpa using hcmp
              clear hcell hx hy ho hno he hcmp
              go_wp2_with fail
              refine (HC.out _).mono ?_
              rintro e w2 ⟨rfl, hb2⟩
              have hb3 := Below.next hb hb2
              clear hb hb2
              go_wp2_with fail
              go_roundw
              case rel => exact ⟨k + 1 + 1, by omega, by go_num, hno', hb3⟩
              case measure => simp [intOf]; omega
      · have hall : Hid (∀ j, j < l.length → e1 l j = 0) := Lib.hid (fun j hj => hno.out j (by have := HN.out; omega))
        clear hno
        go_wp2_with fail
        go_loopw [37] (fun i wr => ∃ k : Nat, k ≤ n ∧ i = .int .i64 k ∧ Hid (∀ j, j < k → accS (l.take j) (l.getD j 0#16) = false) ∧ Below w.heap.size w wr) (fun i _ => n - (intOf i).toNat)
        case atStart => exact ⟨0, Nat.zero_le _, rfl, Lib.hid (fun j hj => by omega), hb⟩
        case round =>
          clear hb
          obtain ⟨i, hi, rfl, hno, hb⟩ := hrel
          by_cases hlt2 : i < n
          · have hRw := HR.out.below hb
            obtain ⟨b, o, ha, hcell⟩ := hRw.at' (by omega)
            have hc := hcell i _ (at_cell (by have := HN.out; omega))
            have hT := hRw.take i (by omega)
            rw [← List.map_take] at hT
            subst ha
            have HA := Lib.hid (accepts_c (l.take i) (l.getD i 0#16) _ i c _ hT)
            cases hq : accS (l.take i) (l.getD i 0#16)
            · have hno' : Hid (∀ j, j < i + 1 → accS (l.take j) (l.getD j 0#16) = false) := Lib.hid (fun j hj => by
                by_cases h1 : j < i
                · exact hno.out j h1
                · obtain rfl : j = i := by omega
                  exact hq)
              rw [hq] at HA
              obtain ⟨x, hx⟩ : ∃ x, l.getD i 0#16 = x := ⟨_, rfl⟩
              rw [hx] at HA hc
              clear hcell hx hq hno hT hRw
              go_wp2_with fail
              refine HA.out.mono ?_
              rintro e w2 ⟨rfl, hb2⟩
              have hb3 := Below.next hb hb2
              clear hb hb2
              go_wp2_with fail
              go_roundw
              case rel => exact ⟨i + 1, by omega, by go_num, hno', hb3⟩
              case measure => simp [intOf]; omega
            · have hV : Hid (valS l = 1) := by
                show _ = _
                rw [valS_over h400'.out hall.out, if_pos]
                unfold overB
                exact List.any_eq_true.2 ⟨i, List.mem_range.2 (by have := HN.out; omega), hq⟩
              rw [hq] at HA
              obtain ⟨x, hx⟩ : ∃ x, l.getD i 0#16 = x := ⟨_, rfl⟩
              rw [hx] at HA hc
              clear hcell hx hq hno hT hRw
              go_wp2_with fail
              refine HA.out.mono ?_
              rintro e w2 ⟨rfl, hb2⟩
              have hb3 := Below.next hb hb2
              clear hb hb2
              go_wp2_with fail
              go_ret
              exact ⟨by rw [hV.out]; rfl, hb3⟩
          · have hV : Hid (valS l = 0) := by
              show _ = _
              rw [valS_over h400'.out hall.out, if_neg]
              intro hc
              unfold overB at hc
              obtain ⟨j, hj, hq⟩ := List.any_eq_true.1 hc
              have := hno.out j (by have := List.mem_range.1 hj; have := HN.out; omega)
              rw [this] at hq; cases hq
            clear hno
            go_wp2_with fail
            go_ret
            exact ⟨by rw [hV.out]; rfl, hb⟩
end Go.Proofs.YtcojmmhclklpoaaGreatDoor
namespace Go.Proofs.YtcojmmhclklpoaaGreatDoor
open Go.RowKit Go.Shelf

theorem getD_atI {l : List Int} {k : Nat} (h : k < l.length) : l.getD k 0 = l[k] := by rw [List.getD_eq_getElem?_getD, List.getElem?_eq_getElem h]; rfl
theorem at_someI {l : List (Int)} {k : Nat} (h : k < l.length) : l[k]? = some (l.getD k 0) := by rw [List.getElem?_eq_getElem h, getD_atI h]
theorem at_cellI {l : List (Int)} {k : Nat} (h : k < l.length) : (l.map (Value.int .i64))[k]? = some (.int .i64 (l.getD k 0)) := by rw [List.getElem?_map, at_someI h]; rfl
theorem any_hitI {p : Int → Bool} {l : List (Int)} {k : Nat} (h : k < l.length) (hp : p (l.getD k 0) = true) : l.any p = true :=
  List.any_eq_true.2 ⟨_, by rw [getD_atI h]; exact List.getElem_mem h, hp⟩
theorem any_noneI {p : Int → Bool} {l : List (Int)} (h : ∀ j, j < l.length → p (l.getD j 0) = false) : l.any p = false := by
  rw [Bool.eq_false_iff]
  intro hc
  obtain ⟨x, hx, hp⟩ := List.any_eq_true.1 hc
  obtain ⟨j, hj, rfl⟩ := List.mem_iff_getElem.1 hx
  rw [← getD_atI hj, h j hj] at hp; cases hp

/-- the first place of a set, or -1 -/
def idxI (p : Int → Bool) (l : List (Int)) : Int := if l.any p then (l.findIdx p : Int) else -1
theorem idxI_hit {p : Int → Bool} {l : List (Int)} {k : Nat} (hk : k < l.length) (h : ∀ j, j < k → p (l.getD j 0) = false) (hp : p (l.getD k 0) = true) : idxI p l = k := by
  unfold idxI
  rw [if_pos (any_hitI hk hp)]
  have : l.findIdx p = k := by
    rw [List.findIdx_eq hk]
    refine ⟨by rw [← getD_atI hk]; exact hp, fun j hj => ?_⟩
    have := h j hj
    rw [getD_atI (by omega)] at this
    exact this
  rw [this]
theorem idxI_none {p : Int → Bool} {l : List (Int)} (h : ∀ j, j < l.length → p (l.getD j 0) = false) : idxI p l = -1 := by
  unfold idxI; rw [any_noneI h]; rfl
theorem idxI_ge (p : Int → Bool) (l : List (Int)) : decide (0 ≤ idxI p l) = l.any p := by
  unfold idxI
  cases l.any p <;> simp

set_option maxRecDepth 100000 in
set_option maxHeartbeats 1000000 in
theorem idxFI_c (g : Nat) (lb : Array Value) (eg : ∀ args w, (callFunc g args).run Tryz.prog w = .ok (.enter g args) w) (p : Int → Bool) (l : List (Int)) (a : Option Addr) (n c : Nat) (w : World)
    (h : Rd w a n c (l.map (Value.int .i64))) (hp : PredAt Tryz.prog g lb (Value.int .i64) p w) :
    Calls Tryz.prog 125 #[.slice a n c, .func (.func g) #[] lb] w fun e w' => e = .returned (.int .i64 (idxI p l)) ∧ Below w.heap.size w w' := by
  have hn : n ≤ l.length ∧ l.length ≤ n := by have := h.len; simp at this; omega
  obtain ⟨hn1, hn2⟩ := hn
  have hm := h.max
  have hle := h.le
  unfold maxLen at hm
  have HP := Lib.hid hp
  have HR := Lib.hid h
  clear hp h
  go_enter Tryz.func125, Tryz.ntmps125
  go_wp2_with fail
  go_loopw [8] (fun i wr => ∃ k : Nat, k ≤ n ∧ i = .int .i64 k ∧ Hid (∀ j, j < k → p (l.getD j 0) = false) ∧ Below w.heap.size w wr) (fun i _ => n - (intOf i).toNat)
  case atStart => exact ⟨0, Nat.zero_le _, rfl, Lib.hid (fun j hj => by omega), Below.refl _ _⟩
  case round =>
    obtain ⟨k, hk, rfl, hno, hb⟩ := hrel
    by_cases hlt : k < n
    · obtain ⟨b, o, ha, hcell⟩ := (HR.out.below hb).at' (by omega)
      have hc := hcell k _ (at_cellI (by omega))
      subst ha
      have HF : Hid (Calls Tryz.prog g (#[.int .i64 (l.getD k 0)] ++ lb) wr fun e w' => e = .returned (.bool (p (l.getD k 0))) ∧ ∃ q, w' = wr.drewN q) := HP.out wr (l.getD k 0) hb
      cases hq : p (l.getD k 0)
      · have hno' : Hid (∀ j, j < k + 1 → p (l.getD j 0) = false) := Lib.hid (fun j hj => by
          by_cases h1 : j < k
          · exact hno.out j h1
          · obtain rfl : j = k := by omega
            exact hq)
        rw [hq] at HF
        obtain ⟨x, hx⟩ : ∃ x, l.getD k 0 = x := ⟨_, rfl⟩
        rw [hx] at hc HF
        clear hq hcell hno hx
        go_wp2_with (go_at_fn g; refine HF.out.mono ?_; rintro e w' ⟨rfl, q, rfl⟩)
        go_roundw
        case rel => exact ⟨k + 1, by omega, by go_num, hno', below_drewN hb⟩
        case measure => simp [intOf]; omega
      · have hI : Hid (idxI p l = k) := idxI_hit (by omega) hno.out hq
        rw [hq] at HF
        obtain ⟨x, hx⟩ : ∃ x, l.getD k 0 = x := ⟨_, rfl⟩
        rw [hx] at hc HF
        clear hq hcell hno hx
        go_wp2_with (go_at_fn g; refine HF.out.mono ?_; rintro e w' ⟨rfl, q, rfl⟩)
        go_ret
        exact ⟨ret_int hI.out.symm, below_drewN hb⟩
    · have hI : Hid (idxI p l = -1) := idxI_none (fun j hj => hno.out j (by omega))
      clear hno
      go_wp2_with fail
      go_ret
      exact ⟨ret_int hI.out.symm, hb⟩

set_option maxRecDepth 100000 in
set_option maxHeartbeats 1000000 in
theorem containsFI_c (g : Nat) (lb : Array Value) (eg : ∀ args w, (callFunc g args).run Tryz.prog w = .ok (.enter g args) w) (p : Int → Bool) (l : List (Int)) (a : Option Addr) (n c : Nat) (w : World)
    (h : Rd w a n c (l.map (Value.int .i64))) (hp : PredAt Tryz.prog g lb (Value.int .i64) p w) :
    Calls Tryz.prog 111 #[.slice a n c, .func (.func g) #[] lb] w fun e w' => e = .returned (.bool (l.any p)) ∧ Below w.heap.size w w' := by
  have HC := Lib.hid (idxFI_c g lb eg p l a n c w h hp)
  have hi := idxI_ge p l
  clear h hp eg
  obtain ⟨i, hi2⟩ : ∃ i, idxI p l = i := ⟨_, rfl⟩
  rw [hi2] at HC hi
  have HI := Lib.hid hi
  clear hi hi2
  go_enter Tryz.func111, Tryz.ntmps111
  go_wp2_with fail
  refine HC.out.mono ?_
  rintro e w1 ⟨rfl, hb⟩
  go_wp2_with fail
  go_ret
  exact ⟨ret_bool HI.out, hb⟩


theorem heavy_at (w : World) : PredAt Tryz.prog 109 #[] (Value.int .i64) hvyB w := fun W x hb => by
  unfold FnGives
  clear hb
  by_cases h1 : x < 1
  · have hv : hvyB x = true := by unfold hvyB; simp [h1]
    have hd : decide (x < 1) = true := decide_eq_true h1
    rw [hv]; clear hv h1
    go_enter Tryz.func109, Tryz.ntmps109
    go_wp2_with fail
    go_ret
    exact ⟨rfl, 0, rfl⟩
  · have hv : hvyB x = decide (1000 < x) := by unfold hvyB; simp [h1]
    have hd : decide (x < 1) = false := decide_eq_false h1
    rw [hv]; clear hv h1
    go_enter Tryz.func109, Tryz.ntmps109
    go_wp2_with fail
    go_ret
    exact ⟨rfl, 0, rfl⟩
theorem unknown_at (w : World) (B : Nat) (i : Nat) (hc : w.cell? ⟨B, 0, none⟩ = some (.int .i64 i)) : PredAt Tryz.prog 110 #[.pointer (some ⟨B, 0, none⟩)] (Value.int .i64) (unkB i) w := fun W x hb => by
  have hc' : W.cell? ⟨B, 0, none⟩ = some (.int .i64 i) := (hb.cell (p := ⟨B, 0, none⟩) (cell_lt hc)).trans hc
  unfold FnGives
  clear hb hc
  by_cases h1 : x < 0
  · have hv : unkB i x = true := by unfold unkB; simp [h1]
    have hd : decide (x < 0) = true := decide_eq_true h1
    rw [hv]; clear hv h1
    go_enter Tryz.func110, Tryz.ntmps110
    go_wp2_with fail
    go_ret
    exact ⟨rfl, 0, rfl⟩
  · have hv : unkB i x = decide ((i : Int) ≤ x) := by unfold unkB; simp [h1]
    have hd : decide (x < 0) = false := decide_eq_false h1
    rw [hv]; clear hv h1
    go_enter Tryz.func110, Tryz.ntmps110
    go_wp2_with fail
    go_ret
    exact ⟨rfl, 0, rfl⟩

/-- a node's error by numbers -/
def nodF (kind server need : Int) (nw nk : Nat) (hv un : Bool) : Int :=
  if (kind ≠ 1 ∧ kind ≠ 2) ∨ (kind = 1 ∧ (need ≠ 0 ∨ nw ≠ 0 ∨ nk ≠ 0)) ∨ (kind = 2 ∧ server ≠ 0) then 1
  else if (server < 0 ∨ 12 ≤ server ∨ need < 0 ∨ 100000 < need) ∨ hv = true then 7
  else if nw ≠ 0 ∧ nw ≠ nk then 6
  else if un = true then 4 else 0
theorem nodE_F (nd : Nod) (i : Nat) : nodE nd i = nodF nd.kind nd.server nd.need nd.weights.length nd.kids.length (nd.weights.any hvyB) (nd.kids.any (unkB i)) := by
  have e : ∀ l : List Int, (l ≠ []) = (l.length ≠ 0) := fun l => by cases l <;> simp
  unfold nodE nodF
  simp only [e]

set_option maxRecDepth 100000 in
set_option maxHeartbeats 2000000 in
theorem xvalid_c (nd : Nod) (i : Nat) (aw : Option Addr) (nw cw : Nat) (ak : Option Addr) (nk ck : Nat) (w : World) (hw : Rd w aw nw cw (nd.weights.map (Value.int .i64))) (hk : Rd w ak nk ck (nd.kids.map (Value.int .i64))) :
    Calls Tryz.prog 80 #[.agg #[.int .i64 nd.kind, .int .i64 nd.server, .int .i64 nd.need, .slice aw nw cw, .slice ak nk ck], .int .i64 i] w fun e w' => e = .returned (.int .i64 (nodE nd i)) ∧ Below w.heap.size w w' := by
  obtain ⟨W2, hW2⟩ : ∃ W2, W2 = (w.alloc (Obj.cells #[Value.int IntKind.i64 nd.kind, Value.int IntKind.i64 nd.server, Value.int IntKind.i64 nd.need, Value.slice aw nw cw, Value.slice ak nk ck] 71)).alloc (Obj.cells #[Value.int IntKind.i64 i] 3) := ⟨_, rfl⟩
  have hb2 : Below w.heap.size w W2 := by rw [hW2]; exact ((Below.refl _ w).alloc (Nat.le_refl _) _).alloc (by simp) _
  have hcell : W2.cell? ⟨w.heap.size + 1, 0, none⟩ = some (.int .i64 i) := by
    rw [hW2]; exact cell_new' _ _ _ 0 _ rfl (by simp)
  have H1 : Hid (∀ y, Below W2.heap.size W2 y → Calls Tryz.prog 111 #[.slice aw nw cw, .func (.func 109) #[] #[]] y fun e w' => e = .returned (.bool (nd.weights.any hvyB)) ∧ Below y.heap.size y w') :=
    Lib.hid (fun y hb => containsFI_c 109 #[] (enters_of Tryz.func109 (by kernel_rfl) rfl) hvyB nd.weights aw nw cw y (hw.below (Below.next hb2 hb)) (heavy_at y))
  have H2 : Hid (∀ y, Below W2.heap.size W2 y → Calls Tryz.prog 111 #[.slice ak nk ck, .func (.func 110) #[] #[.pointer (some ⟨w.heap.size + 1, 0, none⟩)]] y fun e w' => e = .returned (.bool (nd.kids.any (unkB i))) ∧ Below y.heap.size y w') :=
    Lib.hid (fun y hb => containsFI_c 110 #[.pointer (some ⟨w.heap.size + 1, 0, none⟩)] (enters_of Tryz.func110 (by kernel_rfl) rfl) (unkB i) nd.kids ak nk ck y (hk.below (Below.next hb2 hb)) (unknown_at y (w.heap.size + 1) i ((hb.cell (p := ⟨w.heap.size + 1, 0, none⟩) (cell_lt hcell)).trans hcell)))
  have HC : Hid (∀ y, Below W2.heap.size W2 y → y.cell? ⟨w.heap.size, 3, none⟩ = some (.slice aw nw cw) ∧ y.cell? ⟨w.heap.size, 4, none⟩ = some (.slice ak nk ck)) := Lib.hid (fun y hb => by
    have q3 : W2.cell? ⟨w.heap.size, 3, none⟩ = some (.slice aw nw cw) := by rw [hW2]; exact cell_of_row _ _ 3 _ _ _ (heap_alloc_at (heap_alloc_new _ _) _)
    have q4 : W2.cell? ⟨w.heap.size, 4, none⟩ = some (.slice ak nk ck) := by rw [hW2]; exact cell_of_row _ _ 4 _ _ _ (heap_alloc_at (heap_alloc_new _ _) _)
    exact ⟨cell_keep hb q3, cell_keep hb q4⟩)
  have hlw : nd.weights.length = nw := by have := hw.len; simp at this; omega
  have hlk : nd.kids.length = nk := by have := hk.len; simp at this; omega
  have hE := nodE_F nd i
  rw [hlw, hlk] at hE
  rw [hE]
  have HB2 := Lib.hid hb2
  obtain ⟨hv, hhv⟩ : ∃ hv, nd.weights.any hvyB = hv := ⟨_, rfl⟩
  obtain ⟨un, hun⟩ : ∃ un, nd.kids.any (unkB i) = un := ⟨_, rfl⟩
  rw [hhv] at H1 ⊢
  rw [hun] at H2 ⊢
  obtain ⟨kind, server, need, ws, ks⟩ := nd
  simp only at hW2 H1 H2 ⊢
  clear hw hk hlw hlk hE hhv hun hcell hb2 ws ks
  by_cases k1 : kind = 1
  · subst k1
    by_cases n0 : need = 0
    · subst n0
      by_cases w0 : nw = 0
      · subst w0
        by_cases c0 : nk = 0
        · subst c0
          by_cases t0 : server < 0
          · have d0 : decide (server < 0) = true := decide_eq_true t0
            have hV : Hid (nodF 1 server 0 0 0 hv un = 7) := by show _ = _; unfold nodF; rw [if_neg (by omega), if_pos (by omega)]
            clear t0
            go_enter Tryz.func80, Tryz.ntmps80
            go_wp2_with fail
            go_ret
            exact ⟨ret_int hV.out.symm, by rw [← hW2]; exact HB2.out⟩
          have d0 : decide (server < 0) = false := decide_eq_false t0
          by_cases t1 : (12 : Int) ≤ server
          · have d1 : decide ((12 : Int) ≤ server) = true := decide_eq_true t1
            have hV : Hid (nodF 1 server 0 0 0 hv un = 7) := by show _ = _; unfold nodF; rw [if_neg (by omega), if_pos (by omega)]
            clear t1
            go_enter Tryz.func80, Tryz.ntmps80
            go_wp2_with fail
            go_ret
            exact ⟨ret_int hV.out.symm, by rw [← hW2]; exact HB2.out⟩
          have d1 : decide ((12 : Int) ≤ server) = false := decide_eq_false t1
          cases hv with
          | true =>
            have hV : Hid (nodF 1 server 0 0 0 true un = 7) := by show _ = _; unfold nodF; rw [if_neg (by omega), if_pos (.inr rfl)]
            clear t0 t1
            go_enter Tryz.func80, Tryz.ntmps80
            go_wp2_with fail
            rw [← hW2]; with_reducible refine (H1.out _ (Below.refl _ _)).mono ?_; rintro e w1 ⟨rfl, hb1⟩; obtain ⟨q3, q4⟩ := HC.out w1 hb1; have K1 := Lib.hid hb1; clear hb1
            go_wp2_with fail
            go_ret
            exact ⟨ret_int hV.out.symm, Below.next HB2.out K1.out⟩
          | false =>
            cases un with
            | true =>
              have hV : Hid (nodF 1 server 0 0 0 false true = 4) := by show _ = _; unfold nodF; rw [if_neg (by omega), if_neg (by simp; omega), if_neg (by omega), if_pos rfl]
              clear t0 t1
              go_enter Tryz.func80, Tryz.ntmps80
              go_wp2_with fail
              rw [← hW2]; with_reducible refine (H1.out _ (Below.refl _ _)).mono ?_; rintro e w1 ⟨rfl, hb1⟩; obtain ⟨q3, q4⟩ := HC.out w1 hb1; have K1 := Lib.hid hb1; clear hb1
              go_wp2_with fail
              with_reducible refine (H2.out w1 K1.out).mono ?_; rintro e w5 ⟨rfl, hb5⟩
              go_wp2_with fail
              go_ret
              exact ⟨ret_int hV.out.symm, Below.next HB2.out (Below.next K1.out hb5)⟩
            | false =>
              have hV : Hid (nodF 1 server 0 0 0 false false = 0) := by show _ = _; unfold nodF; rw [if_neg (by omega), if_neg (by simp; omega), if_neg (by omega), if_neg (by decide)]
              clear t0 t1
              go_enter Tryz.func80, Tryz.ntmps80
              go_wp2_with fail
              rw [← hW2]; with_reducible refine (H1.out _ (Below.refl _ _)).mono ?_; rintro e w1 ⟨rfl, hb1⟩; obtain ⟨q3, q4⟩ := HC.out w1 hb1; have K1 := Lib.hid hb1; clear hb1
              go_wp2_with fail
              with_reducible refine (H2.out w1 K1.out).mono ?_; rintro e w5 ⟨rfl, hb5⟩
              go_wp2_with fail
              go_ret
              exact ⟨ret_int hV.out.symm, Below.next HB2.out (Below.next K1.out hb5)⟩
        · have hd : decide (0 < nk) = true := decide_eq_true (by omega)
          have hV : Hid (nodF 1 server 0 0 nk hv un = 1) := by show _ = _; unfold nodF; rw [if_pos (by omega)]
          clear c0
          go_enter Tryz.func80, Tryz.ntmps80
          go_wp2_with fail
          go_ret
          exact ⟨ret_int hV.out.symm, by rw [← hW2]; exact HB2.out⟩
      · have hd : decide (0 < nw) = true := decide_eq_true (by omega)
        have hV : Hid (nodF 1 server 0 nw nk hv un = 1) := by show _ = _; unfold nodF; rw [if_pos (by omega)]
        clear w0
        go_enter Tryz.func80, Tryz.ntmps80
        go_wp2_with fail
        go_ret
        exact ⟨ret_int hV.out.symm, by rw [← hW2]; exact HB2.out⟩
    · have hd : (need != 0) = true := by simpa using n0
      have hV : Hid (nodF 1 server need nw nk hv un = 1) := by show _ = _; unfold nodF; rw [if_pos (by omega)]
      clear n0
      go_enter Tryz.func80, Tryz.ntmps80
      go_wp2_with fail
      go_ret
      exact ⟨ret_int hV.out.symm, by rw [← hW2]; exact HB2.out⟩
  · have hk1 : (kind == 1) = false := by simpa using k1
    by_cases k2 : kind = 2
    · subst k2
      by_cases s0 : server = 0
      · subst s0
        by_cases t0 : need < 0
        · have d0 : decide (need < 0) = true := decide_eq_true t0
          have hV : Hid (nodF 2 0 need nw nk hv un = 7) := by show _ = _; unfold nodF; rw [if_neg (by omega), if_pos (by omega)]
          clear t0
          go_enter Tryz.func80, Tryz.ntmps80
          go_wp2_with fail
          go_ret
          exact ⟨ret_int hV.out.symm, by rw [← hW2]; exact HB2.out⟩
        have d0 : decide (need < 0) = false := decide_eq_false t0
        by_cases t1 : (100000 : Int) < need
        · have d1 : decide ((100000 : Int) < need) = true := decide_eq_true t1
          have hV : Hid (nodF 2 0 need nw nk hv un = 7) := by show _ = _; unfold nodF; rw [if_neg (by omega), if_pos (by omega)]
          clear t1
          go_enter Tryz.func80, Tryz.ntmps80
          go_wp2_with fail
          go_ret
          exact ⟨ret_int hV.out.symm, by rw [← hW2]; exact HB2.out⟩
        have d1 : decide ((100000 : Int) < need) = false := decide_eq_false t1
        cases hv with
        | true =>
          have hV : Hid (nodF 2 0 need nw nk true un = 7) := by show _ = _; unfold nodF; rw [if_neg (by omega), if_pos (.inr rfl)]
          clear t0 t1
          go_enter Tryz.func80, Tryz.ntmps80
          go_wp2_with fail
          rw [← hW2]; with_reducible refine (H1.out _ (Below.refl _ _)).mono ?_; rintro e w1 ⟨rfl, hb1⟩; obtain ⟨q3, q4⟩ := HC.out w1 hb1; have K1 := Lib.hid hb1; clear hb1
          go_wp2_with fail
          go_ret
          exact ⟨ret_int hV.out.symm, Below.next HB2.out K1.out⟩
        | false =>
          by_cases w0 : nw = 0
          · subst w0
            cases un with
            | true =>
              have hV : Hid (nodF 2 0 need 0 nk false true = 4) := by show _ = _; unfold nodF; rw [if_neg (by omega), if_neg (by simp; omega), if_neg (by omega), if_pos rfl]
              clear t0 t1
              go_enter Tryz.func80, Tryz.ntmps80
              go_wp2_with fail
              rw [← hW2]; with_reducible refine (H1.out _ (Below.refl _ _)).mono ?_; rintro e w1 ⟨rfl, hb1⟩; obtain ⟨q3, q4⟩ := HC.out w1 hb1; have K1 := Lib.hid hb1; clear hb1
              go_wp2_with fail
              with_reducible refine (H2.out w1 K1.out).mono ?_; rintro e w5 ⟨rfl, hb5⟩
              go_wp2_with fail
              go_ret
              exact ⟨ret_int hV.out.symm, Below.next HB2.out (Below.next K1.out hb5)⟩
            | false =>
              have hV : Hid (nodF 2 0 need 0 nk false false = 0) := by show _ = _; unfold nodF; rw [if_neg (by omega), if_neg (by simp; omega), if_neg (by omega), if_neg (by decide)]
              clear t0 t1
              go_enter Tryz.func80, Tryz.ntmps80
              go_wp2_with fail
              rw [← hW2]; with_reducible refine (H1.out _ (Below.refl _ _)).mono ?_; rintro e w1 ⟨rfl, hb1⟩; obtain ⟨q3, q4⟩ := HC.out w1 hb1; have K1 := Lib.hid hb1; clear hb1
              go_wp2_with fail
              with_reducible refine (H2.out w1 K1.out).mono ?_; rintro e w5 ⟨rfl, hb5⟩
              go_wp2_with fail
              go_ret
              exact ⟨ret_int hV.out.symm, Below.next HB2.out (Below.next K1.out hb5)⟩
          · have dw : decide (0 < nw) = true := decide_eq_true (by omega)
            by_cases e0 : nw = nk
            · subst e0
              cases un with
              | true =>
                have hV : Hid (nodF 2 0 need nw nw false true = 4) := by show _ = _; unfold nodF; rw [if_neg (by omega), if_neg (by simp; omega), if_neg (by omega), if_pos rfl]
                clear t0 t1 w0
                go_enter Tryz.func80, Tryz.ntmps80
                go_wp2_with fail
                rw [← hW2]; with_reducible refine (H1.out _ (Below.refl _ _)).mono ?_; rintro e w1 ⟨rfl, hb1⟩; obtain ⟨q3, q4⟩ := HC.out w1 hb1; have K1 := Lib.hid hb1; clear hb1
                go_wp2_with fail
                with_reducible refine (H2.out w1 K1.out).mono ?_; rintro e w5 ⟨rfl, hb5⟩
                go_wp2_with fail
                go_ret
                exact ⟨ret_int hV.out.symm, Below.next HB2.out (Below.next K1.out hb5)⟩
              | false =>
                have hV : Hid (nodF 2 0 need nw nw false false = 0) := by show _ = _; unfold nodF; rw [if_neg (by omega), if_neg (by simp; omega), if_neg (by omega), if_neg (by decide)]
                clear t0 t1 w0
                go_enter Tryz.func80, Tryz.ntmps80
                go_wp2_with fail
                rw [← hW2]; with_reducible refine (H1.out _ (Below.refl _ _)).mono ?_; rintro e w1 ⟨rfl, hb1⟩; obtain ⟨q3, q4⟩ := HC.out w1 hb1; have K1 := Lib.hid hb1; clear hb1
                go_wp2_with fail
                with_reducible refine (H2.out w1 K1.out).mono ?_; rintro e w5 ⟨rfl, hb5⟩
                go_wp2_with fail
                go_ret
                exact ⟨ret_int hV.out.symm, Below.next HB2.out (Below.next K1.out hb5)⟩
            · have dn : ((nw : Int) != (nk : Int)) = true := by rw [bne_iff_ne]; omega
              have hV : Hid (nodF 2 0 need nw nk false un = 6) := by show _ = _; unfold nodF; rw [if_neg (by omega), if_neg (by simp; omega), if_pos (by omega)]
              clear t0 t1 w0 e0
              go_enter Tryz.func80, Tryz.ntmps80
              go_wp2_with fail
              rw [← hW2]; with_reducible refine (H1.out _ (Below.refl _ _)).mono ?_; rintro e w1 ⟨rfl, hb1⟩; obtain ⟨q3, q4⟩ := HC.out w1 hb1; have K1 := Lib.hid hb1; clear hb1
              go_wp2_with fail
              go_ret
              exact ⟨ret_int hV.out.symm, Below.next HB2.out K1.out⟩
      · have hd : (server != 0) = true := by simpa using s0
        have hV : Hid (nodF 2 server need nw nk hv un = 1) := by show _ = _; unfold nodF; rw [if_pos (by omega)]
        clear s0
        go_enter Tryz.func80, Tryz.ntmps80
        go_wp2_with fail
        go_ret
        exact ⟨ret_int hV.out.symm, by rw [← hW2]; exact HB2.out⟩
    · have hk2 : (kind == 2) = false := by simpa using k2
      have hV : Hid (nodF kind server need nw nk hv un = 1) := by show _ = _; unfold nodF; rw [if_pos (by omega)]
      clear k1 k2
      go_enter Tryz.func80, Tryz.ntmps80
      go_wp2_with fail
      go_ret
      exact ⟨ret_int hV.out.symm, by rw [← hW2]; exact HB2.out⟩
end Go.Proofs.YtcojmmhclklpoaaGreatDoor
namespace Go.Proofs.YtcojmmhclklpoaaGreatDoor
open Go.RowKit Go.Shelf

theorem xprE_hit {x : Xpr} {k : Nat} {nd : Nod} (h0 : x.nodes ≠ []) (h60 : ¬ 60 < x.nodes.length) (h : x.nodes[k]? = some nd) (hd : nodsE x.nodes 0 = nodsE (x.nodes.drop k) k) (he : nodE nd k ≠ 0) : xprE x = nodE nd k := by
  have : nodsE x.nodes 0 = nodE nd k := by rw [hd, nodsE_drop h, if_pos he]
  unfold xprE
  rw [if_neg h0, if_neg h60, this, if_pos he]
theorem xprE_next {x : Xpr} {k : Nat} {nd : Nod} (h : x.nodes[k]? = some nd) (hd : nodsE x.nodes 0 = nodsE (x.nodes.drop k) k) (he : nodE nd k = 0) : nodsE x.nodes 0 = nodsE (x.nodes.drop (k + 1)) (k + 1) := by
  rw [hd, nodsE_drop h, if_neg (by simpa using he)]
theorem xprE_end {x : Xpr} {n : Nat} (h0 : x.nodes ≠ []) (h60 : ¬ 60 < x.nodes.length) (hn : x.nodes.length = n) (hd : nodsE x.nodes 0 = nodsE (x.nodes.drop n) n) : xprE x = if x.root < 0 ∨ (n : Int) ≤ x.root then 4 else 0 := by
  have : nodsE x.nodes 0 = 0 := by rw [hd, ← hn, List.drop_length]; rfl
  unfold xprE
  rw [if_neg h0, if_neg h60, this, if_neg (by simp), hn]

set_option maxRecDepth 100000 in
set_option maxHeartbeats 2000000 in
theorem xpr_c (x : Xpr) (a : Option Addr) (n c : Nat) (w : World) (h : XM w a n c x.nodes) :
    Calls Tryz.prog 40 #[.agg #[.slice a n c, .int .i64 x.root]] w fun e w' => e = .returned (.int .i64 (xprE x)) ∧ Below w.heap.size w w' := by
  obtain ⟨W2, hW2⟩ : ∃ W2, W2 = w.alloc (Obj.cells #[.slice a n c, .int .i64 x.root] 32) := ⟨_, rfl⟩
  have hb2 : Below w.heap.size w W2 := by rw [hW2]; exact (Below.refl _ w).alloc (Nat.le_refl _) _
  have HX := Lib.hid (h.below hb2)
  have HN := Lib.hid h.len
  have hle := h.le
  have hm := h.max
  unfold maxLen at hm
  have HB2 := Lib.hid hb2
  clear h hb2
  by_cases hn0 : n = 0
  · subst hn0
    have hV : Hid (xprE x = 9) := by
      show _ = _; unfold xprE; rw [if_pos (List.eq_nil_of_length_eq_zero HN.out)]
    go_enter Tryz.func40, Tryz.ntmps40
    go_wp2_with fail
    go_ret
    exact ⟨ret_int hV.out.symm, by rw [← hW2]; exact HB2.out⟩
  have hne : ((n : Int) == 0) = false := by rw [beq_eq_false_iff_ne]; omega
  have H0 : Hid (x.nodes ≠ []) := Lib.hid (fun e => by have := HN.out; rw [e] at this; simp at this; omega)
  by_cases h60 : 60 < n
  · have hd : decide ((60 : Int) < (n : Int)) = true := decide_eq_true (by omega)
    have hV : Hid (xprE x = 3) := by
      show _ = _; unfold xprE; rw [if_neg H0.out, if_pos (by have := HN.out; omega)]
    clear hn0 h60
    go_enter Tryz.func40, Tryz.ntmps40
    go_wp2_with fail
    go_ret
    exact ⟨ret_int hV.out.symm, by rw [← hW2]; exact HB2.out⟩
  have hd : decide ((60 : Int) < (n : Int)) = false := decide_eq_false (by omega)
  have H60 : Hid (¬ 60 < x.nodes.length) := by show ¬ _; have := HN.out; omega
  go_enter Tryz.func40, Tryz.ntmps40
  go_wp2_with fail
  rw [← hW2]
  go_loopw [17] (fun i wr => ∃ k : Nat, k ≤ n ∧ i = .int .i64 k ∧ Hid (nodsE x.nodes 0 = nodsE (x.nodes.drop k) k) ∧ Below W2.heap.size W2 wr) (fun i _ => n - (intOf i).toNat)
  case atStart => exact ⟨0, Nat.zero_le _, rfl, Lib.hid (by simp), Below.refl _ _⟩
  case round =>
    obtain ⟨k, hk, rfl, hno, hb⟩ := hrel
    by_cases hlt : k < n
    · obtain ⟨nd, hnd⟩ : ∃ nd, x.nodes[k]? = some nd := ⟨_, List.getElem?_eq_getElem (by have := HN.out; omega)⟩
      obtain ⟨b, o, ha, hat⟩ := (HX.out.below hb).at' (by omega)
      have hM := hat k nd hnd
      obtain ⟨a3, n3, c3, m3, r3⟩ := hM.ws
      obtain ⟨a4, n4, c4, m4, r4⟩ := hM.ks
      have m0 := hM.c0
      have m1 := hM.c1
      have m2 := hM.c2
      subst ha
      have HV : Hid (∀ y, Below wr.heap.size wr y → Calls Tryz.prog 80 #[.agg #[.int .i64 nd.kind, .int .i64 nd.server, .int .i64 nd.need, .slice a3 n3 c3, .slice a4 n4 c4], .int .i64 k] y fun e w' => e = .returned (.int .i64 (nodE nd k)) ∧ Below y.heap.size y w') :=
        Lib.hid (fun y hy => xvalid_c nd k a3 n3 c3 a4 n4 c4 y (r3.below hy) (r4.below hy))
      have HHit : Hid (nodE nd k ≠ 0 → xprE x = nodE nd k) := Lib.hid (fun he => xprE_hit H0.out H60.out hnd hno.out he)
      have HNxt : Hid (nodE nd k = 0 → nodsE x.nodes 0 = nodsE (x.nodes.drop (k + 1)) (k + 1)) := Lib.hid (fun he => xprE_next hnd hno.out he)
      obtain ⟨kind, server, need, ws, ks⟩ := nd
      obtain ⟨E, hE⟩ : ∃ E, nodE ⟨kind, server, need, ws, ks⟩ k = E := ⟨_, rfl⟩
      rw [hE] at HV HHit HNxt
      simp only at m0 m1 m2 HV
      clear hM r3 r4 hat hnd hno hE
      by_cases he : E = 0
      · subst he
        have hN := HNxt.out rfl
        have HN2 := Lib.hid hN
        clear hN HHit HNxt
        have hba : Below wr.heap.size wr (wr.alloc (Obj.cells #[.int .i64 kind, .int .i64 server, .int .i64 need, .slice a3 n3 c3, .slice a4 n4 c4] 71)) := (Below.refl _ wr).alloc (Nat.le_refl _) _
        go_wp2_with fail
        refine (HV.out _ hba).mono ?_
        rintro e w5 ⟨rfl, hb5⟩
        have hb6 := Below.next hb (Below.next hba hb5)
        go_wp2_with fail
        go_roundw
        case rel => exact ⟨k + 1, by omega, by go_num, HN2, hb6⟩
        case measure => simp [intOf]; omega
      · have hV := HHit.out he
        have HV2 := Lib.hid hV
        have hE : (E != 0) = true := by simpa using he
        clear hV HHit HNxt he
        have hba : Below wr.heap.size wr (wr.alloc (Obj.cells #[.int .i64 kind, .int .i64 server, .int .i64 need, .slice a3 n3 c3, .slice a4 n4 c4] 71)) := (Below.refl _ wr).alloc (Nat.le_refl _) _
        go_wp2_with fail
        refine (HV.out _ hba).mono ?_
        rintro e w5 ⟨rfl, hb5⟩
        have hb6 := Below.next hb (Below.next hba hb5)
        go_wp2_with fail
        go_ret
        exact ⟨ret_int HV2.out.symm, Below.next HB2.out hb6⟩
    · obtain rfl : k = n := by omega
      have hV := xprE_end H0.out H60.out HN.out hno.out
      have hr : W2.cell? ⟨w.heap.size, 0, none⟩ = some (.slice a k c) ∧ W2.cell? ⟨w.heap.size, 1, none⟩ = some (.int .i64 x.root) := by
        rw [hW2]; exact ⟨cell_of_row _ _ 0 _ _ _ (heap_alloc_new _ _), cell_of_row _ _ 1 _ _ _ (heap_alloc_new _ _)⟩
      have q0 := cell_keep hb hr.1
      have q1 := cell_keep hb hr.2
      clear hno hr hW2
      obtain ⟨root, hroot⟩ : ∃ r, x.root = r := ⟨_, rfl⟩
      rw [hroot] at hV q1
      by_cases h1 : root < 0
      · have d1 : decide (root < 0) = true := decide_eq_true h1
        rw [if_pos (.inl h1)] at hV
        have HV := Lib.hid hV
        clear hV h1 hroot
        go_wp2_with fail
        go_ret
        exact ⟨ret_int HV.out.symm, Below.next HB2.out hb⟩
      · have d1 : decide (root < 0) = false := decide_eq_false h1
        by_cases h2 : (k : Int) ≤ root
        · have d2 : decide ((k : Int) ≤ root) = true := decide_eq_true h2
          rw [if_pos (.inr h2)] at hV
          have HV := Lib.hid hV
          clear hV h1 hroot h2
          go_wp2_with fail
          go_ret
          exact ⟨ret_int HV.out.symm, Below.next HB2.out hb⟩
        · have d2 : decide ((k : Int) ≤ root) = false := decide_eq_false h2
          rw [if_neg (by omega)] at hV
          have HV := Lib.hid hV
          clear hV h1 hroot h2
          go_wp2_with fail
          go_ret
          exact ⟨ret_int HV.out.symm, Below.next HB2.out hb⟩

/-- two struct arguments of two cells, laid -/
theorem args22 (w : World) (u0 u1 v0 v1 : Value) (t t' : TypeId) {W : World} (hW : W = (w.alloc (.cells #[u0, u1] t)).alloc (.cells #[v0, v1] t')) :
    Below w.heap.size w W ∧ ∀ y, Below W.heap.size W y → (y.cell? ⟨w.heap.size, 0, none⟩ = some u0 ∧ y.cell? ⟨w.heap.size, 1, none⟩ = some u1) ∧ y.cell? ⟨w.heap.size + 1, 0, none⟩ = some v0 ∧ y.cell? ⟨w.heap.size + 1, 1, none⟩ = some v1 := by
  refine ⟨by rw [hW]; exact ((Below.refl _ w).alloc (Nat.le_refl _) _).alloc (by simp) _, fun y hy => ?_⟩
  have g0 : W.heap[w.heap.size]? = some (.cells #[u0, u1] t (0, 0)) := by rw [hW]; exact heap_alloc_at (heap_alloc_new _ _) _
  have g1 : W.heap[w.heap.size + 1]? = some (.cells #[v0, v1] t' (0, 0)) := by
    rw [hW]
    have := heap_alloc_new (w.alloc (.cells #[u0, u1] t)) (.cells #[v0, v1] t')
    rwa [World.size_alloc] at this
  have e0 := heap_below hy g0
  have e1 := heap_below hy g1
  exact ⟨⟨cell_of_row _ _ 0 _ _ _ e0, cell_of_row _ _ 1 _ _ _ e0⟩, cell_of_row _ _ 0 _ _ _ e1, cell_of_row _ _ 1 _ _ _ e1⟩

end Go.Proofs.YtcojmmhclklpoaaGreatDoor
namespace Go.Proofs.YtcojmmhclklpoaaGreatDoor
open Go.RowKit Go.Shelf

set_option maxRecDepth 100000 in
set_option maxHeartbeats 1000000 in
theorem wgt_c (nd : Nod) (k : Nat) (aw : Option Addr) (nw cw : Nat) (ak : Option Addr) (nk ck : Nat) (w : World) (hw : Rd w aw nw cw (nd.weights.map (Value.int .i64))) (hk : nd.weights = [] ∨ k < nd.weights.length) :
    Calls Tryz.prog 50 #[.agg #[.int .i64 nd.kind, .int .i64 nd.server, .int .i64 nd.need, .slice aw nw cw, .slice ak nk ck], .int .i64 k] w fun e w' => e = .returned (.int .i64 (wgtN nd k)) ∧ Below w.heap.size w w' := by
  have hlw : nd.weights.length = nw := by have := hw.len; simp at this; omega
  have hle := hw.le
  have hm := hw.max
  unfold maxLen at hm
  obtain ⟨W2, hW2⟩ : ∃ W2, W2 = w.alloc (Obj.cells #[.int .i64 nd.kind, .int .i64 nd.server, .int .i64 nd.need, .slice aw nw cw, .slice ak nk ck] 71) := ⟨_, rfl⟩
  have hb2 : Below w.heap.size w W2 := by rw [hW2]; exact (Below.refl _ w).alloc (Nat.le_refl _) _
  have HB2 := Lib.hid hb2
  by_cases h0 : nw = 0
  · have hn : nd.weights = [] := List.eq_nil_of_length_eq_zero (by omega)
    have hV : Hid (wgtN nd k = 1) := by show _ = _; unfold wgtN; rw [if_pos hn]
    subst h0
    clear hn hlw hk hw hb2
    go_enter Tryz.func50, Tryz.ntmps50
    go_wp2_with fail
    go_ret
    exact ⟨ret_int hV.out.symm, by rw [← hW2]; exact HB2.out⟩
  · have hne : ((nw : Int) == 0) = false := by rw [beq_eq_false_iff_ne]; omega
    have hkn : k < nw := by rcases hk with h | h
                            · rw [h] at hlw; simp at hlw; omega
                            · omega
    obtain ⟨z, hz⟩ : ∃ z, nd.weights[k]? = some z := ⟨_, List.getElem?_eq_getElem (by omega)⟩
    have hV : Hid (wgtN nd k = z) := by
      show _ = _; unfold wgtN
      rw [if_neg (fun e => by rw [e] at hlw; simp at hlw; omega), List.getD_eq_getElem?_getD, hz]; rfl
    obtain ⟨b, o, ha, hcell⟩ := (hw.below hb2).at' (by omega)
    have hc := hcell k (.int .i64 z) (by rw [List.getElem?_map, hz]; rfl)
    subst ha
    clear hlw hk hw hb2 hcell hz h0
    rw [hW2] at hc
    go_enter Tryz.func50, Tryz.ntmps50
    go_wp2_with fail
    go_ret
    exact ⟨ret_int hV.out.symm, by rw [← hW2]; exact HB2.out⟩

/-- expressions with few kids -/
def XprFew (x : Xpr) : Prop := ∀ (k : Nat) nd, x.nodes[k]? = some nd → nd.kids.length ≤ 1000
/-- sixty places, the first ones filled -/
def isA (l : List Bool) : Array Value := ((l ++ List.replicate (60 - l.length) false).map Value.bool).toArray
theorem isA_at {l : List Bool} (h : l.length ≤ 60) {i : Nat} (hi : i < 60) : (isA l)[i]? = some (.bool (l.getD i false)) := by
  unfold isA
  rw [List.getElem?_toArray, List.getElem?_map, List.getD_eq_getElem?_getD]
  by_cases h1 : i < l.length
  · rw [List.getElem?_append_left h1, List.getElem?_eq_getElem h1]; rfl
  · rw [List.getElem?_append_right (by omega), List.getElem?_replicate, if_pos (by omega), List.getElem?_eq_none (by omega)]; rfl
theorem isA_set {l : List Bool} (h : l.length < 60) (v : Bool) : (isA l).setIfInBounds l.length (.bool v) = isA (l ++ [v]) := by
  unfold isA
  rw [List.setIfInBounds_toArray]
  congr 1
  have e : 60 - l.length = (60 - (l ++ [v]).length) + 1 := by simp; omega
  rw [e, List.replicate_succ, List.map_append, List.map_append, List.map_append, List.map_cons, List.set_append_right _ _ (by simp)]
  simp

theorem frozen_row {w : World} {B : Nat} {cs : Array Value} {t : TypeId} (h : w.heap[B]? = some (.cells cs t (0, 0))) (i : Nat) : w.frozen? ⟨B, i, none⟩ = false := by simp [World.frozen?, h]

set_option maxRecDepth 100000 in
set_option maxHeartbeats 4000000 in
theorem holds_c (x : Xpr) (hx : XprOk x) (hf : XprFew x) (s : BitVec 16) (a : Option Addr) (n c : Nat) (w : World) (h : XM w a n c x.nodes) :
    Calls Tryz.prog 43 #[.agg #[.slice a n c, .int .i64 x.root], .int .u16 (U s)] w fun e w' => e = .returned (.bool (holdX x s)) ∧ Below w.heap.size w w' := by
  obtain ⟨r, hr⟩ := Int.eq_ofNat_of_zero_le hx.root.1
  have hrn : r < n := by have h1 := hx.root.2; have h2 := h.len; omega
  have hle := h.le
  have hm := h.max
  have hn60 : n ≤ 60 := by have h1 := hx.most; have h2 := h.len; omega
  unfold maxLen at hm
  have hwr : wrap64 ((r : Int) + 1) = (r : Int) + 1 := by unfold wrap64; omega
  have HV := Lib.hid (holdX_root (s := s) hr (by have h2 := h.len; omega))
  rw [hr]
  have HX := Lib.hid h
  have HO := Lib.hid hx
  have HF := Lib.hid hf
  have HN := Lib.hid h.len
  clear h hx hf hr
  obtain ⟨b, o, rfl, _⟩ := HX.out.at' (by omega)
  go_enter Tryz.func43, Tryz.ntmps43
  go_wp2_with fail
  generalize hWS : (w.alloc _).alloc _ = WS
  have hS : WS.heap.size = w.heap.size + 2 := by rw [← hWS]; simp
  have hbS : Below w.heap.size w WS := by rw [← hWS]; exact ((Below.refl _ w).alloc (Nat.le_refl _) _).alloc (by simp) _
  have g1 : WS.heap[w.heap.size + 1]? = some (.cells (isA []) 118 (0, 0)) := by
    rw [← hWS]
    have := heap_alloc_new (w.alloc (Obj.cells #[Value.slice (some { block := b, off := o }) n c, Value.int IntKind.i64 r] 32)) (.cells (isA []) 118)
    rw [World.size_alloc] at this; exact this
  have g0 : WS.heap[w.heap.size]? = some (.cells #[Value.slice (some { block := b, off := o }) n c, Value.int IntKind.i64 r] 32 (0, 0)) := by
    rw [← hWS]; exact heap_alloc_at (heap_alloc_new _ _) _
  have HS := Lib.hid hS
  have HBS := Lib.hid hbS
  have G0 := Lib.hid g0
  have G1 := Lib.hid g1
  clear hWS hS hbS g0 g1
  go_loopw [18] (fun i wr => ∃ k : Nat, k ≤ r + 1 ∧ i = .int .i64 k ∧ wr.heap[w.heap.size + 1]? = some (.cells (isA (holdTo x.nodes s k)) 118 (0, 0)) ∧ wr.heap[w.heap.size]? = some (.cells #[Value.slice (some { block := b, off := o }) n c, Value.int IntKind.i64 r] 32 (0, 0)) ∧ w.heap.size + 2 ≤ wr.heap.size ∧ Below w.heap.size w wr) (fun i _ => r + 1 - (intOf i).toNat)
  case atStart => exact ⟨0, Nat.zero_le _, rfl, G1.out, G0.out, by rw [HS.out]; exact Nat.le_refl _, HBS.out⟩
  case round =>
    obtain ⟨k, hk, rfl, e1, e0, hsz, hb⟩ := hrel
    by_cases hlt : k < r + 1
    · obtain ⟨nd, hnd⟩ : ∃ nd, x.nodes[k]? = some nd := ⟨_, List.getElem?_eq_getElem (by have := HN.out; omega)⟩
      obtain ⟨b', o', ha, hat⟩ := (HX.out.below hb).at' (by omega)
      cases ha
      have hM := hat k nd hnd
      obtain ⟨a3, n3, c3, m3, r3⟩ := hM.ws
      obtain ⟨a4, n4, c4, m4, r4⟩ := hM.ks
      have m0 := hM.c0
      have m1 := hM.c1
      have m2 := hM.c2
      have HOK := Lib.hid (HO.out.node k nd hnd)
      have hfew := HF.out k nd hnd
      have HST : Hid (holdTo x.nodes s (k + 1) = holdTo x.nodes s k ++ [valN nd (holdTo x.nodes s k) s]) := Lib.hid (by
        rw [holdTo]
        rw [show x.nodes.getD k nod0 = nd by rw [List.getD_eq_getElem?_getD, hnd]; rfl])
      have HL := Lib.hid (holdTo_len x.nodes s k)
      obtain ⟨I, hI⟩ : ∃ I, holdTo x.nodes s k = I := ⟨_, rfl⟩
      rw [hI] at e1 HST HL
      obtain ⟨kind, server, need, ws, ks⟩ := nd
      simp only at m0 m1 m2 hfew r3 r4
      have R3 := Lib.hid r3
      have R4 := Lib.hid r4
      have HB := Lib.hid hb
      clear hM r3 r4 hat hnd hI hb
      have hkd : decide ((k : Int) < (r : Int) + 1) = true := decide_eq_true (by omega)
      by_cases hkind : kind = 1
      · subst hkind
        obtain ⟨sv, rfl⟩ := Int.eq_ofNat_of_zero_le HOK.out.server.1
        have hvn : valN ⟨1, sv, need, ws, ks⟩ I s = hasB s sv := rfl
        rw [hvn] at HST
        have ea := heap_alloc_at e1 (Obj.cells #[.int .i64 1, .int .i64 sv, .int .i64 need, .slice a3 n3 c3, .slice a4 n4 c4] 71)
        have z0 := frozen_row ea k
        have z1 := cell_of_row _ _ k _ _ _ ea |>.trans (isA_at (by have := HL.out; omega) (by omega))
        have EA := Lib.hid ea
        clear hvn ea
        go_wp2_with fail
        clear z0 z1
        go_roundw
        case rel =>
          have hkl := HL.out
          have ha : Below w.heap.size w (wr.alloc (Obj.cells #[.int .i64 1, .int .i64 sv, .int .i64 need, .slice a3 n3 c3, .slice a4 n4 c4] 71)) := HB.out.alloc (by omega) _
          refine ⟨k + 1, by omega, by go_num, ?_, ?_, ?_, ?_⟩
          · have hsv := HOK.out.server.2
            simp only at hsv
            rw [heap_set_at EA.out, HST.out, ← hkl, isA_set (by omega), show min sv 16 = sv by omega]
          · exact heap_set_other (by omega) _ _ (heap_alloc_at e0 _)
          · simp [World.setCell]; omega
          · exact ha.setCell (p := ⟨w.heap.size + 1, k, none⟩) (by show w.heap.size ≤ w.heap.size + 1; omega) _
        case measure => simp [intOf]; omega
      · have hk2 : (kind == 1) = false := by simpa using hkind
        have hvn : valN ⟨kind, server, need, ws, ks⟩ I s = decide (need ≤ gotTo ⟨kind, server, need, ws, ks⟩ I ks.length) := by unfold valN; rw [if_neg hkind]
        rw [hvn] at HST
        have ea := heap_alloc_at e1 (Obj.cells #[.int .i64 kind, .int .i64 server, .int .i64 need, .slice a3 n3 c3, .slice a4 n4 c4] 71)
        have ea0 := heap_alloc_at e0 (Obj.cells #[.int .i64 kind, .int .i64 server, .int .i64 need, .slice a3 n3 c3, .slice a4 n4 c4] 71)
        have en := heap_alloc_new wr (Obj.cells #[.int .i64 kind, .int .i64 server, .int .i64 need, .slice a3 n3 c3, .slice a4 n4 c4] 71)
        have hbn : Below wr.heap.size wr (wr.alloc (Obj.cells #[.int .i64 kind, .int .i64 server, .int .i64 need, .slice a3 n3 c3, .slice a4 n4 c4] 71)) := (Below.refl _ wr).alloc (Nat.le_refl _) _
        have hlk : ks.length = n4 := by have := R4.out.len; simp at this; omega
        have hle4 := R4.out.le
        have hm4 := R4.out.max
        unfold maxLen at hm4
        go_wp2_with fail
        generalize hWA : wr.alloc _ = WA
        rw [hWA] at ea ea0 en hbn
        have EA := Lib.hid ea
        have EA0 := Lib.hid ea0
        have EN := Lib.hid en
        have HBN := Lib.hid hbn
        have HSA : Hid (w.heap.size + 2 ≤ WA.heap.size ∧ wr.heap.size < WA.heap.size) := Lib.hid (by rw [← hWA]; simp; omega)
        clear hWA ea ea0 en hbn e0 e1 m0 m1 m2 m3 m4 hvn
        obtain ⟨W0, hW0⟩ : ∃ W0, W0 = wr := ⟨_, rfl⟩
        subst hW0
        go_loopw [8, 37] (fun v i wq => ∃ j : Nat, j ≤ n4 ∧ i = .int .i64 j ∧ v = .int .i64 (gotTo ⟨kind, server, need, ws, ks⟩ I j) ∧ Below WA.heap.size WA wq) (fun _ i _ => n4 - (intOf i).toNat)
        case atStart => exact ⟨0, Nat.zero_le _, rfl, rfl, Below.refl _ _⟩
        case round =>
          obtain ⟨j, hj, rfl, rfl, hbq⟩ := hrel
          by_cases hltj : j < n4
          · obtain ⟨z, hz⟩ : ∃ z, ks[j]? = some z := ⟨_, List.getElem?_eq_getElem (by omega)⟩
            have hzr := HOK.out.kids z (List.mem_of_getElem? hz)
            obtain ⟨kd, rfl⟩ := Int.eq_ofNat_of_zero_le hzr.1
            have hkd2 : kd < k := by omega
            obtain ⟨b4, o4, ha4, hcell4⟩ := (R4.out.below (Below.next HBN.out hbq)).at' (by omega)
            have q4 := hcell4 j (.int .i64 kd) (by rw [List.getElem?_map, hz]; rfl)
            have eq1 := heap_below hbq EA.out
            have q1 := cell_of_row _ _ kd _ _ _ eq1 |>.trans (isA_at (by have := HL.out; omega) (by omega))
            have hgs : gotTo ⟨kind, server, need, ws, ks⟩ I (j + 1) = gotTo ⟨kind, server, need, ws, ks⟩ I j + (if I.getD kd false = true then wgtN ⟨kind, server, need, ws, ks⟩ j else 0) := by
              rw [gotTo]
              show _ + (if I.getD ((ks.getD j 0).toNat) false = true then _ else _) = _
              rw [show ks.getD j 0 = (kd : Int) by rw [List.getD_eq_getElem?_getD, hz]; rfl, Int.toNat_natCast]
            have hgb := got_bd HOK.out I j
            have hwb := wgt_pos HOK.out j
            subst ha4
            cases hi : I.getD kd false
            · rw [hi] at q1 hgs
              rw [if_neg (by decide), Int.add_zero] at hgs
              have HGS := Lib.hid hgs
              clear hcell4 hz hgs hi hgb hwb hzr eq1
              go_wp2_with fail
              go_roundw
              case rel => exact ⟨j + 1, by omega, by go_num, by rw [HGS.out], hbq⟩
              case measure => simp [intOf]; omega
            · rw [hi] at q1 hgs
              rw [if_pos rfl] at hgs
              have HW : Hid (∀ y, Below wr.heap.size wr y → Calls Tryz.prog 50 #[.agg #[.int .i64 kind, .int .i64 server, .int .i64 need, .slice a3 n3 c3, .slice (some ⟨b4, o4, none⟩) n4 c4], .int .i64 j] y fun e w' => e = .returned (.int .i64 (wgtN ⟨kind, server, need, ws, ks⟩ j)) ∧ Below y.heap.size y w') :=
                Lib.hid (fun y hy => wgt_c ⟨kind, server, need, ws, ks⟩ j a3 n3 c3 (some ⟨b4, o4, none⟩) n4 c4 y (R3.out.below (Below.next HBN.out (Below.next hbq hy))) (by
                  rcases HOK.out.arity with h | h
                  · exact .inl h
                  · right; rw [h]; show j < ks.length; omega))
              obtain ⟨S, hS⟩ : ∃ S, gotTo ⟨kind, server, need, ws, ks⟩ I j = S := ⟨_, rfl⟩
              obtain ⟨G, hG⟩ : ∃ G, wgtN ⟨kind, server, need, ws, ks⟩ j = G := ⟨_, rfl⟩
              rw [hS] at hgs hgb ⊢
              rw [hG] at hgs hwb HW
              have hwr2 : wrap64 (S + G) = S + G := by unfold wrap64; omega
              have eqn := heap_below hbq EN.out
              have p0 := cell_of_row _ _ 0 _ _ _ eqn
              have p1 := cell_of_row _ _ 1 _ _ _ eqn
              have p2 := cell_of_row _ _ 2 _ _ _ eqn
              have p3 := cell_of_row _ _ 3 _ _ _ eqn
              have p4 := cell_of_row _ _ 4 _ _ _ eqn
              have HGS := Lib.hid hgs
              clear hcell4 hz hgs hi hgb hwb hzr eq1 eqn hS hG
              go_wp2_with fail
              refine (HW.out _ (Below.refl _ _)).mono ?_
              rintro e w5 ⟨rfl, hb5⟩
              have hb6 := Below.next hbq hb5
              go_wp2_with fail
              go_roundw
              case rel => exact ⟨j + 1, by omega, by go_num, by rw [HGS.out, hwr2], hb6⟩
              case measure => simp [intOf]; omega
          · obtain rfl : j = n4 := by omega
            rw [hlk] at HST
            obtain ⟨S, hS⟩ : ∃ S, gotTo ⟨kind, server, need, ws, ks⟩ I j = S := ⟨_, rfl⟩
            rw [hS] at HST ⊢
            have eqn := heap_below hbq EN.out
            have p2 := cell_of_row _ _ 2 _ _ _ eqn
            have eq1 := heap_below hbq EA.out
            have q1 := cell_of_row _ _ k _ _ _ eq1 |>.trans (isA_at (by have := HL.out; omega) (by omega))
            have z1 := frozen_row eq1 k
            have EQ1 := Lib.hid eq1
            have EQ0 := Lib.hid (heap_below hbq EA0.out)
            have HBF := Lib.hid (Below.next HB.out (Below.next HBN.out hbq))
            have HSQ := Lib.hid hbq.size
            clear eqn eq1 hS hbq
            go_wp2_with fail
            clear q1 z1
            go_roundw
            case rel =>
              have hkl := HL.out
              have hsq := HSQ.out
              have hsa := HSA.out
              refine ⟨k + 1, by omega, by go_num, ?_, ?_, ?_, ?_⟩
              · rw [heap_set_at EQ1.out, HST.out, ← hkl, isA_set (by omega)]
              · exact heap_set_other (by omega) _ _ EQ0.out
              · simp [World.setCell]; omega
              · exact HBF.out.setCell (p := ⟨w.heap.size + 1, k, none⟩) (by show w.heap.size ≤ w.heap.size + 1; omega) _
            case measure => simp [intOf]; omega
    · obtain rfl : k = r + 1 := by omega
      have hc := cell_of_row _ _ r _ _ _ e1 |>.trans (isA_at (by rw [holdTo_len]; omega) (by omega))
      rw [← HV.out] at hc
      have hc2 := cell_of_row _ _ 1 _ _ _ e0
      have hkd : decide (((r + 1 : Nat) : Int) < (r : Int) + 1) = false := decide_eq_false (by omega)
      go_wp2_with fail
      go_ret
      exact ⟨rfl, hb⟩

set_option maxRecDepth 100000 in
set_option maxHeartbeats 1000000 in
theorem eval_c (x : Xpr) (hx : xprE x = 0) (hf : XprFew x) (s : BitVec 16) (hs : s.toNat < 4096) (a : Option Addr) (n c : Nat) (w : World) (h : XM w a n c x.nodes) :
    Calls Tryz.prog 33 #[.agg #[.slice a n c, .int .i64 x.root], .int .u16 (U s)] w fun e w' => e = .returned (.tuple #[.bool (holdX x s), .int .i64 0]) ∧ Below w.heap.size w w' := by
  have H1 := Lib.hid (fun (v : World) (hb : Below w.heap.size w v) => xpr_c x a n c v (h.below hb))
  have H2 := Lib.hid (fun (v : World) (hb : Below w.heap.size w v) => holds_c x (xprE_ok hx) hf s a n c v (h.below hb))
  rw [hx] at H1
  have hd : decide (4096 ≤ U s) = false := decide_eq_false (by unfold U; omega)
  clear h hf hx
  obtain ⟨W2, hW2⟩ : ∃ W2, W2 = w.alloc (.cells #[.slice a n c, .int .i64 x.root] 32) := ⟨_, rfl⟩
  have hb2 : Below w.heap.size w W2 := by rw [hW2]; exact (Below.refl _ w).alloc (Nat.le_refl _) _
  have g0 : W2.heap[w.heap.size]? = some (.cells #[.slice a n c, .int .i64 x.root] 32 (0, 0)) := by rw [hW2]; exact heap_alloc_new _ _
  have HB2 := Lib.hid hb2
  have G0 := Lib.hid g0
  clear hb2 g0
  go_enter Tryz.func33, Tryz.ntmps33
  go_wp2_with fail
  rw [← hW2]
  refine (H1.out W2 HB2.out).mono ?_
  rintro e w1 ⟨rfl, hb1⟩
  have e1 := heap_below hb1 G0.out
  have q0 := cell_of_row _ _ 0 _ _ _ e1
  have q1 := cell_of_row _ _ 1 _ _ _ e1
  have E1 := Lib.hid e1
  clear e1
  go_wp2_with fail
  refine (H2.out w1 (Below.next HB2.out hb1)).mono ?_
  rintro e w5 ⟨rfl, hb5⟩
  go_wp2_with fail
  go_ret2
  exact ⟨rfl, Below.next HB2.out (Below.next hb1 hb5)⟩

end Go.Proofs.YtcojmmhclklpoaaGreatDoor
namespace Go.Proofs.YtcojmmhclklpoaaGreatDoor
open Go.RowKit Go.Shelf

theorem rowK_at {k : Nat} {w w' : World} {B n : Nat} {e : TypeId} {v : Value} {l : List Value} (h : w.ownsRow B e k v n l) (hb : ∀ g, v.ownBlock = some g → w'.heap[g]? = w.heap[g]?) : w'.ownsRow B e k v n l := by
  obtain ⟨h1, h2⟩ := h
  refine ⟨h1, ?_⟩
  rcases h2 with h2 | ⟨g, cap, cur, hv, hb', hg, r⟩
  · exact .inl h2
  · exact .inr ⟨g, cap, cur, hv, hb', by rw [hb g (by rw [hv]; rfl)]; exact hg, r⟩
end Go.Proofs.YtcojmmhclklpoaaGreatDoor
