/- Texts laid together. Layer 37, plain: the chosen values. No program. The reference's Given. single.Pick. The reference's Pick. The reference's Same of events. The examples of layer 37. A handed slice of structs, as a law's frame opens it. A handed slice of integers, as a law's frame opens it. Laws of layer 37: Pick. -/
import Derived.Test.YtgfjmplifmbmlaaDoorGSingleCheck1
import Derived.Test.YtgfjmplifmbmlaaDoorGSingleCheck2
import Derived.Test.YtgfjmplifmbmlaaDoorGSingleCheck3
import Derived.Test.YtgfjmplifmbmlaaDoorGSingleCheck4
import Derived.Test.YtgfjmplifmbmlaaDoorGSingleCheck5
import Derived.Test.YtgfjmplifmbmlaaDoorProg
import Derived.IntWalk
import Derived.Laws.StructEq
import Derived.Deep.Slices
import Derived.Deep.Fields
import Derived.ChangeSame
namespace Go.Proofs.YtgfjmplifmbmlaaDoor

def isV (n : Nat) (b : Int) (v : ByteArray) (e : Ev) : Bool := ((decide (e.kind = 2) && decide (e.ballot = b)) && e.value.toList == v.toList) && inB n e.server
def byTo (n : Nat) (l : List Ev) (b : Int) (v : ByteArray) (k : Nat) : BitVec 16 := (l.take k).foldl (fun s e => if isV n b v e then s ||| bitS e.server.toNat else s) 0#16
def byS (n : Nat) (l : List Ev) (b : Int) (v : ByteArray) : BitVec 16 := byTo n l b v l.length
def accI (n : Nat) (e : Ev) : Bool := decide (e.kind = 2) && inB n e.server
/-- a chosen value -/
def ChoI (write : List (BitVec 16)) (n : Nat) (l : List Ev) (v : Str) : Prop := ∃ e ∈ l, accI n e = true ∧ accS write (byS n l e.ballot e.value) = true ∧ e.value.toList = v
def chrStep (write : List (BitVec 16)) (n : Nat) (l : List Ev) (o : List Str) (e : Ev) : List Str := if (accI n e && accS write (byS n l e.ballot e.value)) = true then insS e.value.toList o else o
def chrTo (write : List (BitVec 16)) (n : Nat) (l : List Ev) (k : Nat) : List Str := (l.take k).foldl (chrStep write n l) []
/-- the chosen values, ascending -/
def chrS (write : List (BitVec 16)) (n : Nat) (l : List Ev) : List Str := chrTo write n l l.length
theorem chrTo_succ {write : List (BitVec 16)} {n : Nat} {l : List Ev} {k : Nat} {e : Ev} (h : l[k]? = some e) : chrTo write n l (k + 1) = chrStep write n l (chrTo write n l k) e := by
  unfold chrTo; rw [List.take_add_one, h]; simp
theorem byTo_succ {n : Nat} {l : List Ev} {b : Int} {v : ByteArray} {k : Nat} {e : Ev} (h : l[k]? = some e) : byTo n l b v (k + 1) = if isV n b v e then byTo n l b v k ||| bitS e.server.toNat else byTo n l b v k := by
  unfold byTo; rw [List.take_add_one, h]; simp
theorem chrTo_prop (write : List (BitVec 16)) (n : Nat) (l : List Ev) : ∀ k, k ≤ l.length → (chrTo write n l k).Pairwise (· < ·) ∧ ∀ v, v ∈ chrTo write n l k ↔ ∃ e ∈ l.take k, accI n e = true ∧ accS write (byS n l e.ballot e.value) = true ∧ e.value.toList = v := by
  intro k
  induction k with
  | zero => intro _; exact ⟨by simp [chrTo], by simp [chrTo]⟩
  | succ k ih =>
    intro hk
    obtain ⟨h1, h2⟩ := ih (by omega)
    have he : l[k]? = some (l[k]'(by omega)) := List.getElem?_eq_getElem _
    have ht : l.take (k + 1) = l.take k ++ [l[k]'(by omega)] := by rw [List.take_add_one, he]; rfl
    rw [chrTo_succ he, ht]
    obtain ⟨e, hee⟩ : ∃ e, l[k]'(by omega) = e := ⟨_, rfl⟩
    rw [hee]
    unfold chrStep
    split
    · rename_i hc
      rw [Bool.and_eq_true] at hc
      refine ⟨insS_asc _ _ h1, fun v => ?_⟩
      rw [insS_mem, h2]
      constructor
      · rintro (h | ⟨x, hx, h⟩)
        · exact ⟨e, List.mem_append_right _ (List.mem_singleton_self _), hc.1, hc.2, h.symm⟩
        · exact ⟨x, List.mem_append_left _ hx, h⟩
      · rintro ⟨x, hx, h⟩
        rcases List.mem_append.1 hx with hx | hx
        · exact .inr ⟨x, hx, h⟩
        · rw [List.mem_singleton] at hx; subst hx; exact .inl h.2.2.symm
    · rename_i hc
      refine ⟨h1, fun v => ?_⟩
      rw [h2]
      constructor
      · rintro ⟨x, hx, h⟩; exact ⟨x, List.mem_append_left _ hx, h⟩
      · rintro ⟨x, hx, h⟩
        rcases List.mem_append.1 hx with hx | hx
        · exact ⟨x, hx, h⟩
        · rw [List.mem_singleton] at hx; subst hx
          exact absurd (by rw [h.1, h.2.1]; rfl) hc
theorem chrS_asc (write : List (BitVec 16)) (n : Nat) (l : List Ev) : (chrS write n l).Pairwise (· < ·) := (chrTo_prop write n l _ (Nat.le_refl _)).1
theorem chrS_mem (write : List (BitVec 16)) (n : Nat) (l : List Ev) (v : Str) : v ∈ chrS write n l ↔ ChoI write n l v := by
  have := (chrTo_prop write n l _ (Nat.le_refl _)).2 v
  rw [List.take_length] at this
  exact this
theorem byTo_has {n : Nat} (hn : n ≤ 16) {l : List Ev} {b : Int} {v : ByteArray} {i : Nat} : ∀ k, k ≤ l.length → (hasB (byTo n l b v k) i = true ↔ ∃ e ∈ l.take k, isV n b v e = true ∧ e.server = (i : Int)) := by
  intro k
  induction k with
  | zero => intro _; simp [byTo, hasB]
  | succ k ih =>
    intro hk
    have he : l[k]? = some (l[k]'(by omega)) := List.getElem?_eq_getElem _
    have ht : l.take (k + 1) = l.take k ++ [l[k]'(by omega)] := by rw [List.take_add_one, he]; rfl
    rw [byTo_succ he, ht]
    obtain ⟨e, hee⟩ : ∃ e, l[k]'(by omega) = e := ⟨_, rfl⟩
    rw [hee]
    cases hv : isV n b v e
    · simp only [Bool.false_eq_true, if_false]
      rw [ih (by omega)]
      constructor
      · rintro ⟨x, hx, h⟩; exact ⟨x, List.mem_append_left _ hx, h⟩
      · rintro ⟨x, hx, h⟩
        rcases List.mem_append.1 hx with hx | hx
        · exact ⟨x, hx, h⟩
        · rw [List.mem_singleton] at hx; subst hx; rw [hv] at h; exact absurd h.1 (by decide)
    · simp only [if_true]
      have hs : 0 ≤ e.server ∧ e.server < n := by
        unfold isV inB at hv
        simp only [Bool.and_eq_true, decide_eq_true_eq] at hv
        exact hv.2
      rw [hasB_or, Bool.or_eq_true, ih (by omega), hasB_bit _ _ (by omega), decide_eq_true_eq]
      constructor
      · rintro (⟨x, hx, h⟩ | h)
        · exact ⟨x, List.mem_append_left _ hx, h⟩
        · exact ⟨e, List.mem_append_right _ (List.mem_singleton_self _), hv, by omega⟩
      · rintro ⟨x, hx, h⟩
        rcases List.mem_append.1 hx with hx | hx
        · exact .inl ⟨x, hx, h⟩
        · rw [List.mem_singleton] at hx; subst hx; exact .inr (by omega)
theorem byS_has {n : Nat} (hn : n ≤ 16) {l : List Ev} {b : Int} {v : ByteArray} {i : Nat} : hasB (byS n l b v) i = true ↔ ∃ e ∈ l, isV n b v e = true ∧ e.server = (i : Int) := by
  unfold byS
  rw [byTo_has hn _ (Nat.le_refl _), List.take_length]
/-- P37.2 -/
theorem chosen_one {read write : List (BitVec 16)} {n : Nat} (hn : n ≤ 12) {l : List Ev} (h : Good read n l) (hc : ∀ r ∈ read, ∀ w ∈ write, (r &&& w == 0#16) = false) : (chrS write n l).length ≤ 1 := by
  refine asc_one (chrS_asc write n l) fun x hx y hy => ?_
  have hi := good_inv hn h
  have key : ∀ v, ChoI write n l v → ∃ (b : Int) (s : Int) (W : BitVec 16) (u : ByteArray), u.toList = v ∧ 1 ≤ b ∧ AccE l s b u ∧ W ∈ write ∧ ∀ i, hasB W i = true → AccE l (i : Int) b u := by
    rintro v ⟨e, he, h1, h2, rfl⟩
    unfold accI at h1
    simp only [Bool.and_eq_true, decide_eq_true_eq] at h1
    unfold accS at h2
    obtain ⟨W, hW, hsub⟩ := List.any_eq_true.1 h2
    refine ⟨e.ballot, e.server, W, e.value, rfl, (hi.srv e he).2.2.1, ⟨e, he, h1.1, rfl, rfl, rfl⟩, hW, fun i hi1 => ?_⟩
    have hb := (subB_iff _ _).1 hsub i hi1
    obtain ⟨x, hx, h3, h4⟩ := (byS_has (by omega)).1 hb
    unfold isV at h3
    simp only [Bool.and_eq_true, decide_eq_true_eq] at h3
    exact ⟨x, hx, h3.1.1.1, h4, h3.1.1.2, bs_ext (eq_of_beq h3.1.2)⟩
  obtain ⟨b, s, W, u, rfl, hb, ha, hW, hall⟩ := key x ((chrS_mem write n l x).1 hx)
  obtain ⟨b', s', W', u', rfl, hb', ha', hW', hall'⟩ := key y ((chrS_mem write n l y).1 hy)
  by_cases hle : b ≤ b'
  · rw [safe_from hn h hc hW hb ⟨s, ha⟩ hall (b' - b).toNat s' b' u' hle (by omega) ha']
  · rw [safe_from hn h hc hW' hb' ⟨s', ha'⟩ hall' (b - b').toNat s b u (by omega) (by omega) ha]

/-! runs -/
def possA (read : List (BitVec 16)) (n : Nat) (l : List Ev) (b : Nat) : List Ev :=
  ((List.range n).filter fun s => folS read n l (evP b s)).map (evP b)
def evW (b s : Nat) (v : ByteArray) : Ev := ⟨2, s, b, v⟩
def possB (read : List (BitVec 16)) (n : Nat) (l : List Ev) (b : Nat) (v : ByteArray) : List Ev :=
  ((List.range n).filter fun s => folS read n l (evW b s v)).map fun s => evW b s v
def demV (p : ByteArray × Int) (b : Nat) : Option ByteArray := if p.2 = 4 then some (valB b) else if p.2 ≠ 0 then none else some p.1
def possC (read : List (BitVec 16)) (n : Nat) (l : List Ev) (b : Nat) : List Ev :=
  possA read n l b ++ (match demV (demS read n l b) b with | some v => possB read n l b v | none => [])
def possTo (read : List (BitVec 16)) (n : Nat) (l : List Ev) (k : Nat) : List Ev := (List.range k).flatMap fun b => possC read n l (b + 1)
def possS (read : List (BitVec 16)) (n : Nat) (l : List Ev) : List Ev := possTo read n l 4
theorem poss_fol {read : List (BitVec 16)} {n : Nat} {l : List Ev} {e : Ev} (h : e ∈ possS read n l) : folS read n l e = true := by
  unfold possS possTo at h
  obtain ⟨b, _, h⟩ := List.mem_flatMap.1 h
  unfold possC at h
  rcases List.mem_append.1 h with h | h
  · unfold possA at h
    obtain ⟨s, hs, rfl⟩ := List.mem_map.1 h
    exact (List.mem_filter.1 hs).2
  · split at h
    · unfold possB at h
      obtain ⟨s, hs, rfl⟩ := List.mem_map.1 h
      exact (List.mem_filter.1 hs).2
    · cases h
/-- the events of the program, by its state -/
def posQA (st : St) (n : Nat) (b : Nat) : List Ev := ((List.range n).filter fun (s : Nat) => promB (atS st.acc (s : Int)) b).map (evP b)
def posQB (st : St) (n : Nat) (b : Nat) (v : ByteArray) : List Ev := ((List.range n).filter fun (s : Nat) => accpB (atS st.acc (s : Int)) b).map fun s => evW b s v
def valQ (p : ByteArray × Bool × Bool) (b : Nat) : Option ByteArray := if p.2.2 = false then none else if p.2.1 = true then some (valB b) else some p.1
def posQC (read : List (BitVec 16)) (st : St) (n : Nat) (b : Nat) : List Ev :=
  posQA st n b ++ (match valQ (valP read st b) b with | some v => posQB st n b v | none => [])
def posQTo (read : List (BitVec 16)) (st : St) (n : Nat) (k : Nat) : List Ev := (List.range k).flatMap fun b => posQC read st n (b + 1)
def posQ (read : List (BitVec 16)) (st : St) (n : Nat) : List Ev := posQTo read st n 4
theorem valB_em (b : Nat) : emB (valB b) = false := by
  unfold emB valB
  rw [bs_list]; rfl
theorem dem_val {read : List (BitVec 16)} {n : Nat} {l : List Ev} (hi : Inv n l) {b : Nat} (hb : 1 ≤ b) : demV (demS read n l b) b = valQ (valP read (stOf n l) b) b ∧ ∀ v, demV (demS read n l b) b = some v → okD (demS read n l b) v = true ∧ emB v = false := by
  unfold demS valP
  show demV (match valF l b with | some v => (v, 0) | none => pickS read b (repS n l b)) b = valQ (match valF l b with | some v => (v, false, true) | none => ((bestR (repS n l b)).2, (bestR (repS n l b)).1 == 0, accS read (seenR (repS n l b)))) b ∧ _
  cases hv : valF l b with
  | some x =>
    refine ⟨by simp [demV, valQ], fun v h => ?_⟩
    have : x = v := by simpa [demV] using h
    subst this
    exact ⟨by simp [okD], hi.vals b x hv⟩
  | none =>
    simp only
    unfold pickS
    rw [if_neg (by omega), hi.seen b]
    simp only [Bool.false_eq_true, if_false]
    cases ha : accS read (seenR (repS n l b))
    · exact ⟨by simp [demV, valQ], fun v h => by simp [demV] at h⟩
    · simp only [Bool.true_eq_false, if_false]
      by_cases h0 : (bestR (repS n l b)).1 = 0
      · rw [if_pos h0]
        refine ⟨by simp [demV, valQ, h0], fun v h => ?_⟩
        have : valB b = v := by simpa [demV] using h
        subst this
        exact ⟨by simp [okD], valB_em b⟩
      · rw [if_neg h0]
        have h1 : ((bestR (repS n l b)).1 == 0) = false := by simpa using h0
        refine ⟨by simp [demV, valQ, h1], fun v h => ?_⟩
        have : (bestR (repS n l b)).2 = v := by simpa [demV] using h
        subst this
        refine ⟨by simp [okD], ?_⟩
        obtain ⟨r, hr, e1, e2⟩ := (best_all (repS n l b)).2 (by have := bestR_ge (repS n l b); omega)
        rw [← e2]
        exact (hi.rep b r hr).2.2.2.2.2 (by have := (hi.rep b r hr).2.2.1; omega)
theorem poss_eq {read : List (BitVec 16)} {n : Nat} {l : List Ev} (hi : Inv n l) : posQ read (stOf n l) n = possS read n l := by
  unfold posQ possS posQTo possTo
  congr 1
  funext b
  unfold posQC possC
  obtain ⟨h1, h2⟩ := dem_val (read := read) hi (b := b + 1) (by omega)
  congr 1
  · unfold posQA possA
    congr 1
    apply List.filter_congr
    intro s hs
    have hsn := List.mem_range.1 hs
    unfold folS evP
    simp only
    rw [if_neg (by omega)]
    simp [emB, stOf]
  · rw [← h1]
    cases hd : demV (demS read n l ((b + 1 : Nat) : Int)) (b + 1) with
    | none => rfl
    | some v =>
      simp only
      obtain ⟨h3, h4⟩ := h2 v hd
      unfold posQB possB
      congr 1
      apply List.filter_congr
      intro s hs
      have hsn := List.mem_range.1 hs
      unfold folS evW
      simp only
      rw [if_neg (by omega), if_neg (by decide)]
      simp only [if_true]
      rw [h3, h4]
      simp [stOf]
/-- a run -/
def pickE (l : List Ev) (c : Int) : Option Ev := l[(c % (l.length : Int)).toNat]?
def runStep (read : List (BitVec 16)) (n : Nat) (o : List Ev) (c : Int) : List Ev := match pickE (possS read n o) c with
  | some e => o ++ [e]
  | none => o
def runS (read : List (BitVec 16)) (n : Nat) (ch : List Int) : List Ev := ch.foldl (runStep read n) []
def runTo (read : List (BitVec 16)) (n : Nat) (ch : List Int) (k : Nat) : List Ev := (ch.take k).foldl (runStep read n) []
theorem runTo_succ {read : List (BitVec 16)} {n : Nat} {ch : List Int} {k : Nat} {c : Int} (h : ch[k]? = some c) : runTo read n ch (k + 1) = runStep read n (runTo read n ch k) c := by
  unfold runTo; rw [List.take_add_one, h]; simp
theorem runTo_all (read : List (BitVec 16)) (n : Nat) (ch : List Int) : runTo read n ch ch.length = runS read n ch := by unfold runTo runS; rw [List.take_length]
theorem run_stop {read : List (BitVec 16)} {n : Nat} : ∀ (ch : List Int) (o : List Ev), possS read n o = [] → ch.foldl (runStep read n) o = o := by
  intro ch
  induction ch with
  | nil => intro o _; rfl
  | cons c ch ih =>
    intro o h
    have e : runStep read n o c = o := by unfold runStep pickE; rw [h]; rfl
    rw [List.foldl_cons, e]; exact ih o h
theorem runTo_stop {read : List (BitVec 16)} {n : Nat} {ch : List Int} {k : Nat} (h : possS read n (runTo read n ch k) = []) : runTo read n ch k = runS read n ch := by
  have e : runS read n ch = (ch.drop k).foldl (runStep read n) (runTo read n ch k) := by
    unfold runS runTo; rw [← List.foldl_append, List.take_append_drop]
  rw [e, run_stop _ _ h]
theorem run_good (read : List (BitVec 16)) (n : Nat) : ∀ (ch : List Int) (o : List Ev), Good read n o → Good read n (ch.foldl (runStep read n) o) := by
  intro ch
  induction ch with
  | nil => intro o h; exact h
  | cons c ch ih =>
    intro o h
    rw [List.foldl_cons]
    refine ih _ ?_
    unfold runStep pickE
    split
    · rename_i e he; exact .snoc h (poss_fol (List.mem_of_getElem? he))
    · exact h
theorem runTo_good (read : List (BitVec 16)) (n : Nat) (ch : List Int) (k : Nat) : Good read n (runTo read n ch k) := run_good read n _ _ .nil
theorem runStep_len (read : List (BitVec 16)) (n : Nat) (o : List Ev) (c : Int) : (runStep read n o c).length ≤ o.length + 1 := by
  unfold runStep; split
  · simp
  · omega
theorem runTo_len (read : List (BitVec 16)) (n : Nat) (ch : List Int) (k : Nat) : (runTo read n ch k).length ≤ k := by
  unfold runTo
  have : ∀ (l : List Int) (o : List Ev), (l.foldl (runStep read n) o).length ≤ o.length + l.length := by
    intro l
    induction l with
    | nil => intro o; simp
    | cons c l ih =>
      intro o
      rw [List.foldl_cons, List.length_cons]
      have := ih (runStep read n o c)
      have := runStep_len read n o c
      omega
  have := this (ch.take k) []
  rw [List.length_take] at this
  simp at this
  omega
/-- Check -/
def chkTo (read : List (BitVec 16)) (n : Nat) (l : List Ev) (k : Nat) : Bool := match l[k]? with
  | some e => folS read n (l.take k) e
  | none => false
def GoodTo (read : List (BitVec 16)) (n : Nat) (l : List Ev) (k : Nat) : Prop := ∀ j, j < k → chkTo read n l j = true
theorem goodTo_good {read : List (BitVec 16)} {n : Nat} {l : List Ev} : ∀ k, GoodTo read n l k → Good read n (l.take k) := by
  intro k
  induction k with
  | zero => intro _; rw [List.take_zero]; exact .nil
  | succ k ih =>
    intro h
    have h1 := ih fun j hj => h j (by omega)
    have h2 := h k (by omega)
    unfold chkTo at h2
    split at h2
    · rename_i e he
      rw [List.take_add_one, he]
      exact .snoc h1 h2
    · cases h2
theorem good_app {read : List (BitVec 16)} {n : Nat} : ∀ {l : List Ev}, Good read n l → GoodTo read n l l.length := by
  intro l h
  induction h with
  | nil => intro j hj; exact absurd hj (by simp)
  | snoc hg hf ih =>
    rename_i l e
    intro j hj
    rw [List.length_append, List.length_singleton] at hj
    unfold chkTo
    by_cases h1 : j < l.length
    · rw [List.getElem?_append_left h1, List.take_append_of_le_length (by omega)]
      exact ih j h1
    · obtain rfl : j = l.length := by omega
      rw [List.getElem?_append_right (Nat.le_refl _), Nat.sub_self, List.take_append_of_le_length (Nat.le_refl _), List.take_length]
      exact hf
def badAt (read : List (BitVec 16)) (n : Nat) (l : List Ev) : Option Nat := (List.range l.length).find? fun k => !chkTo read n l k
def chkR (read : List (BitVec 16)) (n : Nat) (l : List Ev) : Int × Int := match badAt read n l with
  | some k => ((k : Int), 0)
  | none => (0, 13)
theorem badAt_hit {read : List (BitVec 16)} {n : Nat} {l : List Ev} {k : Nat} (hk : k < l.length) (h : GoodTo read n l k) (hb : chkTo read n l k = false) : badAt read n l = some k := by
  obtain ⟨d, hd⟩ : ∃ d, l.length = k + (1 + d) := ⟨l.length - k - 1, by omega⟩
  unfold badAt
  rw [hd, List.range_add, List.find?_append, List.range_add, List.map_append]
  rw [List.find?_eq_none.2]
  · have e1 : List.map (fun x => k + x) (List.range 1) = [k] := by simp [List.range_succ]
    rw [e1]
    simp [hb]
  · intro x hx
    rw [h x (List.mem_range.1 hx)]; decide
theorem badAt_none {read : List (BitVec 16)} {n : Nat} {l : List Ev} (h : GoodTo read n l l.length) : badAt read n l = none := by
  unfold badAt
  rw [List.find?_eq_none]
  intro x hx
  rw [h x (List.mem_range.1 hx)]; decide
theorem chkR_safe {read : List (BitVec 16)} {n : Nat} {l : List Ev} (h : (chkR read n l).2 ≠ 0) : Good read n l := by
  unfold chkR at h
  split at h
  · exact absurd rfl h
  · rename_i hb
    unfold badAt at hb
    rw [List.find?_eq_none] at hb
    have : GoodTo read n l l.length := fun j hj => by
      have := hb j (List.mem_range.2 hj)
      simpa using this
    have := goodTo_good _ this
    rwa [List.take_length] at this
end Go.Proofs.YtgfjmplifmbmlaaDoor
namespace Go.Proofs.YtgfjmplifmbmlaaDoor
open Go.RowKit Go.Shelf

theorem shr_or (a b : BitVec 16) (m : Nat) : shrS (a ||| b) m = shrS a m ||| shrS b m := by
  apply BitVec.eq_of_getLsbD_eq
  intro i _
  simp [shrS]
theorem or_zero (a b : BitVec 16) : (a ||| b != 0#16) = ((a != 0#16) || (b != 0#16)) := by
  rw [Bool.eq_iff_iff, Bool.or_eq_true, bne_iff_ne, bne_iff_ne, bne_iff_ne]
  constructor
  · intro h
    by_cases ha : a = 0#16
    · right; intro hb; apply h; rw [ha, hb]; rfl
    · left; exact ha
  · intro h hc
    have h1 : ∀ i, i < 16 → a.getLsbD i = false ∧ b.getLsbD i = false := by
      intro i hi
      have := congrArg (fun x => x.getLsbD i) hc
      simpa using this
    rcases h with h | h
    · exact h (BitVec.eq_of_getLsbD_eq (fun i hi => by rw [(h1 i hi).1]; simp))
    · exact h (BitVec.eq_of_getLsbD_eq (fun i hi => by rw [(h1 i hi).2]; simp))
theorem shr_big (a : BitVec 16) (m : Nat) : (shrS a m != 0#16) = decide (2 ^ m ≤ a.toNat) := by
  rw [Bool.eq_iff_iff, bne_iff_ne, decide_eq_true_iff]
  have e : (shrS a m).toNat = a.toNat / 2 ^ m := by unfold shrS; rw [BitVec.toNat_ushiftRight, Nat.shiftRight_eq_div_pow]
  have hp : 0 < 2 ^ m := Nat.two_pow_pos m
  constructor
  · intro h
    apply Classical.byContradiction
    intro hc
    apply h
    apply BitVec.eq_of_toNat_eq
    rw [e, Nat.div_eq_of_lt (by omega)]; rfl
  · intro h hc
    rw [hc] at e
    have := Nat.div_pos h hp
    have e0 : (0#16).toNat = 0 := rfl
    omega
theorem off_or (f g : List (BitVec 16)) (m : Nat) : (offB m f || offB m g) = decide (2 ^ m ≤ (supS f ||| supS g).toNat) := by
  unfold offB
  rw [← or_zero, ← shr_or, shr_big]
theorem valS_sorted {f : List (BitVec 16)} (h : valS f = 0) : ∀ j, j < f.length → e1 f j = 0 := by
  unfold valS at h
  split at h
  · cases h
  · split at h
    · rename_i h1 h2; exact absurd h h2
    · rename_i h1 h2
      exact firstE_zero _ _ (by simpa using h2)
theorem hasZ_first {f : List (BitVec 16)} (h : valS f = 0) : hasZ f = (decide (0 < f.length) && (f.getD 0 0#16 == 0#16)) := by
  rw [Bool.eq_iff_iff, Bool.and_eq_true, decide_eq_true_iff, beq_iff_eq]
  constructor
  · intro hz
    unfold hasZ at hz
    obtain ⟨x, hx, hp⟩ := List.any_eq_true.1 hz
    obtain ⟨i, hi, rfl⟩ := List.mem_iff_getElem.1 hx
    have h0 : f[i] = 0#16 := (eq_of_beq hp).symm
    refine ⟨by omega, ?_⟩
    by_cases hi0 : i = 0
    · subst hi0; rw [getD_at hi]; exact h0
    · have := sorted_mono (valS_sorted h) 0 i (by omega) hi
      rw [getD_at hi, h0] at this
      have e : keyS 0#16 = 0 := by decide
      omega
  · rintro ⟨h1, h2⟩
    unfold hasZ
    exact List.any_eq_true.2 ⟨f.getD 0 0#16, by rw [getD_at h1]; exact List.getElem_mem h1, by rw [h2]; rfl⟩

theorem chk2 (m : Nat) (h1 : 1 ≤ m) (h2 : m ≤ 12) (f g : List (BitVec 16)) : chkS m [f, g] = if valS f ≠ 0 then valS f else if valS g ≠ 0 then valS g else if offB m f || offB m g then 7 else if hasZ f || hasZ g then 9 else 0 := by
  unfold chkS
  rw [if_neg (by omega)]
  have e : firstE (fun j => valS ([f, g].getD j [])) [f, g].length = if valS f ≠ 0 then valS f else valS g := by
    by_cases hf : valS f = 0
    · rw [if_neg (by simpa using hf)]
      by_cases hg : valS g = 0
      · rw [hg]; exact firstE_none _ _ (fun j hj => by
          match j, hj with
          | 0, _ => exact hf
          | 1, _ => exact hg)
      · exact firstE_hit (fun j => valS ([f, g].getD j [])) 2 1 (by decide) (fun j hj => by
          match j, hj with
          | 0, _ => exact hf) hg
    · rw [if_pos hf]
      exact firstE_hit (fun j => valS ([f, g].getD j [])) 2 0 (by decide) (fun j hj => by omega) hf
  rw [e]
  have hm : ((m : Nat) : Int).toNat = m := by omega
  by_cases hf : valS f = 0
  · by_cases hg : valS g = 0
    · simp [hf, hg, hm]
    · simp [hf, hg]
  · simp [hf]

set_option maxRecDepth 100000 in
set_option maxHeartbeats 2000000 in
theorem given_c (f g : List (BitVec 16)) (nn : Int) (a : Option Addr) (n c : Nat) (a2 : Option Addr) (n2 c2 : Nat) (w : World) (h : Rd w a n c (f.map setV2)) (h2 : Rd w a2 n2 c2 (g.map setV2)) :
    Calls Tryd.prog 22 #[.slice a n c, .slice a2 n2 c2, .int .i64 nn] w fun e w' => e = .returned (.int .i64 (chkS nn [f, g])) ∧ Below w.heap.size w w' := by
  have hnl : f.length = n := by have := h.len; simp at this; omega
  have hnl2 : g.length = n2 := by have := h2.len; simp at this; omega
  have hm1 := h.max
  have hle := h.le
  have hm2 := h2.max
  have hle2 := h2.le
  unfold maxLen at hm1 hm2
  have HR := Lib.hid h
  have HR2 := Lib.hid h2
  have HN := Lib.hid hnl
  have HN2 := Lib.hid hnl2
  clear h h2 hnl hnl2
  by_cases h1 : nn < 1
  · have hV : Hid (chkS nn [f, g] = 7) := by show _ = _; unfold chkS; rw [if_pos (.inl h1)]
    go_enter Tryd.func22, Tryd.ntmps22
    go_wp2_with fail
    go_ret
    exact ⟨by rw [hV.out]; rfl, Below.refl _ _⟩
  · by_cases h12 : 12 < nn
    · have hV : Hid (chkS nn [f, g] = 7) := by show _ = _; unfold chkS; rw [if_pos (.inr h12)]
      go_enter Tryd.func22, Tryd.ntmps22
      go_wp2_with fail
      go_ret
      exact ⟨by rw [hV.out]; rfl, Below.refl _ _⟩
    · obtain ⟨m, rfl⟩ := Int.eq_ofNat_of_zero_le (by omega : 0 ≤ nn)
      have HC := Lib.hid (chk2 m (by omega) (by omega) f g)
      have HV := Lib.hid (fun w h => valid8_c f a n c w h)
      have HV2 := Lib.hid (fun w h => valid8_c g a2 n2 c2 w h)
      by_cases hf : valS f = 0
      · rw [hf] at HV
        by_cases hg : valS g = 0
        · rw [hg] at HV2
          have hz1 := hasZ_first hf
          have hz2 := hasZ_first hg
          have hoff := off_or f g m
          have hC : Hid (chkS m [f, g] = if offB m f || offB m g then 7 else if hasZ f || hasZ g then 9 else 0) := by
            show _ = _; rw [HC.out, hf, hg]; rfl
          have hb2 : ((supS f ||| supS g).toNat : Int) < 65536 := by have := (supS f ||| supS g).isLt; omega
          have q1 : IntKind.i64.wrap (U (supS f ||| supS g)) = U (supS f ||| supS g) := by have := U_bd (supS f ||| supS g); exact IntWalk.i64_in _ (by omega)
          have HZ1 := Lib.hid hz1
          have HZ2 := Lib.hid hz2
          have HOFF := Lib.hid hoff
          have HS1 := Lib.hid (fun w h => support8_c f a n c w h)
          have HS2 := Lib.hid (fun w h => support8_c g a2 n2 c2 w h)
          clear hf hg HC hz1 hz2 hoff
          go_enter Tryd.func22, Tryd.ntmps22
          go_wp2_with fail
          refine (HV.out w HR.out).mono ?_
          rintro e w1 ⟨rfl, b1⟩
          go_wp2_with fail
          refine (HV2.out w1 (HR2.out.below b1)).mono ?_
          rintro e w2 ⟨rfl, b2⟩
          have b3 := Below.next b1 b2
          have G1 := Lib.hid (fun q => HS1.out (w2.drewN q) (HR.out.below (below_drewN b3)))
          have G2 := Lib.hid (fun q => HS2.out (w2.drewN q) (HR2.out.below (below_drewN b3)))
          clear b1 b2
          go_wp2_with fail
          go_quiet ((go_at_call 40; first | (with_reducible exact Calls.quiet_of_same (G1.out _)) | (with_reducible exact Calls.quiet_of_same (G2.out _))))
          have hp : decide (wrap64 (2 ^ m) ≤ U (supS f ||| supS g)) = (offB m f || offB m g) := by
            have hw : ∀ k : Fin 13, wrap64 (2 ^ k.val) = ((2 ^ k.val : Nat) : Int) := by decide +kernel
            have := hw ⟨m, by omega⟩
            simp only at this
            rw [this, HOFF.out]
            unfold U
            rw [Bool.eq_iff_iff, decide_eq_true_iff, decide_eq_true_iff]; omega
          rw [hp]
          have b4 := below_drewN (q := nq) b3
          clear hp G1 G2 HS1 HS2 b3 q1 hb2
          cases ho : (offB m f || offB m g)
          · have hC2 : Hid (chkS m [f, g] = if hasZ f || hasZ g then 9 else 0) := by show _ = _; rw [hC.out, ho]; rfl
            have hD : Hid ((hasZ f || hasZ g) = ((decide (0 < n) && f.getD 0 0#16 == 0#16) || (decide (0 < n2) && g.getD 0 0#16 == 0#16))) := by
              show _ = _; rw [HZ1.out, HZ2.out, HN.out, HN2.out]
            clear ho hC HZ1 HZ2 HOFF
            by_cases hn0 : 0 < n
            · obtain ⟨b, o, ha, hcell⟩ := (HR.out.below b4).at' hn0
              have hc : (w2.drewN nq).cell? ⟨b, o, none⟩ = some (.int .u16 (U (f.getD 0 0#16))) := hcell 0 _ (at_cell (by have := HN.out; omega))
              obtain ⟨x, hx⟩ : ∃ x, f.getD 0 0#16 = x := ⟨_, rfl⟩
              rw [hx] at hc hD
              subst ha
              clear hcell hx
              cases hx0 : (x == 0#16)
              · by_cases hn2 : 0 < n2
                · obtain ⟨b2, o2, ha2, hcell2⟩ := (HR2.out.below b4).at' hn2
                  have hc2 : (w2.drewN nq).cell? ⟨b2, o2, none⟩ = some (.int .u16 (U (g.getD 0 0#16))) := hcell2 0 _ (at_cell (by have := HN2.out; omega))
                  obtain ⟨y, hy⟩ : ∃ y, g.getD 0 0#16 = y := ⟨_, rfl⟩
                  rw [hy] at hc2 hD
                  subst ha2
                  clear hcell2 hy
                  cases hy0 : (y == 0#16)
                  · have hE : Hid (chkS m [f, g] = 0) := by show _ = _; rw [hC2.out, hD.out, hx0, hy0]; simp
                    clear hD hC2
                    go_wp2_with fail
                    go_ret
                    exact ⟨by rw [hE.out]; rfl, b4⟩
                  · have hE : Hid (chkS m [f, g] = 9) := by show _ = _; rw [hC2.out, hD.out, hx0, hy0]; simp [hn2]
                    clear hD hC2
                    go_wp2_with fail
                    go_ret
                    exact ⟨by rw [hE.out]; rfl, b4⟩
                · have hE : Hid (chkS m [f, g] = 0) := by show _ = _; rw [hC2.out, hD.out, hx0]; simp [hn2]
                  clear hD hC2
                  go_wp2_with fail
                  go_ret
                  exact ⟨by rw [hE.out]; rfl, b4⟩
              · have hE : Hid (chkS m [f, g] = 9) := by show _ = _; rw [hC2.out, hD.out, hx0]; simp [hn0]
                clear hD hC2
                go_wp2_with fail
                go_ret
                exact ⟨by rw [hE.out]; rfl, b4⟩
            · by_cases hn2 : 0 < n2
              · obtain ⟨b2, o2, ha2, hcell2⟩ := (HR2.out.below b4).at' hn2
                have hc2 : (w2.drewN nq).cell? ⟨b2, o2, none⟩ = some (.int .u16 (U (g.getD 0 0#16))) := hcell2 0 _ (at_cell (by have := HN2.out; omega))
                obtain ⟨y, hy⟩ : ∃ y, g.getD 0 0#16 = y := ⟨_, rfl⟩
                rw [hy] at hc2 hD
                subst ha2
                clear hcell2 hy
                cases hy0 : (y == 0#16)
                · have hE : Hid (chkS m [f, g] = 0) := by show _ = _; rw [hC2.out, hD.out, hy0]; simp [hn0]
                  clear hD hC2
                  go_wp2_with fail
                  go_ret
                  exact ⟨by rw [hE.out]; rfl, b4⟩
                · have hE : Hid (chkS m [f, g] = 9) := by show _ = _; rw [hC2.out, hD.out, hy0]; simp [hn0, hn2]
                  clear hD hC2
                  go_wp2_with fail
                  go_ret
                  exact ⟨by rw [hE.out]; rfl, b4⟩
              · have hE : Hid (chkS m [f, g] = 0) := by show _ = _; rw [hC2.out, hD.out]; simp [hn0, hn2]
                clear hD hC2
                go_wp2_with fail
                go_ret
                exact ⟨by rw [hE.out]; rfl, b4⟩
          · have hE : Hid (chkS m [f, g] = 7) := by show _ = _; rw [hC.out, ho]; rfl
            clear ho hC HZ1 HZ2 HOFF
            go_wp2_with fail
            go_ret
            exact ⟨by rw [hE.out]; rfl, b4⟩
        · have hE : Hid (chkS m [f, g] = valS g) := by show _ = _; rw [HC.out, hf]; simp [hg]
          obtain ⟨v, hv⟩ : ∃ v, valS g = v := ⟨_, rfl⟩
          rw [hv] at HV2 hE hg
          have hv1 : (v != 0) = true := by simpa using hg
          clear hv hg hf HC
          go_enter Tryd.func22, Tryd.ntmps22
          go_wp2_with fail
          refine (HV.out w HR.out).mono ?_
          rintro e w1 ⟨rfl, b1⟩
          go_wp2_with fail
          refine (HV2.out w1 (HR2.out.below b1)).mono ?_
          rintro e w2 ⟨rfl, b2⟩
          go_wp2_with fail
          go_ret
          exact ⟨by rw [hE.out]; rfl, Below.next b1 b2⟩
      · have hE : Hid (chkS m [f, g] = valS f) := by show _ = _; rw [HC.out]; simp [hf]
        obtain ⟨v, hv⟩ : ∃ v, valS f = v := ⟨_, rfl⟩
        rw [hv] at HV hE hf
        have hv1 : (v != 0) = true := by simpa using hf
        clear hv hf HC
        go_enter Tryd.func22, Tryd.ntmps22
        go_wp2_with fail
        refine (HV.out w HR.out).mono ?_
        rintro e w1 ⟨rfl, b1⟩
        go_wp2_with fail
        go_ret
        exact ⟨by rw [hE.out]; rfl, b1⟩
end Go.Proofs.YtgfjmplifmbmlaaDoor
namespace Go.Proofs.YtgfjmplifmbmlaaDoor
open Go.RowKit Go.Shelf

def noB : ByteArray := ⟨#[]⟩
theorem pickS_inv {read : List (BitVec 16)} {b : Int} {l : List Rep} (hb : 1 ≤ b) (h : invR b 0#16 l = true) : pickS read b l = (⟨#[]⟩, 1) := by
  unfold pickS; rw [if_neg (by omega), if_pos h]
theorem pickS_state {read : List (BitVec 16)} {b : Int} {l : List Rep} (hb : 1 ≤ b) (h : invR b 0#16 l = false) (ha : accS read (seenR l) = false) : pickS read b l = (⟨#[]⟩, 10) := by
  unfold pickS; rw [if_neg (by omega), if_neg (by rw [h]; decide), if_pos ha]
theorem pickS_none {read : List (BitVec 16)} {b : Int} {l : List Rep} (hb : 1 ≤ b) (h : invR b 0#16 l = false) (ha : accS read (seenR l) = true) (h0 : (bestR l).1 = 0) : pickS read b l = (⟨#[]⟩, 4) := by
  unfold pickS; rw [if_neg (by omega), if_neg (by rw [h]; decide), if_neg (by rw [ha]; decide), if_pos h0]
theorem pickS_some {read : List (BitVec 16)} {b : Int} {l : List Rep} (hb : 1 ≤ b) (h : invR b 0#16 l = false) (ha : accS read (seenR l) = true) (h0 : (bestR l).1 ≠ 0) : pickS read b l = ((bestR l).2, 0) := by
  unfold pickS; rw [if_neg (by omega), if_neg (by rw [h]; decide), if_neg (by rw [ha]; decide), if_neg h0]

set_option maxRecDepth 100000 in
set_option maxHeartbeats 4000000 in
theorem Pick_c (read : List (BitVec 16)) (bal : Int) (l : List Rep) (a : Option Addr) (n c : Nat) (a2 : Option Addr) (n2 c2 : Nat) (w : World) (h : Rd w a n c (read.map setV2)) (h2 : RdK 3 w a2 n2 c2 (l.flatMap repC)) :
    Calls Tryd.prog 11 #[.slice a n c, .int .i64 bal, .slice a2 n2 c2] w fun e w' => e = .returned (.tuple #[.string (pickS read bal l).1, .int .i64 (pickS read bal l).2]) ∧ Below w.heap.size w w' := by
  have hnl : l.length = n2 := by have := h2.len; rw [flat_len 3 repC repC_len] at this; omega
  have hm := h2.max
  have hle := h2.le
  unfold maxLen at hm
  have HR := Lib.hid h
  have HR2 := Lib.hid h2
  have HN := Lib.hid hnl
  clear h h2 hnl
  by_cases hb1 : bal < 1
  · have hP : Hid (pickS read bal l = (⟨#[]⟩, 1)) := by show _ = _; unfold pickS; rw [if_pos hb1]
    go_enter Tryd.func11, Tryd.ntmps11
    go_wp2_with fail
    go_ret2
    exact ⟨by rw [hP.out]; rfl, Below.refl _ _⟩
  · have HB1 := Lib.hid (show 1 ≤ bal by omega)
    go_enter Tryd.func11, Tryd.ntmps11
    go_wp2_with fail
    go_loopw [8, 17] (fun v i wr => ∃ (k : Nat) (s : BitVec 16), k ≤ n2 ∧ i = .int .i64 k ∧ v = .int .u16 (U s) ∧ Hid (s = seenR (l.take k)) ∧ Hid (invR bal 0#16 (l.take k) = false) ∧ Below w.heap.size w wr) (fun _ i _ => n2 - (intOf i).toNat)
    case atStart => exact ⟨0, 0#16, Nat.zero_le _, rfl, rfl, rfl, rfl, Below.refl _ _⟩
    case round =>
      obtain ⟨k, s, hk, rfl, rfl, hs, hinv, hb⟩ := hrel
      have hsz := hb.size
      by_cases hlt : k < n2
      · obtain ⟨r, hr⟩ : ∃ r, l[k]? = some r := ⟨l[k]'(by have := HN.out; omega), List.getElem?_eq_getElem _⟩
        obtain ⟨b, o, ha, hcell⟩ := RdK.cells (HR2.out.below hb) repC_len (by omega)
        have hc0 : wr.cell? ⟨b, o + k * 3, none⟩ = some (.int .i64 r.server) := hcell k r hr 0 (by omega)
        have hc1 : wr.cell? ⟨b, o + k * 3 + 1, none⟩ = some (.int .i64 r.ballot) := hcell k r hr 1 (by omega)
        have hc2 : wr.cell? ⟨b, o + k * 3 + 2, none⟩ = some (.string r.value) := hcell k r hr 2 (by omega)
        have HS := Lib.hid (seenR_take hr)
        obtain ⟨hi1, hi2⟩ := invR_take hr hinv.out
        rw [← hs.out] at hi1 hi2
        have HI1 := Lib.hid hi1
        have HI2 := Lib.hid (fun hb => pickS_inv (read := read) HB1.out (hi2 hb))
        have hbad : Hid (badR bal s r = (decide (r.server < 0) || decide (12 ≤ r.server) || decide (r.ballot < 0) || decide (bal ≤ r.ballot) || hasB s r.server.toNat)) := rfl
        have hsee : Hid (seeR s r = s ||| bitS r.server.toNat) := rfl
        obtain ⟨rs, hrs⟩ : ∃ x, r.server = x := ⟨_, rfl⟩
        obtain ⟨rb, hrb⟩ : ∃ x, r.ballot = x := ⟨_, rfl⟩
        obtain ⟨rv, hrv⟩ : ∃ x, r.value = x := ⟨_, rfl⟩
        rw [hrs] at hc0 hbad hsee
        rw [hrb] at hc1 hbad
        rw [hrv] at hc2
        subst ha
        clear hcell hrs hrb hrv hr hi1 hi2
        by_cases g1 : rs < 0
        · have hP : Hid (pickS read bal l = (⟨#[]⟩, 1)) := HI2.out (by rw [hbad.out]; simp [g1])
          clear HI1 HI2 hbad hsee HS
          go_wp2_with fail
          go_ret2
          exact ⟨by rw [hP.out]; rfl, hb.alloc hsz _⟩
        · by_cases g2 : 12 ≤ rs
          · have hP : Hid (pickS read bal l = (⟨#[]⟩, 1)) := HI2.out (by rw [hbad.out]; simp [g2])
            clear HI1 HI2 hbad hsee HS
            go_wp2_with fail
            go_ret2
            exact ⟨by rw [hP.out]; rfl, hb.alloc hsz _⟩
          · by_cases g3 : rb < 0
            · have hP : Hid (pickS read bal l = (⟨#[]⟩, 1)) := HI2.out (by rw [hbad.out]; simp [g3])
              clear HI1 HI2 hbad hsee HS
              go_wp2_with fail
              go_ret2
              exact ⟨by rw [hP.out]; rfl, hb.alloc hsz _⟩
            · by_cases g4 : bal ≤ rb
              · have hP : Hid (pickS read bal l = (⟨#[]⟩, 1)) := HI2.out (by rw [hbad.out]; simp [g4])
                clear HI1 HI2 hbad hsee HS
                go_wp2_with fail
                go_ret2
                exact ⟨by rw [hP.out]; rfl, hb.alloc hsz _⟩
              · obtain ⟨m, rfl⟩ := Int.eq_ofNat_of_zero_le (by omega : 0 ≤ rs)
                cases g5 : hasB s m
                · have hnb : Hid (badR bal s r = false) := by show _ = _; rw [hbad.out]; simp [g3, g4, g5]; omega
                  have hinv' : Hid (invR bal 0#16 (l.take (k + 1)) = false) := by show _ = _; rw [HI1.out, hnb.out]
                  clear HI1 HI2 hbad hnb hinv
                  go_wp2_with fail
                  go_roundw
                  case rel => exact ⟨k + 1, s ||| bitS m, by omega, by go_num, rfl, by show _ = _; rw [HS.out, ← hs.out, hsee.out]; rfl, hinv', hb.alloc hsz _⟩
                  case measure => simp [intOf]; omega
                · have hP : Hid (pickS read bal l = (⟨#[]⟩, 1)) := HI2.out (by rw [hbad.out]; simp [g5])
                  clear HI1 HI2 hbad hsee HS
                  go_wp2_with fail
                  go_ret2
                  exact ⟨by rw [hP.out]; rfl, hb.alloc hsz _⟩
      · have hE : Hid (l.take k = l) := List.take_of_length_le (by have := HN.out; omega)
        rw [hE.out] at hinv
        have HP := Lib.hid (pick_c read l a n c a2 n2 c2 wr (HR.out.below hb) (HR2.out.below hb) (fun r hr => by have := invR_ok hinv.out r hr; omega))
        obtain ⟨⟨bb, bv⟩, hbb⟩ : ∃ p, bestR l = p := ⟨_, rfl⟩
        have HBB := Lib.hid hbb
        rw [hbb] at HP
        clear hs hbb hE
        cases hacc : accS read (seenR l)
        · have hP : Hid (pickS read bal l = (⟨#[]⟩, 10)) := pickS_state HB1.out hinv.out hacc
          rw [hacc] at HP
          clear hacc hinv
          go_wp2_with fail
          refine HP.out.mono ?_
          rintro e w3 ⟨sv, rfl, hb3⟩
          have hb4 := Below.next hb hb3
          have hsz4 := hb4.size
          clear hb hb3 hsz
          go_wp2_with fail
          go_ret2
          exact ⟨by rw [hP.out]; rfl, hb4.alloc hsz4 _⟩
        · by_cases h0 : bb = 0
          · have hP : Hid (pickS read bal l = (⟨#[]⟩, 4)) := pickS_none HB1.out hinv.out hacc (by rw [HBB.out]; exact h0)
            rw [hacc] at HP
            subst h0
            clear hacc hinv
            go_wp2_with fail
            refine HP.out.mono ?_
            rintro e w3 ⟨sv, rfl, hb3⟩
            have hb4 := Below.next hb hb3
            have hsz4 := hb4.size
            clear hb hb3 hsz
            go_wp2_with fail
            go_ret2
            exact ⟨by rw [hP.out]; rfl, hb4.alloc hsz4 _⟩
          · have hP : Hid (pickS read bal l = (bv, 0)) := by show _ = _; rw [pickS_some HB1.out hinv.out hacc (by rw [HBB.out]; exact h0), HBB.out]
            rw [hacc] at HP
            have h0' : (bb == 0) = false := by simpa using h0
            clear hacc hinv h0
            go_wp2_with fail
            refine HP.out.mono ?_
            rintro e w3 ⟨sv, rfl, hb3⟩
            have hb4 := Below.next hb hb3
            have hsz4 := hb4.size
            clear hb hb3 hsz
            go_wp2_with fail
            go_ret2
            exact ⟨by rw [hP.out]; rfl, hb4.alloc hsz4 _⟩
end Go.Proofs.YtgfjmplifmbmlaaDoor
namespace Go.Proofs.YtgfjmplifmbmlaaDoor
open Go.RowKit Go.Shelf

theorem step_le {p : Int × ByteArray} {r : Rep} (h : r.ballot ≤ p.1) : stepR p r = p := by unfold stepR; rw [if_neg (by omega)]
theorem step_gt {p : Int × ByteArray} {r : Rep} (h : p.1 < r.ballot) : stepR p r = (r.ballot, r.value) := by unfold stepR; rw [if_pos h]

set_option maxRecDepth 100000 in
set_option maxHeartbeats 4000000 in
theorem rPick_c (read : List (BitVec 16)) (bal : Int) (l : List Rep) (a : Option Addr) (n c : Nat) (a2 : Option Addr) (n2 c2 : Nat) (w : World) (h : Rd w a n c (read.map setV2)) (h2 : RdK 3 w a2 n2 c2 (l.flatMap repC)) :
    Calls Tryd.prog 14 #[.slice a n c, .int .i64 bal, .slice a2 n2 c2] w fun e w' => e = .returned (.tuple #[.string (pickS read bal l).1, .int .i64 (pickS read bal l).2]) ∧ Below w.heap.size w w' := by
  have hnl : l.length = n2 := by have := h2.len; rw [flat_len 3 repC repC_len] at this; omega
  have hm := h2.max
  have hle := h2.le
  unfold maxLen at hm
  have HR := Lib.hid h
  have HR2 := Lib.hid h2
  have HN := Lib.hid hnl
  clear h h2 hnl
  by_cases hb1 : bal < 1
  · have hP : Hid (pickS read bal l = (⟨#[]⟩, 1)) := by show _ = _; unfold pickS; rw [if_pos hb1]
    go_enter Tryd.func14, Tryd.ntmps14
    go_wp2_with fail
    go_ret2
    exact ⟨by rw [hP.out]; rfl, Below.refl _ _⟩
  · have HB1 := Lib.hid (show 1 ≤ bal by omega)
    go_enter Tryd.func14, Tryd.ntmps14
    go_wp2_with fail
    go_loopw [8, 9] (fun v i wr => ∃ (k : Nat) (s : BitVec 16), k ≤ n2 ∧ i = .int .i64 k ∧ v = .int .u16 (U s) ∧ Hid (s = seenR (l.take k)) ∧ Hid (invR bal 0#16 (l.take k) = false) ∧ Below w.heap.size w wr) (fun _ i _ => n2 - (intOf i).toNat)
    case atStart => exact ⟨0, 0#16, Nat.zero_le _, rfl, rfl, rfl, rfl, Below.refl _ _⟩
    case round =>
      obtain ⟨k, s, hk, rfl, rfl, hs, hinv, hb⟩ := hrel
      have hsz := hb.size
      by_cases hlt : k < n2
      · obtain ⟨r, hr⟩ : ∃ r, l[k]? = some r := ⟨l[k]'(by have := HN.out; omega), List.getElem?_eq_getElem _⟩
        obtain ⟨b, o, ha, hcell⟩ := RdK.cells (HR2.out.below hb) repC_len (by omega)
        have hc0 : wr.cell? ⟨b, o + k * 3, none⟩ = some (.int .i64 r.server) := hcell k r hr 0 (by omega)
        have hc1 : wr.cell? ⟨b, o + k * 3 + 1, none⟩ = some (.int .i64 r.ballot) := hcell k r hr 1 (by omega)
        have hc2 : wr.cell? ⟨b, o + k * 3 + 2, none⟩ = some (.string r.value) := hcell k r hr 2 (by omega)
        have HS := Lib.hid (seenR_take hr)
        obtain ⟨hi1, hi2⟩ := invR_take hr hinv.out
        rw [← hs.out] at hi1 hi2
        have HI1 := Lib.hid hi1
        have HI2 := Lib.hid (fun hb => pickS_inv (read := read) HB1.out (hi2 hb))
        have hbad : Hid (badR bal s r = (decide (r.server < 0) || decide (12 ≤ r.server) || decide (r.ballot < 0) || decide (bal ≤ r.ballot) || hasB s r.server.toNat)) := rfl
        have hsee : Hid (seeR s r = s ||| bitS r.server.toNat) := rfl
        obtain ⟨rs, hrs⟩ : ∃ x, r.server = x := ⟨_, rfl⟩
        obtain ⟨rb, hrb⟩ : ∃ x, r.ballot = x := ⟨_, rfl⟩
        obtain ⟨rv, hrv⟩ : ∃ x, r.value = x := ⟨_, rfl⟩
        rw [hrs] at hc0 hbad hsee
        rw [hrb] at hc1 hbad
        rw [hrv] at hc2
        subst ha
        clear hcell hrs hrb hrv hr hi1 hi2
        by_cases g1 : rs < 0
        · have hP : Hid (pickS read bal l = (⟨#[]⟩, 1)) := HI2.out (by rw [hbad.out]; simp [g1])
          clear HI1 HI2 hbad hsee HS
          go_wp2_with fail
          go_ret2
          exact ⟨by rw [hP.out]; rfl, hb.alloc hsz _⟩
        · by_cases g2 : 12 ≤ rs
          · have hP : Hid (pickS read bal l = (⟨#[]⟩, 1)) := HI2.out (by rw [hbad.out]; simp [g2])
            clear HI1 HI2 hbad hsee HS
            go_wp2_with fail
            go_ret2
            exact ⟨by rw [hP.out]; rfl, hb.alloc hsz _⟩
          · by_cases g3 : rb < 0
            · have hP : Hid (pickS read bal l = (⟨#[]⟩, 1)) := HI2.out (by rw [hbad.out]; simp [g3])
              clear HI1 HI2 hbad hsee HS
              go_wp2_with fail
              go_ret2
              exact ⟨by rw [hP.out]; rfl, hb.alloc hsz _⟩
            · by_cases g4 : bal ≤ rb
              · have hP : Hid (pickS read bal l = (⟨#[]⟩, 1)) := HI2.out (by rw [hbad.out]; simp [g4])
                clear HI1 HI2 hbad hsee HS
                go_wp2_with fail
                go_ret2
                exact ⟨by rw [hP.out]; rfl, hb.alloc hsz _⟩
              · obtain ⟨m, rfl⟩ := Int.eq_ofNat_of_zero_le (by omega : 0 ≤ rs)
                cases g5 : hasB s m
                · have hnb : Hid (badR bal s r = false) := by show _ = _; rw [hbad.out]; simp [g3, g4, g5]; omega
                  have hinv' : Hid (invR bal 0#16 (l.take (k + 1)) = false) := by show _ = _; rw [HI1.out, hnb.out]
                  clear HI1 HI2 hbad hnb hinv
                  go_wp2_with fail
                  go_roundw
                  case rel => exact ⟨k + 1, s ||| bitS m, by omega, by go_num, rfl, by show _ = _; rw [HS.out, ← hs.out, hsee.out]; rfl, hinv', hb.alloc hsz _⟩
                  case measure => simp [intOf]; omega
                · have hP : Hid (pickS read bal l = (⟨#[]⟩, 1)) := HI2.out (by rw [hbad.out]; simp [g5])
                  clear HI1 HI2 hbad hsee HS
                  go_wp2_with fail
                  go_ret2
                  exact ⟨by rw [hP.out]; rfl, hb.alloc hsz _⟩
      · have hE : Hid (l.take k = l) := List.take_of_length_le (by have := HN.out; omega)
        rw [hE.out] at hinv
        have hs2 : Hid (s = seenR l) := by show _ = _; rw [hs.out, hE.out]
        have HA := Lib.hid (accepts8_c read s a n c wr (HR.out.below hb))
        clear hs hE
        cases hacc : accS read s
        · have hP : Hid (pickS read bal l = (⟨#[]⟩, 10)) := pickS_state HB1.out hinv.out (by rw [← hs2.out]; exact hacc)
          rw [hacc] at HA
          clear hacc hinv
          go_wp2_with fail
          refine HA.out.mono ?_
          rintro e w3 ⟨rfl, rfl⟩
          go_wp2_with fail
          go_ret2
          exact ⟨by rw [hP.out]; rfl, hb⟩
        · have hacc2 : Hid (accS read (seenR l) = true) := by show _ = _; rw [← hs2.out]; exact hacc
          rw [hacc] at HA
          clear hacc
          go_wp2_with fail
          refine HA.out.mono ?_
          rintro e w3 ⟨rfl, rfl⟩
          go_wp2_with fail
          go_loopw [11, 12] (fun v i wr => ∃ (k : Nat), k ≤ n2 ∧ i = .int .i64 k ∧ ((v = .int .i64 (-1) ∧ Hid ((bestR (l.take k)).1 = 0)) ∨ ∃ (j : Nat) (q : Rep), v = .int .i64 j ∧ j < k ∧ Hid (l[j]? = some q ∧ bestR (l.take k) = (q.ballot, q.value) ∧ 0 < q.ballot)) ∧ Below w.heap.size w wr) (fun _ i _ => n2 - (intOf i).toNat)
          case atStart => exact ⟨0, Nat.zero_le _, rfl, .inl ⟨rfl, rfl⟩, hb⟩
          case round =>
            clear hb HA hsz
            obtain ⟨i, hi, rfl, hv, hb⟩ := hrel
            by_cases hlt2 : i < n2
            · obtain ⟨r, hr⟩ : ∃ r, l[i]? = some r := ⟨l[i]'(by have := HN.out; omega), List.getElem?_eq_getElem _⟩
              obtain ⟨b, o, ha, hcell⟩ := RdK.cells (HR2.out.below hb) repC_len (by omega)
              have HCELL := Lib.hid hcell
              have hc1 : wr.cell? ⟨b, o + i * 3 + 1, none⟩ = some (.int .i64 r.ballot) := hcell i r hr 1 (by omega)
              have HB := Lib.hid (bestR_take hr)
              have HRR := Lib.hid hr
              obtain ⟨rb, hrb⟩ : ∃ x, r.ballot = x := ⟨_, rfl⟩
              rw [hrb] at hc1
              have HRB := Lib.hid hrb
              subst ha
              clear hcell hr hrb
              rcases hv with ⟨rfl, h0⟩ | ⟨j, q, rfl, hj, hq⟩
              · by_cases hgt : 0 < rb
                · go_wp2_with fail
                  go_quiet (fail)
                  go_wp2_with fail
                  go_roundw
                  case rel => exact ⟨i + 1, by omega, by go_num, .inr ⟨i, r, rfl, by omega, ⟨HRR.out, by rw [HB.out, step_gt (by rw [h0.out, HRB.out]; exact hgt)], by rw [HRB.out]; exact hgt⟩⟩, below_drewN hb⟩
                  case measure => simp [intOf]; omega
                · have hd : decide (0 < rb) = false := decide_eq_false hgt
                  have HG := Lib.hid (show rb ≤ 0 by omega)
                  clear hgt
                  go_wp2_with fail
                  go_quiet (fail)
                  go_wp2_with fail
                  go_roundw
                  case rel => exact ⟨i + 1, by omega, by go_num, .inl ⟨rfl, by show _ = _; rw [HB.out, step_le (by rw [h0.out, HRB.out]; exact HG.out)]; exact h0.out⟩, below_drewN hb⟩
                  case measure => simp [intOf]; omega
              · have hj2 : j < n2 := by omega
                have hc2 : wr.cell? ⟨b, o + j * 3 + 1, none⟩ = some (.int .i64 q.ballot) := HCELL.out j q hq.out.1 1 (by omega)
                obtain ⟨qb, hqb⟩ : ∃ x, q.ballot = x := ⟨_, rfl⟩
                rw [hqb] at hc2
                have HQB := Lib.hid hqb
                have hq0 : 0 < qb := by rw [← hqb]; exact hq.out.2.2
                have HQ0 := Lib.hid hq0
                clear hqb hq0
                by_cases hgt : qb < rb
                · have h0 : 0 < rb := by have := HQ0.out; omega
                  go_wp2_with fail
                  go_quiet (fail)
                  go_wp2_with fail
                  go_roundw
                  case rel => exact ⟨i + 1, by omega, by go_num, .inr ⟨i, r, rfl, by omega, ⟨HRR.out, by rw [HB.out, step_gt (by rw [hq.out.2.1, HRB.out]; show q.ballot < rb; rw [HQB.out]; exact hgt)], by rw [HRB.out]; exact h0⟩⟩, below_drewN hb⟩
                  case measure => simp [intOf]; omega
                · have HG := Lib.hid (show rb ≤ qb by omega)
                  have hd2 : decide (qb < rb) = false := decide_eq_false hgt
                  clear hgt
                  by_cases h0 : 0 < rb
                  · go_wp2_with fail
                    go_quiet (fail)
                    go_wp2_with fail
                    go_roundw
                    case rel => exact ⟨i + 1, by omega, by go_num, .inr ⟨j, q, rfl, by omega, ⟨hq.out.1, by rw [HB.out, step_le (by rw [hq.out.2.1, HRB.out]; show rb ≤ q.ballot; rw [HQB.out]; exact HG.out)]; exact hq.out.2.1, hq.out.2.2⟩⟩, below_drewN hb⟩
                    case measure => simp [intOf]; omega
                  · have hd : decide (0 < rb) = false := decide_eq_false h0
                    clear h0
                    go_wp2_with fail
                    go_quiet (fail)
                    go_wp2_with fail
                    go_roundw
                    case rel => exact ⟨i + 1, by omega, by go_num, .inr ⟨j, q, rfl, by omega, ⟨hq.out.1, by rw [HB.out, step_le (by rw [hq.out.2.1, HRB.out]; show rb ≤ q.ballot; rw [HQB.out]; exact HG.out)]; exact hq.out.2.1, hq.out.2.2⟩⟩, below_drewN hb⟩
                    case measure => simp [intOf]; omega
            · have hE : Hid (l.take i = l) := List.take_of_length_le (by have := HN.out; omega)
              rcases hv with ⟨rfl, h0⟩ | ⟨j, q, rfl, hj, hq⟩
              · have hP : Hid (pickS read bal l = (⟨#[]⟩, 4)) := pickS_none HB1.out hinv.out hacc2.out (by rw [← hE.out]; exact h0.out)
                clear h0 hE
                go_wp2_with fail
                go_ret2
                exact ⟨by rw [hP.out]; rfl, hb⟩
              · have hj2 : j < n2 := by omega
                have hP : Hid (pickS read bal l = (q.value, 0)) := by
                  show _ = _
                  have e := hq.out.2.1
                  rw [hE.out] at e
                  rw [pickS_some HB1.out hinv.out hacc2.out (by rw [e]; show q.ballot ≠ 0; have := hq.out.2.2; omega), e]
                obtain ⟨b, o, ha, hcell⟩ := RdK.cells (HR2.out.below hb) repC_len (by omega)
                have hc2 : wr.cell? ⟨b, o + j * 3 + 2, none⟩ = some (.string q.value) := hcell j q hq.out.1 2 (by omega)
                obtain ⟨qv, hqv⟩ : ∃ x, q.value = x := ⟨_, rfl⟩
                rw [hqv] at hc2 hP
                subst ha
                clear hcell hqv hq hE
                go_wp2_with fail
                go_ret2
                exact ⟨by rw [hP.out]; rfl, hb⟩
end Go.Proofs.YtgfjmplifmbmlaaDoor
namespace Go.Proofs.YtgfjmplifmbmlaaDoor
open Go.RowKit Go.Shelf

theorem ev_ne {p q : Ev} (h : p ≠ q) : (p.kind == q.kind) = false ∨ ((p.kind == q.kind) = true ∧ (p.server == q.server) = false) ∨ ((p.kind == q.kind) = true ∧ (p.server == q.server) = true ∧ (p.ballot == q.ballot) = false) ∨
    ((p.kind == q.kind) = true ∧ (p.server == q.server) = true ∧ (p.ballot == q.ballot) = true ∧ (p.value.toList == q.value.toList) = false) := by
  obtain ⟨a, b, c, d⟩ := p
  obtain ⟨a', b', c', d'⟩ := q
  simp only
  cases h1 : (a == a')
  · exact .inl rfl
  · cases h2 : (b == b')
    · exact .inr (.inl ⟨rfl, rfl⟩)
    · cases h3 : (c == c')
      · exact .inr (.inr (.inl ⟨rfl, rfl, rfl⟩))
      · refine .inr (.inr (.inr ⟨rfl, rfl, rfl, ?_⟩))
        have e1 := eq_of_beq h1; have e2 := eq_of_beq h2; have e3 := eq_of_beq h3
        subst e1 e2 e3
        rw [ByteArray.toList_eq, ByteArray.toList_eq]
        refine beq_eq_false_iff_ne.2 (fun e => h ?_)
        have : d = d' := ByteArray.ext (Array.toList_inj.1 e)
        rw [this]
theorem same_at {α : Type} [DecidableEq α] {l m : List α} {k : Nat} (hl : l.length = m.length) {x y : α} (hx : l[k]? = some x) (hy : m[k]? = some y) (h : l.take k = m.take k) :
    (x = y → l.take (k + 1) = m.take (k + 1)) ∧ (x ≠ y → l ≠ m) := by
  constructor
  · rintro rfl; rw [List.take_add_one, List.take_add_one, hx, hy, h]
  · rintro hne rfl; rw [hx] at hy; cases hy; exact hne rfl

set_option maxRecDepth 100000 in
set_option maxHeartbeats 2000000 in
theorem sameE_c (l m : List Ev) (a : Option Addr) (n c : Nat) (a2 : Option Addr) (n2 c2 : Nat) (w : World) (h : RdK 4 w a n c (l.flatMap evC)) (h2 : RdK 4 w a2 n2 c2 (m.flatMap evC)) :
    Calls Tryd.prog 21 #[.slice a n c, .slice a2 n2 c2] w fun e w' => e = .returned (.bool (decide (l = m))) ∧ Below w.heap.size w w' := by
  have hnl : l.length = n := by have := h.len; rw [flat_len 4 evC evC_len] at this; omega
  have hnl2 : m.length = n2 := by have := h2.len; rw [flat_len 4 evC evC_len] at this; omega
  have hm := h.max
  have hle := h.le
  have hm2 := h2.max
  have hle2 := h2.le
  unfold maxLen at hm hm2
  have HR := Lib.hid h
  have HN := Lib.hid hnl
  have HR2 := Lib.hid h2
  have HN2 := Lib.hid hnl2
  clear h hnl h2 hnl2
  by_cases hnn : n = n2
  · subst hnn
    go_enter Tryd.func21, Tryd.ntmps21
    go_wp2_with fail
    go_loopw [5] (fun i wr => ∃ k : Nat, k ≤ n ∧ i = .int .i64 k ∧ Hid (l.take k = m.take k) ∧ Below w.heap.size w wr) (fun i _ => n - (intOf i).toNat)
    case atStart => exact ⟨0, Nat.zero_le _, rfl, rfl, Below.refl _ _⟩
    case round =>
      obtain ⟨k, hk, rfl, ht, hb⟩ := hrel
      by_cases hlt : k < n
      · obtain ⟨p, hp⟩ : ∃ r, l[k]? = some r := ⟨l[k]'(by have := HN.out; omega), List.getElem?_eq_getElem _⟩
        obtain ⟨q, hq⟩ : ∃ r, m[k]? = some r := ⟨m[k]'(by have := HN2.out; omega), List.getElem?_eq_getElem _⟩
        obtain ⟨b, o, ha, hcell⟩ := RdK.cells (HR.out.below hb) evC_len (by omega)
        have c0 : wr.cell? ⟨b, o + k * 4, none⟩ = some (.int .i64 p.kind) := hcell k p hp 0 (by omega)
        have c1 : wr.cell? ⟨b, o + k * 4 + 1, none⟩ = some (.int .i64 p.server) := hcell k p hp 1 (by omega)
        have c2 : wr.cell? ⟨b, o + k * 4 + 2, none⟩ = some (.int .i64 p.ballot) := hcell k p hp 2 (by omega)
        have c3 : wr.cell? ⟨b, o + k * 4 + 3, none⟩ = some (.string p.value) := hcell k p hp 3 (by omega)
        obtain ⟨b2, o2, ha2, hcell2⟩ := RdK.cells (HR2.out.below hb) evC_len (by omega)
        have d0 : wr.cell? ⟨b2, o2 + k * 4, none⟩ = some (.int .i64 q.kind) := hcell2 k q hq 0 (by omega)
        have d1 : wr.cell? ⟨b2, o2 + k * 4 + 1, none⟩ = some (.int .i64 q.server) := hcell2 k q hq 1 (by omega)
        have d2 : wr.cell? ⟨b2, o2 + k * 4 + 2, none⟩ = some (.int .i64 q.ballot) := hcell2 k q hq 2 (by omega)
        have d3 : wr.cell? ⟨b2, o2 + k * 4 + 3, none⟩ = some (.string q.value) := hcell2 k q hq 3 (by omega)
        obtain ⟨s1, s2⟩ := same_at (by rw [HN.out, HN2.out]) hp hq ht.out
        have S1 := Lib.hid s1
        have S2 := Lib.hid s2
        subst ha ha2
        clear hcell hcell2 hp hq s1 s2
        by_cases he : p = q
        · subst he
          have ht2 : Hid (l.take (k + 1) = m.take (k + 1)) := S1.out rfl
          obtain ⟨pk, ps, pb, pv⟩ := p
          simp only at c0 c1 c2 c3 d0 d1 d2 d3
          clear S1 S2 ht
          go_wp2_with fail
          go_quiet (fail)
          go_wp2_with fail
          go_roundw
          case rel => exact ⟨k + 1, by omega, by go_num, ht2, below_drewN hb⟩
          case measure => simp [intOf]; omega
        · have hE : Hid (decide (l = m) = false) := decide_eq_false (S2.out he)
          have hne := ev_ne he
          obtain ⟨pk, ps, pb, pv⟩ := p
          obtain ⟨qk, qs, qb, qv⟩ := q
          simp only at c0 c1 c2 c3 d0 d1 d2 d3 hne
          clear S1 S2 he ht
          rcases hne with h1 | ⟨h1, h2⟩ | ⟨h1, h2, h3⟩ | ⟨h1, h2, h3, h4⟩
          all_goals
            go_wp2_with fail
            go_quiet (fail)
            go_wp2_with fail
            go_ret
            exact ⟨ret_bool hE.out.symm, below_drewN hb⟩
      · have hE : Hid (decide (l = m) = true) := by
          show _ = _
          rw [decide_eq_true_iff]
          have := ht.out
          rw [List.take_of_length_le (by have := HN.out; omega), List.take_of_length_le (by have := HN2.out; omega)] at this
          exact this
        clear ht
        go_wp2_with fail
        go_ret
        exact ⟨ret_bool hE.out.symm, hb⟩
  · have hE : Hid (decide (l = m) = false) := by
      show _ = _
      rw [decide_eq_false_iff_not]
      rintro rfl
      exact hnn (by rw [← HN.out, HN2.out])
    have hne : ((n : Int) != (n2 : Int)) = true := by rw [bne_iff_ne]; omega
    clear hnn
    go_enter Tryd.func21, Tryd.ntmps21
    go_wp2_with fail
    go_ret
    exact ⟨ret_bool hE.out.symm, Below.refl _ _⟩
end Go.Proofs.YtgfjmplifmbmlaaDoor
namespace Go.Proofs.YtgfjmplifmbmlaaDoor
open Go.RowKit Go.Shelf

def twoS : List (BitVec 16) := [3#16, 5#16, 6#16]
def rep1 : Rep := ⟨0, 1, ⟨#[120]⟩⟩
def rep2 : Rep := ⟨2, 2, ⟨#[121]⟩⟩
def evs6 : List Ev := [⟨1, 0, 1, ⟨#[]⟩⟩, ⟨2, 1, 1, ⟨#[118, 49]⟩⟩, ⟨2, 2, 1, ⟨#[118, 49]⟩⟩, ⟨1, 0, 2, ⟨#[]⟩⟩, ⟨2, 1, 2, ⟨#[118, 50]⟩⟩, ⟨2, 2, 2, ⟨#[118, 50]⟩⟩]
theorem ex_pick1 : pickS twoS 3 [rep1, rep2] = (⟨#[121]⟩, 0) := by decide +kernel
theorem ex_pick2 : pickS twoS 3 [rep1] = (⟨#[]⟩, 10) := by decide +kernel
theorem ex_att : attS [1#16] [6#16] 3 = (evs6, 0) := by
  have h1 : chkS 3 [[1#16], [6#16]] = 0 := by decide +kernel
  have h2 : disS [1#16] [6#16] = some (1#16, 6#16) := by decide +kernel
  have m1 : memS 1#16 = [0] := by decide +kernel
  have m6 : memS 6#16 = [1, 2] := by decide +kernel
  have v1 : valB 1 = ⟨#[118, 49]⟩ := by unfold valB; rw [Lib.decDigits_one (by decide)]; rfl
  have v2 : valB 2 = ⟨#[118, 50]⟩ := by unfold valB; rw [Lib.decDigits_one (by decide)]; rfl
  unfold attS
  rw [if_neg (by rw [h1]; decide), h2]
  show (atkTo 1#16 1#16 6#16 2, (0 : Int)) = _
  unfold atkTo blkS evP evA evs6
  rw [m1, m6, v1, v2]; rfl

set_option maxRecDepth 100000 in
set_option maxHeartbeats 4000000 in
theorem awake37_c (w : World) (ht : HasTab w) :
    Calls Tryd.prog 10 #[] w fun e w' => e = .returned (.bool true) ∧ Below w.heap.size w w' := by
  have HT := Lib.hid ht
  clear ht
  have hb0 := Below.refl w.heap.size w
  go_enter Tryd.func10, Tryd.ntmps10
  go_wp2_with fail
  obtain ⟨w1, hw1⟩ : ∃ w1, w.alloc (.cells #[.int .u16 3, .int .u16 5, .int .u16 6] 30) = w1 := ⟨_, rfl⟩
  have r1 : Rd w1 (some ⟨w.heap.size, 0, none⟩) 3 3 (twoS.map setV2) := by rw [← hw1]; exact Rd.lit w _ _ 3 _ rfl rfl (by decide)
  have b1 : Below w.heap.size w w1 := by rw [← hw1]; exact hb0.alloc (Nat.le_refl _) _
  have R1 := Lib.hid r1
  rw [hw1]
  clear hw1 r1 hb0
  refine (clones_c twoS _ 3 3 w1 R1.out (by decide)).mono ?_
  rintro e w2 ⟨a2, c2, rfl, r2, b2⟩
  have b3 := Below.next b1 b2
  have R2 := Lib.hid r2
  have R1b := Lib.hid (R1.out.below b2)
  clear r2 b1 b2 R1
  go_wp2_with fail
  obtain ⟨w3, hw3⟩ : ∃ w3, w2.alloc (.cells #[.int .i64 0, .int .i64 1, .string ⟨#[120]⟩, .int .i64 2, .int .i64 2, .string ⟨#[121]⟩] 33) = w3 := ⟨_, rfl⟩
  have b23 : Below w2.heap.size w2 w3 := by rw [← hw3]; exact (Below.refl _ _).alloc (Nat.le_refl _) _
  have k3 : RdK 3 w3 (some ⟨w2.heap.size, 0, none⟩) 2 2 ([rep1, rep2].flatMap repC) := by rw [← hw3]; exact RdK.lit' 3 w2 _ _ 2 _ rfl rfl (by decide) rfl
  have b4 := Below.next b3 b23
  have HP := Lib.hid (Pick_c twoS 3 [rep1, rep2] a2 3 c2 _ 2 2 w3 (R2.out.below b23) k3)
  rw [ex_pick1] at HP
  have R1c := Lib.hid (R1b.out.below b23)
  rw [hw3]
  clear hw3 k3 b3 b23 R1b R2
  refine HP.out.mono ?_
  rintro e w4 ⟨rfl, b5⟩
  have b6 := Below.next b4 b5
  have R1d := Lib.hid (R1c.out.below b5)
  clear HP b4 b5 R1c
  go_wp2_with fail
  refine (clones_c twoS _ 3 3 w4 R1d.out (by decide)).mono ?_
  rintro e w5 ⟨a5, c5, rfl, r5, b7⟩
  have b8 := Below.next b6 b7
  have R5 := Lib.hid r5
  clear r5 b6 b7 R1d
  go_wp2_with fail
  obtain ⟨w6, hw6⟩ : ∃ w6, w5.alloc (.cells #[.int .i64 0, .int .i64 1, .string ⟨#[120]⟩] 33) = w6 := ⟨_, rfl⟩
  have b56 : Below w5.heap.size w5 w6 := by rw [← hw6]; exact (Below.refl _ _).alloc (Nat.le_refl _) _
  have k6 : RdK 3 w6 (some ⟨w5.heap.size, 0, none⟩) 1 1 ([rep1].flatMap repC) := by rw [← hw6]; exact RdK.lit' 3 w5 _ _ 1 _ rfl rfl (by decide) rfl
  have b9 := Below.next b8 b56
  have HP := Lib.hid (Pick_c twoS 3 [rep1] a5 3 c5 _ 1 1 w6 (R5.out.below b56) k6)
  rw [ex_pick2] at HP
  rw [hw6]
  clear hw6 k6 b8 b56 R5
  refine HP.out.mono ?_
  rintro e w7 ⟨rfl, b10⟩
  have b11 := Below.next b9 b10
  clear HP b9 b10
  go_wp2_with fail
  obtain ⟨w8, hw8⟩ : ∃ w8, (w7.alloc (.cells #[.int .u16 1] 30)).alloc (.cells #[.int .u16 6] 30) = w8 := ⟨_, rfl⟩
  have r8 : Rd w8 (some ⟨w7.heap.size, 0, none⟩) 1 1 ([1#16].map setV2) := by
    rw [← hw8]; exact (Rd.lit w7 #[.int .u16 1] 30 1 _ rfl rfl (by decide)).below ((Below.refl _ _).alloc (Nat.le_refl _) _)
  have r8' : Rd w8 (some ⟨w7.heap.size + 1, 0, none⟩) 1 1 ([6#16].map setV2) := by
    rw [← hw8]; exact Rd.lit' _ #[.int .u16 6] 30 1 _ rfl rfl (by decide) (by simp)
  have b78 : Below w7.heap.size w7 w8 := by rw [← hw8]; exact ((Below.refl _ _).alloc (Nat.le_refl _) _).alloc (by simp) _
  have b12 := Below.next b11 b78
  have HA := Lib.hid (attack_c [1#16] [6#16] 3 _ 1 1 _ 1 1 w8 r8 r8' (HT.out.below b12))
  rw [ex_att] at HA
  rw [hw8]
  clear hw8 r8 r8' b11 b78
  refine HA.out.mono ?_
  rintro e w9 ⟨a9, c9, rfl, k9, b13⟩
  have b14 := Below.next b12 b13
  have K9 := Lib.hid k9
  clear k9 b12 b13 HA
  go_wp2_with fail
  obtain ⟨wA, hwA⟩ : ∃ wA, w9.alloc (.cells (evs6.flatMap evC).toArray 48) = wA := ⟨_, rfl⟩
  have b9A : Below w9.heap.size w9 wA := by rw [← hwA]; exact (Below.refl _ _).alloc (Nat.le_refl _) _
  have kA : RdK 4 wA (some ⟨w9.heap.size, 0, none⟩) 6 6 (evs6.flatMap evC) := by rw [← hwA]; exact RdK.lit' 4 w9 _ _ 6 _ rfl rfl (by decide) rfl
  have b15 := Below.next b14 b9A
  have HS := Lib.hid (sameE_c evs6 evs6 a9 6 c9 _ 6 6 wA (K9.out.below b9A) kA)
  rw [show decide (evs6 = evs6) = true by simp] at HS
  change Calls _ _ _ _ _
  rw [show w9.alloc (.cells #[.int .i64 1, .int .i64 0, .int .i64 1, .string ⟨#[]⟩, .int .i64 2, .int .i64 1, .int .i64 1, .string ⟨#[118, 49]⟩, .int .i64 2, .int .i64 2, .int .i64 1, .string ⟨#[118, 49]⟩,
    .int .i64 1, .int .i64 0, .int .i64 2, .string ⟨#[]⟩, .int .i64 2, .int .i64 1, .int .i64 2, .string ⟨#[118, 50]⟩, .int .i64 2, .int .i64 2, .int .i64 2, .string ⟨#[118, 50]⟩] 48) = wA from hwA]
  clear hwA kA b14 b9A K9
  refine HS.out.mono ?_
  rintro e wB ⟨rfl, b16⟩
  have b17 := Below.next b15 b16
  clear b15 b16 HS
  go_wp2_with fail
  go_ret
  exact ⟨rfl, b17⟩
end Go.Proofs.YtgfjmplifmbmlaaDoor
namespace Go.Proofs.YtgfjmplifmbmlaaDoor
open Go.RowKit Go.ChangeShapes Go.WideShapes Go.Deep

section
variable {H : Type} {enc : TypeId × Value → H} {P : Program} {w : World} {base : Nat} {spare : Nat → Bool} {held : Bool}
theorem open_slice_fields {t e : TypeId} {fs : Array Field} {fuel : Nat} {cs : List Value} {x : DataW H × List MemPlace} (ht : P.underlying t = some (.slice e)) (he : P.underlying e = some (.struct fs))
    (hone : oneCellFields P fs = true) (hC : P.cellsOf e = fs.size) (h : DataW.trod enc P w base spare held fuel t cs = some x) :
    (cs = [.slice none 0 0] ∧ x = (.nil, [])) ∨
    ∃ (a : Addr) (len cap m : Nat) (D : Nat → DataW H) (Pl : Nat → List MemPlace), cs = [.slice (some a) len cap] ∧ base ≤ a.block ∧ len ≤ cap ∧ cap ≤ maxLen ∧ m = (if spare a.block then cap else len) ∧
      x = (.slice ((List.range len).map D) ((List.range (m - len)).map fun j => D (len + j)), MemPlace.row a (m * fs.size) ++ (List.range m).flatMap Pl) ∧
      ∀ i, i < m → ∃ (ys : List (DataW H × List MemPlace)) (n : Nat), D i = .agg (ys.map (·.1)) ∧ Pl i = ys.flatMap (·.2) ∧ ys.length = fs.size ∧
        ∀ (j : Nat) (f : Field), fs[j]? = some f → ∃ (v : Value) (y : DataW H × List MemPlace), w.cell? (a.add (i * fs.size + j)) = some v ∧ ys[j]? = some y ∧ DataW.trod enc P w base spare held n f.type [v] = some y := by
  rcases open_slice ht h with h0 | ⟨a, len, cap, m, n, D, Pl, hcs, hb, hl, hm, hmm, hx, hi⟩
  · exact .inl h0
  · refine .inr ⟨a, len, cap, m, D, Pl, hcs, hb, hl, hm, hmm, by rw [hC] at hx; exact hx, fun i him => ?_⟩
    obtain ⟨cs', hc, ht'⟩ := hi i him
    rw [hC] at hc
    obtain ⟨ys, n', hn', hy, hlen, hyl, hf⟩ := DataW.trod_struct he ht'
    obtain ⟨_, hcl, hat⟩ := World.cells?_some hc
    simp only [Prod.mk.injEq] at hy
    refine ⟨ys, n', hy.1, hy.2, hyl, fun j f hj => ?_⟩
    obtain ⟨ho, hk⟩ := hone_of hone j f hj
    have hjl : j < fs.size := (Array.getElem?_eq_some_iff.1 hj).1
    have hcell := hat j hjl
    have hv : cs'[j]? = some (cs'[j]'(by omega)) := List.getElem?_eq_getElem (by omega)
    have h1 := hf j f hj
    rw [ho, hk] at h1
    have hone' : (cs'.drop j).take 1 = [cs'[j]'(by omega)] := by
      rw [List.drop_eq_getElem_cons (by omega)]
      rfl
    rw [hone'] at h1
    have hys : ys[j]? = some (ys[j]'(by omega)) := List.getElem?_eq_getElem (by omega)
    refine ⟨_, _, ?_, hys, h1.trans hys⟩
    rw [← Go.Deep.add_add, hcell, hv]
end

theorem list_of {α : Type} {Q : Nat → α → Prop} : ∀ n, (∀ i, i < n → ∃ r, Q i r) → ∃ L : List α, L.length = n ∧ ∀ i r, L[i]? = some r → Q i r := by
  intro n
  induction n with
  | zero => intro _; exact ⟨[], rfl, fun i r h => by simp at h⟩
  | succ n ih =>
    intro h
    obtain ⟨L, hl, hL⟩ := ih (fun i hi => h i (by omega))
    obtain ⟨r, hr⟩ := h n (by omega)
    refine ⟨L ++ [r], by simp [hl], fun i q hq => ?_⟩
    by_cases hi : i < n
    · rw [List.getElem?_append_left (by omega)] at hq; exact hL i q hq
    · have := (List.getElem?_eq_some_iff.1 hq).1
      simp at this
      obtain rfl : i = n := by omega
      rw [List.getElem?_append_right (by omega), hl, Nat.sub_self] at hq
      cases hq; exact hr

theorem addr_plain {W : World} {a : Addr} {v : Value} (h : W.cell? (a.add 0) = some v) : a = ⟨a.block, a.off, none⟩ := by
  have : a.add 0 = a := by simp [Addr.add]
  rw [this] at h
  unfold World.cell? at h
  cases hs : a.spot with
  | none => cases a; simp_all
  | some s => rw [hs] at h; split at h <;> simp at h

/-- elements of k cells out of their cells -/
theorem rdK_of {α : Type} (k : Nat) (hk0 : 0 < k) (enc : α → List Value) (hk : ∀ x, (enc x).length = k) {W : World} {a : Addr} {len cap : Nat} (hl : len ≤ cap) (hm : cap ≤ maxLen) (L : List α) (hn : L.length = len)
    (h : ∀ i x, L[i]? = some x → ∀ j, j < k → W.cell? (a.add (i * k + j)) = (enc x)[j]?) : RdK k W (some a) len cap (L.flatMap enc) := by
  refine ⟨by rw [flat_len k enc hk, hn], hl, hm, fun h => (by cases h), fun hn0 => ?_⟩
  obtain ⟨x0, hx0⟩ : ∃ x, L[0]? = some x := ⟨_, List.getElem?_eq_getElem (by omega)⟩
  have h0 := h 0 x0 hx0 0 hk0
  rw [Nat.zero_mul, Nat.zero_add, List.getElem?_eq_getElem (by rw [hk]; exact hk0)] at h0
  have ha := addr_plain h0
  refine ⟨a.block, a.off, by rw [← ha], fun i v hv => ?_⟩
  have hi := (List.getElem?_eq_some_iff.1 hv).1
  rw [flat_len k enc hk, hn] at hi
  have hq : i / k < len := Nat.div_lt_of_lt_mul (by rw [Nat.mul_comm]; exact hi)
  obtain ⟨x, hx⟩ : ∃ x, L[i / k]? = some x := ⟨_, List.getElem?_eq_getElem (by omega)⟩
  have hmod := Nat.mod_lt i hk0
  have h1 := h (i / k) x hx (i % k) hmod
  have h2 := flat_at k enc hk L (i / k) (i % k) x hx hmod
  have e : i / k * k + i % k = i := by rw [Nat.mul_comm]; exact Nat.div_add_mod i k
  rw [e] at h1 h2
  rw [hv] at h2
  rw [ha, Addr.add_lit] at h1
  rw [h1, ← h2]

def IsReps (W : World) (a : Option Addr) (n c : Nat) (L : List Rep) : Prop := RdK 3 W a n c (L.flatMap repC) ∧ ∀ r ∈ L, r.value.size ≤ maxLen
theorem open_reps {H : Type} {enc : TypeId × Value → H} {w : World} {base : Nat} {spare : Nat → Bool} {held : Bool} {fuel : Nat} {cs : List Value} {x : DataW H × List MemPlace} (h : DataW.trod enc Tryd.prog w base spare held fuel 23 cs = some x) :
    ∃ a n c L, cs = [.slice a n c] ∧ IsReps w a n c L := by
  rcases open_slice_fields Tryd.underlying23 Tryd.underlying33 (by kernel_rfl) (by kernel_rfl) h with ⟨hcs, _⟩ | ⟨a, len, cap, m, D, Pl, hcs, _, hl, hm, hmm, _, hi⟩
  · exact ⟨none, 0, 0, [], hcs, RdK.none_ _ _, fun r hr => by cases hr⟩
  · have hlm : len ≤ m := by rw [hmm]; split <;> omega
    obtain ⟨L, hL1, hL2⟩ := list_of (α := Rep) (Q := fun i r => (∀ j, j < 3 → w.cell? (a.add (i * 3 + j)) = (repC r)[j]?) ∧ r.value.size ≤ maxLen) len (fun i hil => by
      obtain ⟨ys, n, _, _, _, hf⟩ := hi i (by omega)
      obtain ⟨v0, y0, c0, _, t0⟩ := hf 0 _ rfl
      obtain ⟨v1, y1, c1, _, t1⟩ := hf 1 _ rfl
      obtain ⟨v2, y2, c2, _, t2⟩ := hf 2 _ rfl
      obtain ⟨z0, e0, _, _⟩ := DataW.trod_int Tryd.underlying3 t0
      obtain ⟨z1, e1, _, _⟩ := DataW.trod_int Tryd.underlying3 t1
      obtain ⟨z2, e2, _, hz2⟩ := DataW.trod_string Tryd.underlying9 t2
      cases e0; cases e1; cases e2
      refine ⟨⟨z0, z1, z2⟩, fun j hj => ?_, hz2⟩
      match j, hj with
      | 0, _ => exact c0
      | 1, _ => exact c1
      | 2, _ => exact c2)
    refine ⟨some a, len, cap, L, hcs, rdK_of 3 (by decide) repC repC_len hl hm L hL1 (fun i x hx j hj => (hL2 i x hx).1 j hj), fun r hr => ?_⟩
    obtain ⟨i, hi⟩ := List.mem_iff_getElem?.1 hr
    exact (hL2 i r hi).2
end Go.Proofs.YtgfjmplifmbmlaaDoor
namespace Go.Proofs.YtgfjmplifmbmlaaDoor
open Go.RowKit

inductive IsInts (k : IntKind) (W : World) : Option Addr → Nat → Nat → List Int → Prop
  | nil : IsInts k W none 0 0 []
  | row {a : Addr} {len cap : Nat} {zs : List Int} (hl : len ≤ cap) (hm : cap ≤ maxLen) (hz : zs.length = cap)
      (hcell : ∀ i, i < zs.length → W.cell? (a.add i) = some (.int k (zs.getD i 0))) (hwz : ∀ n ∈ zs, (Lit.int k n).wf = true) : IsInts k W (some a) len cap (zs.take len)

theorem IsInts.rd {k : IntKind} {W : World} {a : Option Addr} {n c : Nat} {l : List Int} (h : IsInts k W a n c l) : Rd W a n c (l.map (Value.int k)) := by
  cases h with
  | nil => exact Rd.none_ W
  | @row a len cap zs hl hm hz hcell hwz =>
    refine ⟨by simp; omega, hl, hm, fun h => (by cases h), fun hn => ?_⟩
    have h0 := hcell 0 (by omega)
    have ha : a = ⟨a.block, a.off, none⟩ := by
      have : a.add 0 = a := by simp [Addr.add]
      rw [this] at h0
      unfold World.cell? at h0
      cases hs : a.spot with
      | none => cases a; simp_all
      | some s => rw [hs] at h0; split at h0 <;> simp at h0
    refine ⟨a.block, a.off, by rw [← ha], fun i v hv => ?_⟩
    have hi := (List.getElem?_eq_some_iff.1 hv).1
    have hi : i < n ∧ i < zs.length := by simp at hi; omega
    have h1 := hcell i (by omega)
    rw [ha] at h1
    rw [Addr.add_lit] at h1
    rw [h1]
    rw [List.getElem?_map, List.getElem?_take_of_lt hi.1, List.getElem?_eq_getElem hi.2] at hv
    simp at hv
    simp [List.getD, List.getElem?_eq_getElem hi.2, hv]
theorem IsInts.wf {k : IntKind} {W : World} {a : Option Addr} {n c : Nat} {l : List Int} (h : IsInts k W a n c l) : ∀ z ∈ l, (Lit.int k z).wf = true := by
  cases h with
  | nil => intro z hz; cases hz
  | row hl hm hz hcell hwz => exact fun z hz => hwz z (List.mem_of_mem_take hz)
theorem IsInts.len {k : IntKind} {W : World} {a : Option Addr} {n c : Nat} {l : List Int} (h : IsInts k W a n c l) : l.length = n := by
  cases h with
  | nil => rfl
  | row hl hm hz hcell hwz => simp; omega
end Go.Proofs.YtgfjmplifmbmlaaDoor
namespace Go.Proofs.YtgfjmplifmbmlaaDoor
open Go.RowKit Go.Shelf

theorem sets_of {W : World} {a : Option Addr} {n c : Nat} {l : List Int} (h : IsInts .u16 W a n c l) : ∃ L : List (BitVec 16), Rd W a n c (L.map setV2) ∧ L.length = n := by
  have hr := h.rd
  have hw := h.wf
  have : ∃ L : List (BitVec 16), l = L.map U := by
    clear hr h
    induction l with
    | nil => exact ⟨[], rfl⟩
    | cons x l ih =>
      obtain ⟨L, rfl⟩ := ih (fun z hz => hw z (List.mem_cons_of_mem _ hz))
      obtain ⟨y, rfl⟩ : ∃ y, x = U y := by
        have h := hw x (by simp)
        apply U_of
        simp [Lit.wf, IntKind.min, IntKind.max, IntKind.bits, IntKind.signed] at h
        omega
      exact ⟨y :: L, rfl⟩
  obtain ⟨L, rfl⟩ := this
  refine ⟨L, by rw [List.map_map] at hr; exact hr, by have := h.len; simpa using this⟩

set_option maxRecDepth 100000 in
set_option maxHeartbeats 4000000 in
theorem singlePick_w (a : Option Addr) (len cap : Nat) (z : List Int) (bal : Int) (a2 : Option Addr) (len2 cap2 : Nat) (z2 : List Rep) (w : World) (ht : HasTab w) (w0 : IsInts .u16 w a len cap z) (_ : (Lit.int .i64 bal).wf = true) (w2 : IsReps w a2 len2 cap2 z2) :
    Calls Tryd.prog 3 #[.slice a len cap, .int .i64 bal, .slice a2 len2 cap2] w fun e w' => e = .returned (.bool true) ∧ Below w.heap.size w w' := by
  obtain ⟨L, hL, hlen⟩ := sets_of w0
  have h2 := w2.1
  have HT := Lib.hid ht
  have HL := Lib.hid hL
  have H2 := Lib.hid h2
  have HA := Lib.hid (fun w h => awake37_c w h)
  clear w0 w2 hL h2 ht hlen
  by_cases hc : (15 : Int) < (len : Int)
  · have hd : decide ((15 : Int) < (len : Int)) = true := decide_eq_true hc
    clear hc
    go_enter Tryd.func3, Tryd.ntmps3
    go_wp2_with fail
    refine (HA.out w HT.out).mono ?_
    rintro e w1 ⟨rfl, b1⟩
    go_wp2_with fail
    refine (HA.out w1 (HT.out.below b1)).mono ?_
    rintro e w2 ⟨rfl, b2⟩
    go_wp2_with fail
    go_ret
    exact ⟨rfl, Below.next b1 b2⟩
  · have hd : decide ((15 : Int) < (len : Int)) = false := decide_eq_false hc
    by_cases hc2 : (15 : Int) < (len2 : Int)
    · have hd2 : decide ((15 : Int) < (len2 : Int)) = true := decide_eq_true hc2
      clear hc hc2
      go_enter Tryd.func3, Tryd.ntmps3
      go_wp2_with fail
      refine (HA.out w HT.out).mono ?_
      rintro e w1 ⟨rfl, b1⟩
      go_wp2_with fail
      refine (HA.out w1 (HT.out.below b1)).mono ?_
      rintro e w2 ⟨rfl, b2⟩
      go_wp2_with fail
      go_ret
      exact ⟨rfl, Below.next b1 b2⟩
    · have hd2 : decide ((15 : Int) < (len2 : Int)) = false := decide_eq_false hc2
      have HC := Lib.hid (fun w h => clones_c L a len cap w h (by omega))
      have HC2 := Lib.hid (fun w h => cloner_c z2 a2 len2 cap2 w h (by omega))
      obtain ⟨⟨pv, pe⟩, hp⟩ : ∃ p, pickS L bal z2 = p := ⟨_, rfl⟩
      have HP := Lib.hid (fun a n c a2 n2 c2 w h h2 => Pick_c L bal z2 a n c a2 n2 c2 w h h2)
      have HQ := Lib.hid (fun a n c a2 n2 c2 w h h2 => rPick_c L bal z2 a n c a2 n2 c2 w h h2)
      rw [hp] at HP HQ
      clear hc hc2 hp
      go_enter Tryd.func3, Tryd.ntmps3
      go_wp2_with fail
      refine (HA.out w HT.out).mono ?_
      rintro e w1 ⟨rfl, b1⟩
      go_wp2_with fail
      refine (HC.out w1 (HL.out.below b1)).mono ?_
      rintro e w2 ⟨a3, c3, rfl, r3, b2⟩
      have b3 := Below.next b1 b2
      have R3 := Lib.hid r3
      clear r3 b1 b2 HC
      go_wp2_with fail
      refine (HC2.out w2 (H2.out.below b3)).mono ?_
      rintro e w3 ⟨a4, c4, rfl, r4, b4⟩
      have b5 := Below.next b3 b4
      have R4 := Lib.hid r4
      have R3' := Lib.hid (R3.out.below b4)
      clear r4 b3 b4 HC2 R3
      go_wp2_with fail
      refine (HP.out a3 len c3 a4 len2 c4 w3 R3'.out R4.out).mono ?_
      rintro e w4 ⟨rfl, b6⟩
      have b7 := Below.next b5 b6
      clear b5 b6 HP
      go_wp2_with fail
      refine (HQ.out a len cap a2 len2 cap2 w4 (HL.out.below b7) (H2.out.below b7)).mono ?_
      rintro e w5 ⟨rfl, b8⟩
      have b9 := Below.next b7 b8
      clear b7 b8 HQ
      go_wp2_with fail
      go_ret
      exact ⟨ret_bool (by simp), b9⟩
end Go.Proofs.YtgfjmplifmbmlaaDoor
