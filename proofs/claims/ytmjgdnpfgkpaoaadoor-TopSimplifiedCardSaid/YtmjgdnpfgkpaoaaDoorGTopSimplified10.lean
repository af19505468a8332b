/- Texts laid together. Layer 10, plain: simplifying keeps what a tree means, keeps it valid, and does nothing the second time. No program. Layer 10, plain: a simplified tree is simple, and stays as it is. No program. Trees in memory, and rows of what lies in several cells. Plain lemmas over the model, no program. Two expressions made into boxes of their own, in whatever order. Plain lemmas over the model. A call, a box made and filled, in whatever order. Plain lemmas over the model, no program. expr.plant: the tree of a node. Trees: constant, anyOf, allOf, part, as they answer. -/
import Derived.Test.YtmjgdnpfgkpaoaaDoorGTopSimplified4
import Derived.Test.YtmjgdnpfgkpaoaaDoorGTopSimplified5
import Derived.Test.YtmjgdnpfgkpaoaaDoorGTopSimplified6
import Derived.Test.YtmjgdnpfgkpaoaaDoorGTopSimplified7
import Derived.Test.YtmjgdnpfgkpaoaaDoorGTopSimplified9
import Derived.Test.YtmjgdnpfgkpaoaaDoorProg
import Derived.Deep.AppendLies
import Derived.Deep.RegionLaw
import Derived.Deep.DeepCutAuto
namespace Go.Proofs.YtmjgdnpfgkpaoaaDoor

/-! the fold -/
theorem mergT_mem {form : ET → Bool} {ks : List ET} {t : ET} (h : t ∈ mergT form ks) : (t ∈ ks ∧ form t = false) ∨ ∃ k ∈ ks, form k = true ∧ t ∈ k.kidsOf := by
  unfold mergT at h
  obtain ⟨k, hk, ht⟩ := List.mem_flatMap.1 h
  by_cases hf : form k = true
  · rw [if_pos hf] at ht; exact .inr ⟨k, hk, hf, ht⟩
  · rw [if_neg hf] at ht
    simp at ht; subst ht
    exact .inl ⟨hk, by simpa using hf⟩
theorem ok_kids {t : ET} (h : t.ok) : ∀ k ∈ t.kidsOf, k.ok := by
  cases t with
  | srv s => intro k hk; cases hk
  | thr n ws ks => rw [ET.ok] at h; exact (ETs.ok_iff ks).1 h.2.2.2
theorem ETs.sz_flat (form : ET → Bool) : ∀ ks : List ET, ETs.sz (mergT form ks) ≤ ETs.sz ks
  | [] => by simp [mergT, ETs.sz]
  | k :: ks => by
    have ih := ETs.sz_flat form ks
    unfold mergT at *
    rw [List.flatMap_cons, ETs.sz_app, ETs.sz]
    have : ETs.sz (if form k = true then k.kidsOf else [k]) ≤ k.sz := by
      split
      · cases k with
        | srv s => simp [ET.kidsOf, ETs.sz, ET.sz]
        | thr n ws ks => show ETs.sz ks ≤ _; rw [ET.sz]; omega
      · simp [ETs.sz]
    omega
theorem need_nn {t : ET} (h : t.ok) : 0 ≤ t.needOf := by
  cases t with
  | srv s => exact Int.le_refl _
  | thr n ws ks => rw [ET.ok] at h; exact h.1.1
/-- what the fold keeps: weights, valid trees, sizes -/
structure SOk2 (st : SS) (N : Int) (Z : Nat) : Prop where
  toSOk : SOk st
  top : st.need ≤ N
  ok : ETs.ok st.ks
  sz : ETs.sz st.ks ≤ Z
theorem step_ok2 {st : SS} {N : Int} {Z : Nat} (h : SOk2 st N Z) {k : ET} {w : Int} (hw : 1 ≤ w ∧ w ≤ 1000) (hk : k.ok) : SOk2 (stepS st k w) N (Z + k.sz) := by
  refine ⟨step_ok h.toSOk hw, ?_, ?_, ?_⟩
  · unfold stepS
    split
    · exact h.top
    · split
      · show max 0 (st.need - w) ≤ N
        have := h.top; have := h.toSOk.need; omega
      · exact h.top
  · unfold stepS
    split
    · show ETs.ok (st.ks ++ [k])
      rw [ETs.ok_iff]
      intro t ht
      rcases List.mem_append.1 ht with ht | ht
      · exact (ETs.ok_iff _).1 h.ok t ht
      · simp at ht; subst ht; exact hk
    · split <;> exact h.ok
  · have := h.sz
    unfold stepS
    split
    · show ETs.sz (st.ks ++ [k]) ≤ _
      rw [ETs.sz_app]; simp only [ETs.sz]; omega
    · split
      · show ETs.sz st.ks ≤ _; omega
      · omega
theorem light_ok {st : SS} {N : Int} {Z : Nat} (h : SOk2 st N Z) (hN : N ≤ 100000) (hn : 1 ≤ st.need) (hl : st.ks.length ≤ 100000) (hne : st.ws ≠ []) : (lightT st.need st.sum st.ws st.ks).ok ∧ (lightT st.need st.sum st.ws st.ks).sz ≤ Z + 1 := by
  have hw : ∀ w ∈ st.ws, 1 ≤ w := fun w hw => (h.toSOk.wts w hw).1
  have hpos : 1 ≤ leastL st.ws := hw _ (least_mem hne)
  have ht := h.top
  have hz := h.sz
  have base : ∀ n : Int, 0 ≤ n → n ≤ 100000 → (ET.thr n [] st.ks).ok := fun n h1 h2 => by
    rw [ET.ok]; exact ⟨⟨h1, h2⟩, (fun w h => by cases h), .inl rfl, h.ok⟩
  have szb : ∀ n ws, (ET.thr n ws st.ks).sz ≤ Z + 1 := fun n ws => by rw [ET.sz]; omega
  unfold lightT
  split
  · exact ⟨base 1 (by omega) (by omega), szb _ _⟩
  · split
    · exact ⟨base _ (by omega) (by omega), szb _ _⟩
    · split
      · refine ⟨base _ (Int.ediv_nonneg (by omega) (by omega)) ?_, szb _ _⟩
        have : (st.need + leastL st.ws - 1) / leastL st.ws ≤ st.need := by
          have h1 : st.need + leastL st.ws - 1 < (st.need + 1) * leastL st.ws := by
            rw [Int.add_mul]
            have : st.need * 1 ≤ st.need * leastL st.ws := Int.mul_le_mul_of_nonneg_left hpos (by omega)
            omega
          have := Int.ediv_lt_of_lt_mul (by omega) h1
          omega
        omega
      · refine ⟨?_, szb _ _⟩
        rw [ET.ok]
        exact ⟨⟨by omega, by omega⟩, h.toSOk.wts, .inr h.toSOk.len, h.ok⟩
theorem mergA_ok {out : ET} (h : out.ok) (hz : out.sz ≤ 100000) : (mergA out).ok ∧ (mergA out).sz ≤ out.sz := by
  have key : ∀ (form : ET → Bool) (n : Int), 0 ≤ n → n ≤ 100000 → (ET.thr n [] (mergT form out.kidsOf)).ok := fun form n h1 h2 => by
    rw [ET.ok]
    refine ⟨⟨h1, h2⟩, (fun w h => by cases h), .inl rfl, (ETs.ok_iff _).2 fun t ht => ?_⟩
    rcases mergT_mem ht with ⟨h3, _⟩ | ⟨k, hk, _, h4⟩
    · exact ok_kids h t h3
    · exact ok_kids (ok_kids h k hk) t h4
  have szk : ∀ (form : ET → Bool) (n : Int) (ht : out.constB = false ∨ True), (∃ m ws ks, out = .thr m ws ks) → (ET.thr n [] (mergT form out.kidsOf)).sz ≤ out.sz := fun form n _ ⟨m, ws, ks, e⟩ => by
    subst e
    have := ETs.sz_flat form ks
    show ETs.sz (mergT form ks) + 1 ≤ ETs.sz ks + 1
    omega
  unfold mergA
  split
  · rename_i ha
    have he : ∃ m ws ks, out = .thr m ws ks := by cases out with | srv s => cases ha | thr m ws ks => exact ⟨m, ws, ks, rfl⟩
    have hn : out.needOf = 1 := by
      obtain ⟨m, ws, ks, rfl⟩ := he
      simp only [ET.anyB, Bool.and_eq_true, decide_eq_true_iff] at ha; exact ha.2
    exact ⟨key _ _ (by omega) (by omega), szk _ _ (.inr trivial) he⟩
  · split
    · rename_i _ ha
      have he : ∃ m ws ks, out = .thr m ws ks := by cases out with | srv s => cases ha | thr m ws ks => exact ⟨m, ws, ks, rfl⟩
      have hlen : (mergT ET.allB out.kidsOf).length ≤ out.sz := by
        obtain ⟨m, ws, ks, rfl⟩ := he
        have h1 := ETs.sz_flat ET.allB ks
        have h2 := ETs.sz_ge (mergT ET.allB ks)
        show (mergT ET.allB ks).length ≤ ETs.sz ks + 1
        omega
      exact ⟨key _ _ (by omega) (by omega), szk _ _ (.inr trivial) he⟩
    · exact ⟨h, Nat.le_refl _⟩
theorem fin_ok {st : SS} {N : Int} {Z : Nat} (h : SOk2 st N Z) (hN : N ≤ 100000) (hZ : Z ≤ 10000) : (finS st).ok ∧ (finS st).sz ≤ Z + 1 := by
  have hs := h.toSOk.sum
  have hn := h.toSOk.need
  unfold finS
  split
  · refine ⟨?_, by simp [ET.sz, ETs.sz]⟩
    rw [ET.ok]; exact ⟨by omega, (fun w h => by cases h), .inl rfl, trivial⟩
  · rename_i h0
    split
    · refine ⟨?_, by simp [ET.sz, ETs.sz]⟩
      rw [ET.ok]; exact ⟨by omega, (fun w h => by cases h), .inl rfl, trivial⟩
    · rename_i h1
      have hne : st.ws ≠ [] := fun e => by rw [e] at hs; simp [sumL] at hs; omega
      have hkne : st.ks ≠ [] := fun e => hne (List.eq_nil_of_length_eq_zero (by rw [h.toSOk.len, e]; rfl))
      rcases oneOf_cases st.ks (mergA (lightT st.need st.sum st.ws st.ks)) hkne with ⟨k, hk, ho⟩ | ⟨_, ho⟩
      · rw [ho]
        have := h.ok
        have hz := h.sz
        rw [hk] at this hz
        rw [ETs.ok] at this
        rw [ETs.sz, ETs.sz] at hz
        exact ⟨this.1, by omega⟩
      · rw [ho]
        have hlen := ETs.sz_ge st.ks
        have hz := h.sz
        obtain ⟨h2, h3⟩ := light_ok h hN (by omega) (by omega) hne
        obtain ⟨h4, h5⟩ := mergA_ok h2 (by omega)
        exact ⟨h4, by omega⟩
mutual
theorem simp_ok (t : ET) (h : t.ok) (hz : t.sz ≤ 1000) : t.simp.ok ∧ t.simp.sz ≤ t.sz := by
  cases t with
  | srv s => rw [ET.simp]; exact ⟨h, Nat.le_refl _⟩
  | thr n ws ks =>
    rw [ET.ok] at h
    obtain ⟨h1, h2, h3, h4⟩ := h
    rw [ET.sz] at hz
    rw [ET.simp]
    have hs := simpF_ok ks ws 0 ⟨n, [], [], 0⟩ n 0 h2 (h3.imp id (by omega)) h4 (by omega) ⟨⟨h1.1, rfl, (fun w h => by cases h), rfl⟩, Int.le_refl _, trivial, Nat.le_refl _⟩
    rw [Nat.zero_add] at hs
    have := fin_ok hs h1.2 (by omega)
    rw [ET.sz]; exact this
theorem simpF_ok (ts : List ET) (ws : List Int) (k : Nat) (st : SS) (N : Int) (Z : Nat) (hw : ∀ w ∈ ws, 1 ≤ w ∧ w ≤ 1000) (hl : ws = [] ∨ k + ts.length ≤ ws.length) (hok : ETs.ok ts) (hz : ETs.sz ts ≤ 1000) (h : SOk2 st N Z) : SOk2 (ETs.simpF ts ws k st) N (Z + ETs.sz ts) := by
  cases ts with
  | nil => rw [ETs.simpF, ETs.sz]; exact h
  | cons t ts =>
    rw [ETs.ok] at hok
    rw [ETs.sz] at hz
    obtain ⟨h1, h2⟩ := simp_ok t hok.1 (by omega)
    rw [ETs.simpF, ETs.sz]
    have hst := step_ok2 h (wgtW_rng hw (k := k) (hl.imp id (fun hh => by rw [List.length_cons] at hh; omega))) h1
    have := simpF_ok ts ws (k + 1) _ N (Z + t.simp.sz) hw (hl.imp id (fun hh => by rw [List.length_cons] at hh; omega)) hok.2 (by omega) hst
    exact ⟨this.toSOk, this.top, this.ok, by have := this.sz; omega⟩
end
mutual
theorem simp_hold (t : ET) (h : t.ok) (hz : t.sz ≤ 1000) (S : BitVec 16) : t.simp.hold S = t.hold S := by
  cases t with
  | srv s => rw [ET.simp]
  | thr n ws ks =>
    rw [ET.ok] at h
    obtain ⟨h1, h2, h3, h4⟩ := h
    rw [ET.sz] at hz
    rw [ET.simp]
    have h0 : SOk2 ⟨n, [], [], 0⟩ n 0 := ⟨⟨h1.1, rfl, (fun w h => by cases h), rfl⟩, Int.le_refl _, trivial, Nat.le_refl _⟩
    have hs := simpF_ok ks ws 0 ⟨n, [], [], 0⟩ n 0 h2 (h3.imp id (by omega)) h4 (by omega) h0
    rw [fin_hold hs.toSOk, simpF_hold ks ws 0 ⟨n, [], [], 0⟩ h2 (h3.imp id (by omega)) h4 (by omega) h0.toSOk S]
    show decide (n ≤ 0 + ETs.got ks S ws 0) = _
    rw [Int.zero_add, ET.hold]
theorem simpF_hold (ts : List ET) (ws : List Int) (k : Nat) (st : SS) (hw : ∀ w ∈ ws, 1 ≤ w ∧ w ≤ 1000) (hl : ws = [] ∨ k + ts.length ≤ ws.length) (hok : ETs.ok ts) (hz : ETs.sz ts ≤ 1000) (h : SOk st) (S : BitVec 16) :
    decide ((ETs.simpF ts ws k st).need ≤ gotZ (ETs.simpF ts ws k st).ks (ETs.simpF ts ws k st).ws S) = decide (st.need ≤ gotZ st.ks st.ws S + ETs.got ts S ws k) := by
  cases ts with
  | nil => rw [ETs.simpF, ETs.got, Int.add_zero]
  | cons t ts =>
    rw [ETs.ok] at hok
    rw [ETs.sz] at hz
    obtain ⟨h1, _⟩ := simp_ok t hok.1 (by omega)
    have hwk := wgtW_rng hw (k := k) (hl.imp id (fun hh => by rw [List.length_cons] at hh; omega))
    have hG : 0 ≤ ETs.got ts S ws (k + 1) := by
      rw [got_wts]
      refine (gotZ_rng S ts _ fun w hw' => ?_).1
      have key : ∀ (ts : List ET) (k : Nat), (ws = [] ∨ k + ts.length ≤ ws.length) → ∀ w ∈ ETs.wts ts ws k, 1 ≤ w := by
        intro ts
        induction ts with
        | nil => intro k _ w h; cases h
        | cons t ts ih =>
          intro k hk w h
          rw [ETs.wts] at h
          rcases List.mem_cons.1 h with rfl | h
          · exact (wgtW_rng hw (hk.imp id (fun hh => by rw [List.length_cons] at hh; omega))).1
          · exact ih (k + 1) (hk.imp id (fun hh => by rw [List.length_cons] at hh; omega)) w h
      exact key ts (k + 1) (hl.imp id (fun hh => by rw [List.length_cons] at hh; omega)) w hw'
    rw [ETs.simpF, simpF_hold ts ws (k + 1) _ hw (hl.imp id (fun hh => by rw [List.length_cons] at hh; omega)) hok.2 (by omega) (step_ok h hwk) S,
      step_hold h hwk.1 (fun _ => need_nn h1) hG S, simp_hold t hok.1 (by omega) S, ETs.got]
end
end Go.Proofs.YtmjgdnpfgkpaoaaDoor
namespace Go.Proofs.YtmjgdnpfgkpaoaaDoor

/-- the forms of a simplified threshold with kids -/
def shapeT (n : Int) (ws : List Int) (ks : List ET) : Prop :=
  (ws = [] ∧ n = 1 ∧ ∀ k ∈ ks, k.anyB = false) ∨ (ws = [] ∧ n = (ks.length : Int) ∧ ∀ k ∈ ks, k.allB = false) ∨ (ws = [] ∧ 2 ≤ n ∧ n + 1 ≤ (ks.length : Int)) ∨
  (ws ≠ [] ∧ ws.length = ks.length ∧ (∀ w ∈ ws, 1 ≤ w) ∧ leastL ws < n ∧ n ≤ sumL ws - leastL ws ∧ leastL ws ≠ greatL ws)
mutual
def ET.nf : ET → Prop
  | .srv _ => True
  | .thr n ws ks => ETs.nf ks ∧ ((ks = [] ∧ ws = [] ∧ (n = 0 ∨ n = 1)) ∨ (2 ≤ ks.length ∧ (∀ k ∈ ks, k.constB = false) ∧ shapeT n ws ks))
def ETs.nf : List ET → Prop
  | [] => True
  | t :: ts => t.nf ∧ ETs.nf ts
end
theorem ETs.nf_iff : ∀ (ts : List ET), ETs.nf ts ↔ ∀ t ∈ ts, t.nf
  | [] => by simp [ETs.nf]
  | t :: ts => by rw [ETs.nf, ETs.nf_iff ts]; simp
theorem nf_kids {t : ET} (h : t.nf) : ∀ k ∈ t.kidsOf, k.nf := by
  cases t with
  | srv s => intro k hk; cases hk
  | thr n ws ks => rw [ET.nf] at h; exact (ETs.nf_iff ks).1 h.1
/-- the kids of a simplified threshold of one (or of all) are no such thresholds -/
theorem nf_any {t : ET} (h : t.nf) (ha : t.anyB = true) : 2 ≤ t.kidsOf.length ∧ ∀ k ∈ t.kidsOf, k.constB = false ∧ k.anyB = false := by
  cases t with
  | srv s => cases ha
  | thr n ws ks =>
    simp only [ET.anyB, Bool.and_eq_true, decide_eq_true_iff] at ha
    obtain ⟨⟨h1, h2⟩, rfl⟩ := ha
    have hne : ks ≠ [] := fun e => by rw [e] at h1; cases h1
    rw [ET.nf] at h
    rcases h.2 with ⟨e, _⟩ | ⟨hl, hc, hs⟩
    · exact absurd e hne
    · refine ⟨hl, fun k hk => ⟨hc k hk, ?_⟩⟩
      rcases hs with ⟨_, _, h3⟩ | ⟨_, h3, _⟩ | ⟨_, h3, _⟩ | ⟨h3, _⟩
      · exact h3 k hk
      · exfalso; omega
      · exfalso; omega
      · exact absurd (by simpa using h2) h3
theorem nf_all {t : ET} (h : t.nf) (ha : t.allB = true) : 2 ≤ t.kidsOf.length ∧ ∀ k ∈ t.kidsOf, k.constB = false ∧ k.allB = false := by
  cases t with
  | srv s => cases ha
  | thr n ws ks =>
    simp only [ET.allB, Bool.and_eq_true, decide_eq_true_iff] at ha
    obtain ⟨⟨h1, h2⟩, h3⟩ := ha
    have hne : ks ≠ [] := fun e => by rw [e] at h1; cases h1
    rw [ET.nf] at h
    rcases h.2 with ⟨e, _⟩ | ⟨hl, hc, hs⟩
    · exact absurd e hne
    · refine ⟨hl, fun k hk => ⟨hc k hk, ?_⟩⟩
      rcases hs with ⟨_, h4, _⟩ | ⟨_, _, h4⟩ | ⟨_, _, h4⟩ | ⟨h4, _⟩
      · exfalso; omega
      · exact h4 k hk
      · exfalso; omega
      · exact absurd (by simpa using h2) h4
theorem merg_len (form : ET → Bool) : ∀ ks : List ET, (∀ k ∈ ks, form k = true → 2 ≤ k.kidsOf.length) → ks.length ≤ (mergT form ks).length
  | [], _ => by simp
  | k :: ks, h => by
    have ih := merg_len form ks (fun u hu => h u (List.mem_cons_of_mem _ hu))
    unfold mergT at *
    rw [List.flatMap_cons, List.length_append, List.length_cons]
    have : 1 ≤ (if form k = true then k.kidsOf else [k]).length := by
      split
      · rename_i hf; have := h k (by simp) hf; omega
      · simp
    omega
theorem merg_none (form : ET → Bool) : ∀ ks : List ET, (∀ k ∈ ks, form k = false) → mergT form ks = ks
  | [], _ => rfl
  | k :: ks, h => by
    have ih := merg_none form ks (fun u hu => h u (List.mem_cons_of_mem _ hu))
    unfold mergT at *
    rw [List.flatMap_cons, ih, if_neg (by rw [h k (by simp)]; decide)]; rfl
/-- what the fold keeps: simplified kids that are no constants -/
structure SNf (st : SS) : Prop where
  nf : ETs.nf st.ks
  con : ∀ k ∈ st.ks, k.constB = false
theorem step_nf {st : SS} (h : SNf st) {k : ET} {w : Int} (hk : k.nf) : SNf (stepS st k w) := by
  unfold stepS
  split
  · rename_i hc
    refine ⟨(ETs.nf_iff _).2 fun t ht => ?_, fun t ht => ?_⟩
    · rcases List.mem_append.1 ht with ht | ht
      · exact (ETs.nf_iff _).1 h.nf t ht
      · simp at ht; subst ht; exact hk
    · rcases List.mem_append.1 ht with ht | ht
      · exact h.con t ht
      · simp at ht; subst ht; exact hc
  · split <;> exact ⟨h.nf, h.con⟩
theorem mergA_nf {n : Int} {ws : List Int} {ks : List ET} (hl : 2 ≤ ks.length) (hnf : ETs.nf ks) (hcon : ∀ k ∈ ks, k.constB = false)
    (hs : (ws = [] ∧ 1 ≤ n ∧ n ≤ (ks.length : Int)) ∨ (ws ≠ [] ∧ ws.length = ks.length ∧ (∀ w ∈ ws, 1 ≤ w) ∧ leastL ws < n ∧ n ≤ sumL ws - leastL ws ∧ leastL ws ≠ greatL ws)) : (mergA (.thr n ws ks)).nf := by
  have hne : ks.isEmpty = false := by cases ks with | nil => simp at hl | cons a l => rfl
  have hkn := (ETs.nf_iff ks).1 hnf
  unfold mergA
  by_cases ha : (ET.thr n ws ks).anyB = true
  · rw [if_pos ha]
    simp only [ET.anyB, Bool.and_eq_true, decide_eq_true_iff] at ha
    obtain ⟨⟨_, h2⟩, rfl⟩ := ha
    show (ET.thr 1 [] (mergT ET.anyB ks)).nf
    have hlen := merg_len ET.anyB ks (fun k hk hf => (nf_any (hkn k hk) hf).1)
    rw [ET.nf]
    refine ⟨(ETs.nf_iff _).2 fun t ht => ?_, .inr ⟨by omega, fun t ht => ?_, .inl ⟨rfl, rfl, fun t ht => ?_⟩⟩⟩
    · rcases mergT_mem ht with ⟨h3, _⟩ | ⟨k, hk, _, h4⟩
      · exact hkn t h3
      · exact nf_kids (hkn k hk) t h4
    · rcases mergT_mem ht with ⟨h3, _⟩ | ⟨k, hk, hf, h4⟩
      · exact hcon t h3
      · exact ((nf_any (hkn k hk) hf).2 t h4).1
    · rcases mergT_mem ht with ⟨_, h3⟩ | ⟨k, hk, hf, h4⟩
      · exact h3
      · exact ((nf_any (hkn k hk) hf).2 t h4).2
  · rw [if_neg ha]
    by_cases hb : (ET.thr n ws ks).allB = true
    · rw [if_pos hb]
      show (ET.thr ((mergT ET.allB ks).length : Int) [] (mergT ET.allB ks)).nf
      have hlen := merg_len ET.allB ks (fun k hk hf => (nf_all (hkn k hk) hf).1)
      rw [ET.nf]
      refine ⟨(ETs.nf_iff _).2 fun t ht => ?_, .inr ⟨by omega, fun t ht => ?_, .inr (.inl ⟨rfl, rfl, fun t ht => ?_⟩)⟩⟩
      · rcases mergT_mem ht with ⟨h3, _⟩ | ⟨k, hk, _, h4⟩
        · exact hkn t h3
        · exact nf_kids (hkn k hk) t h4
      · rcases mergT_mem ht with ⟨h3, _⟩ | ⟨k, hk, hf, h4⟩
        · exact hcon t h3
        · exact ((nf_all (hkn k hk) hf).2 t h4).1
      · rcases mergT_mem ht with ⟨_, h3⟩ | ⟨k, hk, hf, h4⟩
        · exact h3
        · exact ((nf_all (hkn k hk) hf).2 t h4).2
    · rw [if_neg hb, ET.nf]
      refine ⟨hnf, .inr ⟨hl, hcon, ?_⟩⟩
      rcases hs with ⟨rfl, h1, h2⟩ | h
      · have n1 : n ≠ 1 := fun e => ha (by simp [ET.anyB, hne, e])
        have n2 : n ≠ (ks.length : Int) := fun e => hb (by simp [ET.allB, hne, e])
        exact .inr (.inr (.inl ⟨rfl, by omega, by omega⟩))
      · exact .inr (.inr (.inr h))
theorem sumL_same {m : Int} : ∀ {l : List Int}, (∀ w ∈ l, w = m) → sumL l = m * (l.length : Int)
  | [], _ => by simp [sumL]
  | a :: l, h => by
    have e : a = m := h a (by simp)
    have ih := sumL_same (l := l) (fun w hw => h w (List.mem_cons_of_mem _ hw))
    have : sumL (a :: l) = a + sumL l := rfl
    rw [this, ih, e, List.length_cons, Int.natCast_add, Int.mul_add]; omega
theorem fin_nf {st : SS} (h : SOk st) (hn : SNf st) : (finS st).nf := by
  have hs := h.sum
  have hnn := h.need
  have hl := h.len
  unfold finS
  split
  · rw [ET.nf]; exact ⟨trivial, .inl ⟨rfl, rfl, .inl rfl⟩⟩
  · rename_i h0
    split
    · rw [ET.nf]; exact ⟨trivial, .inl ⟨rfl, rfl, .inr rfl⟩⟩
    · rename_i h1
      have hne : st.ws ≠ [] := fun e => by rw [e] at hs; simp [sumL] at hs; omega
      have hkne : st.ks ≠ [] := fun e => hne (List.eq_nil_of_length_eq_zero (by rw [hl, e]; rfl))
      rcases oneOf_cases st.ks (mergA (lightT st.need st.sum st.ws st.ks)) hkne with ⟨k, hk, ho⟩ | ⟨hl2, ho⟩
      · rw [ho]
        exact (ETs.nf_iff _).1 hn.nf k (by rw [hk]; simp)
      · rw [ho]
        have hw : ∀ w ∈ st.ws, 1 ≤ w := fun w hw => (h.wts w hw).1
        have hpos : 1 ≤ leastL st.ws := hw _ (least_mem hne)
        unfold lightT
        split
        · exact mergA_nf hl2 hn.nf hn.con (.inl ⟨rfl, by omega, by omega⟩)
        · split
          · exact mergA_nf hl2 hn.nf hn.con (.inl ⟨rfl, by omega, by omega⟩)
          · split
            · rename_i h3 h4 h5
              refine mergA_nf hl2 hn.nf hn.con (.inl ⟨rfl, ?_, ?_⟩)
              · have := Int.le_ediv_of_mul_le (a := 1) (b := st.need + leastL st.ws - 1) (c := leastL st.ws) (by omega) (by omega)
                exact this
              · have hsm := sumL_same (all_eq h5)
                rw [hl] at hsm
                generalize (st.ks.length : Int) = L at hsm ⊢
                have h6 : st.need + leastL st.ws - 1 < (L + 1) * leastL st.ws := by
                  rw [Int.add_mul, Int.mul_comm L]; omega
                have := Int.ediv_lt_of_lt_mul (by omega) h6
                omega
            · rename_i h3 h4 h5
              exact mergA_nf hl2 hn.nf hn.con (.inr ⟨hne, hl, hw, by omega, by omega, h5⟩)
mutual
theorem simp_nf (t : ET) (h : t.ok) (hz : t.sz ≤ 1000) : t.simp.nf := by
  cases t with
  | srv s => rw [ET.simp, ET.nf]; trivial
  | thr n ws ks =>
    rw [ET.ok] at h
    obtain ⟨h1, h2, h3, h4⟩ := h
    rw [ET.sz] at hz
    rw [ET.simp]
    have hs := simpF_ok ks ws 0 ⟨n, [], [], 0⟩ n 0 h2 (h3.imp id (by omega)) h4 (by omega) ⟨⟨h1.1, rfl, (fun w h => by cases h), rfl⟩, Int.le_refl _, trivial, Nat.le_refl _⟩
    exact fin_nf hs.toSOk (simpF_nf ks ws 0 _ h4 (by omega) ⟨trivial, fun k hk => by cases hk⟩)
theorem simpF_nf (ts : List ET) (ws : List Int) (k : Nat) (st : SS) (hok : ETs.ok ts) (hz : ETs.sz ts ≤ 1000) (h : SNf st) : SNf (ETs.simpF ts ws k st) := by
  cases ts with
  | nil => rw [ETs.simpF]; exact h
  | cons t ts =>
    rw [ETs.ok] at hok
    rw [ETs.sz] at hz
    rw [ETs.simpF]
    exact simpF_nf ts ws (k + 1) _ hok.2 (by omega) (step_nf h (simp_nf t hok.1 (by omega)))
end

/-! a simplified tree stays -/
theorem sumL_ones (n : Nat) : sumL (List.replicate n 1) = (n : Int) := by
  rw [sumL_same (m := 1) (fun w hw => (List.mem_replicate.1 hw).2), List.length_replicate, Int.one_mul]
theorem least_ones {n : Nat} (h : 1 ≤ n) : leastL (List.replicate n 1) = 1 := by
  have := least_mem (l := List.replicate n (1 : Int)) (fun e => by have := congrArg List.length e; simp at this; omega)
  exact (List.mem_replicate.1 this).2
theorem great_ones {n : Nat} (h : 1 ≤ n) : greatL (List.replicate n 1) = 1 := by
  have := great_mem (l := List.replicate n (1 : Int)) (fun e => by have := congrArg List.length e; simp at this; omega)
  exact (List.mem_replicate.1 this).2
theorem sumL_pos {l : List Int} (h : ∀ w ∈ l, 1 ≤ w) (hne : l ≠ []) : 1 ≤ sumL l := by
  cases l with
  | nil => exact absurd rfl hne
  | cons a l =>
    have h1 := (gotZ_rng 0#16 [] l (fun w hw => h w (List.mem_cons_of_mem _ hw)))
    have : sumL (a :: l) = a + sumL l := rfl
    have h2 := h a (by simp)
    have h3 : 0 ≤ sumL l := by have := h1.1; have := h1.2; simp [gotZ] at this; exact this
    omega
mutual
theorem nf_simp (t : ET) (h : t.nf) : t.simp = t := by
  cases t with
  | srv s => rw [ET.simp]
  | thr n ws ks =>
    rw [ET.nf] at h
    obtain ⟨hk, hs⟩ := h
    rw [ET.simp]
    rcases hs with ⟨rfl, rfl, hn⟩ | ⟨hl, hcon, hs⟩
    · rw [ETs.simpF]
      unfold finS
      rcases hn with rfl | rfl
      · rfl
      · rfl
    · rw [nfF_simp ks ws 0 ⟨n, [], [], 0⟩ hk hcon]
      simp only [List.nil_append, Int.zero_add]
      have hwne : ETs.wts ks ws 0 ≠ [] := fun e => by have := congrArg List.length e; rw [wts_len] at this; simp at this; subst this; simp at hl
      unfold finS
      simp only
      rcases hs with ⟨rfl, rfl, ha⟩ | ⟨rfl, rfl, ha⟩ | ⟨rfl, h2, h3⟩ | ⟨hw, hwl, hw1, h2, h3, h4⟩
      · rw [wts_nil, sumL_ones, if_neg (by omega), if_neg (by omega)]
        rw [oneOf_two hl]
        unfold lightT
        rw [least_ones (by omega), if_pos (by omega)]
        unfold mergA
        have hb : (ET.thr 1 [] ks).anyB = true := by
          have : ks.isEmpty = false := by cases ks with | nil => simp at hl | cons a l => rfl
          simp [ET.anyB, this]
        rw [if_pos hb]
        show ET.thr 1 [] (mergT ET.anyB ks) = _
        rw [merg_none _ _ ha]
      · rw [wts_nil, sumL_ones, if_neg (by omega), if_neg (by omega)]
        rw [oneOf_two hl]
        unfold lightT
        rw [least_ones (by omega), if_neg (by omega), if_pos (by omega)]
        unfold mergA
        have he : ks.isEmpty = false := by cases ks with | nil => simp at hl | cons a l => rfl
        have hb : (ET.thr (ks.length : Int) [] ks).allB = true := by simp [ET.allB, he]
        have hb' : ¬ (ET.thr (ks.length : Int) [] ks).anyB = true := by
          simp only [ET.anyB, Bool.and_eq_true, decide_eq_true_iff]
          rintro ⟨_, e⟩; omega
        rw [if_neg hb', if_pos hb]
        show ET.thr ((mergT ET.allB ks).length : Int) [] (mergT ET.allB ks) = _
        rw [merg_none _ _ ha]
      · rw [wts_nil, sumL_ones, if_neg (by omega), if_neg (by omega)]
        rw [oneOf_two hl]
        unfold lightT
        rw [least_ones (by omega), great_ones (by omega), if_neg (by omega), if_neg (by omega), if_pos rfl]
        rw [show (n + 1 - 1) / 1 = n by rw [Int.ediv_one]; omega]
        unfold mergA
        rw [if_neg, if_neg]
        · simp only [ET.allB, Bool.and_eq_true, decide_eq_true_iff]
          rintro ⟨_, e⟩; omega
        · simp only [ET.anyB, Bool.and_eq_true, decide_eq_true_iff]
          rintro ⟨_, e⟩; omega
      · rw [wts_self hw ks 0 (by omega), List.drop_zero]
        have hpos : 1 ≤ leastL ws := hw1 _ (least_mem hw)
        rw [if_neg (by omega), if_neg (by omega)]
        rw [oneOf_two hl]
        unfold lightT
        rw [if_neg (by omega), if_neg (by omega), if_neg h4]
        unfold mergA
        have he : ws.isEmpty = false := by cases ws with | nil => exact absurd rfl hw | cons a l => rfl
        rw [if_neg (by simp [ET.anyB, he]), if_neg (by simp [ET.allB, he])]
theorem nfF_simp (ts : List ET) (ws : List Int) (k : Nat) (st : SS) (h : ETs.nf ts) (hc : ∀ t ∈ ts, t.constB = false) :
    ETs.simpF ts ws k st = ⟨st.need, st.ks ++ ts, st.ws ++ ETs.wts ts ws k, st.sum + sumL (ETs.wts ts ws k)⟩ := by
  cases ts with
  | nil => rw [ETs.simpF, ETs.wts]; simp [sumL]
  | cons t ts =>
    rw [ETs.nf] at h
    rw [ETs.simpF, nf_simp t h.1, nfF_simp ts ws (k + 1) _ h.2 (fun u hu => hc u (List.mem_cons_of_mem _ hu)), ETs.wts]
    have h1 := hc t (by simp)
    unfold stepS
    rw [if_pos h1]
    have : sumL (wgtW ws k :: ETs.wts ts ws (k + 1)) = wgtW ws k + sumL (ETs.wts ts ws (k + 1)) := rfl
    simp only [List.append_assoc, List.singleton_append, this]
    rw [Int.add_assoc]
end
/-- simplified again it remains the same -/
theorem simp_simp {t : ET} (h : t.ok) (hz : t.sz ≤ 1000) : t.simp.simp = t.simp := nf_simp _ (simp_nf t h hz)
end Go.Proofs.YtmjgdnpfgkpaoaaDoor
namespace Go.Proofs.YtmjgdnpfgkpaoaaDoor
open Go.RowKit

/-! rows of elements that read something -/
section
variable {α β : Type}
def RS (R : World → β → α → Prop) (S : Nat → Prop) (w : World) (p : β) (a : α) : Prop := ∀ w2 : World, Ag S w w2 → R w2 p a
theorem RS.r {R : World → β → α → Prop} {S : Nat → Prop} {w : World} {p : β} {a : α} (h : RS R S w p a) : R w p a := h w (Ag.refl _ _)
theorem RS.move {R : World → β → α → Prop} {S : Nat → Prop} {w w' : World} {p : β} {a : α} (h : RS R S w p a) (ha : Ag S w w') : RS R S w' p a := fun w2 h2 => h w2 fun g hg => (h2 g hg).trans (ha g hg)
theorem RS.mono {R : World → β → α → Prop} {S S' : Nat → Prop} {w : World} {p : β} {a : α} (h : RS R S w p a) (hs : ∀ g, S g → S' g) : RS R S' w p a := fun w2 h2 => h w2 fun g hg => h2 g (hs g hg)
theorem RS.below {R : World → β → α → Prop} {S : Nat → Prop} {w w' : World} {p : β} {a : α} (h : RS R S w p a) (hb : Below w.heap.size w w') (hlt : ∀ g, S g → g < w.heap.size) : RS R S w' p a := h.move fun g hg => hb.block g (hlt g hg)

structure GB (k : Nat) (enc : β → List Value) (R : World → β → α → Prop) (S : Nat → Prop) (B : Nat) (w : World) (v : Value) (t : TypeId) (L : List α) : Prop where
  row : ∃ V : List β, V.length = L.length ∧ w.ownsRow B t k v L.length (V.flatMap enc) ∧ ∀ (i : Nat) p nd, V[i]? = some p → L[i]? = some nd → RS R S w p nd
  lt : ∀ g, S g → g < w.heap.size
  own : ∀ g, v.ownBlock = some g → ¬ S g
variable {k : Nat} {enc : β → List Value} {R : World → β → α → Prop}
theorem GB.nil (S : Nat → Prop) (B : Nat) (w : World) (t : TypeId) (h : ∀ g, S g → g < w.heap.size) : GB k enc R S B w (.slice none 0 0) t [] :=
  ⟨⟨[], rfl, World.ownsRow_nil _ _ _ _, fun i p nd h => by simp at h⟩, h, fun g h => by cases h⟩
theorem GB.lt_own {S : Nat → Prop} {B : Nat} {w : World} {v : Value} {t : TypeId} {L : List α} (h : GB k enc R S B w v t L) : ∀ g, v.ownBlock = some g → B ≤ g ∧ g < w.heap.size := by
  obtain ⟨V, _, h2, _⟩ := h.row
  exact fun g hg => h2.lt g hg
theorem GB.move {S : Nat → Prop} {B : Nat} {w w' : World} {v : Value} {t : TypeId} {L : List α} (h : GB k enc R S B w v t L) (ha : Ag S w w') (hv : ∀ g, v.ownBlock = some g → w'.heap[g]? = w.heap[g]?) (hs : w.heap.size ≤ w'.heap.size) : GB k enc R S B w' v t L := by
  obtain ⟨V, h1, h2, h3⟩ := h.row
  exact ⟨⟨V, h1, rowK_at h2 hv, fun i p nd hp hn => (h3 i p nd hp hn).move ha⟩, fun g hg => Nat.lt_of_lt_of_le (h.lt g hg) hs, h.own⟩
theorem GB.below {S : Nat → Prop} {B : Nat} {w w' : World} {v : Value} {t : TypeId} {L : List α} (h : GB k enc R S B w v t L) (hb : Below w.heap.size w w') : GB k enc R S B w' v t L :=
  h.move (fun g hg => hb.block g (h.lt g hg)) (fun g hg => hb.block g (h.lt_own g hg).2) hb.size
theorem GB.mono {S S' : Nat → Prop} {B : Nat} {w : World} {v : Value} {t : TypeId} {L : List α} (h : GB k enc R S B w v t L) (hs : ∀ g, S g → S' g) (hlt : ∀ g, S' g → g < w.heap.size) (hown : ∀ g, v.ownBlock = some g → ¬ S' g) : GB k enc R S' B w v t L := by
  obtain ⟨V, h1, h2, h3⟩ := h.row
  exact ⟨⟨V, h1, h2, fun i p nd hp hn => (h3 i p nd hp hn).mono hs⟩, hlt, hown⟩
theorem GB.shape {S : Nat → Prop} {B : Nat} {w : World} {v : Value} {t : TypeId} {L : List α} (h : GB k enc R S B w v t L) : ∃ a c, v = .slice a L.length c := by
  obtain ⟨V, h1, h2, h3⟩ := h.row
  obtain ⟨a, c, e, _⟩ := rdK_of_row h2
  exact ⟨a, c, e⟩
/-- an element more, or several -/
theorem GB.pushes {S SW : Nat → Prop} {B : Nat} {w x y : World} {v u : Value} {t : TypeId} {L M : List α} {V U : List β} (h : GB k enc R S B w v t L) (hV : V.length = L.length) (h3 : ∀ (i : Nat) p nd, V[i]? = some p → L[i]? = some nd → RS R S w p nd)
    (hb : Below w.heap.size w x) (hg : x.grownBy y v.ownBlock) (hU : U.length = M.length) (ho : y.ownsRow B t k u (L.length + M.length) (V.flatMap enc ++ U.flatMap enc)) (hv : ∀ g, u.ownBlock = some g → v.ownBlock = some g ∨ w.heap.size ≤ g)
    (hp : ∀ (i : Nat) p nd, U[i]? = some p → M[i]? = some nd → RS R SW w p nd) (hSW : ∀ g, SW g → g < w.heap.size ∧ v.ownBlock ≠ some g) :
    GB k enc R (fun g => S g ∨ SW g) B y u t (L ++ M) := by
  have hx := hb.size
  have hgx : w.grownBy y v.ownBlock := ⟨hg.os.trans hb.os, hg.tape.trans hb.tape, hg.output.trans hb.output, Nat.le_trans hx hg.size, fun g g1 g2 => (hg.block g (by omega) g2).trans (hb.block g g1)⟩
  have ha : Ag S w y := fun g hg' => hgx.block g (h.lt g hg') (fun e => h.own g e.symm hg')
  have ha2 : Ag SW w y := fun g hg' => hgx.block g (hSW g hg').1 (fun e => (hSW g hg').2 e.symm)
  refine ⟨⟨V ++ U, by rw [List.length_append, List.length_append, hV, hU], ?_, fun i q m hq hm => ?_⟩, fun g hg => ?_, fun g hg' hS => ?_⟩
  · rw [List.flatMap_append, List.length_append]; exact ho
  · by_cases hi : i < V.length
    · rw [List.getElem?_append_left hi] at hq
      rw [List.getElem?_append_left (by omega)] at hm
      exact ((h3 i q m hq hm).move ha).mono fun _ h => .inl h
    · rw [List.getElem?_append_right (by omega)] at hq
      rw [List.getElem?_append_right (by omega), ← hV] at hm
      exact ((hp _ q m hq hm).move ha2).mono fun _ h => .inr h
  · rcases hg with hg | hg
    · exact Nat.lt_of_lt_of_le (h.lt g hg) hgx.size
    · exact Nat.lt_of_lt_of_le (hSW g hg).1 hgx.size
  · rcases hv g hg' with h1 | h1
    · rcases hS with hS | hS
      · exact h.own g h1 hS
      · exact (hSW g hS).2 h1
    · rcases hS with hS | hS
      · have := h.lt g hS; omega
      · have := (hSW g hS).1; omega
end

/-! trees of the program: five cells -/
structure TrV where
  leaf : Bool
  server : Int
  need : Int
  wv : Value
  kv : Value
def trVC (p : TrV) : List Value := [.bool p.leaf, .int .i64 p.server, .int .i64 p.need, p.wv, p.kv]
theorem trVC_len (p : TrV) : (trVC p).length = 5 := rfl
inductive TrM (w : World) : TrV → ET → Prop where
  | srv (s : Int) : TrM w ⟨true, s, 0, .slice none 0 0, .slice none 0 0⟩ (.srv s)
  | thr (n : Int) (ws : List Int) (ks : List ET) (aw : Option Addr) (nw cw : Nat) (ak : Option Addr) (nk ck : Nat) (V : List TrV)
      (hw : Rd w aw nw cw (ws.map (Value.int .i64))) (hl : V.length = ks.length) (hk : RdK 5 w ak nk ck (V.flatMap trVC))
      (hr : ∀ (i : Nat) p t, V[i]? = some p → ks[i]? = some t → TrM w p t) : TrM w ⟨false, 0, n, .slice aw nw cw, .slice ak nk ck⟩ (.thr n ws ks)
theorem TrM.keep {w w' : World} {p : TrV} {t : ET} (h : TrM w p t) (hb : Below w.heap.size w w') : TrM w' p t := by
  induction h with
  | srv s => exact .srv s
  | thr n ws ks aw nw cw ak nk ck V hw hl hk hr ih => exact .thr n ws ks aw nw cw ak nk ck V (hw.below hb) hl (hk.below hb) ih
/-- reads by the blocks of a set alone -/
abbrev TrS (S : Nat → Prop) (w : World) (p : TrV) (t : ET) : Prop := RS TrM S w p t
/-- .. by those of a range -/
def Rng (lo hi : Nat) : Nat → Prop := fun g => lo ≤ g ∧ g < hi
theorem TrS.srv (S : Nat → Prop) (w : World) (s : Int) : TrS S w ⟨true, s, 0, .slice none 0 0, .slice none 0 0⟩ (.srv s) := fun _ _ => .srv s
abbrev TB (S : Nat → Prop) (B : Nat) (w : World) (v : Value) (ts : List ET) : Prop := GB 5 trVC TrM S B w v 64 ts
/-- a threshold over a row of trees and a slice of weights -/
theorem TB.thr {S SW S' : Nat → Prop} {B : Nat} {w : World} {v wv : Value} {ts : List ET} {ws : List Int} (n : Int) (h : TB S B w v ts) (hw : SlS SW w wv ws) (h1 : ∀ g, S g → S' g) (h2 : ∀ g, SW g → S' g) (h3 : ∀ g, v.ownBlock = some g → S' g) : TrS S' w ⟨false, 0, n, wv, v⟩ (.thr n ws ts) := by
  intro w2 ha
  obtain ⟨V, hV, hr, hV3⟩ := h.row
  obtain ⟨aw, cw, e, r⟩ := hw w2 fun g hg => ha g (h2 g hg)
  obtain ⟨ak, ck, e2, rk⟩ := rdK_of_row (rowK_at hr fun g hg => ha g (h3 g hg))
  subst e e2
  exact .thr n ws ts aw _ cw ak _ ck V r hV rk fun i p t hp ht => hV3 i p t hp ht w2 fun g hg => ha g (h1 g hg)
end Go.Proofs.YtmjgdnpfgkpaoaaDoor
namespace Go.Proofs.YtmjgdnpfgkpaoaaDoor
open Go.RowKit

/-- two expressions made, in boxes of their own -/
structure TwoB (x y : Xpr) (w0 W : World) (p5 p6 : Value) : Prop where
  ex : ∃ b5 b6 a1 c1 a2 c2, p5 = .pointer (some ⟨b5, 0, none⟩) ∧ p6 = .pointer (some ⟨b6, 0, none⟩) ∧ W.heap[b5]? = some (.cells #[.slice a1 x.nodes.length c1, .int .i64 x.root] 28 (0, 0)) ∧ W.heap[b6]? = some (.cells #[.slice a2 y.nodes.length c2, .int .i64 y.root] 28 (0, 0)) ∧ XM W a1 x.nodes.length c1 x.nodes ∧ XM W a2 y.nodes.length c2 y.nodes
  bel : Below w0.heap.size w0 W

abbrev zEx : Obj := .cells #[.slice none 0 0, .int .i64 0] 28
structure TS (x y : Xpr) (w0 W : World) (o5 o6 : Option Nat) (r1 r2 : Option (Option Addr × Nat)) : Prop where
  bel : Below w0.heap.size w0 W
  b5 : ∀ b, o5 = some b → W.heap[b]? = some zEx ∧ w0.heap.size ≤ b
  b6 : ∀ b, o6 = some b → W.heap[b]? = some zEx ∧ w0.heap.size ≤ b
  ne : ∀ b b', o5 = some b → o6 = some b' → b ≠ b'
  x1 : ∀ p, r1 = some p → ∃ lo hi, XMR lo hi W p.1 x.nodes.length p.2 x.nodes ∧ hi ≤ W.heap.size ∧ ∀ b, (o5 = some b ∨ o6 = some b) → b < lo ∨ hi ≤ b
  x2 : ∀ p, r2 = some p → ∃ lo hi, XMR lo hi W p.1 y.nodes.length p.2 y.nodes ∧ hi ≤ W.heap.size ∧ ∀ b, (o5 = some b ∨ o6 = some b) → b < lo ∨ hi ≤ b
theorem heap_some_lt {w : World} {b : Nat} {o : Obj} (h : w.heap[b]? = some o) : b < w.heap.size := (Array.getElem?_eq_some_iff.1 h).1
section
variable {x y : Xpr} {w0 W W' : World} {o5 o6 : Option Nat} {r1 r2 : Option (Option Addr × Nat)}
theorem TS.start (x y : Xpr) (w0 : World) : TS x y w0 w0.drew none none none none :=
  ⟨below_drew (Below.refl _ _), (fun _ h => by cases h), (fun _ h => by cases h), (fun _ _ h => by cases h), (fun _ h => by cases h), (fun _ h => by cases h)⟩
theorem TS.lt (h : TS x y w0 W o5 o6 r1 r2) {b : Nat} (hb : o5 = some b ∨ o6 = some b) : b < W.heap.size := by
  rcases hb with e | e
  · exact heap_some_lt (h.b5 b e).1
  · exact heap_some_lt (h.b6 b e).1
theorem TS.call1 (h : TS x y w0 W o5 o6 none r2) (hb : Below W.heap.size W W') {a : Option Addr} {c : Nat} (hx : XMR W.heap.size W'.heap.size W' a x.nodes.length c x.nodes) : TS x y w0 W' o5 o6 (some (a, c)) r2 :=
  { bel := Below.next h.bel hb
    b5 := fun b e => ⟨heap_below hb (h.b5 b e).1, (h.b5 b e).2⟩
    b6 := fun b e => ⟨heap_below hb (h.b6 b e).1, (h.b6 b e).2⟩
    ne := h.ne
    x1 := fun p e => by cases e; exact ⟨_, _, hx, Nat.le_refl _, fun b hb' => .inl (h.lt hb')⟩
    x2 := fun p e => by
      obtain ⟨lo, hi, h1, h2, h3⟩ := h.x2 p e
      exact ⟨lo, hi, h1.agree fun g _ hg => hb.block g (by omega), Nat.le_trans h2 hb.size, h3⟩ }
theorem TS.call2 (h : TS x y w0 W o5 o6 r1 none) (hb : Below W.heap.size W W') {a : Option Addr} {c : Nat} (hx : XMR W.heap.size W'.heap.size W' a y.nodes.length c y.nodes) : TS x y w0 W' o5 o6 r1 (some (a, c)) :=
  { bel := Below.next h.bel hb
    b5 := fun b e => ⟨heap_below hb (h.b5 b e).1, (h.b5 b e).2⟩
    b6 := fun b e => ⟨heap_below hb (h.b6 b e).1, (h.b6 b e).2⟩
    ne := h.ne
    x2 := fun p e => by cases e; exact ⟨_, _, hx, Nat.le_refl _, fun b hb' => .inl (h.lt hb')⟩
    x1 := fun p e => by
      obtain ⟨lo, hi, h1, h2, h3⟩ := h.x1 p e
      exact ⟨lo, hi, h1.agree fun g _ hg => hb.block g (by omega), Nat.le_trans h2 hb.size, h3⟩ }
theorem alloc_x {nodes : List Nod} {p : Option Addr × Nat} (W : World) (o : Obj) {O Q : Nat → Prop} (h : ∃ lo hi, XMR lo hi W p.1 nodes.length p.2 nodes ∧ hi ≤ W.heap.size ∧ ∀ b, O b → b < lo ∨ hi ≤ b) (hq : ∀ b, Q b → b = W.heap.size ∨ O b) :
    ∃ lo hi, XMR lo hi (W.alloc o) p.1 nodes.length p.2 nodes ∧ hi ≤ (W.alloc o).heap.size ∧ ∀ b, Q b → b < lo ∨ hi ≤ b := by
  obtain ⟨lo, hi, h1, h2, h3⟩ := h
  refine ⟨lo, hi, h1.agree fun g _ hg => Below.heap_alloc W o g (by omega), by rw [World.size_alloc]; omega, fun b hb => ?_⟩
  rcases hq b hb with rfl | h
  · exact .inr h2
  · exact h3 b h
theorem TS.alloc5 (h : TS x y w0 W none o6 r1 r2) : TS x y w0 (W.alloc zEx) (some W.heap.size) o6 r1 r2 :=
  { bel := h.bel.alloc h.bel.size _
    b5 := fun b e => by cases e; exact ⟨heap_alloc_new _ _, h.bel.size⟩
    b6 := fun b e => ⟨heap_alloc_at (h.b6 b e).1 _, (h.b6 b e).2⟩
    ne := fun b b' e e' => by cases e; have := h.lt (.inr e'); omega
    x1 := fun p e => alloc_x W _ (h.x1 p e) fun b hb => by
      rcases hb with hb | hb
      · cases hb; exact .inl rfl
      · exact .inr (.inr hb)
    x2 := fun p e => alloc_x W _ (h.x2 p e) fun b hb => by
      rcases hb with hb | hb
      · cases hb; exact .inl rfl
      · exact .inr (.inr hb) }
theorem TS.alloc6 (h : TS x y w0 W o5 none r1 r2) : TS x y w0 (W.alloc zEx) o5 (some W.heap.size) r1 r2 :=
  { bel := h.bel.alloc h.bel.size _
    b6 := fun b e => by cases e; exact ⟨heap_alloc_new _ _, h.bel.size⟩
    b5 := fun b e => ⟨heap_alloc_at (h.b5 b e).1 _, (h.b5 b e).2⟩
    ne := fun b b' e e' => by cases e'; have := h.lt (.inl e); omega
    x1 := fun p e => alloc_x W _ (h.x1 p e) fun b hb => by
      rcases hb with hb | hb
      · exact .inr (.inl hb)
      · cases hb; exact .inl rfl
    x2 := fun p e => alloc_x W _ (h.x2 p e) fun b hb => by
      rcases hb with hb | hb
      · exact .inr (.inl hb)
      · cases hb; exact .inl rfl }
theorem open2 {w : World} {B : Nat} {p q : Value} {t : TypeId} (h : w.heap[B]? = some (.cells #[p, q] t (0, 0))) :
    (w.cell? ⟨B, 0, none⟩ = some p ∧ w.cell? ⟨B, 1, none⟩ = some q) ∧ w.frozen? ⟨B, 0, none⟩ = false ∧ w.frozen? ⟨B, 1, none⟩ = false :=
  ⟨⟨cell_of_row _ _ 0 _ _ _ h, cell_of_row _ _ 1 _ _ _ h⟩, frozen_row h 0, frozen_row h 1⟩
theorem TS.fin {b5 b6 : Nat} {a1 a2 : Option Addr} {c1 c2 : Nat} (h : TS x y w0 W (some b5) (some b6) (some (a1, c1)) (some (a2, c2))) {W1 W2 : World} (h1 : W1 = (W.setCell ⟨b5, 0, none⟩ (.slice a1 x.nodes.length c1)).setCell ⟨b5, 1, none⟩ (.int .i64 x.root)) (h2 : W2 = (W1.setCell ⟨b6, 0, none⟩ (.slice a2 y.nodes.length c2)).setCell ⟨b6, 1, none⟩ (.int .i64 y.root)) :
    (W1.heap[b6]? = some zEx ∧ Below w0.heap.size w0 W1) ∧ TwoB x y w0 W2 (.pointer (some ⟨b5, 0, none⟩)) (.pointer (some ⟨b6, 0, none⟩)) := by
  have hne := h.ne b5 b6 rfl rfl
  obtain ⟨e5, l5⟩ := h.b5 b5 rfl
  obtain ⟨e6, l6⟩ := h.b6 b6 rfl
  obtain ⟨lo1, hi1, x1, _, y1⟩ := h.x1 _ rfl
  obtain ⟨lo2, hi2, x2, _, y2⟩ := h.x2 _ rfl
  have H : ∀ g, g ≠ b5 → W1.heap[g]? = W.heap[g]? := fun g hg => by
    rw [h1, Below.heap_setCell _ ⟨b5, 1, none⟩ _ g hg, Below.heap_setCell _ ⟨b5, 0, none⟩ _ g hg]
  have K : ∀ g, g ≠ b6 → W2.heap[g]? = W1.heap[g]? := fun g hg => by
    rw [h2, Below.heap_setCell _ ⟨b6, 1, none⟩ _ g hg, Below.heap_setCell _ ⟨b6, 0, none⟩ _ g hg]
  have k6 : W1.heap[b6]? = some zEx := (H b6 (fun e => hne e.symm)).trans e6
  have B1 : Below w0.heap.size w0 W1 := by rw [h1]; exact (h.bel.setCell (p := ⟨b5, 0, none⟩) l5 _).setCell (p := ⟨b5, 1, none⟩) l5 _
  have B2 : Below w0.heap.size w0 W2 := by rw [h2]; exact (B1.setCell (p := ⟨b6, 0, none⟩) l6 _).setCell (p := ⟨b6, 1, none⟩) l6 _
  refine ⟨⟨k6, B1⟩, ⟨b5, b6, a1, c1, a2, c2, rfl, rfl, ?_, ?_, ?_, ?_⟩, B2⟩
  · rw [K b5 hne, h1, heap_set_at (heap_set_at e5 0 _) 1 _]; rfl
  · rw [h2, heap_set_at (heap_set_at k6 0 _) 1 _]; rfl
  · exact x1 W2 fun g g1 g2 => (K g (fun e => by have := y1 b6 (.inr rfl); omega)).trans (H g (fun e => by have := y1 b5 (.inl rfl); omega))
  · exact x2 W2 fun g g1 g2 => (K g (fun e => by have := y2 b6 (.inr rfl); omega)).trans (H g (fun e => by have := y2 b5 (.inl rfl); omega))
end
end Go.Proofs.YtmjgdnpfgkpaoaaDoor
namespace Go.Proofs.YtmjgdnpfgkpaoaaDoor
open Go.RowKit

/-- on the way: a box made (or not yet), a call's result (or not yet), the latter read by the blocks of S0 and by blocks of its own -/
structure CS (S0 : Nat → Prop) (W0 z : World) (box : Option (Nat × Obj)) (q : Option (World → Prop)) : Prop where
  bel : Below W0.heap.size W0 z
  b : ∀ B ob, box = some (B, ob) → z.heap[B]? = some ob ∧ W0.heap.size ≤ B
  s0 : ∀ g, S0 g → g < W0.heap.size
  r : ∀ Q, q = some Q → ∃ lo hi, (∀ w2 : World, (∀ g, S0 g ∨ (lo ≤ g ∧ g < hi) → w2.heap[g]? = z.heap[g]?) → Q w2) ∧ hi ≤ z.heap.size ∧ W0.heap.size ≤ lo ∧ ∀ B ob, box = some (B, ob) → B < lo ∨ hi ≤ B
section
variable {S0 : Nat → Prop} {W0 z z' : World} {box : Option (Nat × Obj)} {q : Option (World → Prop)}
theorem CS.start (h : ∀ g, S0 g → g < W0.heap.size) : CS S0 W0 W0.drew none none :=
  ⟨below_drew (Below.refl _ _), (fun _ _ h => by cases h), h, (fun _ h => by cases h)⟩
theorem CS.lt (h : CS S0 W0 z box q) {B : Nat} {ob : Obj} (hb : box = some (B, ob)) : B < z.heap.size := heap_some_lt (h.b B ob hb).1
theorem CS.quiet (h : CS S0 W0 z box q) (hb : Below z.heap.size z z') : CS S0 W0 z' box q :=
  { bel := Below.next h.bel hb
    b := fun B ob e => ⟨heap_below hb (h.b B ob e).1, (h.b B ob e).2⟩
    s0 := h.s0
    r := fun Q e => by
      obtain ⟨lo, hi, h1, h2, h3, h4⟩ := h.r Q e
      refine ⟨lo, hi, fun w2 hw => h1 w2 fun g hg => (hw g hg).trans (hb.block g ?_), Nat.le_trans h2 hb.size, h3, h4⟩
      rcases hg with hg | hg
      · have := h.s0 g hg; have := h.bel.size; omega
      · omega }
theorem CS.call {Q : World → Prop} (h : CS S0 W0 z box none) (hb : Below z.heap.size z z') (hq : ∀ w2 : World, (∀ g, S0 g ∨ (z.heap.size ≤ g ∧ g < z'.heap.size) → w2.heap[g]? = z'.heap[g]?) → Q w2) : CS S0 W0 z' box (some Q) :=
  { bel := Below.next h.bel hb
    b := fun B ob e => ⟨heap_below hb (h.b B ob e).1, (h.b B ob e).2⟩
    s0 := h.s0
    r := fun Q' e => by
      cases e
      exact ⟨z.heap.size, z'.heap.size, hq, Nat.le_refl _, h.bel.size, fun B ob e => .inl (h.lt e)⟩ }
theorem CS.alloc (h : CS S0 W0 z none q) (ob : Obj) : CS S0 W0 (z.alloc ob) (some (z.heap.size, ob)) q :=
  { bel := h.bel.alloc h.bel.size _
    b := fun B ob' e => by cases e; exact ⟨heap_alloc_new _ _, h.bel.size⟩
    s0 := h.s0
    r := fun Q e => by
      obtain ⟨lo, hi, h1, h2, h3, h4⟩ := h.r Q e
      refine ⟨lo, hi, fun w2 hw => h1 w2 fun g hg => (hw g hg).trans (Below.heap_alloc z ob g ?_), by rw [World.size_alloc]; omega, h3, fun B ob' e => ?_⟩
      · rcases hg with hg | hg
        · have := h.s0 g hg; have := h.bel.size; omega
        · omega
      · cases e; exact .inr h2 }
/-- the box filled -/
structure CF (S0 : Nat → Prop) (W0 V : World) (B : Nat) (ob : Obj) (Q : World → Prop) : Prop where
  bel : Below W0.heap.size W0 V
  b : V.heap[B]? = some ob
  le : W0.heap.size ≤ B
  r : ∃ S' : Nat → Prop, ¬ S' B ∧ (∀ g, S' g → S0 g ∨ (W0.heap.size ≤ g ∧ g < V.heap.size)) ∧ ∀ w2 : World, Ag S' V w2 → Q w2
theorem CS.fin {B : Nat} {ob ob' : Obj} {Q : World → Prop} {V : World} (h : CS S0 W0 z (some (B, ob)) (some Q)) (h1 : V.heap[B]? = some ob') (h2 : ∀ g, g ≠ B → V.heap[g]? = z.heap[g]?) (h3 : ∀ B', B' ≤ B → Below B' z V) : CF S0 W0 V B ob' Q := by
  obtain ⟨lo, hi, r1, r2, r3, r4⟩ := h.r Q rfl
  have hB := (h.b B ob rfl).2
  have hlt := h.lt rfl
  have hz := (h3 B (Nat.le_refl _)).size
  refine ⟨h.bel.trans (h3 _ hB), h1, hB, fun g => S0 g ∨ (lo ≤ g ∧ g < hi), ?_, fun g hg => ?_, fun w2 hw => r1 w2 fun g hg => (hw g hg).trans (h2 g ?_)⟩
  · rintro (hg | hg)
    · have := h.s0 B hg; omega
    · have := r4 B ob rfl; omega
  · rcases hg with hg | hg
    · exact .inl hg
    · exact .inr ⟨by omega, by omega⟩
  · intro e
    subst e
    rcases hg with hg | hg
    · have := h.s0 g hg; omega
    · have := r4 g ob rfl; omega
end
theorem fin2w {w WF : World} {R : Nat} {v0 v1 u0 u1 : Value} {t : TypeId} (h : w.heap[R]? = some (.cells #[v0, v1] t (0, 0))) (hW : (w.setCell ⟨R, 0, none⟩ u0).setCell ⟨R, 1, none⟩ u1 = WF) :
    WF.heap[R]? = some (.cells #[u0, u1] t (0, 0)) ∧ (∀ g, g ≠ R → WF.heap[g]? = w.heap[g]?) ∧ WF.heap.size = w.heap.size ∧ (∀ B, B ≤ R → Below B w WF) := by
  subst hW
  refine ⟨heap_set_at (heap_set_at h 0 _) 1 _, fun g hg => ?_, by simp, fun B hB => ?_⟩
  · rw [Below.heap_setCell _ ⟨R, 1, none⟩ _ g hg, Below.heap_setCell _ ⟨R, 0, none⟩ _ g hg]
  · exact ((Below.refl B w).setCell (p := ⟨R, 0, none⟩) hB _).setCell (p := ⟨R, 1, none⟩) hB _
/-- five cells of a box stored -/
theorem fin5 {w WF : World} {R : Nat} {v0 v1 v2 v3 v4 u0 u1 u2 u3 u4 : Value} {t : TypeId} (h : w.heap[R]? = some (.cells #[v0, v1, v2, v3, v4] t (0, 0))) (hW : ((((w.setCell ⟨R, 0, none⟩ u0).setCell ⟨R, 1, none⟩ u1).setCell ⟨R, 2, none⟩ u2).setCell ⟨R, 3, none⟩ u3).setCell ⟨R, 4, none⟩ u4 = WF) :
    WF.heap[R]? = some (.cells #[u0, u1, u2, u3, u4] t (0, 0)) ∧ (∀ g, g ≠ R → WF.heap[g]? = w.heap[g]?) ∧ WF.heap.size = w.heap.size ∧ (∀ B, B ≤ R → Below B w WF) := by
  subst hW
  refine ⟨heap_set_at (heap_set_at (heap_set_at (heap_set_at (heap_set_at h 0 _) 1 _) 2 _) 3 _) 4 _, fun g hg => ?_, by simp, fun B hB => ?_⟩
  · rw [Below.heap_setCell _ ⟨R, 4, none⟩ _ g hg, Below.heap_setCell _ ⟨R, 3, none⟩ _ g hg, Below.heap_setCell _ ⟨R, 2, none⟩ _ g hg, Below.heap_setCell _ ⟨R, 1, none⟩ _ g hg, Below.heap_setCell _ ⟨R, 0, none⟩ _ g hg]
  · exact (((((Below.refl B w).setCell (p := ⟨R, 0, none⟩) hB _).setCell (p := ⟨R, 1, none⟩) hB _).setCell (p := ⟨R, 2, none⟩) hB _).setCell (p := ⟨R, 3, none⟩) hB _).setCell (p := ⟨R, 4, none⟩) hB _
theorem open5 {w : World} {B : Nat} {v0 v1 v2 v3 v4 : Value} {t : TypeId} (h : w.heap[B]? = some (.cells #[v0, v1, v2, v3, v4] t (0, 0))) :
    w.cell? ⟨B, 0, none⟩ = some v0 ∧ w.cell? ⟨B, 1, none⟩ = some v1 ∧ w.cell? ⟨B, 2, none⟩ = some v2 ∧ w.cell? ⟨B, 3, none⟩ = some v3 ∧ w.cell? ⟨B, 4, none⟩ = some v4 :=
  ⟨cell_of_row _ _ 0 _ _ _ h, cell_of_row _ _ 1 _ _ _ h, cell_of_row _ _ 2 _ _ _ h, cell_of_row _ _ 3 _ _ _ h, cell_of_row _ _ 4 _ _ _ h⟩
theorem frz5 {w : World} {B : Nat} {v0 v1 v2 v3 v4 : Value} {t : TypeId} (h : w.heap[B]? = some (.cells #[v0, v1, v2, v3, v4] t (0, 0))) :
    w.frozen? ⟨B, 0, none⟩ = false ∧ w.frozen? ⟨B, 1, none⟩ = false ∧ w.frozen? ⟨B, 2, none⟩ = false ∧ w.frozen? ⟨B, 3, none⟩ = false ∧ w.frozen? ⟨B, 4, none⟩ = false :=
  ⟨frozen_row h 0, frozen_row h 1, frozen_row h 2, frozen_row h 3, frozen_row h 4⟩
end Go.Proofs.YtmjgdnpfgkpaoaaDoor
namespace Go.Proofs.YtmjgdnpfgkpaoaaDoor
open Go.RowKit Go.Shelf

theorem Tryd.infoTre : (Tryd.prog.info? 64).map (fun i => (i.zero, i.size, i.bytes)) = some (some (.agg #[.bool false, .int .i64 0, .int .i64 0, .slice none 0 0, .slice none 0 0]), 5, 72) := by kernel_rfl
/-- a tree comes back: what it reads by lies in a set or is the call's own -/
def RetT (S : Nat → Prop) (t : ET) (w : World) (e : Ending) (w' : World) : Prop :=
  ∃ lf sv nd aw nw cw ak nk ck, e = .returned (.agg #[.bool lf, .int .i64 sv, .int .i64 nd, .slice aw nw cw, .slice ak nk ck]) ∧ TrS (fun g => S g ∨ (w.heap.size ≤ g ∧ g < w'.heap.size)) w' ⟨lf, sv, nd, .slice aw nw cw, .slice ak nk ck⟩ t ∧ Below w.heap.size w w'
abbrev zTre : Array Value := #[.bool false, .int .i64 0, .int .i64 0, .slice none 0 0, .slice none 0 0]
def PlC (x : Xpr) (f : Nat) : Prop := ∀ (i : Nat), i < f → i < x.nodes.length → ∀ (a : Option Addr) (n c : Nat) (w : World), XM w a n c x.nodes → (treF x.nodes noSub f i).sz ≤ 1000 →
  Calls Tryd.prog 18 #[.agg #[.slice a n c, .int .i64 x.root], .int .i64 i] w fun e w' => RetT (fun _ => False) (treF x.nodes noSub f i) w e w'

set_option maxRecDepth 100000 in
set_option maxHeartbeats 8000000 in
theorem plant_step (x : Xpr) (hx : xprE x = 0) (f : Nat) (ih : PlC x f) : PlC x (f + 1) := by
  intro i hif hil a n c w h hsz
  obtain ⟨nd, hnd⟩ : ∃ nd, x.nodes[i]? = some nd := ⟨_, List.getElem?_eq_getElem hil⟩
  have xok := xprE_ok hx
  have ok := xok.node i nd hnd
  have hthr := xprE_thr0 hx i nd hnd
  have hl := h.len
  obtain ⟨b, o, ha, hat⟩ := h.at' (by omega)
  have hM := hat i nd hnd
  obtain ⟨aw, nw, cw, m3, rw3⟩ := hM.ws
  obtain ⟨ak, nk, ck, m4, rk4⟩ := hM.ks
  have hbl : b < w.heap.size := cell_lt hM.c0
  have m0 := hM.c0
  have m1 := hM.c1
  have m2 := hM.c2
  have HX := Lib.hid h
  have hwl := rw3.len
  have hkl := rk4.len
  rw [List.length_map] at hwl hkl
  subst ha
  obtain ⟨kind, server, need, ws, ks⟩ := nd
  simp only at m0 m1 m2 m3 rw3 m4 rk4 hwl hkl hthr
  have hin : i < n := by omega
  have hbi : decide ((i : Int) < (n : Int)) = true := decide_eq_true (by omega)
  by_cases hk1 : kind = 1
  · subst hk1
    have hT : treF x.nodes noSub (f + 1) i = .srv server := by
      have e : x.nodes.getD i nod0 = ⟨1, server, need, ws, ks⟩ := by rw [List.getD_eq_getElem?_getD, hnd]; rfl
      rw [treF, e, if_pos rfl]; rfl
    rw [hT]
    clear hM hat hnd hwl hkl rw3 rk4 ok h hT ih hthr xok hl hsz
    go_enter Tryd.func18, Tryd.ntmps18
    go_wp2_with fail
    refine bodyPost_ret (v := .agg #[.bool true, .int .i64 server, .int .i64 0, .slice none 0 0, .slice none 0 0]) ?_ rfl ⟨true, server, 0, none, 0, 0, none, 0, 0, rfl, TrS.srv _ _ _, (((Below.refl _ _).alloc (Nat.le_refl _) _).alloc (by simp) _).alloc (by simp; omega) _⟩
    have hR := heap_alloc_new (w.alloc (.cells #[.slice (some ⟨b, o, none⟩) n c, .int .i64 x.root] 28)) (.cells #[.bool true, .int .i64 server, .int .i64 0, .slice none 0 0, .slice none 0 0] 64)
    rw [World.size_alloc] at hR
    exact results_cell_row rfl _ _ _ _ _ _ _ rfl (heap_alloc_at hR _) Tryd.underlying64 rfl (by kernel_rfl)
  · have hk2 : (kind == 1) = false := by simpa using hk1
    obtain ⟨rfl⟩ : server = 0 := hthr hk1
    have hT : treF x.nodes noSub (f + 1) i = .thr need ws (kidT x.nodes noSub f ks) := by
      have e : x.nodes.getD i nod0 = ⟨kind, 0, need, ws, ks⟩ := by rw [List.getD_eq_getElem?_getD, hnd]; rfl
      rw [treF, e, if_neg hk1]; rfl
    rw [hT] at hsz ⊢
    rw [ET.sz] at hsz
    obtain ⟨KT, hKT⟩ : ∃ KT, KT = kidT x.nodes noSub f ks := ⟨_, rfl⟩
    rw [← hKT] at hsz ⊢
    have hKl : KT.length = nk := by rw [hKT, kidT_len]; exact hkl.symm
    have hnk : nk ≤ 1000 := by have := ETs.sz_ge KT; omega
    have hnw : nw ≤ 1000 := by
      rcases ok.arity with h5 | h5 <;> simp only at h5
      · rw [h5] at hwl; simp at hwl; omega
      · omega
    have HKT := Lib.hid hKT
    have HKL := Lib.hid hKl
    have HNW := Lib.hid hnw
    have HNK := Lib.hid hnk
    have HKR := Lib.hid ok.kids
    have HW3 := Lib.hid rw3
    have HK4 := Lib.hid rk4
    have HHL := Lib.hid hl
    have HWL := Lib.hid hwl
    have HIH := Lib.hid ih
    have HSZ := Lib.hid hsz
    clear hsz hT hKT hKl hnw hnk hkl hwl hM hat hnd rw3 rk4 h ok ih hthr xok hl
    go_enter Tryd.func18, Tryd.ntmps18
    go_upto_region 4 with fail
    generalize hW3 : ((w.alloc _).alloc _).alloc _ = w3
    obtain ⟨gX, gR, gN, hb3, hs3⟩ := box3 hW3
    have GX := Lib.hid gX
    have GR := Lib.hid gR
    have GN := Lib.hid gN
    have HB3 := Lib.hid hb3
    have HS3 := Lib.hid hs3
    have HC := Lib.hid (fun (u : World) (hu : Below w3.heap.size w3 u) => clone_c ws aw nw cw u (HW3.out.below (Below.next hb3 hu)) (Nat.le_trans HNW.out (by decide)))
    clear hW3 gX gR gN hb3 hs3 m0 m1 m2 m3 m4
    go_cut [6] (fun p6 wx => ∃ T a2 c2, p6 = .pointer (some ⟨T, 0, none⟩) ∧ CF (fun _ => False) w3 wx T (.cells #[.bool false, .int .i64 0, .int .i64 need, .slice a2 nw c2, .slice none 0 0] 64) (fun u => Rd u a2 nw c2 (ws.map (Value.int .i64))))
    case first =>
      obtain ⟨n0, n1, n2, n3, n4⟩ := open5 GN.out
      rename_i k0 h0 j0 k1 h1 h2
      clear h0
      have HKS := Lib.hid (fun (u : World) (hu : Below w3.heap.size w3 u) => And.intro (cell_keep hu n2) (cell_keep hu n3))
      refine wp_region_noPanic ?_
      refine wp_region_takes (fun u => Below w3.heap.size w3 u) [0, 1, 2, 3] 4 (by kernel_rfl) (by kernel_rfl) (by kernel_rfl) (fun _ _ _ _ _ h => h) (below_drew (Below.refl _ _)) ?_
      repeat (refine wpTk_cons rfl (fun K hK => ?_); go_simp; apply Exists.intro; refine ⟨fun u hu => ?_, hK _ ?_⟩; (first | exact rfl | (obtain ⟨r0, r1⟩ := HKS.out u hu; go_simp; done) | (obtain ⟨r0, r1⟩ := HKS.out u hu; go_simp; exact rfl)); clear hK K)
      refine wpTk_nil ?_
      have HZ0 : Hid (CS (fun _ => False) w3 w3.drew none none) := Lib.hid (CS.start (fun _ h => h.elim))
      generalize w3.drew = z0 at HZ0 ⊢
      clear HKS
      refine held_ready (rs := [4, 6]) (by kernel_rfl) (by simp) ?_
      refine (AllReadyH.cons rfl (fun K hK => ?_) (AllReadyH.cons rfl (fun K hK => ?_) AllReadyH.nil))
      · go_simp
        with_reducible refine (HC.out z0 HZ0.out.bel).mono ?_
        rintro e z1 ⟨wv, rfl, hr7, hb7⟩
        obtain ⟨aw2, cw2, rfl, _⟩ := rd_of_row hr7
        have HZ1 : Hid (CS (fun _ => False) w3 z1 none (some fun u => Rd u aw2 nw cw2 (ws.map (Value.int .i64)))) := Lib.hid (HZ0.out.call hb7 fun w2 hw2 => by
          obtain ⟨_, _, e, r⟩ := row_alone hr7 w2 (fun g hg => hw2 g (.inr (hr7.lt g hg)))
          cases e
          exact r)
        clear hr7 hb7
        go_simp
        refine hK.out _ _ HZ1.out.bel (fun hh => ?_)
        clear hh hK K; try simp only [Act.put, List.setIfInBounds_toArray, List.set_cons_zero, List.set_cons_succ]
        refine held_takes (f := 2) (by kernel_rfl) (fun _ _ _ _ _ h => h) HZ1.out.bel [5] _ _ (by kernel_rfl) ?_
        refine wpTk_cons rfl (fun K hK => ?_)
        go_simp
        apply Exists.intro
        refine ⟨fun y hy => rfl, hK _ ?_⟩
        clear hK K
        refine wpTk_nil ?_
        refine held_ready (rs := [6]) (by kernel_rfl) (by simp) ?_
        refine (AllReadyH.cons rfl (fun K hK => ?_) AllReadyH.nil)
        · go_simp
          have HZ2 := Lib.hid (HZ1.out.alloc (.cells zTre 64))
          refine hK.out _ _ HZ2.out.bel (fun hh => ?_)
          clear hh hK K; try simp only [Act.put, List.setIfInBounds_toArray, List.set_cons_zero, List.set_cons_succ]
          generalize z1.heap.size = B2 at HZ2 ⊢
          generalize z1.alloc _ = z2 at HZ2 ⊢
          refine held_ready (rs := [7]) (by kernel_rfl) (by simp) ?_
          refine (AllReadyH.cons rfl (fun K hK => ?_) AllReadyH.nil)
          · skip
            obtain ⟨gB, hBl⟩ := HZ2.out.b _ _ rfl
            obtain ⟨c0, c1, c2, c3, c4⟩ := open5 gB
            obtain ⟨f0, f1, f2, f3, f4⟩ := frz5 gB
            go_simp
            clear c0 c1 c2 c3 c4 f0 f1 f2 f3 f4
            generalize hV : World.setCell (World.setCell (World.setCell (World.setCell (World.setCell z2 _ _) _ _) _ _) _ _) _ _ = V
            obtain ⟨k1', k2', k3', k4'⟩ := fin5 gB hV
            have hCF := HZ2.out.fin k1' k2' k4'
            clear k1' k2' k3' k4' hV gB hBl
            refine hK.out _ _ hCF.bel (fun hh => ?_)
            clear hh hK K; try simp only [Act.put, List.setIfInBounds_toArray, List.set_cons_zero, List.set_cons_succ]
            refine wpAnyH_done (by kernel_rfl) (NoPanic.normal ?_) _
            refine h2 _ _ ?_
            go_meet
            exact ⟨B2, aw2, cw2, rfl, hCF⟩
      · go_simp
        have HZ4 := Lib.hid (HZ0.out.alloc (.cells zTre 64))
        refine hK.out _ _ HZ4.out.bel (fun hh => ?_)
        clear hh hK K; try simp only [Act.put, List.setIfInBounds_toArray, List.set_cons_zero, List.set_cons_succ]
        generalize z0.heap.size = B4 at HZ4 ⊢
        generalize z0.alloc _ = z4 at HZ4 ⊢
        refine held_ready (rs := [4]) (by kernel_rfl) (by simp) ?_
        refine (AllReadyH.cons rfl (fun K hK => ?_) AllReadyH.nil)
        · go_simp
          with_reducible refine (HC.out z4 HZ4.out.bel).mono ?_
          rintro e z5 ⟨wv, rfl, hr7, hb7⟩
          obtain ⟨aw2, cw2, rfl, _⟩ := rd_of_row hr7
          have HZ5 : Hid (CS (fun _ => False) w3 z5 (some (B4, .cells zTre 64)) (some fun u => Rd u aw2 nw cw2 (ws.map (Value.int .i64)))) := Lib.hid (HZ4.out.call hb7 fun w2 hw2 => by
            obtain ⟨_, _, e, r⟩ := row_alone hr7 w2 (fun g hg => hw2 g (.inr (hr7.lt g hg)))
            cases e
            exact r)
          clear hr7 hb7
          go_simp
          refine hK.out _ _ HZ5.out.bel (fun hh => ?_)
          clear hh hK K; try simp only [Act.put, List.setIfInBounds_toArray, List.set_cons_zero, List.set_cons_succ]
          refine held_takes (f := 1) (by kernel_rfl) (fun _ _ _ _ _ h => h) HZ5.out.bel [5] _ _ (by kernel_rfl) ?_
          refine wpTk_cons rfl (fun K hK => ?_)
          go_simp
          apply Exists.intro
          refine ⟨fun y hy => rfl, hK _ ?_⟩
          clear hK K
          refine wpTk_nil ?_
          refine held_ready (rs := [7]) (by kernel_rfl) (by simp) ?_
          refine (AllReadyH.cons rfl (fun K hK => ?_) AllReadyH.nil)
          · skip
            obtain ⟨gB, hBl⟩ := HZ5.out.b _ _ rfl
            obtain ⟨c0, c1, c2, c3, c4⟩ := open5 gB
            obtain ⟨f0, f1, f2, f3, f4⟩ := frz5 gB
            go_simp
            clear c0 c1 c2 c3 c4 f0 f1 f2 f3 f4
            generalize hV : World.setCell (World.setCell (World.setCell (World.setCell (World.setCell z5 _ _) _ _) _ _) _ _) _ _ = V
            obtain ⟨k1', k2', k3', k4'⟩ := fin5 gB hV
            have hCF := HZ5.out.fin k1' k2' k4'
            clear k1' k2' k3' k4' hV gB hBl
            refine hK.out _ _ hCF.bel (fun hh => ?_)
            clear hh hK K; try simp only [Act.put, List.setIfInBounds_toArray, List.set_cons_zero, List.set_cons_succ]
            refine wpAnyH_done (by kernel_rfl) (NoPanic.normal ?_) _
            refine h2 _ _ ?_
            go_meet
            exact ⟨B4, aw2, cw2, rfl, hCF⟩
    case rest =>
      obtain ⟨T, a2, c2, rfl, hCF⟩ := hcut
      obtain ⟨SW, hSW1, hSW2, hQ⟩ := hCF.r
      have gN := heap_below hCF.bel GN.out
      have n4 := (open5 gN).2.2.2.2
      have HSW : Hid (SlS SW wc (.slice a2 nw c2) ws) := Lib.hid (fun w2 ha => ⟨a2, c2, by rw [← HWL.out], by rw [← HWL.out]; exact hQ w2 ha⟩)
      have HSW1 := Lib.hid hSW1
      have HSW2 : Hid (∀ g, SW g → w3.heap.size ≤ g ∧ g < wc.heap.size) := Lib.hid (fun g hg => (hSW2 g hg).resolve_left id)
      have HCF := Lib.hid hCF
      have hsc := hCF.bel.size
      have hTc : T < wc.heap.size := heap_some_lt hCF.b
      have hT3 := hCF.le
      have hs3' := HS3.out
      have HBC := Lib.hid (Below.next HB3.out hCF.bel)
      clear hCF hSW1 hSW2 hQ gN
      go_wp2_with fail
      clear n4
      go_loopw [29] (fun q wr => ∃ k kv S', k ≤ nk ∧ q = .int .i64 ((k : Nat) : Int) ∧ wr.heap[T]? = some (.cells #[.bool false, .int .i64 0, .int .i64 need, .slice a2 nw c2, kv] 64 (0, 0)) ∧ TB S' wc.heap.size wr kv (KT.take k) ∧ (∀ g, S' g → wc.heap.size ≤ g) ∧ (∀ g, g < wc.heap.size → g ≠ T → wr.heap[g]? = wc.heap[g]?) ∧ Below w.heap.size w wr ∧ wc.heap.size ≤ wr.heap.size) (fun q _ => nk - (intOf q).toNat)
      case atStart => exact ⟨0, _, fun _ => False, Nat.zero_le _, rfl, HCF.out.b, GB.nil _ _ _ _ (fun _ h => h.elim), fun _ h => h.elim, fun _ _ _ => rfl, HBC.out, Nat.le_refl _⟩
      case round =>
        obtain ⟨k, kv, S', hk, rfl, hTb, hTB, hS', hbk, hbw, hsz⟩ := hrel
        have hnk9 := HNK.out
        by_cases hlt : k < nk
        · obtain ⟨V, hV1, hV2, hV3⟩ := hTB.row
          have hkl : (KT.take k).length = k := by rw [List.length_take]; have := HKL.out; omega
          rw [hkl] at hV2
          obtain ⟨ak2, ck2, rfl, _⟩ := rdK_of_row hV2
          obtain ⟨z, hz⟩ : ∃ z, ks[k]? = some z := ⟨_, List.getElem?_eq_getElem (by have := HKT.out; have := HKL.out; rw [HKT.out, kidT_len] at this; omega)⟩
          have hzr := HKR.out z (List.mem_of_getElem? hz)
          obtain ⟨zn, hzn⟩ := Int.eq_ofNat_of_zero_le hzr.1
          subst hzn
          have hTT := kidT_take x.nodes noSub f ks k zn hz
          rw [← HKT.out, Int.toNat_natCast] at hTT
          obtain ⟨b4, o4, ha4, hc4⟩ := HK4.out.at' (by omega)
          have hc := cell_keep hbw (hc4 k (.int .i64 zn) (by rw [List.getElem?_map, hz]; rfl))
          have gx := (hbk w.heap.size (by omega) (by omega)).trans (heap_below HCF.out.bel GX.out)
          obtain ⟨⟨x0, x1⟩, _⟩ := open2 gx
          have p4 := (open5 hTb).2.2.2.2
          have hszk : (treF x.nodes noSub f zn).sz ≤ 1000 := by
            have h1 := sz_take KT (k + 1)
            rw [hTT, ETs.sz_app] at h1
            have := HSZ.out
            simp only [ETs.sz] at h1; omega
          have HCALL := Lib.hid (fun (u : World) (hu : Below wr.heap.size wr u) => HIH.out zn (by omega) (by have := HHL.out; omega) (some ⟨b, o, none⟩) n c u (HX.out.below (Below.next hbw hu)) hszk)
          obtain ⟨TK, hTK⟩ : ∃ TK, treF x.nodes noSub f zn = TK := ⟨_, rfl⟩
          rw [hTK] at HCALL hTT
          have HTT := Lib.hid hTT
          have HTB := Lib.hid hTB
          have HTb := Lib.hid hTb
          have HV1 := Lib.hid hV1
          have HV2 := Lib.hid hV2
          have HV3 := Lib.hid hV3
          have HS' := Lib.hid hS'
          have HBK := Lib.hid hbk
          have HBW := Lib.hid hbw
          have HKK := Lib.hid hkl
          have hTr : T < wr.heap.size := heap_some_lt hTb
          have HRE : Hid (∀ u : World, Below wr.heap.size wr u → u.heap[T]? = some (.cells #[.bool false, .int .i64 0, .int .i64 need, .slice a2 nw c2, .slice ak2 k ck2] 64 (0, 0))) := Lib.hid (fun u hu => heap_below hu hTb)
          obtain ⟨ii, hi0, hz0, hz1, hz2⟩ := info_parts Tryd.infoTre
          subst ha4
          clear hTK hTT hTB hTb hV1 hV2 hV3 hS' hbk hbw hkl hz hc4 gx hzr hszk
          go_wp2_with fail
          go_region_law (first
            | (go_simp; go_at_call 18; (with_reducible refine (HCALL.out wr.drew (below_drew (Below.refl _ _))).mono ?_); rintro e w5 ⟨lf, sv, nd5, aw5, nw5, cw5, ak5, nk5, ck5, rfl, hTS, hb5⟩; have hb5' := below_undrew hb5; have g5 := HRE.out w5 hb5'; have p45 := (open5 g5).2.2.2.2; have p45b : ∀ ob, (w5.alloc ob).cell? ⟨T, 4, none⟩ = some (.slice ak2 k ck2) := (fun ob => (World.cell?_alloc_lt _ _ _ (cell_lt p45)).trans p45); have z45 := (frz5 g5).2.2.2.2; have HROW := Lib.hid (rowK_below HV2.out hb5'); have HTS := Lib.hid hTS; have HB5 := Lib.hid hb5'; have G5 := Lib.hid g5; clear hTS hb5 hb5' g5)
            | (refine step_append_lies _ (by rfl) _ _ _ (by rfl) wc.heap.size 64 ii _ 5 72 Tryd.underlying62 hi0 hz0 hz1 hz2 rfl (by omega) (.slice ak2 k ck2) k _ (by rfl) (HROW.out.alloc _) ⟨w5.heap.size, 0, none⟩ 1 1 (trVC ⟨lf, sv, nd5, .slice aw5 nw5 cw5, .slice ak5 nk5 ck5⟩) (by rfl) (by rfl) (World.news_of_block (cs := (trVC ⟨lf, sv, nd5, .slice aw5 nw5 cw5, .slice ak5 nk5 ck5⟩).toArray) (t := 64) (fr := (0, 0)) (heap_alloc_new w5 _)) (by simp [trVC, Value.oneCell']) (by omega) (by unfold maxLen; have := HNK.out; omega) (by have := HNK.out; omega) (by have := HB5.out.size; simp; omega) (w5.heap.size + 1) (by simp) ?_; intro gg cap wA hownA hgrow hat hlt; have hA := (hgrow.block T (by have := HB5.out.size; simp; omega) (fun e => by have := (HROW.out.lt _ e.symm).1; omega)).trans ((Below.heap_alloc w5 _ T (by have := HB5.out.size; omega)).trans G5.out); have pA := (open5 hA).2.2.2.2; have zA := (frz5 hA).2.2.2.2; have HA := Lib.hid hA; have HOA := Lib.hid hownA; have HGA := Lib.hid hgrow; have HAT := Lib.hid hat; clear hA hownA hgrow hat))
          all_goals
            have hb5s := HB5.out.size
            have hV3 := fun (i : Nat) p nd hp hn => RS.below (HV3.out i p nd hp hn) HB5.out HTB.out.lt
            have hTB2 := GB.pushes (M := [TK]) (U := [⟨lf, sv, nd5, .slice aw5 nw5 cw5, .slice ak5 nk5 ck5⟩]) (SW := fun g => False ∨ (wr.heap.size ≤ g ∧ g < w5.heap.size)) (x := w5.alloc (.cells (trVC ⟨lf, sv, nd5, .slice aw5 nw5 cw5, .slice ak5 nk5 ck5⟩).toArray 64)) (u := .slice (some ⟨gg, 0, none⟩) (k + 1) cap) (y := wA) (HTB.out.below HB5.out) HV1.out hV3 ((Below.refl _ _).alloc (Nat.le_refl _) _) HGA.out rfl (by rw [HKK.out]; exact HOA.out) (fun g hg => by
              have e2 : gg = g := by simpa [Value.ownBlock] using hg
              rcases HAT.out with h1 | h1
              · exact .inl (e2 ▸ h1)
              · exact .inr (by omega)) (fun i p nd hp hn => by
              cases i with
              | zero => simp at hp hn; subst hp hn; exact HTS.out
              | succ i => simp at hp) (fun g hg => by
              rcases hg with hg | hg
              · exact hg.elim
              · exact ⟨hg.2, fun e => by have := (HV2.out.lt g e).2; omega⟩)
            rw [← HTT.out] at hTB2
            have HTB2 := Lib.hid hTB2
            have hsA : w5.heap.size + 1 ≤ wA.heap.size := by have := HGA.out.size; simpa using this
            have hko : ∀ g, (Value.slice ak2 k ck2).ownBlock = some g → wc.heap.size ≤ g ∧ g < wr.heap.size := fun g hg => HV2.out.lt g hg
            have HBLK : Hid (∀ g, g < wc.heap.size → wA.heap[g]? = wr.heap[g]?) := Lib.hid (fun g hg => by
              rw [HGA.out.block g (by simp; omega) (fun e => by have := hko g e.symm; omega), Below.heap_alloc w5 _ g (by omega)]
              exact HB5.out.block g (by omega))
            have HBA : Hid (Below wc.heap.size wr wA) := Lib.hid (((HB5.out.mono hsz).alloc (by omega) _).grown HGA.out (by simp; omega) (fun g hg => (hko g hg).1))
            clear hTB2 hV3 HV3 HGA HOA HCALL
            go_wp2_with fail
            go_roundw
            case rel =>
              refine ⟨k + 1, .slice (some ⟨gg, 0, none⟩) (k + 1) cap, _, by omega, by go_num, by rw [heap_set_at HA.out]; rfl, HTB2.out.move (fun g hg => ?_) (fun g hg => ?_) (by simp), fun g hg => ?_, fun g hg hne => ?_, ?_, by simp; omega⟩
              · refine Below.heap_setCell _ _ _ _ ?_
                show g ≠ T
                rcases hg with hg | hg | hg
                · have := HS'.out g hg; omega
                · exact hg.elim
                · omega
              · refine Below.heap_setCell _ _ _ _ ?_
                show g ≠ T
                have := (HTB2.out.lt_own g hg).1; omega
              · rcases hg with hg | hg | hg
                · exact HS'.out g hg
                · exact hg.elim
                · omega
              · rw [Below.heap_setCell _ ⟨T, 4, none⟩ _ g hne, HBLK.out g hg]
                exact HBK.out g hg hne
              · exact (HBW.out.trans (HBA.out.mono (by have := HBC.out.size; omega))).setCell (p := ⟨T, 4, none⟩) (by show w.heap.size ≤ T; omega) _
            case measure => simp [intOf] <;> omega
        · obtain rfl : k = nk := by omega
          rw [List.take_of_length_le (by have := HKL.out; omega)] at hTB
          have hr := hTB.row
          obtain ⟨V, hV1, hV2, hV3⟩ := hr
          rw [HKL.out] at hV2
          obtain ⟨ak2, ck2, rfl, _⟩ := rdK_of_row hV2
          obtain ⟨t0, t1, t2, t3, t4⟩ := open5 hTb
          have gR := (hbk (w.heap.size + 1) (by omega) (by omega)).trans (heap_below HCF.out.bel GR.out)
          obtain ⟨r0, r1, r2, r3, r4⟩ := open5 gR
          obtain ⟨z0, z1, z2, z3, z4⟩ := frz5 gR
          have hTR := TB.thr (S' := fun g => w.heap.size + 2 ≤ g ∧ g < wr.heap.size) need hTB (HSW.out.move (w' := wr) fun g hg => hbk g (HSW2.out g hg).2 (fun e => HSW1.out (e ▸ hg))) (fun g hg => ⟨by have := hS' g hg; omega, hTB.lt g hg⟩) (fun g hg => by have := HSW2.out g hg; omega) (fun g hg => by have := hTB.lt_own g hg; omega)
          have HTR := Lib.hid hTR
          have HGR := Lib.hid gR
          have HBW := Lib.hid hbw
          clear hTR gR hTB hV1 hV2 hV3 hTb hS' hbk hbw
          go_wp2_with fail
          clear t0 t1 t2 t3 t4 r0 r1 r2 r3 r4 z0 z1 z2 z3 z4
          generalize hWF : ((((wr.setCell _ _).setCell _ _).setCell _ _).setCell _ _).setCell _ _ = WF
          obtain ⟨e1, e2, e3, e4⟩ := fin5 HGR.out hWF
          refine bodyPost_ret (v := .agg #[.bool false, .int .i64 0, .int .i64 need, .slice a2 nw c2, .slice ak2 k ck2]) ?_ rfl ⟨false, 0, need, a2, nw, c2, ak2, k, ck2, rfl, ?_, ?_⟩
          · exact results_cell_row rfl _ _ _ _ _ _ _ rfl e1 Tryd.underlying64 rfl (by kernel_rfl)
          · exact (HTR.out.move fun g hg => e2 g (by omega)).mono fun g hg => .inr ⟨by omega, by omega⟩
          · exact HBW.out.trans (e4 _ (by omega))
theorem plant_c (x : Xpr) (hx : xprE x = 0) : ∀ f, PlC x f
  | 0 => fun i hi => by omega
  | f + 1 => plant_step x hx f (plant_c x hx f)
end Go.Proofs.YtmjgdnpfgkpaoaaDoor
namespace Go.Proofs.YtmjgdnpfgkpaoaaDoor
open Go.RowKit Go.Shelf

/-- a tree's value, opened -/
theorem TrM.shape {w : World} {p : TrV} {t : ET} (h : TrM w p t) : ∃ nw aw cw ak nk ck, p = ⟨p.leaf, p.server, p.need, .slice aw nw cw, .slice ak nk ck⟩ ∧ t.kidsOf.length = nk := by
  cases h with
  | srv s => exact ⟨0, none, 0, none, 0, 0, rfl, rfl⟩
  | thr n ws ks aw nw cw ak nk ck V hw hl hk hr =>
    refine ⟨nw, aw, cw, ak, nk, ck, rfl, ?_⟩
    have h1 := hk.len
    rw [flat_len 5 trVC trVC_len] at h1
    show ks.length = nk
    omega
/-- what the methods of a tree are told -/
def trA (p : TrV) : Value := .agg #[.bool p.leaf, .int .i64 p.server, .int .i64 p.need, p.wv, p.kv]
theorem nil_emp {α : Type} {l : List α} {n : Nat} (h : n = l.length) : ((n : Int) == 0) = l.isEmpty := by
  subst h; cases l <;> simp <;> omega

set_option maxRecDepth 100000 in
set_option maxHeartbeats 4000000 in
theorem const_c (p : TrV) (t : ET) (w : World) (h : TrM w p t) :
    Calls Tryd.prog 42 #[trA p] w fun e w' => e = .returned (.bool t.constB) ∧ Below w.heap.size w w' := by
  unfold trA
  cases h with
  | srv s =>
    go_enter Tryd.func42, Tryd.ntmps42
    go_wp2_with fail
    go_ret
    exact ⟨rfl, (Below.refl _ _).alloc (Nat.le_refl _) _⟩
  | thr n ws ks aw nw cw ak nk ck V hw hl hk hr =>
    have h1 := hk.len
    rw [flat_len 5 trVC trVC_len] at h1
    have hn : ((nk : Int) == 0) = ks.isEmpty := nil_emp (by omega)
    clear hw hl hk hr h1
    go_enter Tryd.func42, Tryd.ntmps42
    go_wp2_with fail
    go_ret
    exact ⟨rfl, (Below.refl _ _).alloc (Nat.le_refl _) _⟩


set_option maxRecDepth 100000 in
set_option maxHeartbeats 4000000 in
theorem anyOf_c (p : TrV) (t : ET) (w : World) (h : TrM w p t) :
    Calls Tryd.prog 44 #[trA p] w fun e w' => e = .returned (.bool t.anyB) ∧ Below w.heap.size w w' := by
  unfold trA
  cases h with
  | srv s =>
    go_enter Tryd.func44, Tryd.ntmps44
    go_wp2_with fail
    go_ret
    exact ⟨rfl, (Below.refl _ _).alloc (Nat.le_refl _) _⟩
  | thr n ws ks aw nw cw ak nk ck V hw hl hk hr =>
    have h1 := hk.len
    rw [flat_len 5 trVC trVC_len] at h1
    have h2 := hw.len
    rw [List.length_map] at h2
    have hkl : ks.length = nk := by omega
    have hV : Hid ((ET.thr n ws ks).anyB = ((decide (0 < nk) && ((nw : Int) == 0)) && (n == 1))) := Lib.hid (by
      rw [nil_emp h2]
      show ((!ks.isEmpty && ws.isEmpty) && decide (n = 1)) = _
      have e : (!ks.isEmpty) = decide (0 < nk) := by rw [← hkl]; cases ks <;> simp
      rw [e]
      congr 1
      try (rw [Bool.eq_iff_iff]; simp))
    clear hw hl hk hr h1 h2 hkl
    by_cases hk0 : 0 < nk
    · have hd0 : decide (0 < nk) = true := decide_eq_true hk0
      by_cases hw0 : nw = 0
      · subst hw0
        go_enter Tryd.func44, Tryd.ntmps44
        go_wp2_with fail
        go_ret
        exact ⟨by rw [hV.out, hd0]; rfl, (Below.refl _ _).alloc (Nat.le_refl _) _⟩
      · have hw1 : ((nw : Int) == 0) = false := by simpa using hw0
        go_enter Tryd.func44, Tryd.ntmps44
        go_wp2_with fail
        go_ret
        exact ⟨by rw [hV.out, hd0, hw1]; rfl, (Below.refl _ _).alloc (Nat.le_refl _) _⟩
    · obtain rfl : nk = 0 := by omega
      go_enter Tryd.func44, Tryd.ntmps44
      go_wp2_with fail
      go_ret
      exact ⟨by rw [hV.out]; rfl, (Below.refl _ _).alloc (Nat.le_refl _) _⟩

set_option maxRecDepth 100000 in
set_option maxHeartbeats 4000000 in
theorem allOf_c (p : TrV) (t : ET) (w : World) (h : TrM w p t) :
    Calls Tryd.prog 46 #[trA p] w fun e w' => e = .returned (.bool t.allB) ∧ Below w.heap.size w w' := by
  unfold trA
  cases h with
  | srv s =>
    go_enter Tryd.func46, Tryd.ntmps46
    go_wp2_with fail
    go_ret
    exact ⟨rfl, (Below.refl _ _).alloc (Nat.le_refl _) _⟩
  | thr n ws ks aw nw cw ak nk ck V hw hl hk hr =>
    have h1 := hk.len
    rw [flat_len 5 trVC trVC_len] at h1
    have h2 := hw.len
    rw [List.length_map] at h2
    have hkl : ks.length = nk := by omega
    have hV : Hid ((ET.thr n ws ks).allB = ((decide (0 < nk) && ((nw : Int) == 0)) && (n == (nk : Int)))) := Lib.hid (by
      rw [nil_emp h2]
      show ((!ks.isEmpty && ws.isEmpty) && decide (n = (ks.length : Int))) = _
      have e : (!ks.isEmpty) = decide (0 < nk) := by rw [← hkl]; cases ks <;> simp
      rw [e]
      congr 1
      try (rw [Bool.eq_iff_iff]; simp [hkl]))
    clear hw hl hk hr h1 h2 hkl
    by_cases hk0 : 0 < nk
    · have hd0 : decide (0 < nk) = true := decide_eq_true hk0
      by_cases hw0 : nw = 0
      · subst hw0
        go_enter Tryd.func46, Tryd.ntmps46
        go_wp2_with fail
        go_ret
        exact ⟨by rw [hV.out, hd0]; rfl, (Below.refl _ _).alloc (Nat.le_refl _) _⟩
      · have hw1 : ((nw : Int) == 0) = false := by simpa using hw0
        go_enter Tryd.func46, Tryd.ntmps46
        go_wp2_with fail
        go_ret
        exact ⟨by rw [hV.out, hd0, hw1]; rfl, (Below.refl _ _).alloc (Nat.le_refl _) _⟩
    · obtain rfl : nk = 0 := by omega
      go_enter Tryd.func46, Tryd.ntmps46
      go_wp2_with fail
      go_ret
      exact ⟨by rw [hV.out]; rfl, (Below.refl _ _).alloc (Nat.le_refl _) _⟩

set_option maxRecDepth 100000 in
set_option maxHeartbeats 4000000 in
theorem part_c (p : TrV) (n : Int) (ws : List Int) (ks : List ET) (k : Nat) (w : World) (h : TrM w p (.thr n ws ks)) (hk : ws = [] ∨ k < ws.length) :
    Calls Tryd.prog 41 #[trA p, .int .i64 k] w fun e w' => e = .returned (.int .i64 (wgtW ws k)) ∧ Below w.heap.size w w' := by
  unfold trA
  cases h with
  | thr n ws ks aw nw cw ak nk ck V hw hl hkk hr =>
    have h2 := hw.len
    rw [List.length_map] at h2
    clear hl hkk hr
    by_cases hw0 : nw = 0
    · have hws : ws = [] := List.eq_nil_of_length_eq_zero (by omega)
      subst hws hw0
      clear hw h2 hk
      go_enter Tryd.func41, Tryd.ntmps41
      go_wp2_with fail
      go_ret
      exact ⟨rfl, (Below.refl _ _).alloc (Nat.le_refl _) _⟩
    · have hw1 : ((nw : Int) == 0) = false := by simpa using hw0
      have hne : ws ≠ [] := fun e => hw0 (by rw [h2, e]; rfl)
      have hkw : k < nw := by rw [h2]; exact hk.resolve_left hne
      obtain ⟨b, o, rfl, hc⟩ := hw.at' (by omega)
      obtain ⟨z, hz⟩ : ∃ z, ws[k]? = some z := ⟨_, List.getElem?_eq_getElem (by omega)⟩
      have hcell := hc k (.int .i64 z) (by rw [List.getElem?_map, hz]; rfl)
      have hV : Hid (wgtW ws k = z) := Lib.hid (by unfold wgtW; rw [if_neg hne, List.getD_eq_getElem?_getD, hz]; rfl)
      have hbl := cell_lt hcell
      have hcell2 : ∀ ob, (w.alloc ob).cell? ⟨b, o + k, none⟩ = some (.int .i64 z) := fun ob => (World.cell?_alloc_lt _ _ _ hbl).trans hcell
      clear hw h2 hk hne hz hc hw0
      go_enter Tryd.func41, Tryd.ntmps41
      go_wp2_with fail
      go_ret
      exact ⟨by rw [hV.out]; rfl, (Below.refl _ _).alloc (Nat.le_refl _) _⟩
end Go.Proofs.YtmjgdnpfgkpaoaaDoor
