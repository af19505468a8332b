/- Texts laid together. Layer 38: if the condition holds, a chosen value is found. Plain Lean, no program. Layer 38: the reference's Clash and Safe; the sets of a size; Least. Layer 38: Attack. Layer 38: by the attack's votes a chosen value is lost; with more heard servers nothing else becomes possible. Plain Lean, no program. transversal.Cross. What the statement about the fast round leans on, together. The fast round's condition and the common parts of two fast sets, plain. Minimal families are valid. Plain Lean, no program. TopFast, plain side. slices.Clone of strings. The law TopFast, walked. -/
import Derived.Test.YtmjgdnpfgkpaoaaGreatDoorGC3
import Derived.Test.YtmjgdnpfgkpaoaaGreatDoorGC6
import Derived.Test.YtmjgdnpfgkpaoaaGreatDoorGC8
import Derived.Test.YtmjgdnpfgkpaoaaGreatDoorGC10
import Derived.Test.YtmjgdnpfgkpaoaaGreatDoorGTopFast1
import Derived.Laws.OwnMore
import Derived.Laws.MakeOwn
namespace Go.Proofs.YtmjgdnpfgkpaoaaGreatDoor
open Go.RowKit Go.Shelf

theorem valS_kd (l : List (BitVec 16)) : valS l = 0 ∨ valS l = 1 ∨ valS l = 3 ∨ valS l = 7 := by
  have hk : ∀ k, e1 l k = 0 ∨ e1 l k = 1 ∨ e1 l k = 7 := by
    intro k; unfold e1; split
    · exact .inr (.inr rfl)
    · split
      · exact .inr (.inl rfl)
      · exact .inl rfl
  have hf : firstE (e1 l) l.length = 0 ∨ firstE (e1 l) l.length = 1 ∨ firstE (e1 l) l.length = 7 := by
    unfold firstE
    cases h : ((List.range l.length).map (e1 l)).find? (fun x => x != 0) with
    | none => exact .inl rfl
    | some v =>
      have := List.mem_of_find?_eq_some h
      obtain ⟨j, _, rfl⟩ := List.mem_map.1 this
      exact hk j
  unfold valS
  split
  · exact .inr (.inr (.inl rfl))
  · split
    · rcases hf with h | h | h
      · rename_i _ h2; exact absurd h h2
      · exact .inr (.inl h)
      · exact .inr (.inr (.inr h))
    · split
      · exact .inr (.inl rfl)
      · exact .inl rfl
theorem quoS_13 (l : List (BitVec 16)) : quoS l ≠ 13 := by
  unfold quoS
  have := valS_kd l
  split
  · omega
  · split <;> decide
theorem bot_safe {R Q : List (BitVec 16)} (h : (claT R Q).2.2.2 = 13) : botS R Q = 0 := by
  apply Classical.byContradiction
  intro hb
  unfold claT at h
  rw [if_pos hb] at h
  simp only at h
  unfold botS at h
  split at h
  · exact quoS_13 R h
  · exact quoS_13 Q h
theorem quo_safe {R Q : List (BitVec 16)} (h : (claT R Q).2.2.2 = 13) : quoS Q = 0 := by
  have hb := bot_safe h
  unfold botS at hb
  split at hb
  · rename_i h1; exact absurd hb h1
  · exact hb
theorem safe_tri {R Q : List (BitVec 16)} (h : (claT R Q).2.2.2 = 13) {a b r : BitVec 16} (ha : a ∈ Q) (hb : b ∈ Q) (hr : r ∈ R) : tri a b r = false := by
  cases ht : tri a b r
  · rfl
  · exfalso
    have h0 := bot_safe h
    unfold claT at h
    rw [if_neg (by rw [h0]; decide)] at h
    cases hc : claS R Q with
    | some p => rw [hc] at h; cases h
    | none =>
      unfold claS at hc
      have h1 := List.findSome?_eq_none_iff.1 hc a ha
      unfold claA at h1
      have h2 := List.findSome?_eq_none_iff.1 h1 b hb
      unfold claB at h2
      cases hf : R.find? (fun r => tri a b r) with
      | some q => rw [hf] at h2; cases h2
      | none =>
        have := List.find?_eq_none.1 hf r hr
        exact this ht

theorem votTo_only {V : List ByteArray} {x : ByteArray} {i : Nat} : ∀ k, k ≤ 16 → hasB (votTo V x k) i = true → i < k ∧ (V.getD i ⟨#[]⟩) = x := by
  intro k
  induction k with
  | zero => intro _ h; unfold votTo at h; simp [hasB] at h
  | succ k ih =>
    intro hk h
    rw [votTo_succ] at h
    split at h
    · rename_i h2
      rw [hasB_or, Bool.or_eq_true] at h
      rcases h with h | h
      · have := ih (by omega) h; exact ⟨by omega, this.2⟩
      · rw [hasB_bit k i (by omega), decide_eq_true_eq] at h
        subst h
        exact ⟨by omega, bs_ext (eq_of_beq h2)⟩
    · have := ih (by omega) h; exact ⟨by omega, this.2⟩
theorem ne_zero_has {x : BitVec 16} (h : (x == 0#16) = false) : ∃ i, i < 16 ∧ hasB x i = true := by
  apply Classical.byContradiction
  intro hn
  have : x = 0#16 := by
    apply BitVec.eq_of_getLsbD_eq
    intro i hi
    cases hx : x.getLsbD i
    · simp
    · exact absurd ⟨i, hi, hx⟩ hn
  rw [this] at h; cases h
theorem zero_has {x : BitVec 16} (h : (x == 0#16) = true) (i : Nat) : hasB x i = false := by
  rw [eq_of_beq h]; simp [hasB]
theorem sub_has {x s : BitVec 16} (h : (x &&& ~~~s == 0#16) = true) {i : Nat} (hi : hasB x i = true) : hasB s i = true := by
  have := zero_has h i
  unfold hasB at this hi ⊢
  rw [BitVec.getLsbD_and, hi, Bool.true_and, BitVec.getLsbD_not] at this
  have hlt : i < 16 := BitVec.lt_of_getLsbD hi
  simpa [hlt] using this
theorem has_sub {x s : BitVec 16} (h : ∀ i, hasB x i = true → hasB s i = true) : (x &&& ~~~s == 0#16) = true := by
  rw [beq_iff_eq]
  apply BitVec.eq_of_getLsbD_eq
  intro i hi
  rw [BitVec.getLsbD_and, BitVec.getLsbD_not]
  cases hx : x.getLsbD i
  · simp
  · have := h i hx
    unfold hasB at this
    simp [this]
theorem pos_fam {Q : List (BitVec 16)} {V : List ByteArray} {s : BitVec 16} {x : ByteArray} (h : x ∈ posS Q V s) : ∃ F, F ∈ Q ∧ (F &&& s == 0#16) = false ∧ ∀ i, hasB F i = true → hasB s i = true → hasB (votS V x) i = true := by
  unfold posS at h
  have hp := (List.mem_filter.1 h).2
  unfold posB at hp
  obtain ⟨F, hF, hq⟩ := List.any_eq_true.1 hp
  unfold posP at hq
  rw [Bool.and_eq_true] at hq
  refine ⟨F, hF, by simpa [bne] using hq.1, fun i h1 h2 => sub_has hq.2 (by rw [hasB_and, h1, h2]; rfl)⟩
theorem valB_nodup (V : List ByteArray) (h : BitVec 16) : (vaB38 V h).Nodup := by
  unfold vaB38
  rw [List.Nodup, List.pairwise_map]
  refine (valV_asc V h).imp ?_
  intro a b hab he
  have : a = b := by
    have := congrArg ByteArray.toList he
    rwa [bs_list, bs_list] at this
  rw [this] at hab
  exact List.lt_irrefl _ hab
theorem pos_one {R Q : List (BitVec 16)} (h : (claT R Q).2.2.2 = 13) {V : List ByteArray} (hn : V.length ≤ 16) {s : BitVec 16} (hs : s ∈ R) : (∃ x, posS Q V s = [x]) ∨ posS Q V s = [] := by
  rcases pos_cases (posS Q V s) with h1 | ⟨_, x, y, r, h1⟩ | h1
  · exact .inl h1
  · exfalso
    have hnd : (posS Q V s).Nodup := by unfold posS; exact (valB_nodup V s).filter _
    have hxy : x ≠ y := by
      rw [h1] at hnd
      rw [List.nodup_cons] at hnd
      intro he
      exact hnd.1 (by rw [he]; exact List.mem_cons_self ..)
    obtain ⟨F, hF, hF1, hF2⟩ := pos_fam (x := x) (by rw [h1]; exact List.mem_cons_self ..)
    obtain ⟨G, hG, hG1, hG2⟩ := pos_fam (x := y) (by rw [h1]; exact List.mem_cons_of_mem _ (List.mem_cons_self ..))
    have ht := safe_tri h hF hG hs
    obtain ⟨i, _, hi⟩ := ne_zero_has (x := F &&& G &&& s) ht
    rw [hasB_and, hasB_and, Bool.and_eq_true, Bool.and_eq_true] at hi
    have a1 := (votTo_only _ hn (hF2 i hi.1.1 hi.2)).2
    have a2 := (votTo_only _ hn (hG2 i hi.1.2 hi.2)).2
    exact hxy (a1.symm.trans a2)
  · exact .inr h1
theorem args_ok {R Q : List (BitVec 16)} (h : (claT R Q).2.2.2 = 13) {n : Nat} (h0 : 1 ≤ n) (h1 : n ≤ 12) : argS Q n = 0 := by
  unfold argS
  rw [quo_safe h, if_neg (by decide), if_neg (by omega), if_neg (by omega)]
theorem cho_kinds {Q : List (BitVec 16)} {V : List ByteArray} (ha : argS Q V.length = 0) : (choS Q V).2 = 0 ∨ (choS Q V).2 = 4 := by
  unfold choS
  rw [ha]
  show (choM (choF Q V)).2 = 0 ∨ _
  cases choF Q V with
  | none => exact .inr rfl
  | some x => exact .inl rfl
theorem rec_kinds {R Q : List (BitVec 16)} (h : (claT R Q).2.2.2 = 13) {V : List ByteArray} (h0 : 1 ≤ V.length) (h1 : V.length ≤ 12) {s : BitVec 16} (hs : s ∈ R) : (recS Q V s).2 = 0 ∨ (recS Q V s).2 = 4 := by
  have e : recS Q V s = recM V s (posS Q V s) := by unfold recS; rw [args_ok h h0 h1]; rfl
  rw [e]
  rcases pos_one h (by omega : V.length ≤ 16) hs with ⟨x, hx⟩ | hx
  · rw [hx]; exact .inl rfl
  · rw [hx]
    show (recN V s).2 = 0 ∨ (recN V s).2 = 4
    unfold recN
    split
    · exact .inr rfl
    · exact .inl rfl
theorem found {R Q : List (BitVec 16)} (h : (claT R Q).2.2.2 = 13) {V : List ByteArray} (h0 : 1 ≤ V.length) (h1 : V.length ≤ 12) {s : BitVec 16} (hs : s ∈ R) {x : ByteArray} (hx : choS Q V = (x, 0)) : recS Q V s = (x, 0) := by
  have ha := args_ok h h0 h1
  unfold choS at hx
  rw [ha] at hx
  have hx' : choM (choF Q V) = (x, 0) := hx
  cases hf : choF Q V with
  | none => rw [hf] at hx'; cases hx'
  | some y =>
    rw [hf] at hx'
    have : y = x := by injection hx'
    subst this
    unfold choF at hf
    obtain ⟨z, hz, hp⟩ := List.exists_of_findSome?_eq_some hf
    unfold choP at hp
    split at hp
    · rename_i hacc
      injection hp with hp
      subst hp
      unfold accS at hacc
      obtain ⟨F, hF, hsub⟩ := List.any_eq_true.1 hacc
      have hsub' : (F &&& ~~~(votS V z) == 0#16) = true := hsub
      have ht := safe_tri h hF hF hs
      obtain ⟨i, hi16, hi⟩ := ne_zero_has (x := F &&& F &&& s) ht
      rw [hasB_and, hasB_and, Bool.and_eq_true, Bool.and_eq_true] at hi
      obtain ⟨a1, a2⟩ := votTo_only _ (by omega : V.length ≤ 16) (sub_has hsub' hi.1.1)
      have hzv : z ∈ vaB38 V s := by
        unfold vaB38 at hz ⊢
        obtain ⟨t, ht1, ht2⟩ := List.mem_map.1 hz
        refine List.mem_map.2 ⟨t, ?_, ht2⟩
        obtain ⟨j, _, hj1, hj2, _⟩ := (valV_mem V _ t).1 ht1
        refine (valV_mem V s t).2 ⟨i, a1, ?_, ?_, hi.2⟩
        · rw [a2, ← ht2, bs_list]
        · rw [a2, ← ht2, bs_list, ← hj1]; exact hj2
      have hpos : z ∈ posS Q V s := by
        unfold posS
        refine List.mem_filter.2 ⟨hzv, ?_⟩
        unfold posB
        refine List.any_eq_true.2 ⟨F, hF, ?_⟩
        unfold posP
        rw [Bool.and_eq_true]
        constructor
        · cases hc : (F &&& s == 0#16)
          · simp [bne, hc]
          · have := zero_has hc i
            rw [hasB_and, hi.1.1, hi.2] at this; cases this
        · refine has_sub fun j hj => ?_
          rw [hasB_and, Bool.and_eq_true] at hj
          exact sub_has hsub' hj.1
      unfold recS
      rw [ha]
      show recM V s (posS Q V s) = _
      rcases pos_one h (by omega : V.length ≤ 16) hs with ⟨w, hw⟩ | hw
      · rw [hw] at hpos ⊢
        rw [List.mem_singleton] at hpos
        rw [hpos]; rfl
      · rw [hw] at hpos; cases hpos
    · cases hp
end Go.Proofs.YtmjgdnpfgkpaoaaGreatDoor
namespace Go.Proofs.YtmjgdnpfgkpaoaaGreatDoor
open Go.RowKit Go.Shelf

/-- all sets of k of n servers -/
def setsS (n k : Nat) : List (BitVec 16) := if k = 0 then [0#16] else chooseS (bitS n - 1#16) k
theorem setsS_eq (n k : Nat) (h : 0 < k) : setsS n k = chooseS (bitS n - 1#16) k := by unfold setsS; rw [if_neg (by omega)]

def leaS (n f : Int) : Int × Int × Int := if n < 1 ∨ 12 < n ∨ f < 0 ∨ n ≤ f then (0, 0, 7) else (n - f, (n + f) / 2 + 1, 0)
def V3 (p : Int × Int × Int) : Value := .tuple #[.int .i64 p.1, .int .i64 p.2.1, .int .i64 p.2.2]

end Go.Proofs.YtmjgdnpfgkpaoaaGreatDoor
namespace Go.Proofs.YtmjgdnpfgkpaoaaGreatDoor
open Go.RowKit Go.Shelf

def atkV (a b : BitVec 16) (i : Nat) : ByteArray := if hasB a i = true then ⟨#[120]⟩ else if hasB b i = true then ⟨#[121]⟩ else ⟨#[]⟩
def atkL (a b : BitVec 16) (n : Nat) : List ByteArray := (List.range n).map (atkV a b)
theorem atkL_succ (a b : BitVec 16) (n : Nat) : atkL a b (n + 1) = atkL a b n ++ [atkV a b n] := by unfold atkL; rw [List.range_succ, List.map_append]; rfl
theorem atkL_len (a b : BitVec 16) (n : Nat) : (atkL a b n).length = n := by simp [atkL]
def cur (a b : BitVec 16) (n k : Nat) : Array Value := ((List.range n).map fun i => if i < k then Value.string (atkV a b i) else .string ⟨#[]⟩).toArray
theorem cur_zero (a b : BitVec 16) (n : Nat) : madeCells #[.string ⟨#[]⟩] n = cur a b n 0 := by
  apply Array.ext
  · simp [madeCells, cur]
  · intro i h1 h2
    simp [madeCells, cur]
    rw [Nat.mod_one]; rfl
theorem cur_all (a b : BitVec 16) (n : Nat) : (cur a b n n).toList = (atkL a b n).map Value.string := by
  unfold cur atkL
  simp only [List.map_map]
  refine List.map_congr_left fun i hi => ?_
  simp [List.mem_range.1 hi]
theorem cur_at (a b : BitVec 16) (n k : Nat) (h : k < n) : (cur a b n k)[k]? = some (.string ⟨#[]⟩) := by simp [cur, h]
theorem cur_set (a b : BitVec 16) (n k : Nat) (h : k < n) : (cur a b n k).setIfInBounds k (.string (atkV a b k)) = cur a b n (k + 1) := by
  unfold cur
  apply Array.ext
  · simp
  · intro i h1 h2
    rw [Array.getElem_setIfInBounds (by simpa using h2)]
    simp only [List.getElem_toArray, List.getElem_map, List.getElem_range]
    by_cases hik : k = i
    · subst hik; simp
    · rw [if_neg hik]
      by_cases h3 : i < k
      · rw [if_pos h3, if_pos (by omega)]
      · rw [if_neg h3, if_neg (by omega)]
theorem cur_none (a b : BitVec 16) (n k : Nat) (h : atkV a b k = ⟨#[]⟩) : cur a b n k = cur a b n (k + 1) := by
  apply Array.ext
  · simp [cur]
  · intro i h1 h2
    simp only [cur, List.getElem_toArray, List.getElem_map, List.getElem_range]
    by_cases hik : i = k
    · subst hik; simp [h]
    · by_cases h3 : i < k
      · rw [if_pos h3, if_pos (by omega)]
      · rw [if_neg h3, if_neg (by omega)]

def fatM (m : Nat) : BitVec 16 × BitVec 16 × BitVec 16 × Int → List ByteArray × BitVec 16 × Int
  | (a, b, r, e) => if e ≠ 0 then ([], 0#16, e) else (atkL (if (b &&& r == 0#16) = true then b else a) b m, r, 0)
def farB (nn : Int) (read fast : List (BitVec 16)) : Bool := shrS (supS read ||| supS fast) nn.toNat != 0#16
def fatS (nn : Int) (read fast : List (BitVec 16)) : List ByteArray × BitVec 16 × Int :=
  if botS read fast ≠ 0 then ([], 0#16, botS read fast) else if nn < 1 ∨ 12 < nn ∨ farB nn read fast = true then ([], 0#16, 7) else fatM nn.toNat (claT read fast)
theorem claT_e (read fast : List (BitVec 16)) (h : botS read fast = 0) : (claT read fast).2.2.2 = 0 ∨ (claT read fast).2.2.2 = 13 := by
  unfold claT
  rw [if_neg (by rw [h]; decide)]
  cases claS read fast with
  | none => exact .inr rfl
  | some p => exact .inl rfl

theorem make_str (m : Nat) (hm : m ≤ 1000000) : ∀ w, (Instr.makeSlice 41 (.int .i64 m) (.int .i64 m)).run Tryz.prog w = .ok (.slice (some ⟨w.heap.size, 0, none⟩) m m) (w.alloc (.cells (madeCells #[.string ⟨#[]⟩] (m * 1)) 9)) := by
  intro w
  obtain ⟨i, hi1, hi2, hi3, hi4⟩ := info_parts Tryz.infoStr
  have := run_make (P := Tryz.prog) w 41 9 i _ Tryz.underlying41 hi1 hi2 .i64 .i64 m m (by omega) (Int.le_refl _) (by rw [hi4]; omega) (by omega)
  rw [hi3] at this
  simp only [Int.toNat_natCast] at this
  exact this

set_option maxRecDepth 100000 in
set_option maxHeartbeats 4000000 in
theorem attack_f (nn : Int) (read fast : List (BitVec 16)) (a : Option Addr) (n c : Nat) (a2 : Option Addr) (n2 c2 : Nat) (w : World) (h : Rd w a n c (read.map setV2)) (h2 : Rd w a2 n2 c2 (fast.map setV2)) :
    Calls Tryz.prog 16 #[.int .i64 nn, .slice a n c, .slice a2 n2 c2] w fun e w' => ∃ a' c', e = .returned (.tuple #[.slice a' (fatS nn read fast).1.length c', .int .u16 (U (fatS nn read fast).2.1), .int .i64 (fatS nn read fast).2.2]) ∧ Rd w' a' (fatS nn read fast).1.length c' ((fatS nn read fast).1.map Value.string) ∧ Below w.heap.size w w' := by
  have HR := Lib.hid h
  have HR2 := Lib.hid h2
  have HB := Lib.hid (both_c read fast a n c a2 n2 c2 w h h2)
  clear h h2
  by_cases hbo : botS read fast = 0
  · have hC : Hid (fatS nn read fast = if nn < 1 ∨ 12 < nn ∨ farB nn read fast = true then ([], 0#16, 7) else fatM nn.toNat (claT read fast)) := by show _ = _; unfold fatS; rw [if_neg (by rw [hbo]; decide)]
    have HCE := Lib.hid (claT_e read fast hbo)
    rw [hbo] at HB
    clear hbo
    by_cases h1 : nn < 1
    · have hE : Hid (fatS nn read fast = ([], 0#16, 7)) := by show _ = _; rw [hC.out, if_pos (.inl h1)]
      clear hC
      go_enter Tryz.func16, Tryz.ntmps16
      go_wp2_with fail
      refine HB.out.mono ?_
      rintro e w1 ⟨rfl, b1⟩
      go_wp2_with fail
      exact bodyPost_ret (v := .tuple #[.slice none 0 0, .int .u16 (U 0#16), .int .i64 7]) (by simp [results, Tryz.results16, go_sem]) rfl ⟨none, 0, by rw [hE.out]; rfl, by rw [hE.out]; exact Rd.none_ _, b1⟩
    · by_cases h2 : 12 < nn
      · have hE : Hid (fatS nn read fast = ([], 0#16, 7)) := by show _ = _; rw [hC.out, if_pos (.inr (.inl h2))]
        clear hC
        go_enter Tryz.func16, Tryz.ntmps16
        go_wp2_with fail
        refine HB.out.mono ?_
        rintro e w1 ⟨rfl, b1⟩
        go_wp2_with fail
        exact bodyPost_ret (v := .tuple #[.slice none 0 0, .int .u16 (U 0#16), .int .i64 7]) (by simp [results, Tryz.results16, go_sem]) rfl ⟨none, 0, by rw [hE.out]; rfl, by rw [hE.out]; exact Rd.none_ _, b1⟩
      · obtain ⟨m, rfl⟩ := Int.eq_ofNat_of_zero_le (by omega : 0 ≤ nn)
        have hm1 : 1 ≤ m := by omega
        have hm2 : m ≤ 12 := by omega
        have HS1 := Lib.hid (fun w h => support_c read a n c w h)
        have HS2 := Lib.hid (fun w h => support_c fast a2 n2 c2 w h)
        have hfb : farB (m : Int) read fast = (shrS (supS read ||| supS fast) m != 0#16) := rfl
        obtain ⟨s1, hs1⟩ : ∃ s, supS read = s := ⟨_, rfl⟩
        obtain ⟨s2, hs2⟩ : ∃ s, supS fast = s := ⟨_, rfl⟩
        rw [hs1] at HS1 hfb
        rw [hs2] at HS2 hfb
        clear hs1 hs2
        cases hfar : (shrS (s1 ||| s2) m != 0#16)
        · rw [hfar] at hfb
          have hC2 : Hid (fatS m read fast = fatM m (claT read fast)) := by show _ = _; rw [hC.out, if_neg (by rw [hfb]; simp; omega)]; rfl
          have HCL := Lib.hid (fun w h h2 => clash_c read fast a n c a2 n2 c2 w h h2)
          have hce := HCE.out
          obtain ⟨⟨x, y, r, e⟩, hcl⟩ : ∃ p, claT read fast = p := ⟨_, rfl⟩
          rw [hcl] at HCL hC2 hce
          unfold V4 at HCL
          clear hC hfb hcl HCE
          rcases hce with he | he
          · have he' : e = 0 := he
            subst he'
            cases hyr : (y &&& r == 0#16)
            · have hE : Hid (fatS m read fast = (atkL x y m, r, 0)) := by
                show _ = _
                rw [hC2.out]
                show (if (0 : Int) ≠ 0 then (([] : List ByteArray), 0#16, (0 : Int)) else (atkL (if (y &&& r == 0#16) = true then y else x) y m, r, 0)) = _
                rw [if_neg (by decide), hyr]; rfl
              clear hC2 he
              have hmk := make_str m (by omega)
              go_enter Tryz.func16, Tryz.ntmps16
              go_wp2_with fail
              refine HB.out.mono ?_
              rintro e w1 ⟨rfl, b1⟩
              go_wp2_with fail
              refine (HS1.out w1 (HR.out.below b1)).mono ?_
              rintro e w2 ⟨rfl, rfl⟩
              go_wp2_with fail
              refine (HS2.out _ (HR2.out.below b1)).mono ?_
              rintro e w2 ⟨rfl, rfl⟩
              go_wp2_with fail
              refine (HCL.out _ (HR.out.below b1) (HR2.out.below b1)).mono ?_
              rintro e w3 ⟨rfl, b3⟩
              have b4 := Below.next b1 b3
              clear HB HS1 HS2 HCL b1 b3
              go_wp2_with fail
              rw [cur_zero x y]
              obtain ⟨B, hB⟩ : ∃ B, w3.heap.size = B := ⟨_, rfl⟩
              obtain ⟨W, hW⟩ : ∃ W, w3.alloc (.cells (cur x y m 0) 9) = W := ⟨_, rfl⟩
              have g0 : W.heap[B]? = some (.cells (cur x y m 0) 9 (0, 0)) := by rw [← hW, ← hB]; exact heap_alloc_new w3 _
              have hbW : Below w.heap.size w W := by rw [← hW]; exact b4.alloc b4.size _
              have HBE : Hid (w.heap.size ≤ B) := by rw [← hB]; exact b4.size
              rw [hB, hW]
              have HG0 := Lib.hid g0
              have HBW := Lib.hid hbW
              clear hB hW g0 hbW b4
              go_loopw [58] (fun i wr => ∃ k : Nat, k ≤ m ∧ i = .int .i64 k ∧ wr.heap[B]? = some (.cells (cur x y m k) 9 (0, 0)) ∧ Below w.heap.size w wr) (fun i _ => m - (intOf i).toNat)
              case atStart => exact ⟨0, Nat.zero_le _, rfl, HG0.out, HBW.out⟩
              case round =>
                obtain ⟨k, hk, rfl, hg, hb⟩ := hrel
                by_cases hlt : k < m
                · have c0 : wr.cell? ⟨B, k, none⟩ = some (.string ⟨#[]⟩) := (cell_of_row _ _ k _ _ _ hg).trans (cur_at _ _ _ _ hlt)
                  have z0 : wr.frozen? ⟨B, k, none⟩ = false := by simp [World.frozen?, hg]
                  have hz := heap_set_at hg k (.string (atkV x y k))
                  rw [cur_set _ _ _ _ hlt] at hz
                  have hy := hb.setCell (p := ⟨B, k, none⟩) HBE.out (.string (atkV x y k))
                  cases h1 : hasB x k
                  · cases h2 : hasB y k
                    · have hv : atkV x y k = ⟨#[]⟩ := by unfold atkV; rw [h1, h2]; rfl
                      rw [cur_none _ _ _ _ hv] at hg
                      have HG := Lib.hid hg
                      clear hz hy hv hg
                      go_wp2_with fail
                      go_roundw
                      case rel => exact ⟨k + 1, by omega, by go_num, HG.out, hb⟩
                      case measure => simp [intOf]; omega
                    · have hv : atkV x y k = ⟨#[121]⟩ := by unfold atkV; rw [h1, h2]; rfl
                      rw [hv] at hz hy
                      have HZ := Lib.hid hz
                      have HY := Lib.hid hy
                      clear hz hy hv hg
                      go_wp2_with fail
                      go_roundw
                      case rel => exact ⟨k + 1, by omega, by go_num, HZ.out, HY.out⟩
                      case measure => simp [intOf]; omega
                  · have hv : atkV x y k = ⟨#[120]⟩ := by unfold atkV; rw [h1]; rfl
                    rw [hv] at hz hy
                    have HZ := Lib.hid hz
                    have HY := Lib.hid hy
                    clear hz hy hv hg
                    go_wp2_with fail
                    go_roundw
                    case rel => exact ⟨k + 1, by omega, by go_num, HZ.out, HY.out⟩
                    case measure => simp [intOf]; omega
                · obtain rfl : k = m := by omega
                  have hrd : Rd wr (some ⟨B, 0, none⟩) k k ((atkL x y k).map Value.string) := by
                    refine ⟨by rw [List.length_map, atkL_len], Nat.le_refl _, by unfold maxLen; omega, fun h => (by cases h), fun _ => ⟨B, 0, rfl, fun i v hv => ?_⟩⟩
                    rw [← cur_all] at hv
                    rw [Nat.zero_add, cell_of_row _ _ i _ _ _ hg]
                    simpa using hv
                  have HRD := Lib.hid hrd
                  have HL := Lib.hid (atkL_len x y k)
                  clear hg hrd
                  go_wp2_with fail
                  exact bodyPost_ret (v := .tuple #[.slice (some ⟨B, 0, none⟩) k k, .int .u16 (U r), .int .i64 0]) (by simp [results, Tryz.results16, go_sem]) rfl ⟨_, _, by rw [hE.out]; simp only [HL.out]; rfl, by rw [hE.out]; simp only [HL.out]; exact HRD.out, hb⟩
            · have hE : Hid (fatS m read fast = (atkL y y m, r, 0)) := by
                show _ = _
                rw [hC2.out]
                show (if (0 : Int) ≠ 0 then (([] : List ByteArray), 0#16, (0 : Int)) else (atkL (if (y &&& r == 0#16) = true then y else x) y m, r, 0)) = _
                rw [if_neg (by decide), hyr]; rfl
              clear hC2 he
              have hmk := make_str m (by omega)
              go_enter Tryz.func16, Tryz.ntmps16
              go_wp2_with fail
              refine HB.out.mono ?_
              rintro e w1 ⟨rfl, b1⟩
              go_wp2_with fail
              refine (HS1.out w1 (HR.out.below b1)).mono ?_
              rintro e w2 ⟨rfl, rfl⟩
              go_wp2_with fail
              refine (HS2.out _ (HR2.out.below b1)).mono ?_
              rintro e w2 ⟨rfl, rfl⟩
              go_wp2_with fail
              refine (HCL.out _ (HR.out.below b1) (HR2.out.below b1)).mono ?_
              rintro e w3 ⟨rfl, b3⟩
              have b4 := Below.next b1 b3
              clear HB HS1 HS2 HCL b1 b3
              go_wp2_with fail
              rw [cur_zero y y]
              obtain ⟨B, hB⟩ : ∃ B, w3.heap.size = B := ⟨_, rfl⟩
              obtain ⟨W, hW⟩ : ∃ W, w3.alloc (.cells (cur y y m 0) 9) = W := ⟨_, rfl⟩
              have g0 : W.heap[B]? = some (.cells (cur y y m 0) 9 (0, 0)) := by rw [← hW, ← hB]; exact heap_alloc_new w3 _
              have hbW : Below w.heap.size w W := by rw [← hW]; exact b4.alloc b4.size _
              have HBE : Hid (w.heap.size ≤ B) := by rw [← hB]; exact b4.size
              rw [hB, hW]
              have HG0 := Lib.hid g0
              have HBW := Lib.hid hbW
              clear hB hW g0 hbW b4
              go_loopw [58] (fun i wr => ∃ k : Nat, k ≤ m ∧ i = .int .i64 k ∧ wr.heap[B]? = some (.cells (cur y y m k) 9 (0, 0)) ∧ Below w.heap.size w wr) (fun i _ => m - (intOf i).toNat)
              case atStart => exact ⟨0, Nat.zero_le _, rfl, HG0.out, HBW.out⟩
              case round =>
                obtain ⟨k, hk, rfl, hg, hb⟩ := hrel
                by_cases hlt : k < m
                · have c0 : wr.cell? ⟨B, k, none⟩ = some (.string ⟨#[]⟩) := (cell_of_row _ _ k _ _ _ hg).trans (cur_at _ _ _ _ hlt)
                  have z0 : wr.frozen? ⟨B, k, none⟩ = false := by simp [World.frozen?, hg]
                  have hz := heap_set_at hg k (.string (atkV y y k))
                  rw [cur_set _ _ _ _ hlt] at hz
                  have hy := hb.setCell (p := ⟨B, k, none⟩) HBE.out (.string (atkV y y k))
                  cases h1 : hasB y k
                  · have hv : atkV y y k = ⟨#[]⟩ := by unfold atkV; rw [h1]; rfl
                    rw [cur_none _ _ _ _ hv] at hg
                    have HG := Lib.hid hg
                    clear hz hy hv hg
                    go_wp2_with fail
                    go_roundw
                    case rel => exact ⟨k + 1, by omega, by go_num, HG.out, hb⟩
                    case measure => simp [intOf]; omega
                  · have hv : atkV y y k = ⟨#[120]⟩ := by unfold atkV; rw [h1]; rfl
                    rw [hv] at hz hy
                    have HZ := Lib.hid hz
                    have HY := Lib.hid hy
                    clear hz hy hv hg
                    go_wp2_with fail
                    go_roundw
                    case rel => exact ⟨k + 1, by omega, by go_num, HZ.out, HY.out⟩
                    case measure => simp [intOf]; omega
                · obtain rfl : k = m := by omega
                  have hrd : Rd wr (some ⟨B, 0, none⟩) k k ((atkL y y k).map Value.string) := by
                    refine ⟨by rw [List.length_map, atkL_len], Nat.le_refl _, by unfold maxLen; omega, fun h => (by cases h), fun _ => ⟨B, 0, rfl, fun i v hv => ?_⟩⟩
                    rw [← cur_all] at hv
                    rw [Nat.zero_add, cell_of_row _ _ i _ _ _ hg]
                    simpa using hv
                  have HRD := Lib.hid hrd
                  have HL := Lib.hid (atkL_len y y k)
                  clear hg hrd
                  go_wp2_with fail
                  exact bodyPost_ret (v := .tuple #[.slice (some ⟨B, 0, none⟩) k k, .int .u16 (U r), .int .i64 0]) (by simp [results, Tryz.results16, go_sem]) rfl ⟨_, _, by rw [hE.out]; simp only [HL.out]; rfl, by rw [hE.out]; simp only [HL.out]; exact HRD.out, hb⟩
          · have he' : e = 13 := he
            subst he'
            have hE : Hid (fatS m read fast = ([], 0#16, 13)) := by show _ = _; rw [hC2.out]; rfl
            clear hC2 he
            go_enter Tryz.func16, Tryz.ntmps16
            go_wp2_with fail
            refine HB.out.mono ?_
            rintro e w1 ⟨rfl, b1⟩
            go_wp2_with fail
            refine (HS1.out w1 (HR.out.below b1)).mono ?_
            rintro e w2 ⟨rfl, rfl⟩
            go_wp2_with fail
            refine (HS2.out _ (HR2.out.below b1)).mono ?_
            rintro e w2 ⟨rfl, rfl⟩
            go_wp2_with fail
            refine (HCL.out _ (HR.out.below b1) (HR2.out.below b1)).mono ?_
            rintro e w3 ⟨rfl, b3⟩
            go_wp2_with fail
            exact bodyPost_ret (v := .tuple #[.slice none 0 0, .int .u16 (U 0#16), .int .i64 13]) (by simp [results, Tryz.results16, go_sem]) rfl ⟨none, 0, by rw [hE.out]; rfl, by rw [hE.out]; exact Rd.none_ _, Below.next b1 b3⟩
        · rw [hfar] at hfb
          have hE : Hid (fatS m read fast = ([], 0#16, 7)) := by show _ = _; rw [hC.out, if_pos (.inr (.inr hfb))]
          clear hC hfb
          go_enter Tryz.func16, Tryz.ntmps16
          go_wp2_with fail
          refine HB.out.mono ?_
          rintro e w1 ⟨rfl, b1⟩
          go_wp2_with fail
          refine (HS1.out w1 (HR.out.below b1)).mono ?_
          rintro e w2 ⟨rfl, rfl⟩
          go_wp2_with fail
          refine (HS2.out _ (HR2.out.below b1)).mono ?_
          rintro e w2 ⟨rfl, rfl⟩
          go_wp2_with fail
          exact bodyPost_ret (v := .tuple #[.slice none 0 0, .int .u16 (U 0#16), .int .i64 7]) (by simp [results, Tryz.results16, go_sem]) rfl ⟨none, 0, by rw [hE.out]; rfl, by rw [hE.out]; exact Rd.none_ _, b1⟩
  · have hE : Hid (fatS nn read fast = ([], 0#16, botS read fast)) := by show _ = _; unfold fatS; rw [if_pos hbo]
    obtain ⟨v, hv⟩ : ∃ v, botS read fast = v := ⟨_, rfl⟩
    rw [hv] at HB hE hbo
    have hv1 : (v != 0) = true := by simpa using hbo
    clear hv hbo
    go_enter Tryz.func16, Tryz.ntmps16
    go_wp2_with fail
    refine HB.out.mono ?_
    rintro e w1 ⟨rfl, b1⟩
    go_wp2_with fail
    exact bodyPost_ret (v := .tuple #[.slice none 0 0, .int .u16 (U 0#16), .int .i64 v]) (by simp [results, Tryz.results16, go_sem]) rfl ⟨none, 0, by rw [hE.out]; rfl, by rw [hE.out]; exact Rd.none_ _, b1⟩

end Go.Proofs.YtmjgdnpfgkpaoaaGreatDoor
namespace Go.Proofs.YtmjgdnpfgkpaoaaGreatDoor
open Go.RowKit Go.Shelf

def sx : ByteArray := ⟨#[120]⟩
def sy : ByteArray := ⟨#[121]⟩
theorem atkV_x {a b : BitVec 16} {i : Nat} (h : hasB a i = true) : atkV a b i = sx := by unfold atkV; rw [if_pos h]; rfl
theorem atkV_y {a b : BitVec 16} {i : Nat} (h : hasB a i = false) (h2 : hasB b i = true) : atkV a b i = sy := by unfold atkV; rw [if_neg (by rw [h]; decide), if_pos h2]; rfl
theorem atkV_n {a b : BitVec 16} {i : Nat} (h : hasB a i = false) (h2 : hasB b i = false) : atkV a b i = ⟨#[]⟩ := by unfold atkV; rw [if_neg (by rw [h]; decide), if_neg (by rw [h2]; decide)]
theorem sx_l : sx.toList = [120] := by decide +kernel
theorem sy_l : sy.toList = [121] := by decide +kernel
theorem sxy : sx ≠ sy := fun h => by have := congrArg ByteArray.toList h; rw [sx_l, sy_l] at this; cases this
theorem em_l : (⟨#[]⟩ : ByteArray).toList = [] := by decide +kernel
theorem atkL_at (a b : BitVec 16) (m i : Nat) (h : i < m) : (atkL a b m).getD i ⟨#[]⟩ = atkV a b i := by
  unfold atkL; rw [List.getD, List.getElem?_map, List.getElem?_range h]; rfl
theorem valB_mem {V : List ByteArray} {h : BitVec 16} {x : ByteArray} : x ∈ vaB38 V h ↔ ∃ j, j < V.length ∧ V.getD j ⟨#[]⟩ = x ∧ (x.toList == []) = false ∧ hasB h j = true := by
  unfold vaB38
  rw [List.mem_map]
  constructor
  · rintro ⟨s, hs, rfl⟩
    obtain ⟨j, h1, h2, h3, h4⟩ := (valV_mem V h s).1 hs
    refine ⟨j, h1, ?_, ?_, h4⟩
    · exact bs_ext (h2.trans (bs_list s).symm)
    · rw [bs_list, ← h2]; exact h3
  · rintro ⟨j, h1, h2, h3, h4⟩
    refine ⟨x.toList, (valV_mem V h _).2 ⟨j, h1, by rw [h2], by rw [h2]; exact h3, h4⟩, bs_mk x⟩
theorem vot_has {V : List ByteArray} {x : ByteArray} {i : Nat} (hn : V.length ≤ 16) : hasB (votS V x) i = true ↔ i < V.length ∧ V.getD i ⟨#[]⟩ = x := by
  constructor
  · exact votTo_only V.length hn
  · rintro ⟨h1, h2⟩
    exact votTo_has (by omega) (by rw [h2]) V.length h1
theorem supS_has {l : List (BitVec 16)} {i : Nat} : hasB (supS l) i = true ↔ ∃ x ∈ l, hasB x i = true := by
  have : ∀ (l : List (BitVec 16)) (o : BitVec 16), hasB (l.foldl (· ||| ·) o) i = true ↔ hasB o i = true ∨ ∃ x ∈ l, hasB x i = true := by
    intro l
    induction l with
    | nil => intro o; simp
    | cons y l ih =>
      intro o
      rw [List.foldl_cons, ih, hasB_or, Bool.or_eq_true]
      constructor
      · rintro ((h | h) | ⟨x, hx, h⟩)
        · exact .inl h
        · exact .inr ⟨y, List.mem_cons_self .., h⟩
        · exact .inr ⟨x, List.mem_cons_of_mem _ hx, h⟩
      · rintro (h | ⟨x, hx, h⟩)
        · exact .inl (.inl h)
        · rcases List.mem_cons.1 hx with rfl | hx
          · exact .inl (.inr h)
          · exact .inr ⟨x, hx, h⟩
  unfold supS
  rw [this]
  simp [hasB]
theorem far_lt {nn : Int} {R Q : List (BitVec 16)} (h : farB nn R Q = false) {x : BitVec 16} (hx : x ∈ R ∨ x ∈ Q) {i : Nat} (hi : hasB x i = true) : i < nn.toNat := by
  apply Classical.byContradiction
  intro hc
  have hs : hasB (supS R ||| supS Q) i = true := by
    rw [hasB_or, Bool.or_eq_true]
    rcases hx with hx | hx
    · exact .inl (supS_has.2 ⟨x, hx, hi⟩)
    · exact .inr (supS_has.2 ⟨x, hx, hi⟩)
  have hz : shrS (supS R ||| supS Q) nn.toNat = 0#16 := by
    unfold farB at h
    simpa [bne] using h
  have : (shrS (supS R ||| supS Q) nn.toNat).getLsbD (i - nn.toNat) = true := by
    unfold shrS
    rw [BitVec.getLsbD_ushiftRight]
    have : nn.toNat + (i - nn.toNat) = i := by omega
    rw [this]; exact hs
  rw [hz] at this
  simp at this
theorem quo_ne {Q : List (BitVec 16)} (h : quoS Q = 0) {x : BitVec 16} (hx : x ∈ Q) : ∃ i, i < 16 ∧ hasB x i = true := by
  have hz : hasZ Q = false := by
    unfold quoS at h
    split at h
    · rename_i h1; exact absurd h h1
    · split at h
      · cases h
      · rename_i h2; simpa using h2
  refine ne_zero_has ?_
  cases he : (x == 0#16)
  · rfl
  · have := eq_of_beq he
    subst this
    have : hasZ Q = true := by unfold hasZ; exact List.any_eq_true.2 ⟨_, hx, by simp⟩
    rw [hz] at this; cases this
theorem claS_some {R Q : List (BitVec 16)} {a b r : BitVec 16} (h : claS R Q = some (a, b, r)) : a ∈ Q ∧ b ∈ Q ∧ r ∈ R ∧ tri a b r = true := by
  unfold claS at h
  obtain ⟨x, hx, h⟩ := List.exists_of_findSome?_eq_some h
  unfold claA at h
  obtain ⟨y, hy, h⟩ := List.exists_of_findSome?_eq_some h
  unfold claB at h
  rw [Option.map_eq_some_iff] at h
  obtain ⟨z, hz, h⟩ := h
  cases h
  exact ⟨hx, hy, List.mem_of_find?_eq_some hz, List.find?_some hz⟩
theorem head_x {l : List Str} (h : l.Pairwise (· < ·)) (hx : [120] ∈ l) (hm : ∀ s ∈ l, s = [120] ∨ s = [121]) : ∃ r, l = [120] :: r := by
  cases l with
  | nil => cases hx
  | cons y r =>
    rcases hm y (List.mem_cons_self ..) with rfl | rfl
    · exact ⟨r, rfl⟩
    · exfalso
      rw [List.pairwise_cons] at h
      rcases List.mem_cons.1 hx with hx | hx
      · cases hx
      · have := h.1 _ hx
        revert this
        decide
theorem attack_law {nn : Int} {R Q : List (BitVec 16)} {V : List ByteArray} {r : BitVec 16} (h : fatS nn R Q = (V, r, 0)) :
    V.length ≤ 12 ∧ choS Q V = (sx, 0) ∧ ((recS Q V r).2 ≠ 0 ∨ (recS Q V r).1 ≠ sx) ∧ (claT R Q).2.2.2 = 0 := by
  unfold fatS at h
  split at h
  · rename_i h1; injection h with _ h; injection h with _ h; exact absurd h h1
  · rename_i hbot
    split at h
    · cases h
    · rename_i hnn
      have hbot : botS R Q = 0 := by simpa using hbot
      have hfar : farB nn R Q = false := by
        cases hf : farB nn R Q
        · rfl
        · exact absurd (.inr (.inr hf)) hnn
      have hn1 : 1 ≤ nn := by omega
      have hn12 : nn ≤ 12 := by omega
      have hq : quoS Q = 0 := by
        unfold botS at hbot
        split at hbot
        · rename_i h1; exact absurd hbot h1
        · exact hbot
      cases hc : claS R Q with
      | none =>
        have : claT R Q = (0#16, 0#16, 0#16, 13) := by unfold claT; rw [hbot, if_neg (by decide), hc]; rfl
        rw [this] at h
        cases h
      | some p =>
        obtain ⟨a, b, r'⟩ := p
        obtain ⟨ha, hb, hr, ht⟩ := claS_some hc
        have hT : claT R Q = (a, b, r', 0) := by unfold claT; rw [hbot, if_neg (by decide), hc]; rfl
        rw [hT] at h ⊢
        have h' : (atkL (if (b &&& r' == 0#16) = true then b else a) b nn.toNat, r', (0 : Int)) = (V, r, 0) := h
        injection h' with hV h'
        injection h' with hr' _
        subst hr'
        obtain ⟨m, hm⟩ : ∃ m, nn.toNat = m := ⟨_, rfl⟩
        rw [hm] at hV
        have hm1 : 1 ≤ m := by omega
        have hm12 : m ≤ 12 := by omega
        obtain ⟨a', ha'⟩ : ∃ a', (if (b &&& r' == 0#16) = true then b else a) = a' := ⟨_, rfl⟩
        rw [ha'] at hV
        have haQ : a' ∈ Q := by rw [← ha']; split <;> assumption
        have hlen : V.length = m := by rw [← hV]; exact atkL_len _ _ _
        have hat : ∀ i, i < m → V.getD i ⟨#[]⟩ = atkV a' b i := fun i hi => by rw [← hV]; exact atkL_at _ _ _ _ hi
        have hltQ : ∀ x ∈ Q, ∀ i, hasB x i = true → i < m := fun x hx i hi => by rw [← hm]; exact far_lt hfar (.inr hx) hi
        have harg : argS Q V.length = 0 := by
          unfold argS
          rw [hq, if_neg (by decide), if_neg (by omega), if_neg (by omega)]
        have hxs : subB (votS V sx) a' = true := (subB_iff _ _).2 fun i hi => (vot_has (by omega)).2 ⟨by rw [hlen]; exact hltQ a' haQ i hi, by rw [hat i (hltQ a' haQ i hi)]; exact atkV_x hi⟩
        have hvals : ∀ (hh : BitVec 16) (s : Str), s ∈ valV V hh → s = [120] ∨ s = [121] := by
          intro hh s hs
          obtain ⟨j, hj, h1, h2, h3⟩ := (valV_mem V hh s).1 hs
          rw [hat j (by omega)] at h1 h2
          cases hA : hasB a' j
          · cases hB : hasB b j
            · rw [atkV_n hA hB, em_l] at h2; cases h2
            · rw [atkV_y hA hB, sy_l] at h1; exact .inr h1.symm
          · rw [atkV_x hA, sx_l] at h1; exact .inl h1.symm
        refine ⟨by omega, ?_, ?_, rfl⟩
        · obtain ⟨i, hi16, hi⟩ := quo_ne hq haQ
          have him := hltQ a' haQ i hi
          have hin : [120] ∈ valV V allS := (valV_mem V allS _).2 ⟨i, by omega, by rw [hat i him, atkV_x hi, sx_l], by rw [hat i him, atkV_x hi, sx_l]; rfl, by
            have : ∀ k : Fin 12, hasB allS k.val = true := by decide
            exact this ⟨i, by omega⟩⟩
          obtain ⟨t, ht'⟩ := head_x (valV_asc V allS) hin (hvals allS)
          unfold choS
          rw [harg]
          have : choF Q V = some sx := by
            unfold choF vaB38
            rw [ht', List.map_cons, List.findSome?_cons]
            have e : choP Q V ⟨[120].toArray⟩ = some sx := by
              unfold choP
              rw [if_pos]
              · rfl
              · unfold accS; exact List.any_eq_true.2 ⟨a', haQ, hxs⟩
            rw [e]
          rw [this]
          rfl
        · have hrec : recS Q V r' = recM V r' (posS Q V r') := by unfold recS; rw [harg]; rfl
          rw [hrec]
          cases hbr : (b &&& r' == 0#16)
          · have haa : a' = a := by rw [← ha', hbr]; rfl
            obtain ⟨j, hj16, hj⟩ := ne_zero_has hbr
            rw [hasB_and, Bool.and_eq_true] at hj
            have hna : ∀ i, hasB b i = true → hasB r' i = true → hasB a' i = false := by
              intro i h1 h2
              have := zero_has ht i
              rw [hasB_and, hasB_and, h1, h2] at this
              rw [haa]; simpa using this
            have hbm := hltQ b hb
            have hyp : sy ∈ posS Q V r' := by
              unfold posS
              refine List.mem_filter.2 ⟨valB_mem.2 ⟨j, by rw [hlen]; exact hbm j hj.1, by rw [hat j (hbm j hj.1)]; exact atkV_y (hna j hj.1 hj.2) hj.1, by rw [sy_l]; rfl, hj.2⟩, ?_⟩
              unfold posB
              refine List.any_eq_true.2 ⟨b, hb, ?_⟩
              unfold posP
              rw [Bool.and_eq_true]
              refine ⟨by simp [bne, hbr], has_sub fun i hi => ?_⟩
              rw [hasB_and, Bool.and_eq_true] at hi
              exact (vot_has (by omega)).2 ⟨by rw [hlen]; exact hbm i hi.1, by rw [hat i (hbm i hi.1)]; exact atkV_y (hna i hi.1 hi.2) hi.1⟩
            rcases pos_cases (posS Q V r') with ⟨x, hx⟩ | ⟨_, x, y, l, hx⟩ | hx
            · rw [hx] at hyp ⊢
              rw [List.mem_singleton] at hyp
              subst hyp
              exact .inr fun h => sxy h.symm
            · rw [hx]
              exact .inl (by show (12 : Int) ≠ 0; decide)
            · rw [hx] at hyp; cases hyp
          · have haa : a' = b := by rw [← ha', hbr]; rfl
            have hno : vaB38 V r' = [] := by
              apply List.eq_nil_iff_forall_not_mem.2
              intro x hx
              obtain ⟨j, hj, h1, h2, h3⟩ := valB_mem.1 hx
              rw [hat j (by omega)] at h1
              cases hA : hasB b j
              · rw [atkV_n (by rw [haa]; exact hA) hA] at h1
                rw [← h1, em_l] at h2; cases h2
              · have := zero_has hbr j
                rw [hasB_and, hA, h3] at this; cases this
            have hpo : posS Q V r' = [] := by unfold posS; rw [hno]; rfl
            rw [hpo]
            left
            have e : recN V r' = (⟨#[]⟩, 4) := by unfold recN; rw [hno]; rfl
            show (recN V r').2 ≠ 0
            rw [e]
            show (4 : Int) ≠ 0
            decide

theorem more_law {Q : List (BitVec 16)} {V : List ByteArray} {s t : BitVec 16} (hn : V.length ≤ 12) (hQ : ∀ f ∈ Q, (f &&& s == 0#16) = false) : ∀ x ∈ posS Q V (s ||| t), x ∈ posS Q V s := by
  intro x hx
  obtain ⟨F, hF, h1, h2⟩ := pos_fam hx
  have hx2 := (List.mem_filter.1 hx).1
  obtain ⟨_, _, _, hne, _⟩ := valB_mem.1 hx2
  obtain ⟨j, hj16, hj⟩ := ne_zero_has (hQ F hF)
  rw [hasB_and, Bool.and_eq_true] at hj
  have hsub : ∀ i, hasB F i = true → hasB s i = true → hasB (votS V x) i = true := fun i h3 h4 => h2 i h3 (by rw [hasB_or, h4]; rfl)
  obtain ⟨hjl, hjv⟩ := (vot_has (by omega)).1 (hsub j hj.1 hj.2)
  unfold posS
  refine List.mem_filter.2 ⟨valB_mem.2 ⟨j, hjl, hjv, hne, hj.2⟩, ?_⟩
  unfold posB
  refine List.any_eq_true.2 ⟨F, hF, ?_⟩
  unfold posP
  rw [Bool.and_eq_true]
  refine ⟨by simp [bne, hQ F hF], has_sub fun i hi => ?_⟩
  rw [hasB_and, Bool.and_eq_true] at hi
  exact hsub i hi.1 hi.2
end Go.Proofs.YtmjgdnpfgkpaoaaGreatDoor
namespace Go.Proofs.YtmjgdnpfgkpaoaaGreatDoor
open Go.RowKit Go.Shelf

set_option maxRecDepth 100000 in
set_option maxHeartbeats 1000000 in
theorem idxSetB_c (g : Nat) (lb : Array Value) (eg : ∀ args w, (callFunc g args).run Tryz.prog w = .ok (.enter g args) w) (p : BitVec 16 → Bool) (l : List (BitVec 16)) (a : Option Addr) (n c : Nat) (w : World)
    (h : Rd w a n c (l.map setV2)) (hp : PrL Tryz.prog g lb setV2 p l w) :
    Calls Tryz.prog 81 #[.slice a n c, .func (.func g) #[] lb] w fun e w' => e = .returned (.int .i64 (idxG p l)) ∧ Below w.heap.size w w' := by
  have hnl : l.length = n := by have := h.len; simp at this; omega
  have hm := h.max
  have hle := h.le
  unfold maxLen at hm
  have HP := Lib.hid hp
  have HR := Lib.hid h
  have HN := Lib.hid hnl
  clear hp h hnl
  go_enter Tryz.func81, Tryz.ntmps81
  go_wp2_with fail
  go_loopw [8] (fun i wr => ∃ k : Nat, k ≤ n ∧ i = .int .i64 k ∧ Hid (∀ (j : Nat) y, j < k → l[j]? = some y → p y = false) ∧ Below w.heap.size w wr) (fun i _ => n - (intOf i).toNat)
  case atStart => exact ⟨0, Nat.zero_le _, rfl, Lib.hid (fun j y hj => by omega), Below.refl _ _⟩
  case round =>
    obtain ⟨k, hk, rfl, hno, hb⟩ := hrel
    by_cases hlt : k < n
    · obtain ⟨b, o, ha, hcell⟩ := (HR.out.below hb).at' (by omega)
      obtain ⟨x, hx⟩ : ∃ x, l[k]? = some x := ⟨_, List.getElem?_eq_getElem (by have := HN.out; omega)⟩
      have hc0 : wr.cell? ⟨b, o + k, none⟩ = some (.int .u16 (U x)) := hcell k _ (by rw [List.getElem?_map, hx]; rfl)
      subst ha
      have HF : Hid (Calls Tryz.prog g (#[.int .u16 (U x)] ++ lb) wr fun e w' => e = .returned (.bool (p x)) ∧ Below wr.heap.size wr w') := HP.out wr x (List.mem_of_getElem? hx) hb
      have HX := Lib.hid hx
      clear hcell hx
      cases hq : p x
      · have hno' : Hid (∀ (j : Nat) y, j < k + 1 → l[j]? = some y → p y = false) := Lib.hid (fun j y hj hy => by
          by_cases h1 : j < k
          · exact hno.out j y h1 hy
          · obtain rfl : j = k := by omega
            rw [HX.out] at hy; cases hy; exact hq)
        rw [hq] at HF
        clear hq hno
        go_wp2_with (go_at_fn g; refine HF.out.mono ?_; rintro e w' ⟨rfl, hbw⟩)
        go_roundw
        case rel => exact ⟨k + 1, by omega, by go_num, hno', Below.next hb hbw⟩
        case measure => simp [intOf]; omega
      · have hI : Hid (idxG p l = k) := idxG_hit HX.out hno.out hq
        rw [hq] at HF
        clear hq hno
        go_wp2_with (go_at_fn g; refine HF.out.mono ?_; rintro e w' ⟨rfl, hbw⟩)
        go_ret
        exact ⟨ret_int hI.out.symm, Below.next hb hbw⟩
    · have hI : Hid (idxG p l = -1) := idxG_none (fun j y hy => hno.out j y (by have := (List.getElem?_eq_some_iff.1 hy).1; have := HN.out; omega) hy)
      clear hno
      go_wp2_with fail
      go_ret
      exact ⟨ret_int hI.out.symm, hb⟩

set_option maxRecDepth 100000 in
set_option maxHeartbeats 1000000 in
theorem conSetB_c (g : Nat) (lb : Array Value) (eg : ∀ args w, (callFunc g args).run Tryz.prog w = .ok (.enter g args) w) (p : BitVec 16 → Bool) (l : List (BitVec 16)) (a : Option Addr) (n c : Nat) (w : World)
    (h : Rd w a n c (l.map setV2)) (hp : PrL Tryz.prog g lb setV2 p l w) :
    Calls Tryz.prog 46 #[.slice a n c, .func (.func g) #[] lb] w fun e w' => e = .returned (.bool (l.any p)) ∧ Below w.heap.size w w' := by
  have HC := Lib.hid (idxSetB_c g lb eg p l a n c w h hp)
  have hi := idxG_ge p l
  clear h hp eg
  obtain ⟨i, hi2⟩ : ∃ i, idxG p l = i := ⟨_, rfl⟩
  rw [hi2] at HC hi
  have HI := Lib.hid hi
  clear hi hi2
  go_enter Tryz.func46, Tryz.ntmps46
  go_wp2_with fail
  refine HC.out.mono ?_
  rintro e w1 ⟨rfl, hb⟩
  go_wp2_with fail
  go_ret
  exact ⟨ret_bool HI.out, hb⟩

/-- each set of a list meets each set of another one -/
def crossU (f g : List (BitVec 16)) : Bool := !f.any fun x => !hitU g x
set_option maxRecDepth 100000 in
set_option maxHeartbeats 1000000 in
theorem cross1_at (g l : List (BitVec 16)) (a : Option Addr) (n c : Nat) (X : Nat) (w : World) (hX : w.cell? ⟨X, 0, none⟩ = some (.slice a n c)) (h : Rd w a n c (g.map setV2)) :
    PrL Tryz.prog 47 #[.pointer (some ⟨X, 0, none⟩)] setV2 (fun x => !hitU g x) l w := fun W x hx hb => by
  have hX1 : W.cell? ⟨X, 0, none⟩ = some (.slice a n c) := (hb.cell (p := ⟨X, 0, none⟩) (cell_lt hX)).trans hX
  have HH := Lib.hid (hits_c g x a n c W (h.below hb))
  unfold setV2
  clear hb hX h hx
  go_enter Tryz.func47, Tryz.ntmps47
  go_wp2_with fail
  refine HH.out.mono ?_
  rintro e w1 ⟨rfl, hb1⟩
  go_wp2_with fail
  go_ret
  exact ⟨rfl, hb1⟩
set_option maxRecDepth 100000 in
set_option maxHeartbeats 1000000 in
theorem cross_c (f g : List (BitVec 16)) (a : Option Addr) (n c : Nat) (a2 : Option Addr) (n2 c2 : Nat) (w : World) (h : Rd w a n c (f.map setV2)) (h2 : Rd w a2 n2 c2 (g.map setV2)) :
    Calls Tryz.prog 15 #[.slice a n c, .slice a2 n2 c2] w fun e w' => e = .returned (.bool (crossU f g)) ∧ Below w.heap.size w w' := by
  have hb0 : Below w.heap.size w (w.alloc (.cells #[.slice a2 n2 c2] 25)) := (Below.refl _ w).alloc (Nat.le_refl _) _
  have HC := Lib.hid (conSetB_c 47 #[.pointer (some ⟨w.heap.size, 0, none⟩)] (enters_of Tryz.func47 (by kernel_rfl) rfl) (fun x => !hitU g x) f a n c _ (h.below hb0) (cross1_at g f a2 n2 c2 w.heap.size _ (cell_new w _ _ 0 _ rfl) (h2.below hb0)))
  have HB := Lib.hid hb0
  clear h h2 hb0
  go_enter Tryz.func15, Tryz.ntmps15
  go_wp2_with fail
  refine HC.out.mono ?_
  rintro e w1 ⟨rfl, hb⟩
  go_wp2_with fail
  go_ret
  exact ⟨rfl, Below.next HB.out hb⟩
end Go.Proofs.YtmjgdnpfgkpaoaaGreatDoor

namespace Go.Proofs.YtmjgdnpfgkpaoaaGreatDoor
open Go.RowKit Go.Shelf

/-- the common parts of two sets of a list -/
def partsS : List (BitVec 16) → List (BitVec 16)
  | [] => []
  | a :: l => ((a :: l).map fun b => a &&& b) ++ partsS l
theorem parts_of {l : List (BitVec 16)} : ∀ y ∈ partsS l, ∃ a ∈ l, ∃ b ∈ l, y = a &&& b := by
  induction l with
  | nil => intro y hy; cases hy
  | cons a l ih =>
    intro y hy
    rcases List.mem_append.1 hy with hy | hy
    · obtain ⟨b, hb, rfl⟩ := List.mem_map.1 hy
      exact ⟨a, List.mem_cons_self, b, hb, rfl⟩
    · obtain ⟨a', h1, b', h2, h3⟩ := ih y hy
      exact ⟨a', List.mem_cons_of_mem _ h1, b', List.mem_cons_of_mem _ h2, h3⟩
theorem parts_in {l : List (BitVec 16)} : ∀ a ∈ l, ∀ b ∈ l, a &&& b ∈ partsS l := by
  induction l with
  | nil => intro a ha; cases ha
  | cons c l ih =>
    intro a ha b hb
    rcases List.mem_cons.1 ha with rfl | ha2
    · exact List.mem_append_left _ (List.mem_map.2 ⟨b, hb, rfl⟩)
    · rcases List.mem_cons.1 hb with rfl | hb2
      · rw [BitVec.and_comm]
        exact List.mem_append_left _ (List.mem_map.2 ⟨a, List.mem_cons_of_mem _ ha2, rfl⟩)
      · exact List.mem_append_right _ (ih a ha2 b hb2)
theorem cla_cross {R Q : List (BitVec 16)} (h : botS R Q = 0) : ((claT R Q).2.2.2 == 13) = crossU R (partsS Q) := by
  rw [Bool.eq_iff_iff, beq_iff_eq]
  constructor
  · intro h13
    unfold crossU
    rw [Bool.not_eq_true', List.any_eq_false]
    intro r hr hh
    unfold hitU at hh
    simp only [Bool.not_not, List.any_eq_true] at hh
    obtain ⟨y, hy, hz⟩ := hh
    obtain ⟨a, ha, b, hb, rfl⟩ := parts_of y hy
    have := safe_tri h13 ha hb hr
    unfold tri at this
    rw [this] at hz
    cases hz
  · intro hc
    unfold claT
    rw [if_neg (by rw [h]; decide)]
    cases hcl : claS R Q with
    | none => rfl
    | some s =>
      exfalso
      unfold claS at hcl
      obtain ⟨a, ha, hcl⟩ := List.exists_of_findSome?_eq_some hcl
      unfold claA at hcl
      obtain ⟨b, hb, hcl⟩ := List.exists_of_findSome?_eq_some hcl
      unfold claB at hcl
      rw [Option.map_eq_some_iff] at hcl
      obtain ⟨r, hr, _⟩ := hcl
      have h1 := List.mem_of_find?_eq_some hr
      have h2 := List.find?_some hr
      unfold crossU at hc
      rw [Bool.not_eq_true', List.any_eq_false] at hc
      have h3 := hc r h1
      unfold hitU at h3
      simp only [Bool.not_not, List.any_eq_true, not_exists, not_and] at h3
      exact h3 _ (parts_in a ha b hb) h2
end Go.Proofs.YtmjgdnpfgkpaoaaGreatDoor
namespace Go.Proofs.YtmjgdnpfgkpaoaaGreatDoor
open Go.RowKit Go.Shelf

theorem subB_self (x : BitVec 16) : subB x x = true := (subB_iff x x).2 fun _ h => h
theorem subB_trans {a b c : BitVec 16} (h1 : subB a b = true) (h2 : subB b c = true) : subB a c = true := (subB_iff a c).2 fun i h => (subB_iff a b).1 h1 i ((subB_iff b c).1 h2 i h)
def Rk (a b : BitVec 16) : Prop := keyS a < keyS b
def Rs (a b : BitVec 16) : Prop := keyS a < keyS b ∧ subB b a = false
theorem pick_mem {s : BitVec 16} {k : Int} {N : Nat} {x : BitVec 16} (h : x ∈ pickTo s k N) : subB s x = true ∧ (cnt x : Int) = k ∧ ∃ n, n < N ∧ x = BitVec.ofNat 16 n := by
  unfold pickTo at h
  obtain ⟨n, hn, rfl⟩ := List.mem_map.1 h
  obtain ⟨h1, h2⟩ := List.mem_filter.1 hn
  unfold pickB at h2
  rw [Bool.and_eq_true] at h2
  exact ⟨h2.1, eq_of_beq h2.2, n, List.mem_range.1 h1, rfl⟩
theorem pick_asc (s : BitVec 16) (k : Int) : ∀ N, N ≤ 65536 → (pickTo s k N).Pairwise Rk := by
  intro N
  induction N with
  | zero => intro _; unfold pickTo; simp
  | succ N ih =>
    intro hN
    rw [pickTo_succ]
    split
    · rename_i hp
      rw [List.pairwise_append]
      refine ⟨ih (by omega), List.pairwise_singleton _ _, fun a ha b hb => ?_⟩
      rw [List.mem_singleton] at hb
      subst hb
      obtain ⟨_, h2, n, hn, rfl⟩ := pick_mem ha
      unfold pickB at hp
      rw [Bool.and_eq_true] at hp
      have h3 := eq_of_beq hp.2
      unfold Rk keyS
      have e1 : (BitVec.ofNat 16 n).toNat = n := by simp; omega
      have e2 : (BitVec.ofNat 16 N).toNat = N := by simp; omega
      rw [e1, e2]
      omega
    · exact ih (by omega)
theorem subsTo_asc (s : BitVec 16) : ∀ K, (subsT9 s K).Pairwise Rk ∧ ∀ x ∈ subsT9 s K, subB s x = true ∧ cnt x < K := by
  intro K
  induction K with
  | zero => exact ⟨by simp [subsT9], fun x hx => by simp [subsT9] at hx⟩
  | succ K ih =>
    rw [subsT9_succ]
    refine ⟨?_, fun x hx => ?_⟩
    · rw [List.pairwise_append]
      refine ⟨ih.1, pick_asc s K _ (by have := s.isLt; omega), fun a ha b hb => ?_⟩
      have h1 := (ih.2 a ha).2
      have h2 := (pick_mem hb).2.1
      unfold Rk keyS
      have := a.isLt
      have := b.isLt
      omega
    · rcases List.mem_append.1 hx with h | h
      · exact ⟨(ih.2 x h).1, by have := (ih.2 x h).2; omega⟩
      · exact ⟨(pick_mem h).1, by have := (pick_mem h).2.1; omega⟩
theorem fold_good (f : List (BitVec 16)) : ∀ (l o : List (BitVec 16)), l.Pairwise Rk → o.Pairwise Rs → (∀ a ∈ o, ∀ b ∈ l, keyS a < keyS b) → (l.foldl (minSt f) o).Pairwise Rs ∧ ∀ x ∈ l.foldl (minSt f) o, x ∈ o ∨ (x ∈ l ∧ x ∈ f) := by
  intro l
  induction l with
  | nil => intro o _ h2 _; exact ⟨h2, fun x hx => .inl hx⟩
  | cons y l ih =>
    intro o h1 h2 h3
    rw [List.pairwise_cons] at h1
    rw [List.foldl_cons]
    by_cases hc : ((f.any fun z => z == y) && !accS o y) = true
    · have e : minSt f o y = o ++ [y] := by unfold minSt; rw [if_pos hc]
      rw [e]
      rw [Bool.and_eq_true, Bool.not_eq_true'] at hc
      have hyf : y ∈ f := by
        obtain ⟨z, hz, hzy⟩ := List.any_eq_true.1 hc.1
        rw [eq_of_beq hzy] at hz; exact hz
      obtain ⟨g1, g2⟩ := ih (o ++ [y]) h1.2 (by
        rw [List.pairwise_append]
        refine ⟨h2, List.pairwise_singleton _ _, fun a ha b hb => ?_⟩
        rw [List.mem_singleton] at hb; subst hb
        refine ⟨h3 a ha b (List.mem_cons_self ..), ?_⟩
        cases hs : subB b a
        · rfl
        · have : accS o b = true := by unfold accS; exact List.any_eq_true.2 ⟨a, ha, hs⟩
          rw [hc.2] at this; cases this) (by
        intro a ha b hb
        rcases List.mem_append.1 ha with ha | ha
        · exact h3 a ha b (List.mem_cons_of_mem _ hb)
        · rw [List.mem_singleton] at ha; subst ha; exact h1.1 b hb)
      refine ⟨g1, fun x hx => ?_⟩
      rcases g2 x hx with h | ⟨h, h'⟩
      · rcases List.mem_append.1 h with h | h
        · exact .inl h
        · rw [List.mem_singleton] at h; subst h; exact .inr ⟨List.mem_cons_self .., hyf⟩
      · exact .inr ⟨List.mem_cons_of_mem _ h, h'⟩
    · have e : minSt f o y = o := by unfold minSt; rw [if_neg hc]
      rw [e]
      obtain ⟨g1, g2⟩ := ih o h1.2 h2 fun a ha b hb => h3 a ha b (List.mem_cons_of_mem _ hb)
      refine ⟨g1, fun x hx => ?_⟩
      rcases g2 x hx with h | ⟨h, h'⟩
      · exact .inl h
      · exact .inr ⟨List.mem_cons_of_mem _ h, h'⟩
theorem minS_good (f : List (BitVec 16)) : (minS f).Pairwise Rs ∧ ∀ x ∈ minS f, x ∈ f := by
  obtain ⟨h1, h2⟩ := fold_good f (subsS9 (supS f)) [] (subsTo_asc (supS f) _).1 List.Pairwise.nil (fun a ha => by cases ha)
  exact ⟨h1, fun x hx => by
    rcases h2 x hx with h | h
    · cases h
    · exact h.2⟩
theorem nodup_len {α : Type} [DecidableEq α] : ∀ (l m : List α), l.Nodup → (∀ x ∈ l, x ∈ m) → l.length ≤ m.length := by
  intro l
  induction l with
  | nil => intro m _ _; simp
  | cons a l ih =>
    intro m h1 h2
    rw [List.nodup_cons] at h1
    have ha := h2 a (List.mem_cons_self ..)
    have := ih (m.erase a) h1.2 (fun x hx => (List.mem_erase_of_ne (by rintro rfl; exact h1.1 hx)).2 (h2 x (List.mem_cons_of_mem _ hx)))
    rw [List.length_erase_of_mem ha] at this
    have := List.length_pos_of_mem ha
    rw [List.length_cons]
    omega
theorem good_nodup {l : List (BitVec 16)} (h : l.Pairwise Rs) : l.Nodup := h.imp fun {a b} hab he => by
  have := hab.1; rw [he] at this; omega
theorem minS_len (f : List (BitVec 16)) : (minS f).length ≤ f.length := nodup_len _ _ (good_nodup (minS_good f).1) (minS_good f).2
theorem good_valid {l : List (BitVec 16)} (h : l.Pairwise Rs) (hb : ∀ x ∈ l, x.toNat < 4096) (hn : l.length ≤ 400) : valS l = 0 := by
  have h0 : ∀ j, j < l.length → e1 l j = 0 := by
    intro j hj
    unfold e1
    have hx := hb l[j] (List.getElem_mem hj)
    rw [if_neg (by rw [getD_at hj]; unfold U; omega), if_neg]
    rintro ⟨h1, h2⟩
    rw [getD_at hj, getD_at (show j - 1 < l.length by omega)] at h2
    have h3 := (List.pairwise_iff_getElem.1 h (j - 1) j (by omega) hj (by omega)).1
    have := (cmpS_key l[j - 1] l[j]).1.1 h2
    omega
  unfold valS
  rw [if_neg (by omega), firstE_none _ _ h0, if_neg (by decide), if_neg]
  intro ho
  obtain ⟨i, k, hi, hk, hs⟩ := (overB_iff l).1 ho
  rw [getD_at hi, getD_at (show k < l.length by omega)] at hs
  have := (List.pairwise_iff_getElem.1 h k i (by omega) hi hk).2
  rw [hs] at this; cases this
theorem mad_lt (z : Int) : (mad z).toNat < 64 := by
  unfold mad
  rw [BitVec.toNat_ofInt]
  omega
theorem madS_lt (l : List Int) : ∀ x ∈ madS l, x.toNat < 64 := fun x hx => by
  have := (minS_good _).2 x hx
  unfold madL at this
  obtain ⟨z, _, rfl⟩ := List.mem_map.1 this
  exact mad_lt z
theorem madS_le (l : List Int) : (madS l).length ≤ 20 := by
  have := minS_len (madL l (min 20 l.length))
  rw [madL_len (by omega)] at this
  unfold madS
  omega
theorem madS_good (l : List Int) : (madS l).Pairwise Rs := (minS_good _).1
theorem made_valid (l : List Int) : valS (madS l) = 0 := good_valid (madS_good l) (fun x hx => by have := madS_lt l x hx; omega) (by have := madS_le l; omega)
theorem mm_lt (l : List Int) : ∀ x ∈ minS (madS l), x.toNat < 64 := fun x hx => madS_lt l x ((minS_good _).2 x hx)
theorem mm_valid (l : List Int) : valS (minS (madS l)) = 0 := good_valid (minS_good _).1 (fun x hx => by have := mm_lt l x hx; omega) (by have := minS_len (madS l); have := madS_le l; omega)
theorem good_head {l : List (BitVec 16)} (h : l.Pairwise Rs) (h0 : l.length = 0 ∨ (l.getD 0 0#16 == 0#16) = false) : hasZ l = false := by
  cases l with
  | nil => rfl
  | cons y l =>
    have hy : (y == 0#16) = false := by
      rcases h0 with h0 | h0
      · simp at h0
      · exact h0
    rw [List.pairwise_cons] at h
    cases hz : hasZ (y :: l)
    · rfl
    · exfalso
      unfold hasZ at hz
      obtain ⟨x, hx, hx0⟩ := List.any_eq_true.1 hz
      have hx0' := eq_of_beq hx0
      subst hx0'
      rcases List.mem_cons.1 hx with hx | hx
      · rw [← hx] at hy; simp at hy
      · have := (h.1 _ hx).1
        have h0 : keyS 0#16 = 0 := by decide
        omega
theorem mm_quo (l : List Int) (h0 : (minS (madS l)).length = 0 ∨ ((minS (madS l)).getD 0 0#16 == 0#16) = false) : quoS (minS (madS l)) = 0 := by
  unfold quoS
  rw [mm_valid, if_neg (by decide), good_head (minS_good _).1 h0]
  rfl
end Go.Proofs.YtmjgdnpfgkpaoaaGreatDoor
namespace Go.Proofs.YtmjgdnpfgkpaoaaGreatDoor
open Go.RowKit Go.Shelf

theorem ok_quo {l : List Int} (h : okR (madS l) = true) : quoS (madS l) = 0 := by
  unfold quoS
  rw [made_valid, if_neg (by decide), good_head (madS_good l) (.inr ?_)]
  · rfl
  · unfold okR at h
    cases hm : madS l with
    | nil => rw [hm] at h; cases h
    | cons x L => rw [hm] at h; simpa using h
theorem ok_bot {l m : List Int} (h : okR (madS l) = true) (h2 : okR (madS m) = true) : botS (madS l) (madS m) = 0 := by
  unfold botS
  rw [ok_quo h, if_neg (by decide), ok_quo h2]
theorem madS_len (l : List Int) : (madS l).length ≤ l.length := by
  have := minS_len (madL l (min 20 l.length))
  rw [madL_len (by omega)] at this
  unfold madS; omega
theorem parts_len : ∀ l : List (BitVec 16), (partsS l).length ≤ l.length * l.length
  | [] => Nat.le_refl _
  | a :: l => by
    have h := parts_len l
    unfold partsS
    rw [List.length_append, List.length_map, List.length_cons, Nat.add_mul, Nat.mul_add]
    omega
theorem lt_has {x : BitVec 16} (h : x.toNat < 64) {i : Nat} (hi : hasB x i = true) : i < 6 := by
  apply Classical.byContradiction
  intro hc
  unfold hasB at hi
  rw [BitVec.getLsbD, Nat.testBit_lt_two_pow (Nat.lt_of_lt_of_le h (Nat.pow_le_pow_right (n := 2) (by decide) (by omega : 6 ≤ i)))] at hi
  cases hi
theorem far_six {R Q : List (BitVec 16)} (hR : ∀ x ∈ R, x.toNat < 64) (hQ : ∀ x ∈ Q, x.toNat < 64) : farB 6 R Q = false := by
  unfold farB
  have : shrS (supS R ||| supS Q) (6 : Int).toNat = 0#16 := by
    unfold shrS
    apply BitVec.eq_of_getLsbD_eq
    intro i hi
    rw [BitVec.getLsbD_ushiftRight]
    cases hx : (supS R ||| supS Q).getLsbD ((6 : Int).toNat + i)
    · simp
    · exfalso
      have h1 : hasB (supS R ||| supS Q) (6 + i) = true := hx
      rw [hasB_or, Bool.or_eq_true, supS_has, supS_has] at h1
      rcases h1 with ⟨x, hx, h⟩ | ⟨x, hx, h⟩
      · have := lt_has (hR x hx) h; omega
      · have := lt_has (hQ x hx) h; omega
  rw [this]; rfl
/-- where the condition fails, the attack stands -/
theorem fat_ok {l m : List Int} (h : okR (madS l) = true) (h2 : okR (madS m) = true) (hc : ((claT (madS l) (madS m)).2.2.2 == 13) = false) : ∃ V s, fatS 6 (madS l) (madS m) = (V, s, 0) := by
  have hb := ok_bot h h2
  unfold fatS
  rw [if_neg (by rw [hb]; decide), if_neg (by rw [far_six (madS_lt l) (madS_lt m)]; decide)]
  rcases claT_e (madS l) (madS m) hb with h0 | h0
  · obtain ⟨⟨a, b, r, e⟩, hp⟩ : ∃ p, claT (madS l) (madS m) = p := ⟨_, rfl⟩
    rw [hp] at h0 ⊢
    have h0' : e = 0 := h0
    subst h0'
    exact ⟨_, _, rfl⟩
  · rw [h0] at hc; cases hc
/-- a list of codes as votes -/
def vot3 : List ByteArray := [⟨#[]⟩, ⟨#[120]⟩, ⟨#[121]⟩]
def codV (z : Int) : ByteArray := vot3.getD (z % 3).toNat ⟨#[]⟩
def codL (l : List Int) (k : Nat) : List ByteArray := (l.take k).map codV
theorem codL_succ {l : List Int} {k : Nat} {z : Int} (h : l[k]? = some z) : codL l (k + 1) = codL l k ++ [codV z] := by
  unfold codL; rw [List.take_add_one, h, List.map_append]; rfl
theorem codL_len {l : List Int} {k : Nat} (h : k ≤ l.length) : (codL l k).length = k := by unfold codL; rw [List.length_map, List.length_take]; omega
/-- the common parts, in rounds: what is done and what is to be done -/
theorem parts_round {Q : List (BitVec 16)} {k : Nat} (h : k < Q.length) {D : List (BitVec 16)} (hD : D ++ partsS (Q.drop k) = partsS Q) : (D ++ (Q.drop k).map fun b => Q.getD k 0#16 &&& b) ++ partsS (Q.drop (k + 1)) = partsS Q := by
  rw [← hD, List.append_assoc]
  congr 1
  have e : Q.drop k = Q.getD k 0#16 :: Q.drop (k + 1) := by rw [getD_at h, List.drop_eq_getElem_cons h]
  generalize Q.getD k 0#16 = a at e
  rw [e]
  rfl
end Go.Proofs.YtmjgdnpfgkpaoaaGreatDoor
namespace Go.Proofs.YtmjgdnpfgkpaoaaGreatDoor
open Go.RowKit Go.Shelf

theorem str_one (l : List ByteArray) : ∀ u ∈ l.map Value.string, u.oneCell' = true := by
  intro u hu
  obtain ⟨p, _, rfl⟩ := List.mem_map.1 hu
  rfl
theorem rdK_of_rd {w : World} {a : Option Addr} {n c : Nat} {l : List Value} (h : Rd w a n c l) : RdK 1 w a n c l := ⟨by rw [Nat.mul_one]; exact h.len, h.le, h.max, h.nil, h.at'⟩
set_option maxRecDepth 100000 in
set_option maxHeartbeats 1000000 in
theorem cloneStr_c (l : List ByteArray) (a : Option Addr) (n c : Nat) (w : World) (h : Rd w a n c (l.map Value.string)) (hb : n ≤ 1000000) :
    Calls Tryz.prog 18 #[.slice a n c] w fun e w' => ∃ a' c', e = .returned (.slice a' n c') ∧ Rd w' a' n c' (l.map Value.string) ∧ Below w.heap.size w w' := by
  cases a with
  | none =>
    have hc := h.nil rfl
    have hn : n = 0 := by have := h.le; omega
    subst hc hn
    have hl : l.map Value.string = [] := List.eq_nil_of_length_eq_zero (by rw [← h.len])
    rw [hl]
    clear h hb hl
    have q : ∀ (w : World) (a : Option Addr) (n c n' c' : Nat), (binOp .eql 41 (.slice a n c) (.slice none n' c')).run Tryz.prog w = .ok (.bool a.isNone) w := fun w a n c n' c' => Lib.run_eql_slice_nil w _ _ a n c n' c' Tryz.underlying41
    go_enter Tryz.func18, Tryz.ntmps18
    go_wp2
    go_ret
    exact ⟨none, 0, rfl, Rd.none_ _, Below.refl _ _⟩
  | some ad =>
    have hh := Lib.hid (rdK_of_rd h)
    clear h
    have q : ∀ (w : World) (a : Option Addr) (n c n' c' : Nat), (binOp .eql 41 (.slice a n c) (.slice none n' c')).run Tryz.prog w = .ok (.bool a.isNone) w := fun w a n c n' c' => Lib.run_eql_slice_nil w _ _ a n c n' c' Tryz.underlying41
    go_enter Tryz.func18, Tryz.ntmps18
    go_wp2_with (at_builtin; go_must (refine wpList_appsK 1 _ _ 41 16 (.string ⟨#[]⟩) _ _ _ (l.map Value.string) Tryz.underlying41 Tryz.infoStrQ rfl (by decide) (World.ownsRow_made w #[] 0 (Nat.le_refl _) (Nat.zero_le _) rfl) ((Below.refl _ w).alloc (Nat.le_refl _) _) (Nat.le_refl _) (hh.out.below ((Below.refl _ w).alloc (Nat.le_refl _) _)) (str_one l) rfl rfl rfl rfl (by unfold maxLen; simp; omega) (by simp; omega) ?_))
    intro v' w1 hown1 hb1 _
    have hown2 : w1.ownsRow w.heap.size 9 1 v' n (l.map Value.string) := by simpa using hown1
    obtain ⟨a', c', rfl, hr⟩ := rd_of_row hown2
    have HR := Lib.hid hr
    clear hb hown1 hown2 hr
    go_wp2
    go_ret
    exact ⟨a', c', rfl, HR.out, hb1⟩
end Go.Proofs.YtmjgdnpfgkpaoaaGreatDoor
namespace Go.Proofs.YtmjgdnpfgkpaoaaGreatDoor
open Go.RowKit Go.Shelf

/-- a family of at most six sets, or none -/
def rdS (l : List Int) : List (BitVec 16) := if 6 < l.length then [] else madS l
theorem rd_ok {l : List Int} (h : okR (rdS l) = true) : l.length ≤ 6 ∧ rdS l = madS l := by
  unfold rdS at h ⊢
  split at h
  · cases h
  · rename_i h6
    exact ⟨by omega, by rw [if_neg h6]⟩
theorem u8_bdT {W : World} {a : Option Addr} {n c : Nat} {l : List Int} (h : IsInts .u8 W a n c l) : ∀ z ∈ l, 0 ≤ z ∧ z < 256 := fun z hz => by
  have := h.wf z hz
  simp [Lit.wf, IntKind.min, IntKind.max, IntKind.bits, IntKind.signed] at this
  omega
set_option maxRecDepth 100000 in
set_option maxHeartbeats 2000000 in
theorem readable_a (l : List Int) (hw : ∀ z ∈ l, 0 ≤ z ∧ z < 256) (a : Option Addr) (n c : Nat) (w : World) (h : Rd w a n c (l.map (Value.int .u8))) :
    Calls Tryz.prog 13 #[.slice a n c] w fun e w' => ∃ a' n' c', e = .returned (.tuple #[.slice a' n' c', .bool (okR (rdS l))]) ∧ Rd w' a' n' c' ((rdS l).map setV2) ∧ Below w.heap.size w w' := by
  have hnl : l.length = n := by have := h.len; simp at this; omega
  by_cases h6 : 6 < n
  · have e : rdS l = [] := by unfold rdS; rw [if_pos (by omega)]
    rw [e]
    have hn : (6 : Int) < n := by omega
    clear h hw hnl e
    go_enter Tryz.func13, Tryz.ntmps13
    go_wp2_with fail
    go_ret2
    exact ⟨none, 0, 0, rfl, Rd.none_ _, Below.refl _ _⟩
  · have e : rdS l = madS l := by unfold rdS; rw [if_neg (by omega)]
    rw [e]
    exact readable_c l hw (by omega) a n c w h

set_option maxRecDepth 100000 in
set_option maxHeartbeats 4000000 in
theorem topFast_w (a : Option Addr) (len cap : Nat) (z : List Int) (a2 : Option Addr) (len2 cap2 : Nat) (z2 : List Int) (a3 : Option Addr) (len3 cap3 : Nat) (z3 : List Int) (w : World) (ht : HasTab w) (w0 : IsInts .u8 w a len cap z) (w2 : IsInts .u8 w a2 len2 cap2 z2) (w3 : IsInts .u8 w a3 len3 cap3 z3) :
    Calls Tryz.prog 4 #[.slice a len cap, .slice a2 len2 cap2, .slice a3 len3 cap3] w fun e w' => e = .returned (.bool true) ∧ Below w.heap.size w w' := by
  have HT := Lib.hid ht
  have HL2 := Lib.hid w2.rd
  have HL3 := Lib.hid w3.rd
  have hle3 := w3.rd.le
  have hmx3 := w3.rd.max
  unfold maxLen at hmx3
  have HZ3 := Lib.hid w3.len
  have HW3 := Lib.hid (u8_bdT w3)
  have HM1 := Lib.hid (readable_a z (u8_bdT w0) a len cap w w0.rd)
  have HM2 := Lib.hid (fun w h => readable_a z2 (u8_bdT w2) a2 len2 cap2 w h)
  have HA := Lib.hid (fun w h => awake39_c w h)
  clear w0 w2 w3 ht
  obtain ⟨R, hR⟩ : ∃ R, rdS z = R := ⟨_, rfl⟩
  obtain ⟨Q, hQ⟩ : ∃ R, rdS z2 = R := ⟨_, rfl⟩
  rw [hR] at HM1
  rw [hQ] at HM2
  obtain ⟨o1, ho1⟩ : ∃ o, okR R = o := ⟨_, rfl⟩
  obtain ⟨o2, ho2⟩ : ∃ o, okR Q = o := ⟨_, rfl⟩
  rw [ho1] at HM1
  rw [ho2] at HM2
  have HR0 := Lib.hid hR
  have HQ0 := Lib.hid hQ
  have HO1 := Lib.hid ho1
  have HO2 := Lib.hid ho2
  clear hR hQ ho1 ho2
  go_enter Tryz.func4, Tryz.ntmps4
  go_wp2_with fail
  refine HM1.out.mono ?_
  rintro e w1 ⟨b1, n1, d1, rfl, r1, c1⟩
  have R1 := Lib.hid r1
  clear r1 HM1
  go_wp2_with fail
  refine (HM2.out _ (HL2.out.below c1)).mono ?_
  rintro e w2 ⟨b2, n2, d2, rfl, r2, c2⟩
  have c3 := Below.next c1 c2
  have R1b := Lib.hid (R1.out.below c2)
  have R2 := Lib.hid r2
  clear r2 HM2 R1 c1 c2
  go_wp2_with fail
  refine (HA.out _ (HT.out.below c3)).mono ?_
  rintro e w4 ⟨rfl, c4⟩
  have c5 := Below.next c3 c4
  have R1c := Lib.hid (R1b.out.below c4)
  have R2b := Lib.hid (R2.out.below c4)
  clear R1b R2 c3 c4
  by_cases hall : o1 = true ∧ o2 = true ∧ len3 = 6
  · obtain ⟨h1, h2, h3⟩ := hall
    subst h1 h2 h3
    have hR1 := rd_ok (l := z) (by rw [HR0.out]; exact HO1.out)
    have hQ1 := rd_ok (l := z2) (by rw [HQ0.out]; exact HO2.out)
    have hRm : R = madS z := by rw [← HR0.out]; exact hR1.2
    have hQm : Q = madS z2 := by rw [← HQ0.out]; exact hQ1.2
    have hRl : R.length ≤ 6 := by rw [hRm]; exact Nat.le_trans (madS_len z) hR1.1
    have hQl : Q.length ≤ 6 := by rw [hQm]; exact Nat.le_trans (madS_len z2) hQ1.1
    have HBOT := Lib.hid (show botS R Q = 0 by rw [hRm, hQm]; exact ok_bot (by rw [← hRm]; exact HO1.out) (by rw [← hQm]; exact HO2.out))
    have HFAT := Lib.hid (show ((claT R Q).2.2.2 == 13) = false → ∃ V s, fatS 6 R Q = (V, s, 0) by rw [hRm, hQm]; exact fat_ok (by rw [← hRm]; exact HO1.out) (by rw [← hQm]; exact HO2.out))
    have hn1 : R.length = n1 := by have := R1c.out.len; simp at this; omega
    have hn2 : Q.length = n2 := by have := R2b.out.len; simp at this; omega
    have hn1b : n1 ≤ 6 := by omega
    have hn2b : n2 ≤ 6 := by omega
    have hle1 := R1c.out.le
    have hmx1 := R1c.out.max
    have hle2 := R2b.out.le
    have hmx2 := R2b.out.max
    unfold maxLen at hmx1 hmx2
    have HN1 := Lib.hid hn1
    have HN2 := Lib.hid hn2
    have HSF := Lib.hid (fun a n c a2 n2 c2 w h h2 => safe_c R Q a n c a2 n2 c2 w h h2)
    have HCR := Lib.hid (fun a n c a2 n2 c2 w h h2 => cross_c R (partsS Q) a n c a2 n2 c2 w h h2)
    rw [← cla_cross HBOT.out] at HCR
    have HCS := Lib.hid (fun l a n c w h hb => clones_c l a n c w h hb)
    have C5 := Lib.hid c5
    clear hR1 hQ1 hRm hQm hRl hQl hn1 hn2 c5 HR0 HQ0 HO1 HO2 HL2
    go_wp2_with fail
    go_loopw [11, 61] (fun v i wr => ∃ k : Nat, k ≤ n2 ∧ i = .int .i64 k ∧ ∃ D : List (BitVec 16), Hid (D ++ partsS (Q.drop k) = partsS Q) ∧ wr.ownsRow w4.heap.size 27 1 v D.length (D.map setV2) ∧ Below w4.heap.size w4 wr) (fun _ i _ => n2 - (intOf i).toNat)
    case atStart => exact ⟨0, Nat.zero_le _, rfl, [], Lib.hid (by simp), World.ownsRow_nil _ _ _ _, Below.refl _ _⟩
    case round =>
      obtain ⟨k, hk, rfl, D, HD, hown, hb⟩ := hrel
      by_cases hlt : k < n2
      · have hkl : k < Q.length := by have := HN2.out; omega
        obtain ⟨bq, oq, ha, hcell⟩ := (R2b.out.below hb).at' (by omega)
        have hc := hcell k _ (at_cell hkl)
        obtain ⟨x, hx⟩ : ∃ x, Q.getD k 0#16 = x := ⟨_, rfl⟩
        rw [hx] at hc
        have HD2 := Lib.hid (parts_round hkl HD.out)
        rw [hx] at HD2
        have hDl : D.length ≤ 36 := by
          have h1 := congrArg List.length HD.out
          rw [List.length_append] at h1
          have h2 := parts_len Q
          have h3 : Q.length * Q.length ≤ 6 * 6 := Nat.mul_le_mul (by have := HN2.out; omega) (by have := HN2.out; omega)
          omega
        have HO := Lib.hid hown
        have HB := Lib.hid hb
        subst ha
        clear hcell hkl hx hown hb HD
        go_wp2_with fail
        go_loopw [11, 70] (fun v i wq => ∃ j : Nat, k + j ≤ n2 ∧ i = .int .i64 j ∧ wq.ownsRow w4.heap.size 27 1 v (D.length + j) ((D ++ ((Q.drop k).take j).map fun b => x &&& b).map setV2) ∧ Below w4.heap.size w4 wq) (fun _ i _ => n2 - (intOf i).toNat)
        case atStart => exact ⟨0, by omega, rfl, by simpa using HO.out, HB.out⟩
        case round =>
          obtain ⟨j, hj, rfl, hown, hb⟩ := hrel
          by_cases hlt2 : k + j < n2
          · have hjl : k + j < Q.length := by have := HN2.out; omega
            obtain ⟨b', o', ha', hcell⟩ := (R2b.out.below hb).at' (by omega)
            have hc2 := hcell (k + j) _ (at_cell hjl)
            rw [← Nat.add_assoc] at hc2
            cases ha'
            obtain ⟨y, hy⟩ : ∃ y, Q.getD (k + j) 0#16 = y := ⟨_, rfl⟩
            rw [hy] at hc2
            have htk : (Q.drop k).take (j + 1) = (Q.drop k).take j ++ [y] := by
              rw [List.take_add_one, List.getElem?_drop, at_some hjl, hy]; rfl
            obtain ⟨E, hE⟩ : ∃ E, D ++ ((Q.drop k).take j).map (fun b => x &&& b) = E := ⟨_, rfl⟩
            have hE2 : D ++ ((Q.drop k).take (j + 1)).map (fun b => x &&& b) = E ++ [x &&& y] := by rw [htk, List.map_append, ← List.append_assoc, hE]; rfl
            have HS : Hid ((D ++ ((Q.drop k).take (j + 1)).map (fun b => x &&& b)).map setV2 = E.map setV2 ++ [.int .u16 (U (x &&& y))]) := Lib.hid (by rw [hE2, List.map_append]; rfl)
            rw [hE] at hown
            have hand := bv16_and x y
            have hjj : j < n2 - k := by omega
            obtain ⟨N, hN⟩ : ∃ N, D.length + j = N := ⟨_, rfl⟩
            rw [hN] at hown
            have hN100 : N ≤ 100 := by omega
            have HNN : Hid (D.length + (j + 1) = N + 1) := Lib.hid (by omega)
            clear hcell hy htk hE hE2 hN hjl hc
            go_wp2_with (at_builtin; go_must (refine wpList_app _ _ 25 2 (.int .u16 0) (.int .u16 (U (x &&& y))) _ Tryz.underlying25 Tryz.infoSet rfl hown hb (Nat.le_refl _) rfl rfl rfl rfl rfl (by unfold maxLen; omega) (by omega) ?_))
            intro v' w9 hown9 hb9 _ _
            clear hown hb hc2
            go_wp2_with fail
            go_roundw
            case rel => exact ⟨j + 1, by omega, by go_num, by rw [HS.out, HNN.out]; exact hown9, hb9⟩
            case measure => simp [intOf]; omega
          · have hjj : ¬ j < n2 - k := by omega
            have hfin : D ++ ((Q.drop k).take j).map (fun b => x &&& b) = D ++ (Q.drop k).map (fun b => x &&& b) := by
              rw [List.take_of_length_le (by rw [List.length_drop]; have := HN2.out; omega)]
            have hfl : D.length + j = (D ++ (Q.drop k).map (fun b => x &&& b)).length := by
              rw [List.length_append, List.length_map, List.length_drop, HN2.out]; omega
            rw [hfin, hfl] at hown
            have HOW := Lib.hid hown
            clear hfin hfl hown hc
            go_wp2_with fail
            go_roundw
            case rel => exact ⟨k + 1, by omega, by go_num, _, HD2, HOW.out, hb⟩
            case measure => simp [intOf]; omega
      · obtain rfl : k = n2 := by omega
        have hDP : D = partsS Q := by
          have := HD.out
          rw [List.drop_eq_nil_of_le (by have := HN2.out; omega)] at this
          simpa [partsS] using this
        subst hDP
        obtain ⟨ap, cp, rfl, hrp⟩ := rd_of_row hown
        have RP := Lib.hid hrp
        have hb6 := Below.next C5.out hb
        have R1d := Lib.hid (R1c.out.below hb)
        have R2c := Lib.hid (R2b.out.below hb)
        obtain ⟨np, hnp⟩ : ∃ np, (partsS Q).length = np := ⟨_, rfl⟩
        rw [hnp] at RP ⊢
        clear hown hrp hb HD hnp
        cases hs : ((claT R Q).2.2.2 == 13)
        · obtain ⟨V, s, hfa⟩ := HFAT.out hs
          obtain ⟨hl12, hch, hre, _⟩ := attack_law hfa
          rw [hs] at HSF HCR
          have HFA := Lib.hid (fun a n c a2 n2 c2 w h h2 => attack_f 6 R Q a n c a2 n2 c2 w h h2)
          rw [hfa] at HFA
          have HCH := Lib.hid (fun a n c a2 n2 c2 w h h2 hn => chosen_c Q V a n c a2 n2 c2 w h h2 hn)
          rw [hch] at HCH
          have HRE := Lib.hid (fun a n c a2 n2 c2 w h h2 hn => recover_c Q V s a n c a2 n2 c2 w h h2 hn)
          have HSC := Lib.hid (fun a n c w h hb => cloneStr_c V a n c w h hb)
          obtain ⟨⟨y, g⟩, hrec⟩ : ∃ p, recS Q V s = p := ⟨_, rfl⟩
          rw [hrec] at HRE hre
          unfold V2 at HRE HCH
          unfold sx at HCH hre
          obtain ⟨nV, hnV⟩ : ∃ nV, V.length = nV := ⟨_, rfl⟩
          simp only [hnV] at HFA hl12
          clear hch hrec hnV hfa hs
          have hgy : (g == 0) = false ∨ ((g == 0) = true ∧ ([120] == y.toList) = false) := by
            by_cases hg : g = 0
            · subst hg
              refine .inr ⟨rfl, ?_⟩
              rcases hre with h | h
              · exact absurd rfl h
              · cases hq : ([120] == y.toList)
                · rfl
                · exact absurd (bs_ext ((eq_of_beq hq).symm.trans sx_l.symm)) h
            · exact .inl (by simpa using hg)
          clear hre
          rcases hgy with hg | ⟨hg, hy⟩
          · have hg2 : (g != 0) = true := by unfold bne; rw [hg]; rfl
            go_wp2_with fail
            refine (HCS.out R b1 n1 d1 wr R1d.out (by omega)).mono ?_
            rintro e wva1 ⟨a5, e5, rfl, rR5, ha1⟩
            have bva1 := Below.next hb6 ha1
            have R1d_a1 := Lib.hid (R1d.out.below ha1)
            have R2c_a1 := Lib.hid (R2c.out.below ha1)
            have RP_a1 := Lib.hid (RP.out.below ha1)
            have R5 := Lib.hid rR5
            clear rR5 ha1
            go_wp2_with fail
            refine (HCS.out Q b2 k d2 wva1 R2c_a1.out (by omega)).mono ?_
            rintro e wva2 ⟨a6, e6, rfl, rR6, ha2⟩
            have bva2 := Below.next bva1 ha2
            have R1d_a2 := Lib.hid (R1d_a1.out.below ha2)
            have R2c_a2 := Lib.hid (R2c_a1.out.below ha2)
            have RP_a2 := Lib.hid (RP_a1.out.below ha2)
            have R5_a2 := Lib.hid (R5.out.below ha2)
            have R6 := Lib.hid rR6
            clear rR6 ha2
            go_wp2_with fail
            refine (HSF.out a5 n1 e5 a6 k e6 wva2 R5_a2.out R6.out).mono ?_
            rintro e wva3 ⟨rfl, ha3⟩
            have bva3 := Below.next bva2 ha3
            have R1d_a3 := Lib.hid (R1d_a2.out.below ha3)
            have R2c_a3 := Lib.hid (R2c_a2.out.below ha3)
            have RP_a3 := Lib.hid (RP_a2.out.below ha3)
            clear ha3
            go_wp2_with fail
            refine (HCS.out R b1 n1 d1 wva3 R1d_a3.out (by omega)).mono ?_
            rintro e wva4 ⟨a7, e7, rfl, rR7, ha4⟩
            have bva4 := Below.next bva3 ha4
            have R1d_a4 := Lib.hid (R1d_a3.out.below ha4)
            have R2c_a4 := Lib.hid (R2c_a3.out.below ha4)
            have RP_a4 := Lib.hid (RP_a3.out.below ha4)
            have R7 := Lib.hid rR7
            clear rR7 ha4
            go_wp2_with fail
            refine (HCR.out a7 n1 e7 ap np cp wva4 R7.out RP_a4.out).mono ?_
            rintro e wva5 ⟨rfl, ha5⟩
            have bva5 := Below.next bva4 ha5
            have R1d_a5 := Lib.hid (R1d_a4.out.below ha5)
            have R2c_a5 := Lib.hid (R2c_a4.out.below ha5)
            clear ha5
            go_wp2_with fail
            refine (HCS.out R b1 n1 d1 wva5 R1d_a5.out (by omega)).mono ?_
            rintro e wva6 ⟨a8, e8, rfl, rR8, ha6⟩
            have bva6 := Below.next bva5 ha6
            have R2c_a6 := Lib.hid (R2c_a5.out.below ha6)
            have R8 := Lib.hid rR8
            clear rR8 ha6
            go_wp2_with fail
            refine (HCS.out Q b2 k d2 wva6 R2c_a6.out (by omega)).mono ?_
            rintro e wva7 ⟨a9, e9, rfl, rR9, ha7⟩
            have bva7 := Below.next bva6 ha7
            have R2c_a7 := Lib.hid (R2c_a6.out.below ha7)
            have R8_a7 := Lib.hid (R8.out.below ha7)
            have R9 := Lib.hid rR9
            clear rR9 ha7
            go_wp2_with fail
            refine (HFA.out a8 n1 e8 a9 k e9 wva7 R8_a7.out R9.out).mono ?_
            rintro e wva8 ⟨a10, e10, rfl, rRV, ha8⟩
            have bva8 := Below.next bva7 ha8
            have R2c_a8 := Lib.hid (R2c_a7.out.below ha8)
            have RV := Lib.hid rRV
            clear rRV ha8
            go_wp2_with fail
            refine (HCS.out Q b2 k d2 wva8 R2c_a8.out (by omega)).mono ?_
            rintro e wva9 ⟨a11, e11, rfl, rR11, ha9⟩
            have bva9 := Below.next bva8 ha9
            have R2c_a9 := Lib.hid (R2c_a8.out.below ha9)
            have RV_a9 := Lib.hid (RV.out.below ha9)
            have R11 := Lib.hid rR11
            clear rR11 ha9
            go_wp2_with fail
            refine (HSC.out a10 nV e10 wva9 RV_a9.out (by omega)).mono ?_
            rintro e wva10 ⟨a12, e12, rfl, rR12, ha10⟩
            have bva10 := Below.next bva9 ha10
            have R2c_a10 := Lib.hid (R2c_a9.out.below ha10)
            have RV_a10 := Lib.hid (RV_a9.out.below ha10)
            have R11_a10 := Lib.hid (R11.out.below ha10)
            have R12 := Lib.hid rR12
            clear rR12 ha10
            go_wp2_with fail
            refine (HCH.out a11 k e11 a12 nV e12 wva10 R11_a10.out R12.out (by omega)).mono ?_
            rintro e wva11 ⟨rfl, ha11⟩
            have bva11 := Below.next bva10 ha11
            have R2c_a11 := Lib.hid (R2c_a10.out.below ha11)
            have RV_a11 := Lib.hid (RV_a10.out.below ha11)
            clear ha11
            go_wp2_with fail
            refine (HCS.out Q b2 k d2 wva11 R2c_a11.out (by omega)).mono ?_
            rintro e wva12 ⟨a13, e13, rfl, rR13, ha12⟩
            have bva12 := Below.next bva11 ha12
            have RV_a12 := Lib.hid (RV_a11.out.below ha12)
            have R13 := Lib.hid rR13
            clear rR13 ha12
            go_wp2_with fail
            refine (HSC.out a10 nV e10 wva12 RV_a12.out (by omega)).mono ?_
            rintro e wva13 ⟨a14, e14, rfl, rR14, ha13⟩
            have bva13 := Below.next bva12 ha13
            have R13_a13 := Lib.hid (R13.out.below ha13)
            have R14 := Lib.hid rR14
            clear rR14 ha13
            go_wp2_with fail
            refine (HRE.out a13 k e13 a14 nV e14 wva13 R13_a13.out R14.out (by omega)).mono ?_
            rintro e wva14 ⟨rfl, ha14⟩
            have bva14 := Below.next bva13 ha14
            clear ha14
            go_wp2_with fail
            go_ret
            exact ⟨rfl, bva14⟩
          · have hg0 : g = 0 := eq_of_beq hg
            subst hg0
            clear hg
            go_wp2_with fail
            refine (HCS.out R b1 n1 d1 wr R1d.out (by omega)).mono ?_
            rintro e wva1 ⟨a5, e5, rfl, rR5, ha1⟩
            have bva1 := Below.next hb6 ha1
            have R1d_a1 := Lib.hid (R1d.out.below ha1)
            have R2c_a1 := Lib.hid (R2c.out.below ha1)
            have RP_a1 := Lib.hid (RP.out.below ha1)
            have R5 := Lib.hid rR5
            clear rR5 ha1
            go_wp2_with fail
            refine (HCS.out Q b2 k d2 wva1 R2c_a1.out (by omega)).mono ?_
            rintro e wva2 ⟨a6, e6, rfl, rR6, ha2⟩
            have bva2 := Below.next bva1 ha2
            have R1d_a2 := Lib.hid (R1d_a1.out.below ha2)
            have R2c_a2 := Lib.hid (R2c_a1.out.below ha2)
            have RP_a2 := Lib.hid (RP_a1.out.below ha2)
            have R5_a2 := Lib.hid (R5.out.below ha2)
            have R6 := Lib.hid rR6
            clear rR6 ha2
            go_wp2_with fail
            refine (HSF.out a5 n1 e5 a6 k e6 wva2 R5_a2.out R6.out).mono ?_
            rintro e wva3 ⟨rfl, ha3⟩
            have bva3 := Below.next bva2 ha3
            have R1d_a3 := Lib.hid (R1d_a2.out.below ha3)
            have R2c_a3 := Lib.hid (R2c_a2.out.below ha3)
            have RP_a3 := Lib.hid (RP_a2.out.below ha3)
            clear ha3
            go_wp2_with fail
            refine (HCS.out R b1 n1 d1 wva3 R1d_a3.out (by omega)).mono ?_
            rintro e wva4 ⟨a7, e7, rfl, rR7, ha4⟩
            have bva4 := Below.next bva3 ha4
            have R1d_a4 := Lib.hid (R1d_a3.out.below ha4)
            have R2c_a4 := Lib.hid (R2c_a3.out.below ha4)
            have RP_a4 := Lib.hid (RP_a3.out.below ha4)
            have R7 := Lib.hid rR7
            clear rR7 ha4
            go_wp2_with fail
            refine (HCR.out a7 n1 e7 ap np cp wva4 R7.out RP_a4.out).mono ?_
            rintro e wva5 ⟨rfl, ha5⟩
            have bva5 := Below.next bva4 ha5
            have R1d_a5 := Lib.hid (R1d_a4.out.below ha5)
            have R2c_a5 := Lib.hid (R2c_a4.out.below ha5)
            clear ha5
            go_wp2_with fail
            refine (HCS.out R b1 n1 d1 wva5 R1d_a5.out (by omega)).mono ?_
            rintro e wva6 ⟨a8, e8, rfl, rR8, ha6⟩
            have bva6 := Below.next bva5 ha6
            have R2c_a6 := Lib.hid (R2c_a5.out.below ha6)
            have R8 := Lib.hid rR8
            clear rR8 ha6
            go_wp2_with fail
            refine (HCS.out Q b2 k d2 wva6 R2c_a6.out (by omega)).mono ?_
            rintro e wva7 ⟨a9, e9, rfl, rR9, ha7⟩
            have bva7 := Below.next bva6 ha7
            have R2c_a7 := Lib.hid (R2c_a6.out.below ha7)
            have R8_a7 := Lib.hid (R8.out.below ha7)
            have R9 := Lib.hid rR9
            clear rR9 ha7
            go_wp2_with fail
            refine (HFA.out a8 n1 e8 a9 k e9 wva7 R8_a7.out R9.out).mono ?_
            rintro e wva8 ⟨a10, e10, rfl, rRV, ha8⟩
            have bva8 := Below.next bva7 ha8
            have R2c_a8 := Lib.hid (R2c_a7.out.below ha8)
            have RV := Lib.hid rRV
            clear rRV ha8
            go_wp2_with fail
            refine (HCS.out Q b2 k d2 wva8 R2c_a8.out (by omega)).mono ?_
            rintro e wva9 ⟨a11, e11, rfl, rR11, ha9⟩
            have bva9 := Below.next bva8 ha9
            have R2c_a9 := Lib.hid (R2c_a8.out.below ha9)
            have RV_a9 := Lib.hid (RV.out.below ha9)
            have R11 := Lib.hid rR11
            clear rR11 ha9
            go_wp2_with fail
            refine (HSC.out a10 nV e10 wva9 RV_a9.out (by omega)).mono ?_
            rintro e wva10 ⟨a12, e12, rfl, rR12, ha10⟩
            have bva10 := Below.next bva9 ha10
            have R2c_a10 := Lib.hid (R2c_a9.out.below ha10)
            have RV_a10 := Lib.hid (RV_a9.out.below ha10)
            have R11_a10 := Lib.hid (R11.out.below ha10)
            have R12 := Lib.hid rR12
            clear rR12 ha10
            go_wp2_with fail
            refine (HCH.out a11 k e11 a12 nV e12 wva10 R11_a10.out R12.out (by omega)).mono ?_
            rintro e wva11 ⟨rfl, ha11⟩
            have bva11 := Below.next bva10 ha11
            have R2c_a11 := Lib.hid (R2c_a10.out.below ha11)
            have RV_a11 := Lib.hid (RV_a10.out.below ha11)
            clear ha11
            go_wp2_with fail
            refine (HCS.out Q b2 k d2 wva11 R2c_a11.out (by omega)).mono ?_
            rintro e wva12 ⟨a13, e13, rfl, rR13, ha12⟩
            have bva12 := Below.next bva11 ha12
            have RV_a12 := Lib.hid (RV_a11.out.below ha12)
            have R13 := Lib.hid rR13
            clear rR13 ha12
            go_wp2_with fail
            refine (HSC.out a10 nV e10 wva12 RV_a12.out (by omega)).mono ?_
            rintro e wva13 ⟨a14, e14, rfl, rR14, ha13⟩
            have bva13 := Below.next bva12 ha13
            have R13_a13 := Lib.hid (R13.out.below ha13)
            have R14 := Lib.hid rR14
            clear rR14 ha13
            go_wp2_with fail
            refine (HRE.out a13 k e13 a14 nV e14 wva13 R13_a13.out R14.out (by omega)).mono ?_
            rintro e wva14 ⟨rfl, ha14⟩
            have bva14 := Below.next bva13 ha14
            clear ha14
            go_wp2_with fail
            go_ret
            exact ⟨rfl, bva14⟩
        · rw [hs] at HSF HCR
          have HSAFE := Lib.hid (eq_of_beq hs)
          clear hs HFAT
          go_wp2_with fail
          refine (HCS.out R b1 n1 d1 wr R1d.out (by omega)).mono ?_
          rintro e wva1 ⟨a5, e5, rfl, rR5, ha1⟩
          have bva1 := Below.next hb6 ha1
          have R1d_a1 := Lib.hid (R1d.out.below ha1)
          have R2c_a1 := Lib.hid (R2c.out.below ha1)
          have RP_a1 := Lib.hid (RP.out.below ha1)
          have R5 := Lib.hid rR5
          clear rR5 ha1
          go_wp2_with fail
          refine (HCS.out Q b2 k d2 wva1 R2c_a1.out (by omega)).mono ?_
          rintro e wva2 ⟨a6, e6, rfl, rR6, ha2⟩
          have bva2 := Below.next bva1 ha2
          have R1d_a2 := Lib.hid (R1d_a1.out.below ha2)
          have R2c_a2 := Lib.hid (R2c_a1.out.below ha2)
          have RP_a2 := Lib.hid (RP_a1.out.below ha2)
          have R5_a2 := Lib.hid (R5.out.below ha2)
          have R6 := Lib.hid rR6
          clear rR6 ha2
          go_wp2_with fail
          refine (HSF.out a5 n1 e5 a6 k e6 wva2 R5_a2.out R6.out).mono ?_
          rintro e wva3 ⟨rfl, ha3⟩
          have bva3 := Below.next bva2 ha3
          have R1d_a3 := Lib.hid (R1d_a2.out.below ha3)
          have R2c_a3 := Lib.hid (R2c_a2.out.below ha3)
          have RP_a3 := Lib.hid (RP_a2.out.below ha3)
          clear ha3
          go_wp2_with fail
          refine (HCS.out R b1 n1 d1 wva3 R1d_a3.out (by omega)).mono ?_
          rintro e wva4 ⟨a7, e7, rfl, rR7, ha4⟩
          have bva4 := Below.next bva3 ha4
          have R1d_a4 := Lib.hid (R1d_a3.out.below ha4)
          have R2c_a4 := Lib.hid (R2c_a3.out.below ha4)
          have RP_a4 := Lib.hid (RP_a3.out.below ha4)
          have R7 := Lib.hid rR7
          clear rR7 ha4
          go_wp2_with fail
          refine (HCR.out a7 n1 e7 ap np cp wva4 R7.out RP_a4.out).mono ?_
          rintro e wva5 ⟨rfl, ha5⟩
          have bva5 := Below.next bva4 ha5
          have R1d_a5 := Lib.hid (R1d_a4.out.below ha5)
          have R2c_a5 := Lib.hid (R2c_a4.out.below ha5)
          clear ha5
          obtain ⟨wS, hwS⟩ : ∃ wS, wva5 = wS := ⟨_, rfl⟩
          have RS1 := Lib.hid (R1d_a5.out)
          have RS2 := Lib.hid (R2c_a5.out)
          have BS := Lib.hid (bva5)
          rw [hwS] at RS1 RS2 BS ⊢
          clear hwS
          have HZ := Lib.hid HZ3.out
          go_wp2_with fail
          go_loopw [24, 136] (fun v i wq => ∃ j : Nat, j ≤ 6 ∧ i = .int .i64 j ∧ wq.ownsRow wS.heap.size 9 1 v j ((codL z3 j).map Value.string) ∧ Below wS.heap.size wS wq) (fun _ i _ => 6 - (intOf i).toNat)
          case atStart => exact ⟨0, Nat.zero_le _, rfl, World.ownsRow_nil _ _ _ _, Below.refl _ _⟩
          case round =>
            obtain ⟨j, hj, rfl, hown, hb⟩ := hrel
            by_cases hlt : j < 6
            · obtain ⟨t, hz⟩ : ∃ t, z3[j]? = some t := ⟨_, List.getElem?_eq_getElem (by have := HZ3.out; omega)⟩
              obtain ⟨hz0, hz1⟩ := HW3.out t (List.mem_of_getElem? hz)
              obtain ⟨bb, o, ha, hcell⟩ := (HL3.out.below (Below.next BS.out hb)).at' (by omega)
              have hc := hcell j (.int .u8 t) (by rw [List.getElem?_map, hz]; rfl)
              have hsu := codL_succ hz
              obtain ⟨r, hr⟩ : ∃ r : Nat, t % 3 = r := ⟨(t % 3).toNat, by omega⟩
              have hr3 : r < 3 := by omega
              have hv : codV t = vot3.getD r ⟨#[]⟩ := by unfold codV; rw [hr]; rfl
              have htm : t.tmod 3 = r := by rw [Int.tmod_eq_emod_of_nonneg hz0]; exact hr
              have hbA : Below wS.heap.size wS (wr.alloc (.cells #[.string ⟨#[]⟩, .string ⟨#[120]⟩, .string ⟨#[121]⟩] 9)) := hb.alloc hb.size _
              have hownA := hown.alloc (.cells #[.string ⟨#[]⟩, .string ⟨#[120]⟩, .string ⟨#[121]⟩] 9)
              have e0 : (wr.alloc (.cells #[.string ⟨#[]⟩, .string ⟨#[120]⟩, .string ⟨#[121]⟩] 9)).cell? ⟨wr.heap.size, r, none⟩ = some (.string (codV t)) := by
                rw [hv]
                refine cell_new _ _ _ r _ ?_
                match r, hr3 with
                | 0, _ => rfl
                | 1, _ => rfl
                | 2, _ => rfl
              obtain ⟨y, hy⟩ : ∃ y, codV t = y := ⟨_, rfl⟩
              rw [hy] at e0 hsu
              have HS : Hid ((codL z3 (j + 1)).map Value.string = (codL z3 j).map Value.string ++ [.string y]) := Lib.hid (by rw [hsu, List.map_append]; rfl)
              subst ha
              clear hcell hz hsu hy hv hr
              go_wp2_with (at_builtin; go_must (refine wpList_app _ _ 41 16 (.string ⟨#[]⟩) (.string y) _ Tryz.underlying41 Tryz.infoStr rfl hownA hbA (Nat.le_refl _) rfl rfl rfl (by rw [World.size_alloc]; rfl) rfl (by unfold maxLen; omega) (by omega) ?_))
              intro v' w9 hown9 hb9 _ _
              clear hown hb hc hownA hbA e0
              go_wp2_with fail
              go_roundw
              case rel => exact ⟨j + 1, by omega, by go_num, by rw [HS.out]; exact hown9, hb9⟩
              case measure => simp [intOf]; omega
            · obtain rfl : j = 6 := by omega
              obtain ⟨V, hV⟩ : ∃ V, codL z3 6 = V := ⟨_, rfl⟩
              have hVl : V.length = 6 := by rw [← hV]; exact codL_len (by have := HZ3.out; omega)
              rw [hV] at hown
              obtain ⟨av, cv, rfl, hrv⟩ := rd_of_row hown
              have RV := Lib.hid hrv
              have hb8 := Below.next BS.out hb
              have RT1 := Lib.hid (RS1.out.below hb)
              have RT2 := Lib.hid (RS2.out.below hb)
              have HVL := Lib.hid hVl
              have hck := cho_kinds (Q := Q) (V := V) (args_ok HSAFE.out (by omega) (by omega))
              have HCH := Lib.hid (fun a n c a2 n2 c2 w h h2 hn => chosen_c Q V a n c a2 n2 c2 w h h2 hn)
              have HSC := Lib.hid (fun a n c w h hb => cloneStr_c V a n c w h hb)
              obtain ⟨⟨x, e1⟩, hch⟩ : ∃ p, choS Q V = p := ⟨_, rfl⟩
              rw [hch] at HCH hck
              unfold V2 at HCH
              have HCE := Lib.hid hch
              clear hV hVl hown hrv hb hch
              rcases hck with hk4 | hk4
              · have hk4' : e1 = 0 := hk4
                subst hk4'
                clear hk4
                go_wp2_with fail
                refine (HCS.out Q b2 k d2 wr RT2.out (by omega)).mono ?_
                rintro e wvb1 ⟨a15, e15, rfl, rR15, hb1⟩
                have bvb1 := Below.next hb8 hb1
                have RT1_b1 := Lib.hid (RT1.out.below hb1)
                have RT2_b1 := Lib.hid (RT2.out.below hb1)
                have RV_b1 := Lib.hid (RV.out.below hb1)
                have R15 := Lib.hid rR15
                clear rR15 hb1
                go_wp2_with fail
                refine (HSC.out av 6 cv wvb1 RV_b1.out (by omega)).mono ?_
                rintro e wvb2 ⟨a16, e16, rfl, rR16, hb2⟩
                have bvb2 := Below.next bvb1 hb2
                have RT1_b2 := Lib.hid (RT1_b1.out.below hb2)
                have RT2_b2 := Lib.hid (RT2_b1.out.below hb2)
                have RV_b2 := Lib.hid (RV_b1.out.below hb2)
                have R15_b2 := Lib.hid (R15.out.below hb2)
                have R16 := Lib.hid rR16
                clear rR16 hb2
                go_wp2_with fail
                refine (HCH.out a15 k e15 a16 6 e16 wvb2 R15_b2.out R16.out (by omega)).mono ?_
                rintro e wvb3 ⟨rfl, hb3⟩
                have bvb3 := Below.next bvb2 hb3
                have RT1_b3 := Lib.hid (RT1_b2.out.below hb3)
                have RT2_b3 := Lib.hid (RT2_b2.out.below hb3)
                have RV_b3 := Lib.hid (RV_b2.out.below hb3)
                clear hb3
                obtain ⟨wT, hwT⟩ : ∃ wT, wvb3 = wT := ⟨_, rfl⟩
                have RU1 := Lib.hid (RT1_b3.out)
                have RU2 := Lib.hid (RT2_b3.out)
                have RUV := Lib.hid (RV_b3.out)
                have BT := Lib.hid (bvb3)
                rw [hwT] at RU1 RU2 RUV BT ⊢
                clear hwT
                go_wp2_with fail
                go_loopw [163] (fun i wp => ∃ u : Nat, u ≤ n1 ∧ i = .int .i64 u ∧ Below wT.heap.size wT wp) (fun i _ => n1 - (intOf i).toNat)
                case atStart => exact ⟨0, Nat.zero_le _, rfl, Below.refl _ _⟩
                case round =>
                  obtain ⟨u, hu, rfl, hb⟩ := hrel
                  by_cases hlt : u < n1
                  · have hul : u < R.length := by have := HN1.out; omega
                    obtain ⟨bb, oo, ha, hcell⟩ := (RU1.out.below hb).at' (by omega)
                    have hc := hcell u _ (at_cell hul)
                    have hsR : R.getD u 0#16 ∈ R := by rw [getD_at hul]; exact List.getElem_mem hul
                    obtain ⟨s, hs⟩ : ∃ s, R.getD u 0#16 = s := ⟨_, rfl⟩
                    rw [hs] at hc hsR
                    have hrec := found (R := R) (Q := Q) HSAFE.out (V := V) (by rw [HVL.out]; omega) (by rw [HVL.out]; omega) hsR HCE.out
                    have HRE := Lib.hid (fun a n c a2 n2 c2 w h h2 hn => recover_c Q V s a n c a2 n2 c2 w h h2 hn)
                    rw [hrec] at HRE
                    unfold V2 at HRE
                    have hb7 := Below.next BT.out hb
                    have RW2 := Lib.hid (RU2.out.below hb)
                    have RWV := Lib.hid (RUV.out.below hb)
                    have k1 : (x.toList == x.toList) = true := by simp
                    have HB := Lib.hid hb
                    cases ha
                    clear hcell hs hsR hul hrec hb
                    go_wp2_with fail
                    refine (HCS.out Q b2 k d2 wr RW2.out (by omega)).mono ?_
                    rintro e wvd1 ⟨a17, e17, rfl, rR17, hd1⟩
                    have bvd1 := Below.next HB.out hd1
                    have RWV_d1 := Lib.hid (RWV.out.below hd1)
                    have R17 := Lib.hid rR17
                    clear rR17 hd1
                    go_wp2_with fail
                    refine (HSC.out av 6 cv wvd1 RWV_d1.out (by omega)).mono ?_
                    rintro e wvd2 ⟨a18, e18, rfl, rR18, hd2⟩
                    have bvd2 := Below.next bvd1 hd2
                    have R17_d2 := Lib.hid (R17.out.below hd2)
                    have R18 := Lib.hid rR18
                    clear rR18 hd2
                    go_wp2_with fail
                    refine (HRE.out a17 k e17 a18 6 e18 wvd2 R17_d2.out R18.out (by omega)).mono ?_
                    rintro e wvd3 ⟨rfl, hd3⟩
                    have bvd3 := Below.next bvd2 hd3
                    clear hd3
                    go_wp2_with fail
                    go_roundw
                    case rel => exact ⟨u + 1, by omega, by go_num, bvd3⟩
                    case measure => simp [intOf]; omega
                  · have hb7 := Below.next BT.out hb
                    clear hb
                    go_wp2_with fail
                    go_ret
                    exact ⟨rfl, hb7⟩
              · have hk4' : e1 = 4 := hk4
                subst hk4'
                clear hk4
                go_wp2_with fail
                refine (HCS.out Q b2 k d2 wr RT2.out (by omega)).mono ?_
                rintro e wvb1 ⟨a15, e15, rfl, rR15, hb1⟩
                have bvb1 := Below.next hb8 hb1
                have RV_b1 := Lib.hid (RV.out.below hb1)
                have R15 := Lib.hid rR15
                clear rR15 hb1
                go_wp2_with fail
                refine (HSC.out av 6 cv wvb1 RV_b1.out (by omega)).mono ?_
                rintro e wvb2 ⟨a16, e16, rfl, rR16, hb2⟩
                have bvb2 := Below.next bvb1 hb2
                have R15_b2 := Lib.hid (R15.out.below hb2)
                have R16 := Lib.hid rR16
                clear rR16 hb2
                go_wp2_with fail
                refine (HCH.out a15 k e15 a16 6 e16 wvb2 R15_b2.out R16.out (by omega)).mono ?_
                rintro e wvb3 ⟨rfl, hb3⟩
                have bvb3 := Below.next bvb2 hb3
                clear hb3
                go_wp2_with fail
                go_ret
                exact ⟨rfl, bvb3⟩
  · cases o1
    · clear hall
      go_wp2_with fail
      refine (HA.out _ (HT.out.below c5)).mono ?_
      rintro e w6 ⟨rfl, c6⟩
      have c7 := Below.next c5 c6
      clear c5 c6
      go_wp2_with fail
      go_ret
      exact ⟨rfl, c7⟩
    · cases o2
      · clear hall
        go_wp2_with fail
        refine (HA.out _ (HT.out.below c5)).mono ?_
        rintro e w6 ⟨rfl, c6⟩
        have c7 := Below.next c5 c6
        clear c5 c6
        go_wp2_with fail
        go_ret
        exact ⟨rfl, c7⟩
      · have h6 : ((len3 : Int) != 6) = true := by
          have : ¬ len3 = 6 := fun e => hall ⟨rfl, rfl, e⟩
          simp; omega
        have h6b : ((len3 : Int) == 6) = false := by
          have : ¬ len3 = 6 := fun e => hall ⟨rfl, rfl, e⟩
          simp; omega
        clear hall
        go_wp2_with fail
        refine (HA.out _ (HT.out.below c5)).mono ?_
        rintro e w6 ⟨rfl, c6⟩
        have c7 := Below.next c5 c6
        clear c5 c6
        go_wp2_with fail
        go_ret
        exact ⟨rfl, c7⟩
end Go.Proofs.YtmjgdnpfgkpaoaaGreatDoor
