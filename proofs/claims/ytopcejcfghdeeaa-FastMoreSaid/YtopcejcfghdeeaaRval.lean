/- Layer 38: the reference's values. -/
import Derived.Test.YtopcejcfghdeeaaCnt
import Derived.Test.YtopcejcfghdeeaaSet2
import Derived.Sort.Walk0
import Derived.Laws.Cover1
namespace Go.Proofs.Ytopcejcfghdeeaa
open Go.RowKit Go.Shelf Go.Sort

theorem less_le (x y : Str) : (Op.bytesLess x y || x == y) = decide (x ≤ y) := by
  rw [bytesLess_eq, Bool.eq_iff_iff, Bool.or_eq_true, decide_eq_true_eq, decide_eq_true_eq, beq_iff_eq]
  constructor
  · rintro (h | rfl)
    · exact List.not_lt.1 (fun h2 => List.lt_irrefl _ (List.lt_trans h h2))
    · exact List.le_refl _
  · intro h
    by_cases he : x = y
    · exact .inr he
    · exact .inl (List.not_le.1 (fun h2 => he (List.le_antisymm h h2)))

def BI (V : List ByteArray) (h : BitVec 16) (k j : Nat) (found : Bool) (best : ByteArray) : Prop :=
  if found = true then (∃ i, i < j ∧ V.getD i ⟨#[]⟩ = best ∧ okB V h k i = true) ∧ (∀ i, i < j → okB V h k i = true → best.toList ≤ (V.getD i ⟨#[]⟩).toList) else ∀ i, i < j → okB V h k i = false
theorem BI_skip {V : List ByteArray} {h : BitVec 16} {k j : Nat} {f : Bool} {b : ByteArray} (hi : BI V h k j f b) (hok : okB V h k j = false) : BI V h k (j + 1) f b := by
  unfold BI at hi ⊢
  by_cases hf : f = true
  · rw [if_pos hf] at hi ⊢
    obtain ⟨⟨i, h1, h2, h3⟩, h4⟩ := hi
    refine ⟨⟨i, by omega, h2, h3⟩, fun i hi ho => ?_⟩
    by_cases hij : i = j
    · subst hij; rw [hok] at ho; cases ho
    · exact h4 i (by omega) ho
  · rw [if_neg hf] at hi ⊢
    intro i h1
    by_cases hij : i = j
    · subst hij; exact hok
    · exact hi i (by omega)
theorem BI_set {V : List ByteArray} {h : BitVec 16} {k j : Nat} {f : Bool} {b : ByteArray} (hi : BI V h k j f b) (hok : okB V h k j = true) (hlt : f = true → (V.getD j ⟨#[]⟩).toList < b.toList) : BI V h k (j + 1) true (V.getD j ⟨#[]⟩) := by
  unfold BI at hi ⊢
  rw [if_pos rfl]
  refine ⟨⟨j, by omega, rfl, hok⟩, fun i h1 ho => ?_⟩
  by_cases hij : i = j
  · subst hij; exact List.le_refl _
  · by_cases hf : f = true
    · rw [if_pos hf] at hi
      have h2 := hi.2 i (by omega) ho
      exact List.le_trans (List.not_lt.1 (fun h3 => List.lt_irrefl _ (List.lt_trans (hlt hf) h3))) h2
    · rw [if_neg hf] at hi
      rw [hi i (by omega)] at ho; cases ho
theorem BI_keep {V : List ByteArray} {h : BitVec 16} {k j : Nat} {b : ByteArray} (hi : BI V h k j true b) (hge : ¬ (V.getD j ⟨#[]⟩).toList < b.toList) : BI V h k (j + 1) true b := by
  unfold BI at hi ⊢
  rw [if_pos rfl] at hi ⊢
  obtain ⟨⟨i, h1, h2, h3⟩, h4⟩ := hi
  refine ⟨⟨i, by omega, h2, h3⟩, fun i hi ho => ?_⟩
  by_cases hij : i = j
  · subst hij; exact List.not_lt.1 hge
  · exact h4 i (by omega) ho
theorem BI_end0 {V : List ByteArray} {h : BitVec 16} {k n : Nat} {b : ByteArray} (hn : V.length = n) (hk : k ≤ (valV V h).length) (hi : BI V h k n false b) : k = (valV V h).length := by
  unfold BI at hi
  rw [if_neg (by decide)] at hi
  exact val_end hk (fun j hj => hi j (by omega))
theorem BI_end1 {V : List ByteArray} {h : BitVec 16} {k n : Nat} {b : ByteArray} (hn : V.length = n) (hk : k ≤ (valV V h).length) (hi : BI V h k n true b) : k < (valV V h).length ∧ (valB V h)[k]? = some b := by
  unfold BI at hi
  rw [if_pos rfl] at hi
  obtain ⟨⟨i, h1, h2, h3⟩, h4⟩ := hi
  obtain ⟨a1, a2⟩ := val_next hk ⟨i, by omega, h2, h3⟩ (fun j hj ho => h4 j (by omega) ho)
  exact ⟨a1, valB_at a2⟩
theorem okB_empty {V : List ByteArray} {h : BitVec 16} {k j : Nat} (he : ((V.getD j ⟨#[]⟩).toList == []) = true) : okB V h k j = false := by unfold okB; rw [he]; rfl
theorem okB_off {V : List ByteArray} {h : BitVec 16} {k j : Nat} (he : hasB h j = false) : okB V h k j = false := by unfold okB; rw [he]; simp
theorem okB_zero {V : List ByteArray} {h : BitVec 16} {j : Nat} (he : ((V.getD j ⟨#[]⟩).toList == []) = false) (hh : hasB h j = true) : okB V h 0 j = true := by unfold okB; rw [he, hh]; simp
theorem okB_pos {V : List ByteArray} {h : BitVec 16} {k j : Nat} (he : ((V.getD j ⟨#[]⟩).toList == []) = false) (hh : hasB h j = true) (hk : 0 < k) {l : ByteArray} (hl : (valB V h)[k - 1]? = some l) :
    okB V h k j = !(Op.bytesLess (V.getD j ⟨#[]⟩).toList l.toList || (V.getD j ⟨#[]⟩).toList == l.toList) := by
  have hlv : (valV V h).getD (k - 1) [] = l.toList := by
    unfold valB at hl
    rw [List.getElem?_map] at hl
    rw [List.getD_eq_getElem?_getD]
    cases hg : (valV V h)[k - 1]? with
    | none => rw [hg] at hl; cases hl
    | some s => rw [hg] at hl; injection hl with hl; rw [← hl, bs_list]; rfl
  unfold okB; rw [he, hh, hlv, less_le, decide_eq_true hk]; simp
theorem hasI_at (h : BitVec 16) (j : Nat) (hj : j < 16) : hasI h (j : Int) = hasB h j := by unfold hasI; simp; omega

set_option maxRecDepth 100000 in
set_option maxHeartbeats 4000000 in
theorem rvalues_c (V : List ByteArray) (h : BitVec 16) (a : Option Addr) (n c : Nat) (w : World) (hn : n ≤ 16) (hr : Rd w a n c (V.map Value.string)) :
    Calls Try.prog 43 #[.slice a n c, .int .u16 (U h)] w fun e w' => ∃ v, e = .returned v ∧ w'.ownsRow w.heap.size 9 1 v (valB V h).length ((valB V h).map Value.string) ∧ Below w.heap.size w w' := by
  have hnl : V.length = n := by have := hr.len; simp at this; omega
  have hm := hr.max
  have hle := hr.le
  unfold maxLen at hm
  have HR := Lib.hid hr
  have HN := Lib.hid hnl
  have HVL := Lib.hid (valV_le V h)
  clear hr hnl
  go_enter Try.func43, Try.ntmps43
  go_wp2_with fail
  go_loopw [5] (fun v wr => ∃ k : Nat, Hid (k ≤ (valV V h).length) ∧ wr.ownsRow w.heap.size 9 1 v k (((valB V h).take k).map Value.string) ∧ Hid ((match v with | .slice _ m _ => m | _ => 0) = k) ∧ Below w.heap.size w wr) (fun v _ => (valV V h).length - (match v with | .slice _ m _ => m | _ => 0))
  case atStart => exact ⟨0, Nat.zero_le _, World.ownsRow_nil _ _ _ _, rfl, Below.refl _ _⟩
  case round =>
    obtain ⟨k, hk, hown, hkv, hb⟩ := hrel
    obtain ⟨ao, co, rfl, hro⟩ := rd_of_row hown
    have hkn : k ≤ n := by have := HVL.out; have := HN.out; have := hk.out; omega
    have hrol := hro.le
    have hrom := hro.max
    unfold maxLen at hrom
    have HO := Lib.hid hown
    have HRO := Lib.hid hro
    have HB := Lib.hid hb
    clear hown hro hb hkv
    go_wp2_with fail
    go_loop [6, 7, 8] (fun bv fv i => ∃ j : Nat, j ≤ n ∧ i = .int .i64 j ∧ ∃ f b, bv = .string b ∧ fv = .bool f ∧ Hid (BI V h k j f b)) (fun _ _ i => n - (intOf i).toNat)
    case atStart => exact ⟨0, Nat.zero_le _, rfl, false, ⟨#[]⟩, rfl, rfl, Lib.hid (by unfold BI; rw [if_neg (by decide)]; intro i hi; omega)⟩
    case round =>
      obtain ⟨j, hj, rfl, f, b, rfl, rfl, hbi⟩ := hrel
      by_cases hlt : j < n
      · obtain ⟨bb, o, ha, hcell⟩ := (HR.out.below HB.out).at' (by omega)
        have hc := hcell j _ (st_cell (by have := HN.out; omega))
        obtain ⟨y, hy⟩ : ∃ y, V.getD j ⟨#[]⟩ = y := ⟨_, rfl⟩
        rw [hy] at hc
        subst ha
        cases hq : (y.toList == [])
        · cases hh : hasB h j
          · have hI : hasI h (j : Int) = false := by rw [hasI_at h j (by omega), hh]
            have hbi2 := Lib.hid (BI_skip hbi.out (okB_off hh))
            clear hcell hy hbi
            go_wp2_with (go_at_call 54; refine (has_c h _ _ _ rfl).mono ?_; rintro e w' ⟨rfl, rfl⟩)
            go_round
            case rel => exact ⟨j + 1, by omega, by go_num, f, b, rfl, rfl, hbi2⟩
            case measure => simp [intOf]; omega
          · have hI : hasI h (j : Int) = true := by rw [hasI_at h j (by omega), hh]
            by_cases h0 : k = 0
            · subst h0
              have hset := BI_set hbi.out (okB_zero (by rw [hy]; exact hq) hh)
              rw [hy] at hset
              cases f
              · have hbi2 := Lib.hid (hset (fun h => (by cases h)))
                clear hcell hy hbi hset
                go_wp2_with (go_at_call 54; refine (has_c h _ _ _ rfl).mono ?_; rintro e w' ⟨rfl, rfl⟩)
                go_round
                case rel => exact ⟨j + 1, by omega, by go_num, true, y, rfl, rfl, hbi2⟩
                case measure => simp [intOf]; omega
              · have hlb := bytesLess_eq y.toList b.toList
                cases hl : Op.bytesLess y.toList b.toList
                · rw [hl] at hlb
                  have hbi2 := Lib.hid (BI_keep hbi.out (by rw [hy]; exact of_decide_eq_false hlb.symm))
                  clear hcell hy hbi hset hlb
                  go_wp2_with (go_at_call 54; refine (has_c h _ _ _ rfl).mono ?_; rintro e w' ⟨rfl, rfl⟩)
                  go_round
                  case rel => exact ⟨j + 1, by omega, by go_num, true, b, rfl, rfl, hbi2⟩
                  case measure => simp [intOf]; omega
                · rw [hl] at hlb
                  have hbi2 := Lib.hid (hset (fun _ => of_decide_eq_true hlb.symm))
                  clear hcell hy hbi hset hlb
                  go_wp2_with (go_at_call 54; refine (has_c h _ _ _ rfl).mono ?_; rintro e w' ⟨rfl, rfl⟩)
                  go_round
                  case rel => exact ⟨j + 1, by omega, by go_num, true, y, rfl, rfl, hbi2⟩
                  case measure => simp [intOf]; omega
            · have hk0 : 0 < k := by omega
              obtain ⟨l, hl⟩ : ∃ l, (valB V h)[k - 1]? = some l := ⟨_, List.getElem?_eq_getElem (by rw [valB_len]; have := hk.out; omega)⟩
              have hok := okB_pos (V := V) (j := j) (by rw [hy]; exact hq) hh hk0 hl
              obtain ⟨b3, o3, ha3, hcell3⟩ := HRO.out.at' hk0
              have hc3 := hcell3 (k - 1) (.string l) (by rw [List.getElem?_map, List.getElem?_take_of_lt (by omega), hl]; rfl)
              have hk1 : ((k : Int) - 1).toNat = k - 1 := by omega
              rw [hy] at hok
              subst ha3
              cases hle3 : (Op.bytesLess y.toList l.toList || y.toList == l.toList)
              · rw [hle3] at hok
                clear hcell3 hl
                have hset := BI_set hbi.out hok
                rw [hy] at hset
                cases f
                · have hbi2 := Lib.hid (hset (fun h => (by cases h)))
                  clear hcell hy hbi hset
                  go_wp2_with (go_at_call 54; refine (has_c h _ _ _ rfl).mono ?_; rintro e w' ⟨rfl, rfl⟩)
                  go_round
                  case rel => exact ⟨j + 1, by omega, by go_num, true, y, rfl, rfl, hbi2⟩
                  case measure => simp [intOf]; omega
                · have hlb := bytesLess_eq y.toList b.toList
                  cases hl : Op.bytesLess y.toList b.toList
                  · rw [hl] at hlb
                    have hbi2 := Lib.hid (BI_keep hbi.out (by rw [hy]; exact of_decide_eq_false hlb.symm))
                    clear hcell hy hbi hset hlb
                    go_wp2_with (go_at_call 54; refine (has_c h _ _ _ rfl).mono ?_; rintro e w' ⟨rfl, rfl⟩)
                    go_round
                    case rel => exact ⟨j + 1, by omega, by go_num, true, b, rfl, rfl, hbi2⟩
                    case measure => simp [intOf]; omega
                  · rw [hl] at hlb
                    have hbi2 := Lib.hid (hset (fun _ => of_decide_eq_true hlb.symm))
                    clear hcell hy hbi hset hlb
                    go_wp2_with (go_at_call 54; refine (has_c h _ _ _ rfl).mono ?_; rintro e w' ⟨rfl, rfl⟩)
                    go_round
                    case rel => exact ⟨j + 1, by omega, by go_num, true, y, rfl, rfl, hbi2⟩
                    case measure => simp [intOf]; omega
              · rw [hle3] at hok
                have hbi2 := Lib.hid (BI_skip hbi.out hok)
                clear hcell hcell3 hy hbi hl hok
                go_wp2_with (go_at_call 54; refine (has_c h _ _ _ rfl).mono ?_; rintro e w' ⟨rfl, rfl⟩)
                go_round
                case rel => exact ⟨j + 1, by omega, by go_num, f, b, rfl, rfl, hbi2⟩
                case measure => simp [intOf]; omega
        · have hbi2 := Lib.hid (BI_skip hbi.out (okB_empty (by rw [hy]; exact hq)))
          clear hcell hy hbi
          go_wp2_with fail
          go_round
          case rel => exact ⟨j + 1, by omega, by go_num, f, b, rfl, rfl, hbi2⟩
          case measure => simp [intOf]; omega
      · obtain rfl : j = n := by omega
        cases f
        · have hE := BI_end0 HN.out hk.out hbi.out
          have hO := HO.out
          rw [hE] at hO
          have ht : (valB V h).take (valV V h).length = valB V h := List.take_of_length_le (by rw [valB_len]; exact Nat.le_refl _)
          rw [ht] at hO
          have HO2 := Lib.hid hO
          have HE := Lib.hid hE
          have HLN := Lib.hid (valB_len V h)
          clear hE hO ht hbi
          go_wp2_with fail
          go_ret
          exact ⟨_, rfl, by rw [HLN.out, HE.out]; exact HO2.out, HB.out⟩
        · obtain ⟨h1, h2⟩ := BI_end1 HN.out hk.out hbi.out
          have H1 := Lib.hid h1
          have hT : ((valB V h).take (k + 1)).map Value.string = ((valB V h).take k).map Value.string ++ [.string b] := by rw [List.take_add_one, h2]; simp
          have HT := Lib.hid hT
          have hown := HO.out
          have hb := HB.out
          clear h1 h2 hT hbi HRO HO HB
          go_wp2_with (at_builtin; go_must (refine wpList_app _ _ 31 16 (.string ⟨#[]⟩) (.string b) _ Try.underlying31 Try.infoStr rfl hown hb (Nat.le_refl _) rfl rfl rfl rfl rfl (by unfold maxLen; omega) (by omega) ?_))
          intro v' w1 hown1 hb1 _ _
          clear hown hb
          obtain ⟨ao2, co2, rfl, _⟩ := rd_of_row hown1
          go_wp2_with fail
          go_roundw
          case rel => exact ⟨k + 1, H1.out, by rw [HT.out, List.map_take]; exact hown1, rfl, hb1⟩
          case measure => have := H1.out; show _ - (k + 1) < _ - k; omega
end Go.Proofs.Ytopcejcfghdeeaa
