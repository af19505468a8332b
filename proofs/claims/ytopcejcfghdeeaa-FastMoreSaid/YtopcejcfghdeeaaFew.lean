/- Laws of layer 38: few. -/
import Derived.Test.YtopcejcfghdeeaaAw38b
import Derived.Test.YtopcejcfghdeeaaInts
namespace Go.Proofs.Ytopcejcfghdeeaa
open Go.RowKit Go.Shelf

theorem sets_of {W : World} {a : Option Addr} {n c : Nat} {l : List Int} (h : IsInts .u16 W a n c l) : ∃ L : List (BitVec 16), Rd W a n c (L.map setV2) ∧ L.length = n := by
  have hr := h.rd
  have hw := h.wf
  have : ∃ L : List (BitVec 16), l = L.map U := by
    clear hr h
    induction l with
    | nil => exact ⟨[], rfl⟩
    | cons x l ih =>
      obtain ⟨L, rfl⟩ := ih (fun z hz => hw z (List.mem_cons_of_mem _ hz))
      obtain ⟨y, rfl⟩ : ∃ y, x = U y := by
        have h := hw x (by simp)
        apply U_of
        simp [Lit.wf, IntKind.min, IntKind.max, IntKind.bits, IntKind.signed] at h
        omega
      exact ⟨y :: L, rfl⟩
  obtain ⟨L, rfl⟩ := this
  refine ⟨L, by rw [List.map_map] at hr; exact hr, by have := h.len; simpa using this⟩

def fewS (Ls : List (List (BitVec 16))) : Bool := Ls.all fun l => decide (l.length ≤ 30)
theorem few_no {Ls : List (List (BitVec 16))} {k : Nat} {L : List (BitVec 16)} (h : Ls[k]? = some L) (hl : 30 < L.length) : fewS Ls = false := by
  rw [Bool.eq_false_iff]
  intro hf
  have := List.all_eq_true.1 hf L (List.mem_of_getElem? h)
  rw [decide_eq_true_eq] at this
  omega
theorem few_yes {Ls : List (List (BitVec 16))} (h : ∀ (j : Nat) (L : List (BitVec 16)), Ls[j]? = some L → L.length ≤ 30) : fewS Ls = true := by
  refine List.all_eq_true.2 fun L hL => ?_
  obtain ⟨j, hj⟩ := List.mem_iff_getElem?.1 hL
  exact decide_eq_true (h j L hj)

set_option maxRecDepth 100000 in
set_option maxHeartbeats 1000000 in
theorem few_c (Ls : List (List (BitVec 16))) (a : Option Addr) (n c : Nat) (w : World) (h : RdSS w a n c Ls) :
    Calls Try.prog 12 #[.slice a n c] w fun e w' => e = .returned (.bool (fewS Ls)) ∧ w' = w := by
  obtain ⟨hn, hle, hm⟩ := h.len
  have HR := Lib.hid h
  have HN := Lib.hid hn
  clear h hn
  go_enter Try.func12, Try.ntmps12
  go_wp2_with fail
  go_loop [7] (fun i => ∃ k : Nat, k ≤ n ∧ i = .int .i64 k ∧ Hid (∀ (j : Nat) (L : List (BitVec 16)), j < k → Ls[j]? = some L → L.length ≤ 30)) (fun i => n - (intOf i).toNat)
  case atStart => exact ⟨0, Nat.zero_le _, rfl, Lib.hid (fun j L hj => by omega)⟩
  case round =>
    obtain ⟨k, hk, rfl, hno⟩ := hrel
    by_cases hlt : k < n
    · obtain ⟨L, hL⟩ : ∃ L, Ls[k]? = some L := ⟨_, List.getElem?_eq_getElem (by have := HN.out; omega)⟩
      obtain ⟨b, o, a', n', c', ha, hc, hr⟩ := HR.out.get hL
      have hl2 : L.length = n' := by have := hr.len; simp at this; omega
      have h3 := hr.le
      have h4 := hr.max
      unfold maxLen at h4
      subst ha
      by_cases hq : 30 < n'
      · have hE : Hid (fewS Ls = false) := few_no hL (by omega)
        clear hno hL hr hl2
        go_wp2_with fail
        go_ret
        exact ⟨by rw [hE.out]; rfl, rfl⟩
      · have hno2 : Hid (∀ (j : Nat) (L : List (BitVec 16)), j < k + 1 → Ls[j]? = some L → L.length ≤ 30) := Lib.hid (fun j M hj hM => by
          by_cases h1 : j < k
          · exact hno.out j M h1 hM
          · obtain rfl : j = k := by omega
            rw [hL] at hM; cases hM; omega)
        clear hno hL hr hl2
        go_wp2_with fail
        go_round
        case rel => exact ⟨k + 1, by omega, by go_num, hno2⟩
        case measure => simp [intOf]; omega
    · have hE : Hid (fewS Ls = true) := few_yes (fun j L hj => hno.out j L (by have := (List.getElem?_eq_some_iff.1 hj).1; have := HN.out; omega) hj)
      clear hno
      go_wp2_with fail
      go_ret
      exact ⟨by rw [hE.out]; rfl, rfl⟩
theorem ss_one {w : World} {a : Option Addr} {n c : Nat} {f : List (BitVec 16)} (h : Rd w a n c (f.map setV2)) : RdSS (w.alloc (.cells #[.slice a n c] 22)) (some ⟨w.heap.size, 0, none⟩) 1 1 [f] := by
  have hb0 : Below w.heap.size w (w.alloc (.cells #[.slice a n c] 22)) := (Below.refl _ w).alloc (Nat.le_refl _) _
  refine ⟨[.slice a n c], Rd.lit _ _ _ 1 _ rfl rfl (by decide), rfl, fun i L hi => ?_⟩
  match i, hi with
  | 0, hi => cases hi; exact ⟨a, n, c, rfl, h.below hb0⟩
  | i + 1, hi => simp at hi
theorem ss_two {w : World} {a a2 : Option Addr} {n c n2 c2 : Nat} {f g : List (BitVec 16)} (h : Rd w a n c (f.map setV2)) (h2 : Rd w a2 n2 c2 (g.map setV2)) : RdSS (w.alloc (.cells #[.slice a n c, .slice a2 n2 c2] 22)) (some ⟨w.heap.size, 0, none⟩) 2 2 [f, g] := by
  have hb0 : Below w.heap.size w (w.alloc (.cells #[.slice a n c, .slice a2 n2 c2] 22)) := (Below.refl _ w).alloc (Nat.le_refl _) _
  refine ⟨[.slice a n c, .slice a2 n2 c2], Rd.lit _ _ _ 2 _ rfl rfl (by decide), rfl, fun i L hi => ?_⟩
  match i, hi with
  | 0, hi => cases hi; exact ⟨a, n, c, rfl, h.below hb0⟩
  | 1, hi => cases hi; exact ⟨a2, n2, c2, rfl, h2.below hb0⟩
  | i + 2, hi => simp at hi

set_option maxRecDepth 100000 in
set_option maxHeartbeats 4000000 in
theorem fastClash_w (a : Option Addr) (len cap : Nat) (z : List Int) (a2 : Option Addr) (len2 cap2 : Nat) (z2 : List Int) (w : World) (w0 : IsInts .u16 w a len cap z) (w2 : IsInts .u16 w a2 len2 cap2 z2) :
    Calls Try.prog 3 #[.slice a len cap, .slice a2 len2 cap2] w fun e w' => e = .returned (.bool true) ∧ Below w.heap.size w w' := by
  obtain ⟨L, hL, hlen⟩ := sets_of w0
  obtain ⟨M, hM, hlen2⟩ := sets_of w2
  have HL := Lib.hid hL
  have HM := Lib.hid hM
  have HA := Lib.hid (fun w => awake38_c w)
  clear w0 w2 hL hM hlen hlen2
  cases hf : fewS [L, M]
  · have HF := Lib.hid (fun x w h => few_c [L, M] x 2 2 w h)
    rw [hf] at HF
    clear hf
    go_enter Try.func3, Try.ntmps3
    go_wp2_with fail
    refine (HA.out w).mono ?_
    rintro e w1 ⟨rfl, b1⟩
    have hb2 : Below w.heap.size w (w1.alloc (.cells #[.slice a len cap, .slice a2 len2 cap2] 22)) := b1.alloc b1.size _
    have hss := ss_two (HL.out.below b1) (HM.out.below b1)
    go_wp2_with fail
    refine (HF.out _ _ hss).mono ?_
    rintro e w2 ⟨rfl, rfl⟩
    go_wp2_with fail
    refine (HA.out _).mono ?_
    rintro e w3 ⟨rfl, b3⟩
    have b4 := Below.next hb2 b3
    clear hss hb2 b3
    go_wp2_with fail
    go_ret
    exact ⟨rfl, b4⟩
  · have HF := Lib.hid (fun x w h => few_c [L, M] x 2 2 w h)
    rw [hf] at HF
    have HC := Lib.hid (fun w h h2 => clash_c L M a len cap a2 len2 cap2 w h h2)
    have HC2 := Lib.hid (fun w h h2 => rclash_c L M a len cap a2 len2 cap2 w h h2)
    have HC3 := Lib.hid (fun w h h2 => safe_c L M a len cap a2 len2 cap2 w h h2)
    obtain ⟨⟨x, y, r, e⟩, hp⟩ : ∃ p, claT L M = p := ⟨_, rfl⟩
    rw [hp] at HC HC2 HC3
    unfold V4 at HC HC2
    clear hf hp
    have k1 : (x == x) = true := by simp
    have k2 : (y == y) = true := by simp
    have k3 : (r == r) = true := by simp
    have k4 : (e == e) = true := by simp
    have k5 : ((e == 13) == (e == 13)) = true := by simp
    go_enter Try.func3, Try.ntmps3
    go_wp2_with fail
    refine (HA.out w).mono ?_
    rintro e w1 ⟨rfl, b1⟩
    have hb2 : Below w.heap.size w (w1.alloc (.cells #[.slice a len cap, .slice a2 len2 cap2] 22)) := b1.alloc b1.size _
    have hss := ss_two (HL.out.below b1) (HM.out.below b1)
    go_wp2_with fail
    refine (HF.out _ _ hss).mono ?_
    rintro e w2 ⟨rfl, rfl⟩
    go_wp2_with fail
    refine (HC.out _ (HL.out.below hb2) (HM.out.below hb2)).mono ?_
    rintro e w3 ⟨rfl, b3⟩
    have b4 := Below.next hb2 b3
    clear hss hb2 b3 HC
    go_wp2_with fail
    refine (HC2.out _ (HL.out.below b4) (HM.out.below b4)).mono ?_
    rintro e w5 ⟨rfl, b5⟩
    have b6 := Below.next b4 b5
    clear b4 b5 HC2
    go_wp2_with fail
    refine (HC3.out _ (HL.out.below b6) (HM.out.below b6)).mono ?_
    rintro e w7 ⟨rfl, b7⟩
    have b8 := Below.next b6 b7
    clear b6 b7 HC3
    go_wp2_with fail
    go_ret
    exact ⟨rfl, b8⟩
end Go.Proofs.Ytopcejcfghdeeaa
