/- Texts laid together. single.begin; Run and Check where nothing happens; the law on errors. Layer 37: run.add on a run that stands for a list of events. A region that draws its order: operations that stay in a class of worlds, and behind them, in one forced order, a tail that writes. Over any program. A region that draws its order and ends in one store that changes what some of its loads read: one walk in the order of the text. Over any program. Layer 37: the reference's replay. A region that draws its order: some operations that only read are taken first; the rest is walked by hand. Over any program. -/
import Derived.Test.YtgfjmplifmbmlaaDoorGSingleCheck3
import Derived.Test.YtgfjmplifmbmlaaDoorGSingleCheck5
import Derived.Test.YtgfjmplifmbmlaaDoorGSingleCheck6
import Derived.Laws.MakeOwn
import Derived.StillTail
import Derived.Deep.Quiet
import Derived.Deep.QuietTactic
import Derived.OrdersHeld
import Derived.Deep.RegionHeld
namespace Go.Proofs.YtgfjmplifmbmlaaDoor
open Go.RowKit Go.Shelf

theorem Tryd.infoAcc : (Tryd.prog.info? 96).map (fun i => (i.zero, i.size, i.bytes)) = some (some (.agg #[.int .i64 0, .int .i64 0, .string ⟨#[]⟩]), 3, 32) := by kernel_rfl
theorem make_acc (m : Nat) (hm : m ≤ 1000000) : ∀ w, (Instr.makeSlice 90 (.int .i64 m) (.int .i64 m)).run Tryd.prog w = .ok (.slice (some ⟨w.heap.size, 0, none⟩) m m) (w.alloc (.cells (madeCells #[.int .i64 0, .int .i64 0, .string ⟨#[]⟩] (m * 3)) 96)) := by
  intro w
  obtain ⟨i, hi1, hi2, hi3, hi4⟩ := info_parts Tryd.infoAcc
  have := run_make (P := Tryd.prog) w 90 96 i _ Tryd.underlying90 hi1 hi2 .i64 .i64 m m (by omega) (Int.le_refl _) (by rw [hi4]; omega) (by omega)
  rw [hi3] at this
  simp only [Int.toNat_natCast] at this
  exact this

set_option maxRecDepth 100000 in
set_option maxHeartbeats 1000000 in
theorem begin_c (m : Nat) (hm : m ≤ 12) (a : Option Addr) (n c : Nat) (w : World) :
    Calls Tryd.prog 36 #[.slice a n c, .int .i64 m] w fun e w' => e = .returned (.pointer (some ⟨w.heap.size + 3, 0, none⟩)) ∧
      w' = (((w.alloc (.cells (madeCells #[.int .i64 0, .int .i64 0, .string ⟨#[]⟩] (m * 3)) 96)).alloc (.map #[] 0)).alloc (.map #[] 0)).alloc (.cells #[.slice a n c, .slice (some ⟨w.heap.size, 0, none⟩) m m, .map (some (w.heap.size + 1)), .map (some (w.heap.size + 2))] 94) := by
  have hmk := make_acc m (by omega)
  have hmm : ∀ (t : TypeId) (w : World), (Instr.makeMap t none).run Tryd.prog w = .ok (.map (some w.heap.size)) (w.alloc (.map #[] 0)) := fun _ _ => rfl
  go_enter Tryd.func36, Tryd.ntmps36
  go_wp2_with fail
  go_ret
  exact ⟨rfl, rfl⟩

theorem chk_out {nn : Int} {Ls : List (List (BitVec 16))} (h : nn < 1 ∨ 12 < nn) : chkS nn Ls = 7 := by unfold chkS; rw [if_pos h]
theorem sup_nil : supS [] = 0#16 := rfl
theorem chk_nil (nn : Int) (f : List (BitVec 16)) : chkS nn [f, []] = chkS nn [f] := by
  by_cases h : nn < 1 ∨ 12 < nn
  · rw [chk_out h, chk_out h]
  · obtain ⟨m, rfl⟩ := Int.eq_ofNat_of_zero_le (by omega : 0 ≤ nn)
    rw [chk2 m (by omega) (by omega)]
    have hv : valS [] = 0 := by decide +kernel
    have ho : offB m [] = false := by unfold offB; rw [sup_nil]; simp [shrS]
    have hz : hasZ [] = false := rfl
    unfold chkS
    rw [if_neg h]
    have hm : ((m : Nat) : Int).toNat = m := by omega
    have e : firstE (fun j => valS ([f].getD j [])) [f].length = valS f := by
      by_cases hf : valS f = 0
      · rw [hf]; exact firstE_none _ _ (fun j hj => by
          match j, hj with
          | 0, _ => exact hf)
      · exact firstE_hit (fun j => valS ([f].getD j [])) 1 0 (by decide) (fun j hj => by omega) hf
    rw [e, hv, ho, hz, hm]
    simp
theorem valS_kinds (l : List (BitVec 16)) : valS l = 0 ∨ valS l = 1 ∨ valS l = 3 ∨ valS l = 7 := by
  have hk : ∀ k, e1 l k = 0 ∨ e1 l k = 1 ∨ e1 l k = 7 := by
    intro k; unfold e1; split
    · exact .inr (.inr rfl)
    · split
      · exact .inr (.inl rfl)
      · exact .inl rfl
  have hf : firstE (e1 l) l.length = 0 ∨ firstE (e1 l) l.length = 1 ∨ firstE (e1 l) l.length = 7 := by
    unfold firstE
    cases h : ((List.range l.length).map (e1 l)).find? (fun x => x != 0) with
    | none => exact .inl rfl
    | some v =>
      have := List.mem_of_find?_eq_some h
      obtain ⟨j, _, rfl⟩ := List.mem_map.1 this
      exact hk j
  unfold valS
  split
  · exact .inr (.inr (.inl rfl))
  · split
    · rcases hf with h | h | h
      · rename_i _ h2; exact absurd h h2
      · exact .inr (.inl h)
      · exact .inr (.inr (.inr h))
    · split
      · exact .inr (.inl rfl)
      · exact .inl rfl
theorem chk1_kinds (nn : Int) (f : List (BitVec 16)) : chkS nn [f] ≠ 13 ∧ (valS f ≠ 0 → chkS nn [f] ≠ 0) := by
  rw [← chk_nil]
  by_cases h : nn < 1 ∨ 12 < nn
  · rw [chk_out h]; exact ⟨by decide, fun _ => by decide⟩
  · obtain ⟨m, rfl⟩ := Int.eq_ofNat_of_zero_le (by omega : 0 ≤ nn)
    rw [chk2 m (by omega) (by omega)]
    have hv : valS [] = 0 := by decide +kernel
    rw [hv]
    have hk := valS_kinds f
    constructor
    · split
      · omega
      · split
        · rename_i h; exact absurd rfl h
        · split
          · decide
          · split <;> decide
    · intro hf
      rw [if_pos hf]; exact hf

set_option maxRecDepth 100000 in
set_option maxHeartbeats 2000000 in
theorem run_err (read write : List (BitVec 16)) (nn : Int) (a : Option Addr) (n c : Nat) (a2 : Option Addr) (n2 c2 : Nat) (a3 : Option Addr) (n3 c3 : Nat) (w : World) (h : Rd w a n c (read.map setV2)) (h2 : Rd w a2 n2 c2 (write.map setV2)) (he : chkS nn [read, write] ≠ 0) :
    Calls Tryd.prog 16 #[.slice a n c, .slice a2 n2 c2, .int .i64 nn, .slice a3 n3 c3] w fun e w' => e = .returned (.tuple #[.slice none 0 0, .int .i64 (chkS nn [read, write])]) ∧ Below w.heap.size w w' := by
  have hb0 : Below w.heap.size w (w.alloc (.cells #[.slice a n c, .slice a2 n2 c2] 22)) := (Below.refl _ w).alloc (Nat.le_refl _) _
  have hss : RdSS (w.alloc (.cells #[.slice a n c, .slice a2 n2 c2] 22)) (some ⟨w.heap.size, 0, none⟩) 2 2 [read, write] := by
    refine ⟨[.slice a n c, .slice a2 n2 c2], Rd.lit _ _ _ 2 _ rfl rfl (by decide), rfl, fun i L hi => ?_⟩
    match i, hi with
    | 0, hi => cases hi; exact ⟨a, n, c, rfl, h.below hb0⟩
    | 1, hi => cases hi; exact ⟨a2, n2, c2, rfl, h2.below hb0⟩
    | i + 2, hi => simp at hi
  have HC := Lib.hid (check_c nn [read, write] _ 2 2 _ hss)
  have HB0 := Lib.hid hb0
  obtain ⟨v, hv⟩ : ∃ v, chkS nn [read, write] = v := ⟨_, rfl⟩
  have HV := Lib.hid hv
  rw [hv] at HC he
  have hv1 : (v != 0) = true := by simpa using he
  clear h h2 hss hb0 hv he
  go_enter Tryd.func16, Tryd.ntmps16
  go_wp2_with fail
  refine HC.out.mono ?_
  rintro e w1 ⟨rfl, hb1⟩
  have hb2 := Below.next HB0.out (by exact hb1)
  clear hb1
  go_wp2_with fail
  go_ret2
  exact ⟨by rw [HV.out]; rfl, hb2⟩

def or13 (e : Int) : Int := if e = 0 then 13 else e
set_option maxRecDepth 100000 in
set_option maxHeartbeats 2000000 in
theorem check_nil (read : List (BitVec 16)) (nn : Int) (a : Option Addr) (n c : Nat) (w : World) (h : Rd w a n c (read.map setV2)) :
    Calls Tryd.prog 19 #[.slice a n c, .int .i64 nn, .slice none 0 0] w fun e w' => e = .returned (.tuple #[.int .i64 0, .int .i64 (or13 (chkS nn [read]))]) ∧ Below w.heap.size w w' := by
  have hb0 : Below w.heap.size w (w.alloc (.cells #[.slice a n c] 22)) := (Below.refl _ w).alloc (Nat.le_refl _) _
  have hss : RdSS (w.alloc (.cells #[.slice a n c] 22)) (some ⟨w.heap.size, 0, none⟩) 1 1 [read] := by
    refine ⟨[.slice a n c], Rd.lit _ _ _ 1 _ rfl rfl (by decide), rfl, fun i L hi => ?_⟩
    match i, hi with
    | 0, hi => cases hi; exact ⟨a, n, c, rfl, h.below hb0⟩
    | i + 1, hi => simp at hi
  have HC := Lib.hid (check_c nn [read] _ 1 1 _ hss)
  have HB0 := Lib.hid hb0
  clear h hss hb0
  by_cases he : chkS nn [read] = 0
  · have hr : ¬ (nn < 1 ∨ 12 < nn) := fun h => by rw [chk_out h] at he; cases he
    obtain ⟨m, rfl⟩ := Int.eq_ofNat_of_zero_le (by omega : 0 ≤ nn)
    have hV : Hid (or13 (chkS m [read]) = 13) := by show _ = _; unfold or13; rw [if_pos he]
    have HG := Lib.hid (fun w => begin_c m (by omega) a n c w)
    rw [he] at HC
    clear he hr
    go_enter Tryd.func19, Tryd.ntmps19
    go_wp2_with fail
    refine HC.out.mono ?_
    rintro e w1 ⟨rfl, hb1⟩
    have hb2 := Below.next HB0.out (by exact hb1)
    clear hb1
    go_wp2_with fail
    refine (HG.out w1).mono ?_
    rintro e w2 ⟨rfl, hw2⟩
    have hb3 : Below w1.heap.size w1 w2 := by
      rw [hw2]
      exact ((((Below.refl _ w1).alloc (Nat.le_refl _) _).alloc (by simp) _).alloc (by simp; omega) _).alloc (by simp; omega) _
    have hb4 := Below.next hb2 hb3
    clear hw2 hb2 hb3
    go_wp2_with fail
    go_loop [24] (fun i => i = .int .i64 0) (fun i => 0)
    case atStart => rfl
    case round =>
      obtain rfl := hrel
      go_wp2_with fail
      go_ret2
      exact ⟨by rw [hV.out]; rfl, hb4⟩
  · have hV : Hid (or13 (chkS nn [read]) = chkS nn [read]) := by show _ = _; unfold or13; rw [if_neg he]
    obtain ⟨v, hv⟩ : ∃ v, chkS nn [read] = v := ⟨_, rfl⟩
    rw [hv] at HC he hV
    have HV := Lib.hid hv
    have hv1 : (v != 0) = true := by simpa using he
    clear hv he
    go_enter Tryd.func19, Tryd.ntmps19
    go_wp2_with fail
    refine HC.out.mono ?_
    rintro e w1 ⟨rfl, hb1⟩
    have hb2 := Below.next HB0.out (by exact hb1)
    clear hb1
    go_wp2_with fail
    go_ret2
    exact ⟨by rw [HV.out, hV.out]; rfl, hb2⟩

set_option maxRecDepth 100000 in
set_option maxHeartbeats 4000000 in
theorem singleErrors_w (a : Option Addr) (len cap : Nat) (z : List Int) (a2 : Option Addr) (len2 cap2 : Nat) (z2 : List Int) (nn : Int) (w : World) (ht : HasTab w) (w0 : IsInts .u16 w a len cap z) (w1 : IsInts .u16 w a2 len2 cap2 z2) (_ : (Lit.int .i64 nn).wf = true) :
    Calls Tryd.prog 5 #[.slice a len cap, .slice a2 len2 cap2, .int .i64 nn] w fun e w' => e = .returned (.bool true) ∧ Below w.heap.size w w' := by
  obtain ⟨f, hf, hlen⟩ := sets_of w0
  obtain ⟨g, hg, hlen2⟩ := sets_of w1
  have HT := Lib.hid ht
  have HF := Lib.hid hf
  have HG := Lib.hid hg
  have HA := Lib.hid (fun w h => awake37_c w h)
  clear w0 w1 hf hg ht hlen hlen2
  by_cases hc : (20 : Int) < (len : Int)
  · have hd : decide ((20 : Int) < (len : Int)) = true := decide_eq_true hc
    clear hc
    go_enter Tryd.func5, Tryd.ntmps5
    go_wp2_with fail
    refine (HA.out w HT.out).mono ?_
    rintro e w1 ⟨rfl, b1⟩
    go_wp2_with fail
    refine (HA.out w1 (HT.out.below b1)).mono ?_
    rintro e w2 ⟨rfl, b2⟩
    go_wp2_with fail
    go_ret
    exact ⟨rfl, Below.next b1 b2⟩
  · have hd : decide ((20 : Int) < (len : Int)) = false := decide_eq_false hc
    by_cases hc2 : (20 : Int) < (len2 : Int)
    · have hd2 : decide ((20 : Int) < (len2 : Int)) = true := decide_eq_true hc2
      clear hc hc2
      go_enter Tryd.func5, Tryd.ntmps5
      go_wp2_with fail
      refine (HA.out w HT.out).mono ?_
      rintro e w1 ⟨rfl, b1⟩
      go_wp2_with fail
      refine (HA.out w1 (HT.out.below b1)).mono ?_
      rintro e w2 ⟨rfl, b2⟩
      go_wp2_with fail
      go_ret
      exact ⟨rfl, Below.next b1 b2⟩
    · have hd2 : decide ((20 : Int) < (len2 : Int)) = false := decide_eq_false hc2
      have HC := Lib.hid (fun w h => clones_c f a len cap w h (by omega))
      have HC2 := Lib.hid (fun w h => clones_c g a2 len2 cap2 w h (by omega))
      have HV := Lib.hid (fun w h h2 => given_c f g nn a len cap a2 len2 cap2 w h h2)
      have HV2 := Lib.hid (fun w h => given_c f [] nn a len cap none 0 0 w h (Rd.none_ w))
      rw [chk_nil] at HV2
      have HN := Lib.hid (fun a c w h => check_nil f nn a len c w h)
      have HW := Lib.hid (fun w h => valid8_c f a len cap w h)
      obtain ⟨k1, k2⟩ := chk1_kinds nn f
      -- the second half, from any world
      have hend : Hid ((chkS nn [f] = 0 ∧ or13 (chkS nn [f]) = 13 ∧ valS f = 0) ∨ ((chkS nn [f] == 0) = false ∧ or13 (chkS nn [f]) = chkS nn [f] ∧ (chkS nn [f] != 13) = true)) := Lib.hid (by
        by_cases h : chkS nn [f] = 0
        · refine .inl ⟨h, by unfold or13; rw [if_pos h], Classical.byContradiction fun hv => k2 hv h⟩
        · exact .inr ⟨by simpa using h, by unfold or13; rw [if_neg h], by simpa using k1⟩)
      obtain ⟨v2, hv2⟩ : ∃ v, chkS nn [f] = v := ⟨_, rfl⟩
      rw [hv2] at HV2 HN hend
      clear hc hc2 k1 k2 hv2
      by_cases he : chkS nn [f, g] = 0
      · rw [he] at HV
        clear he HC2
        go_enter Tryd.func5, Tryd.ntmps5
        go_wp2_with fail
        refine (HA.out w HT.out).mono ?_
        rintro e w1 ⟨rfl, b1⟩
        go_wp2_with fail
        refine (HV.out w1 (HF.out.below b1) (HG.out.below b1)).mono ?_
        rintro e w2 ⟨rfl, b2⟩
        have b3 := Below.next b1 b2
        clear b1 b2 HV HA
        go_wp2_with fail
        refine (HV2.out w2 (HF.out.below b3)).mono ?_
        rintro e w3 ⟨rfl, b4⟩
        have b5 := Below.next b3 b4
        clear b3 b4 HV2
        go_wp2_with fail
        refine (HC.out w3 (HF.out.below b5)).mono ?_
        rintro e w4 ⟨a4, c4, rfl, r4, b6⟩
        have b7 := Below.next b5 b6
        have R4 := Lib.hid r4
        clear r4 b5 b6 HC
        go_wp2_with fail
        refine (HN.out a4 c4 w4 R4.out).mono ?_
        rintro e w5 ⟨rfl, b8⟩
        have b9 := Below.next b7 b8
        clear b7 b8 HN
        rcases hend.out with ⟨rfl, h2, h3⟩ | ⟨h1, h2, h3⟩
        · rw [h2]
          rw [h3] at HW
          clear h2 h3 hend
          go_wp2_with fail
          refine (HW.out w5 (HF.out.below b9)).mono ?_
          rintro e w6 ⟨rfl, b10⟩
          go_wp2_with fail
          go_ret
          exact ⟨rfl, Below.next b9 b10⟩
        · rw [h2]
          obtain ⟨v3, hv3⟩ : ∃ v, valS f = v := ⟨_, rfl⟩
          rw [hv3] at HW
          clear h2 hend hv3
          go_wp2_with fail
          refine (HW.out w5 (HF.out.below b9)).mono ?_
          rintro e w6 ⟨rfl, b10⟩
          by_cases h0 : v3 = 0
          · subst h0
            go_wp2_with fail
            go_ret
            exact ⟨ret_bool (by simp), Below.next b9 b10⟩
          · have h0' : (v3 == 0) = false := by simpa using h0
            clear h0
            go_wp2_with fail
            go_ret
            exact ⟨ret_bool (by simp [h3]), Below.next b9 b10⟩
      · have HR := Lib.hid (fun a c a2 c2 a3 n3 c3 w h h2 => run_err f g nn a len c a2 len2 c2 a3 n3 c3 w h h2 he)
        have hatt : attS f g nn = ([], chkS nn [f, g]) := by unfold attS; rw [if_pos he]
        have HK := Lib.hid (fun a c a2 c2 w h h2 ht => attack_c f g nn a len c a2 len2 c2 w h h2 ht)
        rw [hatt] at HK
        obtain ⟨v1, hv1⟩ : ∃ v, chkS nn [f, g] = v := ⟨_, rfl⟩
        rw [hv1] at HV HR HK he
        have hv1' : (v1 != 0) = true := by simpa using he
        clear he hatt hv1
        go_enter Tryd.func5, Tryd.ntmps5
        go_wp2_with fail
        refine (HA.out w HT.out).mono ?_
        rintro e w1 ⟨rfl, b1⟩
        go_wp2_with fail
        refine (HV.out w1 (HF.out.below b1) (HG.out.below b1)).mono ?_
        rintro e w2 ⟨rfl, b2⟩
        have b3 := Below.next b1 b2
        clear b1 b2 HV HA
        go_wp2_with fail
        refine (HC.out w2 (HF.out.below b3)).mono ?_
        rintro e w3 ⟨a3, c3, rfl, r3, b4⟩
        have b5 := Below.next b3 b4
        have R3 := Lib.hid r3
        clear r3 b3 b4
        go_wp2_with fail
        refine (HC2.out w3 (HG.out.below b5)).mono ?_
        rintro e w4 ⟨a4, c4, rfl, r4, b6⟩
        have b7 := Below.next b5 b6
        have R4 := Lib.hid r4
        have R3' := Lib.hid (R3.out.below b6)
        clear r4 b5 b6 R3
        go_wp2_with fail
        have b8 : Below w4.heap.size w4 (w4.alloc (.cells #[.int .u8 0, .int .u8 1] 5)) := (Below.refl _ _).alloc (Nat.le_refl _) _
        refine (HR.out a3 c3 a4 c4 _ 2 2 _ (R3'.out.below b8) (R4.out.below b8)).mono ?_
        rintro e w5 ⟨rfl, b9⟩
        have b10 := Below.next (Below.next b7 b8) b9
        clear b7 b8 b9 R3' R4 HR
        go_wp2_with fail
        refine (HC.out w5 (HF.out.below b10)).mono ?_
        rintro e w6 ⟨a6, c6, rfl, r6, b11⟩
        have b12 := Below.next b10 b11
        have R6 := Lib.hid r6
        clear r6 b10 b11
        go_wp2_with fail
        refine (HC2.out w6 (HG.out.below b12)).mono ?_
        rintro e w7 ⟨a7, c7, rfl, r7, b13⟩
        have b14 := Below.next b12 b13
        have R7 := Lib.hid r7
        have R6' := Lib.hid (R6.out.below b13)
        clear r7 b12 b13 R6
        go_wp2_with fail
        refine (HK.out a6 c6 a7 c7 w7 R6'.out R7.out (HT.out.below b14)).mono ?_
        rintro e w8 ⟨a8, c8, rfl, _, b15⟩
        have b16 := Below.next b14 b15
        clear b14 b15 R6' R7 HK
        go_wp2_with fail
        refine (HV2.out w8 (HF.out.below b16)).mono ?_
        rintro e w9 ⟨rfl, b17⟩
        have b18 := Below.next b16 b17
        clear b16 b17 HV2
        go_wp2_with fail
        refine (HC.out w9 (HF.out.below b18)).mono ?_
        rintro e wA ⟨a4, c4, rfl, r4, b6⟩
        have b7 := Below.next b18 b6
        have R4 := Lib.hid r4
        clear r4 b18 b6 HC
        go_wp2_with fail
        refine (HN.out a4 c4 wA R4.out).mono ?_
        rintro e w5 ⟨rfl, b8⟩
        have b9 := Below.next b7 b8
        clear b7 b8 HN
        rcases hend.out with ⟨rfl, h2, h3⟩ | ⟨h1, h2, h3⟩
        · rw [h2]
          rw [h3] at HW
          clear h2 h3 hend
          go_wp2_with fail
          refine (HW.out w5 (HF.out.below b9)).mono ?_
          rintro e w6 ⟨rfl, b10⟩
          go_wp2_with fail
          go_ret
          exact ⟨rfl, Below.next b9 b10⟩
        · rw [h2]
          obtain ⟨v3, hv3⟩ : ∃ v, valS f = v := ⟨_, rfl⟩
          rw [hv3] at HW
          clear h2 hend hv3
          go_wp2_with fail
          refine (HW.out w5 (HF.out.below b9)).mono ?_
          rintro e w6 ⟨rfl, b10⟩
          by_cases h0 : v3 = 0
          · subst h0
            go_wp2_with fail
            go_ret
            exact ⟨ret_bool (by simp), Below.next b9 b10⟩
          · have h0' : (v3 == 0) = false := by simpa using h0
            clear h0
            go_wp2_with fail
            go_ret
            exact ⟨ret_bool (by simp [h3]), Below.next b9 b10⟩
end Go.Proofs.YtgfjmplifmbmlaaDoor
namespace Go.Proofs.YtgfjmplifmbmlaaDoor
open Go.RowKit Go.Maps

def evV (e : Ev) : Value := .agg #[.int .i64 e.kind, .int .i64 e.server, .int .i64 e.ballot, .string e.value]
theorem repE_le (n : Nat) (l : List Ev) (b : Int) (k : Nat) : (repE n l b k).length ≤ 1 := by
  unfold repE
  split
  · split <;> simp
  · simp
theorem repS_le (n : Nat) (l : List Ev) (b : Int) : (repS n l b).length ≤ l.length := by
  unfold repS
  have : ∀ k, (repTo n l b k).length ≤ k := by
    intro k
    induction k with
    | zero => simp [repTo]
    | succ k ih => rw [repTo_succ, List.length_append]; have := repE_le n l b k; omega
  exact this _

theorem add_yes {read : List (BitVec 16)} {ra : Option Addr} {rn rc B m cnt : Nat} {l : List Ev} {f : Lit → Option Value} {e : Ev} (hm : m ≤ 12) (hi : Inv m l) (hl : l.length ≤ 1000) (hcnt : cnt ≤ 1000) (hw : (Lit.int .i64 e.ballot).wf = true) (hf : folS read m l e = true) (w : World) (hr : Rd w ra rn rc (read.map setV2)) (h : StM w B m cnt (.slice ra rn rc) (stOf m l) f) :
    Calls Tryd.prog 38 #[.pointer (some ⟨B + 3, 0, none⟩), evV e] w fun x w' => x = .returned (.bool true) ∧ Below B w w' ∧ ∃ f', StM w' B m (cnt + 1) (.slice ra rn rc) (stOf m (l ++ [e])) f' ∧ Frm B f f' w w' := by
  obtain ⟨hi2, hP⟩ := fol_step hm hi hf
  obtain ⟨k, s, b, x⟩ := e
  unfold folS at hf
  simp only at hf hw
  split at hf
  · cases hf
  · rename_i hr0
    obtain ⟨s', rfl⟩ := Int.eq_ofNat_of_zero_le (by omega : 0 ≤ s)
    have hs : s' < m := by omega
    have hb1 : 1 ≤ b := by omega
    have hc : ¬ ((s' : Int) < 0 ∨ (((stOf m l).acc.length : Nat) : Int) ≤ (s' : Int) ∨ b < 1) := by
      show ¬ ((s' : Int) < 0 ∨ ((repA m l).length : Int) ≤ (s' : Int) ∨ b < 1)
      rw [repA_len]; omega
    unfold addP at hP
    simp only at hP
    rw [if_neg hc] at hP
    split at hf
    · rename_i hk
      subst hk
      have hf0 := hf
      rw [Bool.and_eq_true] at hf
      rw [if_pos rfl, if_pos (by exact hf0)] at hP
      have hx : x = ⟨#[]⟩ := bs_ext (by have := hf.2; unfold emB at this; rw [eq_of_beq this]; decide +kernel)
      subst hx
      have hp : (atS (stOf m l).acc (s' : Int)).prom < b := by have := hf.1; unfold promB at this; show (atS (repA m l) (s' : Int)).prom < b; simpa using this
      injection hP with hP
      rw [← hP]
      exact add1_c B m cnt _ (stOf m l) f s' b hs hb1 hw hm hcnt (by have := repS_le m l b; show (repS m l b).length ≤ 1000; omega) hp w h
    · rename_i hk1
      split at hf
      · rename_i hk
        subst hk
        rw [Bool.and_eq_true, Bool.and_eq_true, Bool.not_eq_true'] at hf
        have hok : okP (valP read (stOf m l) b) x = true := by rw [okP_okD hi hb1]; exact hf.2
        rw [if_neg (by decide), if_pos rfl, if_pos (by rw [hok, Bool.and_true, Bool.and_eq_true, Bool.not_eq_true']; exact hf.1)] at hP
        have hp : (atS (stOf m l).acc (s' : Int)).prom ≤ b := by have := hf.1.1; unfold accpB at this; simp at this; exact this.2
        injection hP with hP
        rw [← hP]
        exact add2_c read ra rn rc B m cnt (stOf m l) f s' b x hs hb1 hw hm hcnt hp hf.1.2 hok w hr h
      · cases hf
theorem add_no {read : List (BitVec 16)} {ra : Option Addr} {rn rc B m cnt : Nat} {l : List Ev} {f : Lit → Option Value} {e : Ev} (hm : m ≤ 12) (hi : Inv m l) (hw : (Lit.int .i64 e.ballot).wf = true) (hf : folS read m l e = false) (w : World) (hr : Rd w ra rn rc (read.map setV2)) (h : StM w B m cnt (.slice ra rn rc) (stOf m l) f) :
    Calls Tryd.prog 38 #[.pointer (some ⟨B + 3, 0, none⟩), evV e] w fun x w' => x = .returned (.bool false) ∧ Below w.heap.size w w' := by
  obtain ⟨k, s, b, x⟩ := e
  unfold folS at hf
  simp only at hf hw
  by_cases hr0 : s < 0 ∨ (m : Int) ≤ s ∨ b < 1
  · exact addn0_c B m cnt _ _ f k s b x hm hr0 w h
  · rw [if_neg hr0] at hf
    obtain ⟨s', rfl⟩ := Int.eq_ofNat_of_zero_le (by omega : 0 ≤ s)
    have hs : s' < m := by omega
    have hb1 : 1 ≤ b := by omega
    by_cases hk1 : k = 1
    · subst hk1
      rw [if_pos rfl] at hf
      refine addn1_c B m cnt _ (stOf m l) f s' b x hs hb1 hm ?_ w h
      show b ≤ (atS (repA m l) (s' : Int)).prom ∨ _
      unfold promB at hf
      by_cases h9 : (atS (repA m l) (s' : Int)).prom < b
      · rw [decide_eq_true h9] at hf; exact .inr (by simpa using hf)
      · exact .inl (by omega)
    · by_cases hk2 : k = 2
      · subst hk2
        rw [if_neg (by decide), if_pos rfl] at hf
        refine addn2_c read ra rn rc B m cnt (stOf m l) f s' b x hs hb1 hw hm ?_ w hr h
        rw [okP_okD hi hb1]; exact hf
      · exact addn9_c B m cnt _ _ f k s' b x hm hs hb1 hk1 hk2 w h

theorem made_acc (m : Nat) (hm : m ≤ 12) : madeCells #[.int .i64 0, .int .i64 0, .string ⟨#[]⟩] (m * 3) = ((List.replicate m acc0).flatMap accC).toArray := by
  apply Array.ext
  · simp [madeCells, flat_len 3 accC accC_len]
  · intro i h1 h2
    have hl : i < m * 3 := by simpa [madeCells] using h1
    obtain ⟨q, r, hr, hi⟩ : ∃ q r, r < 3 ∧ i = q * 3 + r := ⟨i / 3, i % 3, by omega, by omega⟩
    subst hi
    have hq : q < m := by omega
    have hx : (List.replicate m acc0)[q]? = some acc0 := by rw [List.getElem?_replicate, if_pos hq]
    have h3 := flat_at 3 accC accC_len (List.replicate m acc0) q r acc0 hx hr
    have h4 : ((List.replicate m acc0).flatMap accC).toArray[q * 3 + r]? = (accC acc0)[r]? := by simpa using h3
    rw [Array.getElem?_eq_getElem h2] at h4
    have h5 : (accC acc0)[r]? = some ((madeCells #[.int .i64 0, .int .i64 0, .string ⟨#[]⟩] (m * 3))[q * 3 + r]) := by
      simp only [madeCells, Array.getElem_ofFn]
      match r, hr with
      | 0, _ => simp [accC, acc0]
      | 1, _ => simp [accC, acc0, Nat.add_mod]
      | 2, _ => simp [accC, acc0, Nat.add_mod]
    rw [h5] at h4
    exact (Option.some.inj h4).symm
theorem stOf_nil (m : Nat) : stOf m [] = st0 m := rfl
theorem begin_st (m : Nat) (hm : m ≤ 12) (a : Option Addr) (n c : Nat) (w : World) :
    Calls Tryd.prog 36 #[.slice a n c, .int .i64 m] w fun e w' => e = .returned (.pointer (some ⟨w.heap.size + 3, 0, none⟩)) ∧ Below w.heap.size w w' ∧ StM w' w.heap.size m 0 (.slice a n c) (stOf m []) (fun _ => none) := by
  refine (begin_c m hm a n c w).mono fun e w' ⟨h1, h2⟩ => ⟨h1, ?_, ?_⟩
  · rw [h2]; exact ((((Below.refl _ w).alloc (Nat.le_refl _) _).alloc (by simp) _).alloc (by simp; omega) _).alloc (by simp; omega) _
  · rw [made_acc m hm] at h2
    obtain ⟨wA, hA⟩ : ∃ x, w.alloc (.cells ((List.replicate m acc0).flatMap accC).toArray 96) = x := ⟨_, rfl⟩
    obtain ⟨wB, hB⟩ : ∃ x, wA.alloc (.map #[] 0) = x := ⟨_, rfl⟩
    obtain ⟨wC, hC⟩ : ∃ x, wB.alloc (.map #[] 0) = x := ⟨_, rfl⟩
    rw [hA, hB, hC] at h2
    have sA : wA.heap.size = w.heap.size + 1 := by rw [← hA]; simp
    have sB : wB.heap.size = w.heap.size + 2 := by rw [← hB, World.size_alloc, sA]
    have sC : wC.heap.size = w.heap.size + 3 := by rw [← hC, World.size_alloc, sB]
    have bAB : Below wA.heap.size wA wB := by rw [← hB]; exact blA _ _
    have bBC : Below wB.heap.size wB wC := by rw [← hC]; exact blA _ _
    have bCD : Below wC.heap.size wC w' := by rw [h2]; exact blA _ _
    have fB : FM wB Tryd.prog 3 (w.heap.size + 1) 0 (fun _ => none) := by
      have := FM.made wA Tryd.prog 3
      rw [hB, sA] at this; exact this
    have fC : FM wC Tryd.prog 3 (w.heap.size + 2) 0 (fun _ => none) := by
      have := FM.made wB Tryd.prog 3
      rw [hC, sB] at this; exact this
    have hacc : wA.heap[w.heap.size]? = some (.cells ((List.replicate m acc0).flatMap accC).toArray 96 (0, 0)) := by rw [← hA]; exact heap_alloc_new w _
    refine ⟨heap_below bCD (heap_below bBC (heap_below bAB hacc)), by show (repA m []).length = m; rw [repA_len], ?_, (fB.below bBC).below bCD, (fC.below bCD).congr (fun y => rfl), fun b => rfl, fun b b' v v' _ h => (by cases h), fun b r hr => by simp [stOf, repS, repTo] at hr⟩
    have := heap_alloc_new wC (.cells #[.slice a n c, .slice (some ⟨w.heap.size, 0, none⟩) m m, .map (some (w.heap.size + 1)), .map (some (w.heap.size + 2))] 94)
    rw [sC, ← h2] at this
    exact this
end Go.Proofs.YtgfjmplifmbmlaaDoor
namespace Go.Proofs.YtgfjmplifmbmlaaDoor
open Go.RowKit
section
variable {P : Program} {ops : Array Oper} {md : Region.Mode} {C : World → Prop}

/-- the first n operations in any order, each quiet in the class; then L -/
def headQ (P : Program) (md : Region.Mode) (ops : Array Oper) (C : World → Prop) (n : Nat) (L : Array Bool → Act → Prop) : Nat → Array Bool → Act → Prop
  | 0, listed, a => L listed a
  | f + 1, listed, a => Region.ready md ops listed ≠ [] ∧ ∀ i ∈ Region.ready md ops listed, i < n ∧ qOp P ops C i (headQ P md ops C n L f (listed.setIfInBounds i true)) a

theorem any_of_headQ {n g : Nat} {L : Array Bool → Act → Prop} {Q' : Exit → Act → World → Prop} (hL : ∀ listed a w, C w → L listed a → wpAny P md ops Q' g listed a w) :
    ∀ (f : Nat) (listed : Array Bool) (a : Act) (w : World), C w → headQ P md ops C n L f listed a → wpAny P md ops Q' (f + g) listed a w
  | 0, listed, a, w, hw, h => by rw [Nat.zero_add]; exact hL _ _ _ hw h
  | f + 1, listed, a, w, hw, h => by
    rw [show f + 1 + g = (f + g) + 1 by omega]
    exact ⟨fun h0 => absurd h0 h.1, fun i hi => wpOp_of_qOp hw (fun a' w' hw' h' => any_of_headQ hL f _ a' w' hw' h') (h.2 i hi).2⟩

theorem headQ_first {n i : Nat} {oi : Oper} {v : Value} {L : Array Bool → Act → Prop} (hi : ops[i]? = some oi) (hsel : ∀ (j : Nat) (o : Oper) cs b, ops[j]? = some o → o.op ≠ .select cs b)
    (hs : Region.sinkB md ops n = true) (hc : Region.chainB md ops n = true) (hn : n < ops.size) (hin : i < n)
    (hdone : ∀ listed a, L listed a → ∀ j ∈ Region.ready md ops listed, n ≤ j) :
    ∀ (f : Nat) (listed : Array Bool) (a : Act), HeadInv md ops n listed →
      (∀ j oj, ops[j]? = some oj → j ≠ i → listed.getD j true = false → (∀ e ∈ oj.after, Region.binds md e = true → e.on ≠ i) → oi.apart ops oj = true) →
      i ∈ Region.ready md ops listed → YieldsIn P ops C oi v a →
      headQ P md ops C n L f (listed.setIfInBounds i true) (a.put oi.dst v) → headQ P md ops C n L (f + 1) listed a := by
  intro f
  induction f with
  | zero =>
    intro listed a inv _ hr hy H
    have hun := (mem_ready.1 hr).1
    refine ⟨fun h => (by rw [h] at hr; cases hr), fun j hj => ?_⟩
    have hjn : j < n := by
      rcases Nat.lt_or_ge j n with h | h
      · exact h
      · exact absurd hj (tail_waits hs hc hn inv _ i rfl hin hun j h)
    refine ⟨hjn, ?_⟩
    by_cases hji : j = i
    · subst hji; exact hy.qOp hi H
    · have := hdone _ _ H j (ready_mono hj hji)
      omega
  | succ f ih =>
    intro listed a inv hfree hr hy H
    have hun := (mem_ready.1 hr).1
    refine ⟨fun h => (by rw [h] at hr; cases hr), fun j hj => ?_⟩
    have hjn : j < n := by
      rcases Nat.lt_or_ge j n with h | h
      · exact h
      · exact absurd hj (tail_waits hs hc hn inv _ i rfl hin hun j h)
    refine ⟨hjn, ?_⟩
    by_cases hji : j = i
    · subst hji; exact hy.qOp hi H
    · have h1 := (H.2 j (ready_mono hj hji)).2
      obtain ⟨hjun, oj, hoj, hall⟩ := mem_ready.1 hj
      have hnot : ∀ e ∈ oj.after, Region.binds md e = true → e.on ≠ i := fun e he hb heq => by
        have h1 := hall e he hb
        rw [heq, getD_both hun] at h1
        cases h1
      have h2 := qOp_put hoj (hfree j oj hoj hji hjun hnot) (fun cs b => hsel i oi cs b hi) (fun cs b => hsel j oj cs b hoj) hy h1
      have hfree' : ∀ k ok, ops[k]? = some ok → k ≠ i → (listed.setIfInBounds j true).getD k true = false →
          (∀ e ∈ ok.after, Region.binds md e = true → e.on ≠ i) → oi.apart ops ok = true := fun k ok hk hki hun hno => by
        refine hfree k ok hk hki ?_ hno
        by_cases hjk : j = k
        · subst hjk; exact hjun
        · rw [getD_set_ne true hjk] at hun; exact hun
      refine qOp_mono (fun a' h3 => ih (listed.setIfInBounds j true) a' (inv.set hj hjn) hfree' (ready_mono hr (Ne.symm hji)) h3.1 ?_) h2
      rw [Array.setIfInBounds_comm _ _ hji]
      exact h3.2

theorem headQ_lex {n g : Nat} {Lq : Act → Prop} (hsel : Region.noSelect ops = true) (hs : Region.sinkB md ops n = true) (hc : Region.chainB md ops n = true) (hn : n < ops.size) :
    ∀ (l : List Oper) (k : Nat) (listed : Array Bool) (a : Act), (∀ j, j < l.length → l[j]? = ops[k + j]?) → k + l.length = n → HeadInv md ops n listed →
    Region.lexHead md ops g l.length k listed = true → wpQuiet P ops C Lq l a →
    headQ P md ops C n (fun listed' a' => Region.seqB md ops g n listed' = true ∧ Lq a') l.length listed a
  | [], k, listed, a, _, hk, _, hB, h => by
    have : k = n := by simpa using hk
    subst this
    exact ⟨by simpa [Region.lexHead] using hB, h⟩
  | o :: l, k, listed, a, hl, hk, inv, hB, h => by
    have h0 : ops[k]? = some o := by simpa using (hl 0 (by simp)).symm
    simp only [List.length_cons, Region.lexHead, Bool.and_eq_true] at hB
    obtain ⟨⟨hr, hf⟩, hB'⟩ := hB
    have hkn : k < n := by simp only [List.length_cons] at hk; omega
    have hr' : k ∈ Region.ready md ops listed := by simpa using hr
    have hst : qOp P ops C k (wpQuiet P ops C Lq l) a := by unfold qOp; simp only [h0]; exact h
    obtain ⟨v, hy, hK⟩ := yieldsIn_of_qOp h0 hst
    exact headQ_first h0 (Region.noSelect_spec hsel) hs hc hn hkn (fun listed' a' hL => seqB_ready hL.1) l.length listed a inv (Region.free_spec h0 hf) hr' hy
      (headQ_lex hsel hs hc hn l (k + 1) _ _ (fun j hj => by have := hl (j + 1) (by simp; omega); simpa [Nat.add_assoc, Nat.add_comm 1 j] using this) (by simp only [List.length_cons] at hk; omega) (inv.set hr' hkn) hB' hK)

/-- one walk in the order of the text serves every order; the tail stands behind, in any world of the class -/
theorem wp_region_quiet_tail {id : Nat} {Q : Exit → Act → World → Prop} {a : Act} {w : World} {l : List Oper} (C : World → Prop) (n : Nat) (hm : P.follows .mixedOrders = true) (hB : Region.lexTailB .any l.toArray n = true) (hC : C { w with drawn := w.drawn + 1 })
    (h : wpQuiet P l.toArray C (fun a' => ∀ w', C w' → wpList P l.toArray Q (l.drop n) a' w') (l.take n) a) : (Code.region id l.toArray true).wp P Q a w := by
  simp only [Region.lexTailB, Bool.and_eq_true, decide_eq_true_eq] at hB
  obtain ⟨⟨⟨⟨hsel, hn⟩, hs⟩, hc⟩, hlex⟩ := hB
  have hn' : n < l.length := by simpa using hn
  have htl : (l.take n).length = n := by simp; omega
  have hdl : (l.drop n).length = l.toArray.size - n := by simp
  have inv0 : HeadInv .any l.toArray n (Array.replicate l.toArray.size false) :=
    ⟨by simp, fun j oj _ hl => (by rw [getD_replicate_false] at hl; cases hl), fun t _ ht => getD_in (by simpa using ht) (getD_replicate_false _ _)⟩
  have H := headQ_lex (md := .any) (C := C) (g := l.toArray.size - n) hsel hs hc hn (l.take n) 0 _ a (fun j hj => by
    have hj' : j < n := by rw [htl] at hj; exact hj
    simp [hj']) (by simpa using htl) inv0 (by rw [htl]; exact hlex) h
  refine wp_region_any hm ?_
  have := any_of_headQ (Q' := Q) (g := l.toArray.size - n) (fun listed a' w' hw' hL => by
    have := wpAny_of_seq (md := .any) (Q' := Q) (l.drop n) n listed a' w' (fun j => by simp [List.getElem?_drop]) (by rw [hdl]; exact hL.1) (hL.2 w' hw')
    rwa [hdl] at this) _ _ _ _ hC H
  rw [htl, show n + (l.toArray.size - n) = l.toArray.size by omega] at this
  exact this
end
end Go.Proofs.YtgfjmplifmbmlaaDoor
namespace Go.Proofs.YtgfjmplifmbmlaaDoor
open Go.RowKit
section
variable {P : Program} {ops : Array Oper} {md : Region.Mode} {C D : World → Prop}

def inC (C D : World → Prop) (b : Bool) (w : World) : Prop := match b with
  | true => D w
  | false => C w
def StoreAt (P : Program) (o : Oper) (a : Act) (C D : World → Prop) : Prop := ∀ w, C w → ∃ w', (execOp a.eval o).run P w = .ok .skip w' ∧ D w'
def walkT (P : Program) (md : Region.Mode) (ops : Array Oper) (C D : World → Prop) (t : Nat) (Q : Act → Prop) : Nat → Array Bool → Act → Prop
  | 0, listed, a => Region.ready md ops listed = [] ∧ listed.getD t true = true ∧ Q a
  | f + 1, listed, a => (Region.ready md ops listed = [] → listed.getD t true = true ∧ Q a) ∧ ∀ i ∈ Region.ready md ops listed,
      (i ≠ t → qOp P ops (inC C D (listed.getD t true)) i (walkT P md ops C D t Q f (listed.setIfInBounds i true)) a) ∧
      (i = t → ∃ o, ops[t]? = some o ∧ Region.wanted o (yielded ops a.tmps) = true ∧ StoreAt P o a C D ∧ walkT P md ops C D t Q f (listed.setIfInBounds t true) (a.put o.dst undef))

theorem getD_set_same (listed : Array Bool) (t : Nat) : (listed.setIfInBounds t true).getD t true = true := by
  rw [Array.getD_eq_getD_getElem?, Array.getElem?_setIfInBounds, if_pos rfl]
  split <;> rfl
theorem any_of_walkT {t : Nat} {Q : Act → Prop} {Q' : Exit → Act → World → Prop} (hQ : ∀ a w, D w → Q a → Q' .normal a w) :
    ∀ (f : Nat) (listed : Array Bool) (a : Act) (w : World), inC C D (listed.getD t true) w → walkT P md ops C D t Q f listed a → wpAny P md ops Q' f listed a w
  | 0, listed, a, w, hw, h => ⟨h.1, hQ _ _ (by have := h.2.1; rw [this] at hw; exact hw) h.2.2⟩
  | f + 1, listed, a, w, hw, h => by
    refine ⟨fun h0 => ?_, fun i hi => ?_⟩
    · obtain ⟨h1, h2⟩ := h.1 h0
      exact hQ _ _ (by rw [h1] at hw; exact hw) h2
    · by_cases hit : i = t
      · subst hit
        obtain ⟨o, ho, hwd, hst, hn⟩ := (h.2 i hi).2 rfl
        have hun := (mem_ready.1 hi).1
        rw [hun] at hw
        obtain ⟨w', hr, hD⟩ := hst w hw
        unfold wpOp
        simp only [ho]
        rw [if_pos hwd]
        left
        unfold Oper.wp
        rw [hr]
        exact any_of_walkT hQ f _ _ _ (by rw [getD_set_same]; exact hD) hn
      · exact wpOp_of_qOp hw (fun a' w' hw' h' => any_of_walkT hQ f _ a' w' (by rw [getD_set_ne true hit]; exact hw') h') ((h.2 i hi).1 hit)

theorem qOp_put2 {C' : World → Prop} {j : Nat} {oi oj : Oper} {v : Value} (hj : ops[j]? = some oj) (hap : oi.apart ops oj = true)
    (hsj : ∀ cs b, oj.op ≠ .select cs b) {K : Act → Prop} {a : Act} (h : qOp P ops C' j K (a.put oi.dst v)) :
    qOp P ops C' j (fun a' => (∃ u, a' = a.put oj.dst u) ∧ K (a'.put oi.dst v)) a := by
  obtain ⟨h1, h2, h3⟩ := Oper.apart_spec hap
  unfold qOp at *
  simp only [hj] at *
  rw [wanted_put oj a oi.dst v h1] at h
  split
  · rename_i hw
    simp only [hw, if_true] at h
    obtain ⟨u, hu, hn⟩ := h
    refine ⟨u, fun w hw' => ?_, ⟨u, rfl⟩, by rw [← Act.put_comm a v u h2]; exact hn⟩
    have := hu w hw'
    unfold Oper.quietAt at *
    rwa [execOp_put oj hsj a oi.dst v h1] at this
  · rename_i hw
    simp only [hw] at h
    exact ⟨⟨undef, rfl⟩, by rw [← Act.put_comm a v undef h2]; exact h⟩

theorem walkT_first {t i : Nat} {oi : Oper} {v : Value} {Q : Act → Prop} (hi : ops[i]? = some oi) (hit : i ≠ t) (hsel : ∀ (j : Nat) (o : Oper) cs b, ops[j]? = some o → o.op ≠ .select cs b)
    (late : Bool) (hlate : late = false → Region.waitsFor md ops t i = true) :
    ∀ (f : Nat) (listed : Array Bool) (a : Act),
      (∀ j oj, ops[j]? = some oj → j ≠ i → listed.getD j true = false → (∀ e ∈ oj.after, Region.binds md e = true → e.on ≠ i) → oi.apart ops oj = true) →
      i ∈ Region.ready md ops listed → (listed.getD t true = false → YieldsIn P ops C oi v a) → ((late = true ∨ listed.getD t true = true) → YieldsIn P ops D oi v a) →
      walkT P md ops C D t Q f (listed.setIfInBounds i true) (a.put oi.dst v) → walkT P md ops C D t Q (f + 1) listed a := by
  have yin : ∀ (listed : Array Bool) (a : Act), (listed.getD t true = false → YieldsIn P ops C oi v a) → ((late = true ∨ listed.getD t true = true) → YieldsIn P ops D oi v a) → YieldsIn P ops (inC C D (listed.getD t true)) oi v a := by
    intro listed a h1 h2
    cases hb : listed.getD t true
    · exact h1 hb
    · exact h2 (.inr hb)
  intro f
  induction f with
  | zero =>
    intro listed a _ hr hC hD H
    refine ⟨fun h => (by rw [h] at hr; cases hr), fun j hj => ?_⟩
    by_cases hji : j = i
    · subst hji; exact ⟨fun _ => (yin listed a hC hD).qOp hi H, fun h => absurd h hit⟩
    · have := ready_mono hj hji
      rw [H.1] at this
      cases this
  | succ f ih =>
    intro listed a hfree hr hC hD H
    refine ⟨fun h => (by rw [h] at hr; cases hr), fun j hj => ?_⟩
    by_cases hji : j = i
    · subst hji; exact ⟨fun _ => (yin listed a hC hD).qOp hi H, fun h => absurd h hit⟩
    · have hHj := H.2 j (ready_mono hj hji)
      obtain ⟨hjun, oj, hoj, hall⟩ := mem_ready.1 hj
      have hiun := (mem_ready.1 hr).1
      have hnot : ∀ e ∈ oj.after, Region.binds md e = true → e.on ≠ i := fun e he hb heq => by
        have h1 := hall e he hb
        rw [heq, getD_both hiun] at h1
        cases h1
      have hap := hfree j oj hoj hji hjun hnot
      obtain ⟨p1, p2, p3⟩ := Oper.apart_spec hap
      have hsi := fun cs b => hsel i oi cs b hi
      have keep : ∀ (E : World → Prop), YieldsIn P ops E oi v a → ∀ u, YieldsIn P ops E oi v (a.put oj.dst u) := fun E hy u =>
        hy.of_same (execOp_put oi hsi a oj.dst u p3) (wanted_put oi a oj.dst u p3)
      have hfree' : ∀ k ok, ops[k]? = some ok → k ≠ i → (listed.setIfInBounds j true).getD k true = false →
          (∀ e ∈ ok.after, Region.binds md e = true → e.on ≠ i) → oi.apart ops ok = true := fun k ok hk hki hun hno => by
        refine hfree k ok hk hki ?_ hno
        by_cases hjk : j = k
        · subst hjk; exact hjun
        · rw [getD_set_ne true hjk] at hun; exact hun
      by_cases hjt : j = t
      · subst hjt
        refine ⟨fun h => absurd rfl h, fun _ => ?_⟩
        have hl : late = true := by
          cases hl : late
          · exfalso
            obtain ⟨oj', hoj', e, he, hb, hon⟩ := Region.waitsFor_spec (hlate hl)
            rw [hoj] at hoj'
            cases hoj'
            exact hnot e he hb hon
          · rfl
        obtain ⟨o, ho, hwd, hst, hn⟩ := hHj.2 rfl
        rw [hoj] at ho
        cases ho
        refine ⟨oj, hoj, by rw [wanted_put oj a oi.dst v p1] at hwd; exact hwd, fun w hw => ?_, ?_⟩
        · obtain ⟨w', hr', hD'⟩ := hst w hw
          rw [execOp_put oj (fun cs b => hsel j oj cs b hoj) a oi.dst v p1] at hr'
          exact ⟨w', hr', hD'⟩
        · refine ih (listed.setIfInBounds j true) _ hfree' (ready_mono hr (Ne.symm hji)) (fun h => by rw [getD_set_same] at h; cases h) (fun _ => keep D (hD (.inl hl)) undef) ?_
          rw [Array.setIfInBounds_comm _ _ hji, ← Act.put_comm a v undef p2]
          exact hn
      · refine ⟨fun _ => ?_, fun h => absurd h hjt⟩
        have e1 : (listed.setIfInBounds i true).getD t true = listed.getD t true := getD_set_ne true hit
        have e2 : (listed.setIfInBounds j true).getD t true = listed.getD t true := getD_set_ne true hjt
        have h1 := hHj.1 hjt
        rw [e1] at h1
        refine qOp_mono (fun a' h3 => ?_) (qOp_put2 hoj hap (fun cs b => hsel j oj cs b hoj) h1)
        obtain ⟨⟨u, hu⟩, h4⟩ := h3
        refine ih (listed.setIfInBounds j true) a' hfree' (ready_mono hr (Ne.symm hji)) (fun h => by rw [hu]; exact keep C (hC (by rw [← e2]; exact h)) u) (fun h => by rw [hu]; exact keep D (hD (h.imp id fun h => by rw [← e2]; exact h)) u) ?_
        rw [Array.setIfInBounds_comm _ _ hji]
        exact h4

/-- a late one yields behind the store, too -/
def LateAt (P : Program) (D : World → Prop) (late : Nat → Bool) (k : Nat) (o : Oper) (a : Act) (v : Value) : Prop := late k = true → ∀ w, D w → o.quietAt P a D w v
theorem late_not {late : Nat → Bool} {k : Nat} {o : Oper} {a : Act} {v : Value} (h : late k = false) : LateAt P D late k o a v := fun h' => by rw [h] at h'; cases h'
/-- the walk in the order of the text; the late ones yield behind the store, too -/
def wpT (P : Program) (ops : Array Oper) (C D : World → Prop) (late : Nat → Bool) (Qt : Act → Prop) : Nat → List Oper → Act → Prop
  | _, [], a => Qt a
  | k, o :: rest, a => if Region.wanted o (yielded ops a.tmps) = true then ∃ v, (∀ w, C w → o.quietAt P a C w v) ∧ LateAt P D late k o a v ∧ wpT P ops C D late Qt (k + 1) rest (a.put o.dst v)
      else wpT P ops C D late Qt (k + 1) rest (a.put o.dst undef)
theorem wpT_nil {late : Nat → Bool} {Qt : Act → Prop} {k : Nat} {a : Act} (h : Qt a) : wpT P ops C D late Qt k [] a := h
theorem wpT_step {late : Nat → Bool} {Qt : Act → Prop} {k : Nat} {o : Oper} {rest : List Oper} {a : Act}
    (h : ∀ K : Act → Prop, (∀ a, wpT P ops C D late Qt (k + 1) rest a → K a) → if Region.wanted o (yielded ops a.tmps) = true then ∃ v, (∀ w, C w → o.quietAt P a C w v) ∧ LateAt P D late k o a v ∧ K (a.put o.dst v) else K (a.put o.dst undef)) :
    wpT P ops C D late Qt k (o :: rest) a := h _ (fun _ h => h)

theorem walkT_lex {t : Nat} {late : Nat → Bool} {Q : Act → Prop} (hsel : Region.noSelect ops = true) (hlate : ∀ i, i < t → late i = false → Region.waitsFor md ops t i = true) :
    ∀ (l : List Oper) (k : Nat) (listed : Array Bool) (a : Act), (∀ j, j < l.length → l[j]? = ops[k + j]?) → k + l.length = t → listed.getD t true = false →
    Region.lexFrom md ops (l.length + 1) k listed = true →
    wpT P ops C D late (fun a' => ∃ o, ops[t]? = some o ∧ Region.wanted o (yielded ops a'.tmps) = true ∧ StoreAt P o a' C D ∧ Q (a'.put o.dst undef)) k l a →
    walkT P md ops C D t Q (l.length + 1) listed a
  | [], k, listed, a, _, hk, hun, hB, h => by
    have hkt : k = t := by simpa using hk
    subst hkt
    simp only [List.length_nil, Region.lexFrom, Bool.and_eq_true] at hB
    have hr : k ∈ Region.ready md ops listed := by simpa using hB.1.1
    have he : Region.ready md ops (listed.setIfInBounds k true) = [] := by simpa using hB.2
    refine ⟨fun h0 => (by rw [h0] at hr; cases hr), fun i hi => ⟨fun hik => ?_, fun hik => ?_⟩⟩
    · have := ready_mono hi hik
      rw [he] at this; cases this
    · obtain ⟨o, ho, hwd, hst, hq⟩ := h
      exact ⟨o, ho, hwd, hst, he, getD_set_same _ _, hq⟩
  | o :: l, k, listed, a, hl, hk, hun, hB, h => by
    have h0 : ops[k]? = some o := by simpa using (hl 0 (by simp)).symm
    have hkt : k < t := by simp only [List.length_cons] at hk; omega
    simp only [List.length_cons] at hB ⊢
    rw [Region.lexFrom] at hB
    simp only [Bool.and_eq_true] at hB
    obtain ⟨⟨hr, hf⟩, hB'⟩ := hB
    have hr' : k ∈ Region.ready md ops listed := by simpa using hr
    have rec' := fun (v : Value) (hK : wpT P ops C D late (fun a' => ∃ o, ops[t]? = some o ∧ Region.wanted o (yielded ops a'.tmps) = true ∧ StoreAt P o a' C D ∧ Q (a'.put o.dst undef)) (k + 1) l (a.put o.dst v)) =>
      walkT_lex hsel hlate l (k + 1) (listed.setIfInBounds k true) (a.put o.dst v) (fun j hj => by have := hl (j + 1) (by simp; omega); simpa [Nat.add_assoc, Nat.add_comm 1 j] using this) (by simp only [List.length_cons] at hk; omega) (by rw [getD_set_ne true (by omega)]; exact hun) hB' hK
    unfold wpT at h
    by_cases hw : Region.wanted o (yielded ops a.tmps) = true
    · rw [if_pos hw] at h
      obtain ⟨v, hC, hD, hK⟩ := h
      exact walkT_first h0 (by omega) (Region.noSelect_spec hsel) (late k) (hlate k hkt) _ listed a (Region.free_spec h0 hf) hr' (fun _ => .inl ⟨hw, hC⟩) (fun hh => .inl ⟨hw, hD (hh.resolve_right (by rw [hun]; decide))⟩) (rec' v hK)
    · rw [if_neg hw] at h
      have hw' : Region.wanted o (yielded ops a.tmps) = false := by simpa using hw
      exact walkT_first h0 (by omega) (Region.noSelect_spec hsel) (late k) (hlate k hkt) _ listed a (Region.free_spec h0 hf) hr' (fun _ => .inr ⟨hw', rfl⟩) (fun _ => .inr ⟨hw', rfl⟩) (rec' undef h)

theorem wp_region_store {id : Nat} {Q : Exit → Act → World → Prop} {a : Act} {w : World} {l : List Oper} (C D : World → Prop) (late : List Nat) (t : Nat) (hm : P.follows .mixedOrders = true) (hB : Region.lexB .any l.toArray = true)
    (hT : (decide (t + 1 = l.length) && (List.range t).all fun i => late.contains i || Region.waitsFor .any l.toArray t i) = true) (hC : C { w with drawn := w.drawn + 1 })
    (h : wpT P l.toArray C D late.contains (fun a' => ∃ o, l.toArray[t]? = some o ∧ Region.wanted o (yielded l.toArray a'.tmps) = true ∧ StoreAt P o a' C D ∧ ∀ w', D w' → Q .normal (a'.put o.dst undef) w') 0 (l.take t) a) :
    (Code.region id l.toArray true).wp P Q a w := by
  simp only [Region.lexB, Bool.and_eq_true] at hB
  simp only [Bool.and_eq_true, decide_eq_true_eq] at hT
  obtain ⟨hlen, hall⟩ := hT
  have htl : (l.take t).length = t := by simp; omega
  refine wp_region_any hm ?_
  have hun : (Array.replicate l.toArray.size false).getD t true = false := getD_in (by simp; omega) (getD_replicate_false _ _)
  have := walkT_lex (md := .any) (C := C) (D := D) (t := t) (late := late.contains) (Q := fun a' => ∀ w', D w' → Q .normal a' w') hB.1 (fun i hi hl => by
    have := List.all_eq_true.1 hall i (List.mem_range.2 hi)
    rw [hl, Bool.false_or] at this
    exact this) (l.take t) 0 (Array.replicate l.toArray.size false) a (fun j hj => by
    have hj' : j < t := by rw [htl] at hj; exact hj
    simp [hj']) (by rw [htl]; omega) hun (by rw [htl, show t + 1 = l.toArray.size by simp; omega]; exact hB.2) h
  have h2 := any_of_walkT (Q' := Q) (fun a' w' hw' h' => h' w' hw') _ _ _ { w with drawn := w.drawn + 1 } (by rw [hun]; exact hC) this
  rw [htl] at h2
  rw [show t + 1 = l.toArray.size by simp; omega] at h2
  exact h2
end
end Go.Proofs.YtgfjmplifmbmlaaDoor
namespace Go.Proofs.YtgfjmplifmbmlaaDoor
open Go.RowKit Go.Maps

/-- what a cell holds -/
noncomputable def cv (B i : Nat) (w : World) : Value := (w.cell? ⟨B, i, none⟩).getD undef
theorem cv_eq {w : World} {B i : Nat} {v : Value} (h : w.cell? ⟨B, i, none⟩ = some v) : cv B i w = v := by unfold cv; rw [h]; rfl
theorem cv_cell {w : World} {B i : Nat} {v : Value} (h : w.cell? ⟨B, i, none⟩ = some v) : w.cell? ⟨B, i, none⟩ = some (cv B i w) := by rw [cv_eq h]; exact h
theorem at_in {l : List Acc} {s : Nat} (hs : s < l.length) : l[s]? = some (atS l s) := by unfold atS; rw [Int.toNat_natCast, List.getD, List.getElem?_eq_getElem hs]; rfl
theorem set_at {l : List Acc} {s : Nat} (hs : s < l.length) : l.set s (atS l s) = l := by
  apply List.ext_getElem?
  intro i
  rw [List.getElem?_set]
  split
  · rename_i h; subst h
    first
    | (rw [at_in hs]; done)
    | (rw [at_in hs]; simp [hs])
  · rfl
theorem step1 {l : List Acc} {s : Nat} {b : Int} {v : ByteArray} {p q : Int} {x : ByteArray} (hs : s < l.length) (ha : atS l s = ⟨p, q, x⟩) : stepA l ⟨1, s, b, v⟩ = l.set s ⟨if p < b then b else p, q, x⟩ := by
  unfold stepA
  simp only [if_true, Int.toNat_natCast]
  rw [ha]
  unfold promB
  by_cases h : p < b
  · rw [if_pos (decide_eq_true h), if_pos h]
  · rw [if_neg (by simp [h]), if_neg h, ← ha, set_at hs]
theorem step2 {l : List Acc} {k : Int} {s : Nat} {b : Int} {v : ByteArray} {p q : Int} {x : ByteArray} (hk : k ≠ 1) (hs : s < l.length) (ha : atS l s = ⟨p, q, x⟩) : stepA l ⟨k, s, b, v⟩ = l.set s (if 1 ≤ b ∧ p ≤ b then ⟨b, b, v⟩ else ⟨p, q, x⟩) := by
  unfold stepA
  simp only [Int.toNat_natCast]
  rw [if_neg hk, ha]
  unfold accpB
  by_cases h : 1 ≤ b ∧ p ≤ b
  · rw [if_pos (by simp [h]), if_pos h]
  · rw [if_neg (by simp; exact fun h1 => Classical.byContradiction fun h2 => h ⟨h1, by simpa using h2⟩), if_neg h, ← ha, set_at hs]

set_option maxRecDepth 100000 in
set_option maxHeartbeats 4000000 in
theorem replay_c (m : Nat) (l : List Ev) (a2 : Option Addr) (n2 c2 : Nat) (w : World) (h2 : RdK 4 w a2 n2 c2 (l.flatMap evC)) (hsv : ∀ e ∈ l, 0 ≤ e.server ∧ e.server < m) (hl : l.length ≤ 1000) (hm : m ≤ 12) :
    Calls Tryd.prog 70 #[.int .i64 m, .slice a2 n2 c2] w fun e w' => e = .returned (.slice (some ⟨w.heap.size, 0, none⟩) m m) ∧ w'.heap[w.heap.size]? = some (.cells ((repA m l).flatMap accC).toArray 96 (0, 0)) ∧ Below w.heap.size w w' := by
  have hnl : l.length = n2 := by have := h2.len; rw [flat_len 4 evC evC_len] at this; omega
  have HR2 := Lib.hid h2
  have HN := Lib.hid hnl
  have HSV := Lib.hid hsv
  have hle := h2.le
  have hmx := h2.max
  unfold maxLen at hmx
  rw [hnl] at hl
  have hmk := make_acc m (by omega)
  have HM := Lib.hid (made_acc m hm)
  have hb0 := blA w (.cells (madeCells #[.int .i64 0, .int .i64 0, .string ⟨#[]⟩] (m * 3)) 96)
  have HB0 := Lib.hid hb0
  have HA0 := Lib.hid (heap_alloc_new w (.cells (madeCells #[.int .i64 0, .int .i64 0, .string ⟨#[]⟩] (m * 3)) 96))
  clear h2 hnl hsv hb0
  go_enter Tryd.func70, Tryd.ntmps70
  go_wp2_with fail
  go_loopw [6] (fun i wr => ∃ k : Nat, k ≤ n2 ∧ i = .int .i64 k ∧ Below w.heap.size w wr ∧ Hid (wr.heap[w.heap.size]? = some (.cells ((repA m (l.take k)).flatMap accC).toArray 96 (0, 0)))) (fun i _ => n2 - (intOf i).toNat)
  case atStart => exact ⟨0, Nat.zero_le _, rfl, HB0.out, Lib.hid (by rw [HA0.out, HM.out]; rfl)⟩
  case round =>
    obtain ⟨k, hk, rfl, hb, hacc⟩ := hrel
    by_cases hlt : k < n2
    · obtain ⟨e, he⟩ : ∃ e, l[k]? = some e := ⟨l[k]'(by have := HN.out; omega), List.getElem?_eq_getElem _⟩
      obtain ⟨b', o, ha, hcell⟩ := RdK.cells (HR2.out.below hb) evC_len (by omega)
      have hc0 : wr.cell? ⟨b', o + k * 4, none⟩ = some (.int .i64 e.kind) := hcell k e he 0 (by omega)
      have hc1 : wr.cell? ⟨b', o + k * 4 + 1, none⟩ = some (.int .i64 e.server) := hcell k e he 1 (by omega)
      have hc2 : wr.cell? ⟨b', o + k * 4 + 2, none⟩ = some (.int .i64 e.ballot) := hcell k e he 2 (by omega)
      have hc3 : wr.cell? ⟨b', o + k * 4 + 3, none⟩ = some (.string e.value) := hcell k e he 3 (by omega)
      obtain ⟨hs0, hsm⟩ := HSV.out e (List.mem_of_getElem? he)
      have HTK : Hid (repA m (l.take (k + 1)) = stepA (repA m (l.take k)) e) := Lib.hid (by rw [List.take_add_one, he]; exact repA_snoc m _ e)
      obtain ⟨kd, sv, b, x⟩ := e
      simp only at hc0 hc1 hc2 hc3 hs0 hsm
      obtain ⟨s, rfl⟩ := Int.eq_ofNat_of_zero_le hs0
      have hsm2 : s < m := by omega
      obtain ⟨p, q, v, hat⟩ : ∃ p q v, atS (repA m (l.take k)) (s : Int) = ⟨p, q, v⟩ := ⟨_, _, _, rfl⟩
      have HAT := Lib.hid hat
      have HLEN : Hid (s < (repA m (l.take k)).length) := Lib.hid (by rw [repA_len]; exact hsm2)
      have i0 : (0 : Int) ≤ (s : Int) := by omega
      have i1 : (s : Int) < (m : Int) := by omega
      have hsz := hb.size
      have hlt0 : w.heap.size < wr.heap.size := (Array.getElem?_eq_some_iff.1 hacc.out).1
      have HB := Lib.hid hb
      subst ha
      by_cases hkd : kd = 1
      · subst hkd
        clear hcell he hat hs0 hsm hb
        go_wp2_with fail
        generalize hW : wr.alloc (.cells #[.int .i64 1, .int .i64 s, .int .i64 b, .string x] 48) = W0
        have hbW : Below wr.heap.size wr W0 := by rw [← hW]; exact blA _ _
        have hbox : W0.heap[wr.heap.size]? = some (.cells #[.int .i64 1, .int .i64 s, .int .i64 b, .string x] 48 (0, 0)) := by rw [← hW]; exact heap_alloc_new wr _
        have hWs : W0.heap.size = wr.heap.size + 1 := by rw [← hW]; simp
        obtain ⟨_, e1, e2, e3⟩ := open4 hbox
        have haW := heap_below hbW hacc.out
        obtain ⟨⟨A0, A1, A2⟩, _⟩ := acc_cells haW HLEN.out
        rw [HAT.out] at A0 A1 A2
        have KS : Hid (∀ y : World, Below W0.heap.size W0 y → y.cell? ⟨wr.heap.size, 1, none⟩ = some (.int .i64 s) ∧ y.cell? ⟨wr.heap.size, 2, none⟩ = some (.int .i64 b) ∧ y.cell? ⟨wr.heap.size, 3, none⟩ = some (.string x) ∧ y.cell? ⟨w.heap.size, s * 3, none⟩ = some (.int .i64 p) ∧ y.cell? ⟨w.heap.size, s * 3 + 1, none⟩ = some (.int .i64 q) ∧ y.cell? ⟨w.heap.size, s * 3 + 2, none⟩ = some (.string v)) := Lib.hid (fun y hy => ⟨(hy.cell (p := ⟨wr.heap.size, 1, none⟩) (cell_lt e1)).trans e1, (hy.cell (p := ⟨wr.heap.size, 2, none⟩) (cell_lt e2)).trans e2, (hy.cell (p := ⟨wr.heap.size, 3, none⟩) (cell_lt e3)).trans e3, (hy.cell (p := ⟨w.heap.size, s * 3, none⟩) (cell_lt A0)).trans A0, (hy.cell (p := ⟨w.heap.size, s * 3 + 1, none⟩) (cell_lt A1)).trans A1, (hy.cell (p := ⟨w.heap.size, s * 3 + 2, none⟩) (cell_lt A2)).trans A2⟩)
        obtain ⟨p', q', v', hres⟩ : ∃ (p' q' : Int) (v' : ByteArray), (repA m (l.take k)).set s ⟨p', q', v'⟩ = stepA (repA m (l.take k)) ⟨1, s, b, x⟩ ∧ p' = (if p < b then b else p) ∧ q' = q ∧ v' = v := ⟨_, _, _, (step1 HLEN.out HAT.out).symm, rfl, rfl, rfl⟩
        obtain ⟨ok, hok⟩ : ∃ ok, decide (p < b) = ok := ⟨_, rfl⟩
        have HP2 : Hid (∀ y : World, Below W0.heap.size W0 y → Calls Tryd.prog 71 #[.agg #[.int .i64 p, .int .i64 q, .string v], .int .i64 b] y fun e w3 => e = .returned (.tuple #[.agg #[.int .i64 p', .int .i64 q', .string v'], .bool ok]) ∧ Below W0.heap.size W0 w3) := Lib.hid (fun y hy => (rpromise_c p q v b y).mono fun e w3 ⟨h1, h2⟩ => ⟨by rw [h1, hres.2.1, hres.2.2.1, hres.2.2.2, hok], Below.next hy h2⟩)
        have HBW := Lib.hid hbW
        have HAW := Lib.hid haW
        have HRES := Lib.hid hres
        have HFZ : Hid (∀ y : World, Below W0.heap.size W0 y → ∀ i, y.frozen? ⟨w.heap.size, i, none⟩ = false) := Lib.hid (fun y hy i => by simp [World.frozen?, heap_below hy haW])
        clear hW hbW hbox haW e1 e2 e3 hres hc1 hc2 hc3 A0 A1 A2
        refine wp_region_store (fun y => Below W0.heap.size W0 y) (fun z => ∃ y, Below W0.heap.size W0 y ∧ z = ((y.setCell ⟨w.heap.size, s * 3, none⟩ (.int .i64 p')).setCell ⟨w.heap.size, s * 3 + 1, none⟩ (.int .i64 q')).setCell ⟨w.heap.size, s * 3 + 2, none⟩ (.string v')) [13] 15 (by kernel_rfl) (by kernel_rfl) (by kernel_rfl) (below_drew (Below.refl _ _)) ?_
        simp only [List.take_succ_cons, List.take_zero]
        repeat (refine wpT_step (fun K hK => ?_); go_simp; apply Exists.intro; refine ⟨fun y hy => ?_, ?_, hK _ ?_⟩; (first | exact rfl | (refine (HP2.out y (by rw [hWs]; exact hy)).mono ?_; rintro e w3 ⟨rfl, h3⟩; rw [hWs] at h3; exact ⟨rfl, h3⟩) | (obtain ⟨q1, q2, q3, q4, q5, q6⟩ := KS.out y (by rw [hWs]; exact hy); go_simp; first | exact rfl | exact ⟨rfl, hy⟩ | exact hy)); (first | exact late_not rfl | (focus (intro _ z hz; go_simp; done))); clear hK K)
        refine wpT_nil ?_
        refine ⟨_, rfl, by go_simp, fun y hy => ?_, ?_⟩
        · obtain ⟨q1, q2, q3, q4, q5, q6⟩ := KS.out y hy
          have hH := heap_below hy HAW.out
          have n1 : (y.setCell ⟨w.heap.size, s * 3, none⟩ (.int .i64 p')).cell? ⟨w.heap.size, s * 3 + 1, none⟩ = some (.int .i64 q) := (World.cell?_setCell_other _ _ _ _ (by simp)).trans q5
          have n2' : ((y.setCell ⟨w.heap.size, s * 3, none⟩ (.int .i64 p')).setCell ⟨w.heap.size, s * 3 + 1, none⟩ (.int .i64 q')).cell? ⟨w.heap.size, s * 3 + 2, none⟩ = some (.string v) := (World.cell?_setCell_other _ _ _ _ (by simp)).trans ((World.cell?_setCell_other _ _ _ _ (by simp)).trans q6)
          have f0 : y.frozen? ⟨w.heap.size, s * 3, none⟩ = false := by simp [World.frozen?, hH]
          have f1 : (y.setCell ⟨w.heap.size, s * 3, none⟩ (.int .i64 p')).frozen? ⟨w.heap.size, s * 3 + 1, none⟩ = false := by simp [World.frozen?, heap_set_at hH]
          have f2 : ((y.setCell ⟨w.heap.size, s * 3, none⟩ (.int .i64 p')).setCell ⟨w.heap.size, s * 3 + 1, none⟩ (.int .i64 q')).frozen? ⟨w.heap.size, s * 3 + 2, none⟩ = false := by simp [World.frozen?, heap_set_at (heap_set_at hH _ _)]
          clear hH
          refine ⟨_, ?_, y, hy, rfl⟩
          go_simp
        · rintro z ⟨y, hb3, rfl⟩
          have hA := heap_set_at (heap_set_at (heap_set_at (heap_below hb3 HAW.out) (s * 3) (.int .i64 p')) (s * 3 + 1) (.int .i64 q')) (s * 3 + 2) (.string v')
          rw [set3A _ _ _ ⟨p', q', v'⟩ rfl _ s HLEN.out, HRES.out.1, ← HTK.out] at hA
          have HACC2 := Lib.hid hA
          have HBF := Lib.hid ((((HB.out.trans ((Below.next HBW.out hb3).mono hsz)).setCell (p := ⟨w.heap.size, s * 3, none⟩) (Nat.le_refl _) (.int .i64 p')).setCell (p := ⟨w.heap.size, s * 3 + 1, none⟩) (Nat.le_refl _) (.int .i64 q')).setCell (p := ⟨w.heap.size, s * 3 + 2, none⟩) (Nat.le_refl _) (.string v'))
          clear hA hb3
          go_simp
          go_wp2_with fail
          go_roundw
          case rel => exact ⟨k + 1, by omega, by go_num, HBF.out, HACC2.out⟩
          case measure => simp [intOf]; omega
      · have hkb : (kd == 1) = false := by simpa using hkd
        clear hcell he hat hs0 hsm hb
        go_wp2_with fail
        generalize hW : wr.alloc (.cells #[.int .i64 kd, .int .i64 s, .int .i64 b, .string x] 48) = W0
        have hbW : Below wr.heap.size wr W0 := by rw [← hW]; exact blA _ _
        have hbox : W0.heap[wr.heap.size]? = some (.cells #[.int .i64 kd, .int .i64 s, .int .i64 b, .string x] 48 (0, 0)) := by rw [← hW]; exact heap_alloc_new wr _
        have hWs : W0.heap.size = wr.heap.size + 1 := by rw [← hW]; simp
        obtain ⟨_, e1, e2, e3⟩ := open4 hbox
        have haW := heap_below hbW hacc.out
        obtain ⟨⟨A0, A1, A2⟩, _⟩ := acc_cells haW HLEN.out
        rw [HAT.out] at A0 A1 A2
        have KS : Hid (∀ y : World, Below W0.heap.size W0 y → y.cell? ⟨wr.heap.size, 1, none⟩ = some (.int .i64 s) ∧ y.cell? ⟨wr.heap.size, 2, none⟩ = some (.int .i64 b) ∧ y.cell? ⟨wr.heap.size, 3, none⟩ = some (.string x) ∧ y.cell? ⟨w.heap.size, s * 3, none⟩ = some (.int .i64 p) ∧ y.cell? ⟨w.heap.size, s * 3 + 1, none⟩ = some (.int .i64 q) ∧ y.cell? ⟨w.heap.size, s * 3 + 2, none⟩ = some (.string v)) := Lib.hid (fun y hy => ⟨(hy.cell (p := ⟨wr.heap.size, 1, none⟩) (cell_lt e1)).trans e1, (hy.cell (p := ⟨wr.heap.size, 2, none⟩) (cell_lt e2)).trans e2, (hy.cell (p := ⟨wr.heap.size, 3, none⟩) (cell_lt e3)).trans e3, (hy.cell (p := ⟨w.heap.size, s * 3, none⟩) (cell_lt A0)).trans A0, (hy.cell (p := ⟨w.heap.size, s * 3 + 1, none⟩) (cell_lt A1)).trans A1, (hy.cell (p := ⟨w.heap.size, s * 3 + 2, none⟩) (cell_lt A2)).trans A2⟩)
        obtain ⟨p', q', v', hres⟩ : ∃ (p' q' : Int) (v' : ByteArray), (repA m (l.take k)).set s ⟨p', q', v'⟩ = stepA (repA m (l.take k)) ⟨kd, s, b, x⟩ ∧ (if 1 ≤ b ∧ p ≤ b then Value.agg #[.int .i64 b, .int .i64 b, .string x] else .agg #[.int .i64 p, .int .i64 q, .string v]) = .agg #[.int .i64 p', .int .i64 q', .string v'] := by
          by_cases h9 : 1 ≤ b ∧ p ≤ b
          · exact ⟨b, b, x, by rw [step2 hkd HLEN.out HAT.out, if_pos h9], by rw [if_pos h9]⟩
          · exact ⟨p, q, v, by rw [step2 hkd HLEN.out HAT.out, if_neg h9], by rw [if_neg h9]⟩
        obtain ⟨ok, hok⟩ : ∃ ok, decide (1 ≤ b ∧ p ≤ b) = ok := ⟨_, rfl⟩
        have HP2 : Hid (∀ y : World, Below W0.heap.size W0 y → Calls Tryd.prog 72 #[.agg #[.int .i64 p, .int .i64 q, .string v], .int .i64 b, .string x] y fun e w3 => e = .returned (.tuple #[.agg #[.int .i64 p', .int .i64 q', .string v'], .bool ok]) ∧ Below W0.heap.size W0 w3) := Lib.hid (fun y hy => (raccept_c p q v b x y).mono fun e w3 ⟨h1, h2⟩ => ⟨by rw [h1, hres.2, hok], Below.next hy h2⟩)
        have HBW := Lib.hid hbW
        have HAW := Lib.hid haW
        have HRES := Lib.hid hres
        have HFZ : Hid (∀ y : World, Below W0.heap.size W0 y → ∀ i, y.frozen? ⟨w.heap.size, i, none⟩ = false) := Lib.hid (fun y hy i => by simp [World.frozen?, heap_below hy haW])
        clear hW hbW hbox haW e1 e2 e3 hres hc1 hc2 hc3 A0 A1 A2
        refine wp_region_store (fun y => Below W0.heap.size W0 y) (fun z => ∃ y, Below W0.heap.size W0 y ∧ z = ((y.setCell ⟨w.heap.size, s * 3, none⟩ (.int .i64 p')).setCell ⟨w.heap.size, s * 3 + 1, none⟩ (.int .i64 q')).setCell ⟨w.heap.size, s * 3 + 2, none⟩ (.string v')) [15] 17 (by kernel_rfl) (by kernel_rfl) (by kernel_rfl) (below_drew (Below.refl _ _)) ?_
        simp only [List.take_succ_cons, List.take_zero]
        repeat (refine wpT_step (fun K hK => ?_); go_simp; apply Exists.intro; refine ⟨fun y hy => ?_, ?_, hK _ ?_⟩; (first | exact rfl | (refine (HP2.out y (by rw [hWs]; exact hy)).mono ?_; rintro e w3 ⟨rfl, h3⟩; rw [hWs] at h3; exact ⟨rfl, h3⟩) | (obtain ⟨q1, q2, q3, q4, q5, q6⟩ := KS.out y (by rw [hWs]; exact hy); go_simp; first | exact rfl | exact ⟨rfl, hy⟩ | exact hy)); (first | exact late_not rfl | (focus (intro _ z hz; go_simp; done))); clear hK K)
        refine wpT_nil ?_
        refine ⟨_, rfl, by go_simp, fun y hy => ?_, ?_⟩
        · obtain ⟨q1, q2, q3, q4, q5, q6⟩ := KS.out y hy
          have hH := heap_below hy HAW.out
          have n1 : (y.setCell ⟨w.heap.size, s * 3, none⟩ (.int .i64 p')).cell? ⟨w.heap.size, s * 3 + 1, none⟩ = some (.int .i64 q) := (World.cell?_setCell_other _ _ _ _ (by simp)).trans q5
          have n2' : ((y.setCell ⟨w.heap.size, s * 3, none⟩ (.int .i64 p')).setCell ⟨w.heap.size, s * 3 + 1, none⟩ (.int .i64 q')).cell? ⟨w.heap.size, s * 3 + 2, none⟩ = some (.string v) := (World.cell?_setCell_other _ _ _ _ (by simp)).trans ((World.cell?_setCell_other _ _ _ _ (by simp)).trans q6)
          have f0 : y.frozen? ⟨w.heap.size, s * 3, none⟩ = false := by simp [World.frozen?, hH]
          have f1 : (y.setCell ⟨w.heap.size, s * 3, none⟩ (.int .i64 p')).frozen? ⟨w.heap.size, s * 3 + 1, none⟩ = false := by simp [World.frozen?, heap_set_at hH]
          have f2 : ((y.setCell ⟨w.heap.size, s * 3, none⟩ (.int .i64 p')).setCell ⟨w.heap.size, s * 3 + 1, none⟩ (.int .i64 q')).frozen? ⟨w.heap.size, s * 3 + 2, none⟩ = false := by simp [World.frozen?, heap_set_at (heap_set_at hH _ _)]
          clear hH
          refine ⟨_, ?_, y, hy, rfl⟩
          go_simp
        · rintro z ⟨y, hb3, rfl⟩
          have hA := heap_set_at (heap_set_at (heap_set_at (heap_below hb3 HAW.out) (s * 3) (.int .i64 p')) (s * 3 + 1) (.int .i64 q')) (s * 3 + 2) (.string v')
          rw [set3A _ _ _ ⟨p', q', v'⟩ rfl _ s HLEN.out, HRES.out.1, ← HTK.out] at hA
          have HACC2 := Lib.hid hA
          have HBF := Lib.hid ((((HB.out.trans ((Below.next HBW.out hb3).mono hsz)).setCell (p := ⟨w.heap.size, s * 3, none⟩) (Nat.le_refl _) (.int .i64 p')).setCell (p := ⟨w.heap.size, s * 3 + 1, none⟩) (Nat.le_refl _) (.int .i64 q')).setCell (p := ⟨w.heap.size, s * 3 + 2, none⟩) (Nat.le_refl _) (.string v'))
          clear hA hb3
          go_simp
          go_wp2_with fail
          go_roundw
          case rel => exact ⟨k + 1, by omega, by go_num, HBF.out, HACC2.out⟩
          case measure => simp [intOf]; omega
    · obtain rfl : k = n2 := by omega
      have hE : l.take k = l := List.take_of_length_le (by have := HN.out; omega)
      have HAC : Hid (wr.heap[w.heap.size]? = some (.cells ((repA m l).flatMap accC).toArray 96 (0, 0))) := Lib.hid (by have := hacc.out; rw [hE] at this; exact this)
      clear hE hacc
      go_wp2_with fail
      go_ret
      exact ⟨rfl, HAC.out, hb⟩
end Go.Proofs.YtgfjmplifmbmlaaDoor
namespace Go.Proofs.YtgfjmplifmbmlaaDoor
open Go.RowKit
section
variable {P : Program} {ops : Array Oper} {md : Region.Mode} {S : World → Prop}

def takesB (md : Region.Mode) (ops : Array Oper) : List Nat → Array Bool → Bool
  | [], _ => true
  | i :: L, listed => (Region.free md ops listed i && (Region.ready md ops listed).contains i) && takesB md ops L (listed.setIfInBounds i true)
def afterT : List Nat → Array Bool → Array Bool
  | [], listed => listed
  | i :: L, listed => afterT L (listed.setIfInBounds i true)
def wpTk (P : Program) (ops : Array Oper) (S : World → Prop) (K : Act → Prop) : List Nat → Act → Prop
  | [], a => K a
  | i :: L, a => ∃ o, ops[i]? = some o ∧ if Region.wanted o (yielded ops a.tmps) = true then ∃ v, (∀ w, S w → (execOp a.eval o).run P w = .ok (.value v) w) ∧ wpTk P ops S K L (a.put o.dst v) else wpTk P ops S K L (a.put o.dst undef)
theorem wpTk_nil {K : Act → Prop} {a : Act} (h : K a) : wpTk P ops S K [] a := h
theorem wpTk_cons {K : Act → Prop} {i : Nat} {L : List Nat} {a : Act} {o : Oper} (ho : ops[i]? = some o)
    (h : ∀ K' : Act → Prop, (∀ a, wpTk P ops S K L a → K' a) → if Region.wanted o (yielded ops a.tmps) = true then ∃ v, (∀ w, S w → (execOp a.eval o).run P w = .ok (.value v) w) ∧ K' (a.put o.dst v) else K' (a.put o.dst undef)) : wpTk P ops S K (i :: L) a :=
  ⟨o, ho, h _ (fun _ h => h)⟩
theorem held_takes {Q : Exit → Act → World → Prop} {f : Nat} {w : World} (hsel : Region.noSelect ops = true) (hQ : ∀ c a d v w, Q (.panic c) (a.put d v) w → Q (.panic c) a w) (hS : S w) :
    ∀ (L : List Nat) (listed : Array Bool) (a : Act), takesB md ops L listed = true → wpTk P ops S (fun a' => wpAnyH P md ops Q S f (afterT L listed) a' w) L a → wpAnyH P md ops Q S (f + L.length) listed a w
  | [], listed, a, _, h => h
  | i :: L, listed, a, hB, h => by
    obtain ⟨o, ho, h⟩ := h
    unfold takesB at hB
    simp only [Bool.and_eq_true] at hB
    rw [List.length_cons, ← Nat.add_assoc]
    by_cases hw : Region.wanted o (yielded ops a.tmps) = true
    · rw [if_pos hw] at h
      obtain ⟨v, hv, h⟩ := h
      exact wpAnyH_take ho hsel hB.1.1 hB.1.2 (fun c a w => hQ c a _ _ w) (.inl ⟨hw, hv⟩) hS (held_takes hsel hQ hS L _ _ hB.2 h)
    · rw [if_neg hw] at h
      have hw' : Region.wanted o (yielded ops a.tmps) = false := by simpa using hw
      exact wpAnyH_take ho hsel hB.1.1 hB.1.2 (fun c a w => hQ c a _ _ w) (.inr ⟨hw', rfl⟩) hS (held_takes hsel hQ hS L _ _ hB.2 h)
theorem wp_region_takes {id : Nat} {Q : Exit → Act → World → Prop} {a : Act} {w : World} {l : List Oper} (S : World → Prop) (L : List Nat) (f : Nat) (hm : P.follows .mixedOrders = true) (hf : (f + L.length == l.length) = true)
    (hB : (Region.noSelect l.toArray && takesB .any l.toArray L (Array.replicate l.length false)) = true) (hQ : ∀ c a d v w, Q (.panic c) (a.put d v) w → Q (.panic c) a w) (hS : S w.drew)
    (h : wpTk P l.toArray S (fun a' => wpAnyH P .any l.toArray Q S f (afterT L (Array.replicate l.length false)) a' w.drew) L a) : (Code.region id l.toArray true).wp P Q a w := by
  simp only [Bool.and_eq_true] at hB
  have e : l.toArray.size = f + L.length := by rw [List.size_toArray]; exact (eq_of_beq hf).symm
  refine wp_region_held_drew hm hS (fun _ => ?_)
  rw [e]
  have := held_takes (md := .any) (f := f) (w := w.drew) hB.1 hQ hS L (Array.replicate l.length false) a hB.2 h
  rw [show f + L.length = l.length from eq_of_beq hf] at this ⊢
  exact this
/-- whichever comes up -/
theorem held_ready {Q : Exit → Act → World → Prop} {rs : List Nat} {f : Nat} {listed : Array Bool} {a : Act} {w : World} (hr : (Region.ready md ops listed == rs) = true) (hne : rs ≠ [])
    (h : AllReadyH P md ops Q S f listed a w rs) : wpAnyH P md ops Q S (f + 1) listed a w := wpAnyH_ready (eq_of_beq hr) hne h
end
end Go.Proofs.YtgfjmplifmbmlaaDoor
