/- single.begin; Run and Check where nothing happens; the law on errors. -/
import Derived.Test.YtgfjmplifmbmlaaDoorGiv
import Derived.Test.YtgfjmplifmbmlaaDoorW37a
import Derived.Laws.MakeOwn
namespace Go.Proofs.YtgfjmplifmbmlaaDoor
open Go.RowKit Go.Shelf

theorem Tryd.infoAcc : (Tryd.prog.info? 96).map (fun i => (i.zero, i.size, i.bytes)) = some (some (.agg #[.int .i64 0, .int .i64 0, .string ⟨#[]⟩]), 3, 32) := by kernel_rfl
theorem make_acc (m : Nat) (hm : m ≤ 1000000) : ∀ w, (Instr.makeSlice 90 (.int .i64 m) (.int .i64 m)).run Tryd.prog w = .ok (.slice (some ⟨w.heap.size, 0, none⟩) m m) (w.alloc (.cells (madeCells #[.int .i64 0, .int .i64 0, .string ⟨#[]⟩] (m * 3)) 96)) := by
  intro w
  obtain ⟨i, hi1, hi2, hi3, hi4⟩ := info_parts Tryd.infoAcc
  have := run_make (P := Tryd.prog) w 90 96 i _ Tryd.underlying90 hi1 hi2 .i64 .i64 m m (by omega) (Int.le_refl _) (by rw [hi4]; omega) (by omega)
  rw [hi3] at this
  simp only [Int.toNat_natCast] at this
  exact this

set_option maxRecDepth 100000 in
set_option maxHeartbeats 1000000 in
theorem begin_c (m : Nat) (hm : m ≤ 12) (a : Option Addr) (n c : Nat) (w : World) :
    Calls Tryd.prog 36 #[.slice a n c, .int .i64 m] w fun e w' => e = .returned (.pointer (some ⟨w.heap.size + 3, 0, none⟩)) ∧
      w' = (((w.alloc (.cells (madeCells #[.int .i64 0, .int .i64 0, .string ⟨#[]⟩] (m * 3)) 96)).alloc (.map #[] 0)).alloc (.map #[] 0)).alloc (.cells #[.slice a n c, .slice (some ⟨w.heap.size, 0, none⟩) m m, .map (some (w.heap.size + 1)), .map (some (w.heap.size + 2))] 94) := by
  have hmk := make_acc m (by omega)
  have hmm : ∀ (t : TypeId) (w : World), (Instr.makeMap t none).run Tryd.prog w = .ok (.map (some w.heap.size)) (w.alloc (.map #[] 0)) := fun _ _ => rfl
  go_enter Tryd.func36, Tryd.ntmps36
  go_wp2_with fail
  go_ret
  exact ⟨rfl, rfl⟩

theorem chk_out {nn : Int} {Ls : List (List (BitVec 16))} (h : nn < 1 ∨ 12 < nn) : chkS nn Ls = 7 := by unfold chkS; rw [if_pos h]
theorem sup_nil : supS [] = 0#16 := rfl
theorem chk_nil (nn : Int) (f : List (BitVec 16)) : chkS nn [f, []] = chkS nn [f] := by
  by_cases h : nn < 1 ∨ 12 < nn
  · rw [chk_out h, chk_out h]
  · obtain ⟨m, rfl⟩ := Int.eq_ofNat_of_zero_le (by omega : 0 ≤ nn)
    rw [chk2 m (by omega) (by omega)]
    have hv : valS [] = 0 := by decide +kernel
    have ho : offB m [] = false := by unfold offB; rw [sup_nil]; simp [shrS]
    have hz : hasZ [] = false := rfl
    unfold chkS
    rw [if_neg h]
    have hm : ((m : Nat) : Int).toNat = m := by omega
    have e : firstE (fun j => valS ([f].getD j [])) [f].length = valS f := by
      by_cases hf : valS f = 0
      · rw [hf]; exact firstE_none _ _ (fun j hj => by
          match j, hj with
          | 0, _ => exact hf)
      · exact firstE_hit (fun j => valS ([f].getD j [])) 1 0 (by decide) (fun j hj => by omega) hf
    rw [e, hv, ho, hz, hm]
    simp
theorem valS_kinds (l : List (BitVec 16)) : valS l = 0 ∨ valS l = 1 ∨ valS l = 3 ∨ valS l = 7 := by
  have hk : ∀ k, e1 l k = 0 ∨ e1 l k = 1 ∨ e1 l k = 7 := by
    intro k; unfold e1; split
    · exact .inr (.inr rfl)
    · split
      · exact .inr (.inl rfl)
      · exact .inl rfl
  have hf : firstE (e1 l) l.length = 0 ∨ firstE (e1 l) l.length = 1 ∨ firstE (e1 l) l.length = 7 := by
    unfold firstE
    cases h : ((List.range l.length).map (e1 l)).find? (fun x => x != 0) with
    | none => exact .inl rfl
    | some v =>
      have := List.mem_of_find?_eq_some h
      obtain ⟨j, _, rfl⟩ := List.mem_map.1 this
      exact hk j
  unfold valS
  split
  · exact .inr (.inr (.inl rfl))
  · split
    · rcases hf with h | h | h
      · rename_i _ h2; exact absurd h h2
      · exact .inr (.inl h)
      · exact .inr (.inr (.inr h))
    · split
      · exact .inr (.inl rfl)
      · exact .inl rfl
theorem chk1_kinds (nn : Int) (f : List (BitVec 16)) : chkS nn [f] ≠ 13 ∧ (valS f ≠ 0 → chkS nn [f] ≠ 0) := by
  rw [← chk_nil]
  by_cases h : nn < 1 ∨ 12 < nn
  · rw [chk_out h]; exact ⟨by decide, fun _ => by decide⟩
  · obtain ⟨m, rfl⟩ := Int.eq_ofNat_of_zero_le (by omega : 0 ≤ nn)
    rw [chk2 m (by omega) (by omega)]
    have hv : valS [] = 0 := by decide +kernel
    rw [hv]
    have hk := valS_kinds f
    constructor
    · split
      · omega
      · split
        · rename_i h; exact absurd rfl h
        · split
          · decide
          · split <;> decide
    · intro hf
      rw [if_pos hf]; exact hf

set_option maxRecDepth 100000 in
set_option maxHeartbeats 2000000 in
theorem run_err (read write : List (BitVec 16)) (nn : Int) (a : Option Addr) (n c : Nat) (a2 : Option Addr) (n2 c2 : Nat) (a3 : Option Addr) (n3 c3 : Nat) (w : World) (h : Rd w a n c (read.map setV2)) (h2 : Rd w a2 n2 c2 (write.map setV2)) (he : chkS nn [read, write] ≠ 0) :
    Calls Tryd.prog 16 #[.slice a n c, .slice a2 n2 c2, .int .i64 nn, .slice a3 n3 c3] w fun e w' => e = .returned (.tuple #[.slice none 0 0, .int .i64 (chkS nn [read, write])]) ∧ Below w.heap.size w w' := by
  have hb0 : Below w.heap.size w (w.alloc (.cells #[.slice a n c, .slice a2 n2 c2] 22)) := (Below.refl _ w).alloc (Nat.le_refl _) _
  have hss : RdSS (w.alloc (.cells #[.slice a n c, .slice a2 n2 c2] 22)) (some ⟨w.heap.size, 0, none⟩) 2 2 [read, write] := by
    refine ⟨[.slice a n c, .slice a2 n2 c2], Rd.lit _ _ _ 2 _ rfl rfl (by decide), rfl, fun i L hi => ?_⟩
    match i, hi with
    | 0, hi => cases hi; exact ⟨a, n, c, rfl, h.below hb0⟩
    | 1, hi => cases hi; exact ⟨a2, n2, c2, rfl, h2.below hb0⟩
    | i + 2, hi => simp at hi
  have HC := Lib.hid (check_c nn [read, write] _ 2 2 _ hss)
  have HB0 := Lib.hid hb0
  obtain ⟨v, hv⟩ : ∃ v, chkS nn [read, write] = v := ⟨_, rfl⟩
  have HV := Lib.hid hv
  rw [hv] at HC he
  have hv1 : (v != 0) = true := by simpa using he
  clear h h2 hss hb0 hv he
  go_enter Tryd.func16, Tryd.ntmps16
  go_wp2_with fail
  refine HC.out.mono ?_
  rintro e w1 ⟨rfl, hb1⟩
  have hb2 := Below.next HB0.out (by exact hb1)
  clear hb1
  go_wp2_with fail
  go_ret2
  exact ⟨by rw [HV.out]; rfl, hb2⟩

def or13 (e : Int) : Int := if e = 0 then 13 else e
set_option maxRecDepth 100000 in
set_option maxHeartbeats 2000000 in
theorem check_nil (read : List (BitVec 16)) (nn : Int) (a : Option Addr) (n c : Nat) (w : World) (h : Rd w a n c (read.map setV2)) :
    Calls Tryd.prog 19 #[.slice a n c, .int .i64 nn, .slice none 0 0] w fun e w' => e = .returned (.tuple #[.int .i64 0, .int .i64 (or13 (chkS nn [read]))]) ∧ Below w.heap.size w w' := by
  have hb0 : Below w.heap.size w (w.alloc (.cells #[.slice a n c] 22)) := (Below.refl _ w).alloc (Nat.le_refl _) _
  have hss : RdSS (w.alloc (.cells #[.slice a n c] 22)) (some ⟨w.heap.size, 0, none⟩) 1 1 [read] := by
    refine ⟨[.slice a n c], Rd.lit _ _ _ 1 _ rfl rfl (by decide), rfl, fun i L hi => ?_⟩
    match i, hi with
    | 0, hi => cases hi; exact ⟨a, n, c, rfl, h.below hb0⟩
    | i + 1, hi => simp at hi
  have HC := Lib.hid (check_c nn [read] _ 1 1 _ hss)
  have HB0 := Lib.hid hb0
  clear h hss hb0
  by_cases he : chkS nn [read] = 0
  · have hr : ¬ (nn < 1 ∨ 12 < nn) := fun h => by rw [chk_out h] at he; cases he
    obtain ⟨m, rfl⟩ := Int.eq_ofNat_of_zero_le (by omega : 0 ≤ nn)
    have hV : Hid (or13 (chkS m [read]) = 13) := by show _ = _; unfold or13; rw [if_pos he]
    have HG := Lib.hid (fun w => begin_c m (by omega) a n c w)
    rw [he] at HC
    clear he hr
    go_enter Tryd.func19, Tryd.ntmps19
    go_wp2_with fail
    refine HC.out.mono ?_
    rintro e w1 ⟨rfl, hb1⟩
    have hb2 := Below.next HB0.out (by exact hb1)
    clear hb1
    go_wp2_with fail
    refine (HG.out w1).mono ?_
    rintro e w2 ⟨rfl, hw2⟩
    have hb3 : Below w1.heap.size w1 w2 := by
      rw [hw2]
      exact ((((Below.refl _ w1).alloc (Nat.le_refl _) _).alloc (by simp) _).alloc (by simp; omega) _).alloc (by simp; omega) _
    have hb4 := Below.next hb2 hb3
    clear hw2 hb2 hb3
    go_wp2_with fail
    go_loop [24] (fun i => i = .int .i64 0) (fun i => 0)
    case atStart => rfl
    case round =>
      obtain rfl := hrel
      go_wp2_with fail
      go_ret2
      exact ⟨by rw [hV.out]; rfl, hb4⟩
  · have hV : Hid (or13 (chkS nn [read]) = chkS nn [read]) := by show _ = _; unfold or13; rw [if_neg he]
    obtain ⟨v, hv⟩ : ∃ v, chkS nn [read] = v := ⟨_, rfl⟩
    rw [hv] at HC he hV
    have HV := Lib.hid hv
    have hv1 : (v != 0) = true := by simpa using he
    clear hv he
    go_enter Tryd.func19, Tryd.ntmps19
    go_wp2_with fail
    refine HC.out.mono ?_
    rintro e w1 ⟨rfl, hb1⟩
    have hb2 := Below.next HB0.out (by exact hb1)
    clear hb1
    go_wp2_with fail
    go_ret2
    exact ⟨by rw [HV.out, hV.out]; rfl, hb2⟩

set_option maxRecDepth 100000 in
set_option maxHeartbeats 4000000 in
theorem singleErrors_w (a : Option Addr) (len cap : Nat) (z : List Int) (a2 : Option Addr) (len2 cap2 : Nat) (z2 : List Int) (nn : Int) (w : World) (ht : HasTab w) (w0 : IsInts .u16 w a len cap z) (w1 : IsInts .u16 w a2 len2 cap2 z2) (_ : (Lit.int .i64 nn).wf = true) :
    Calls Tryd.prog 5 #[.slice a len cap, .slice a2 len2 cap2, .int .i64 nn] w fun e w' => e = .returned (.bool true) ∧ Below w.heap.size w w' := by
  obtain ⟨f, hf, hlen⟩ := sets_of w0
  obtain ⟨g, hg, hlen2⟩ := sets_of w1
  have HT := Lib.hid ht
  have HF := Lib.hid hf
  have HG := Lib.hid hg
  have HA := Lib.hid (fun w h => awake37_c w h)
  clear w0 w1 hf hg ht hlen hlen2
  by_cases hc : (20 : Int) < (len : Int)
  · have hd : decide ((20 : Int) < (len : Int)) = true := decide_eq_true hc
    clear hc
    go_enter Tryd.func5, Tryd.ntmps5
    go_wp2_with fail
    refine (HA.out w HT.out).mono ?_
    rintro e w1 ⟨rfl, b1⟩
    go_wp2_with fail
    refine (HA.out w1 (HT.out.below b1)).mono ?_
    rintro e w2 ⟨rfl, b2⟩
    go_wp2_with fail
    go_ret
    exact ⟨rfl, Below.next b1 b2⟩
  · have hd : decide ((20 : Int) < (len : Int)) = false := decide_eq_false hc
    by_cases hc2 : (20 : Int) < (len2 : Int)
    · have hd2 : decide ((20 : Int) < (len2 : Int)) = true := decide_eq_true hc2
      clear hc hc2
      go_enter Tryd.func5, Tryd.ntmps5
      go_wp2_with fail
      refine (HA.out w HT.out).mono ?_
      rintro e w1 ⟨rfl, b1⟩
      go_wp2_with fail
      refine (HA.out w1 (HT.out.below b1)).mono ?_
      rintro e w2 ⟨rfl, b2⟩
      go_wp2_with fail
      go_ret
      exact ⟨rfl, Below.next b1 b2⟩
    · have hd2 : decide ((20 : Int) < (len2 : Int)) = false := decide_eq_false hc2
      have HC := Lib.hid (fun w h => clones_c f a len cap w h (by omega))
      have HC2 := Lib.hid (fun w h => clones_c g a2 len2 cap2 w h (by omega))
      have HV := Lib.hid (fun w h h2 => given_c f g nn a len cap a2 len2 cap2 w h h2)
      have HV2 := Lib.hid (fun w h => given_c f [] nn a len cap none 0 0 w h (Rd.none_ w))
      rw [chk_nil] at HV2
      have HN := Lib.hid (fun a c w h => check_nil f nn a len c w h)
      have HW := Lib.hid (fun w h => valid8_c f a len cap w h)
      obtain ⟨k1, k2⟩ := chk1_kinds nn f
      -- the second half, from any world
      have hend : Hid ((chkS nn [f] = 0 ∧ or13 (chkS nn [f]) = 13 ∧ valS f = 0) ∨ ((chkS nn [f] == 0) = false ∧ or13 (chkS nn [f]) = chkS nn [f] ∧ (chkS nn [f] != 13) = true)) := Lib.hid (by
        by_cases h : chkS nn [f] = 0
        · refine .inl ⟨h, by unfold or13; rw [if_pos h], Classical.byContradiction fun hv => k2 hv h⟩
        · exact .inr ⟨by simpa using h, by unfold or13; rw [if_neg h], by simpa using k1⟩)
      obtain ⟨v2, hv2⟩ : ∃ v, chkS nn [f] = v := ⟨_, rfl⟩
      rw [hv2] at HV2 HN hend
      clear hc hc2 k1 k2 hv2
      by_cases he : chkS nn [f, g] = 0
      · rw [he] at HV
        clear he HC2
        go_enter Tryd.func5, Tryd.ntmps5
        go_wp2_with fail
        refine (HA.out w HT.out).mono ?_
        rintro e w1 ⟨rfl, b1⟩
        go_wp2_with fail
        refine (HV.out w1 (HF.out.below b1) (HG.out.below b1)).mono ?_
        rintro e w2 ⟨rfl, b2⟩
        have b3 := Below.next b1 b2
        clear b1 b2 HV HA
        go_wp2_with fail
        refine (HV2.out w2 (HF.out.below b3)).mono ?_
        rintro e w3 ⟨rfl, b4⟩
        have b5 := Below.next b3 b4
        clear b3 b4 HV2
        go_wp2_with fail
        refine (HC.out w3 (HF.out.below b5)).mono ?_
        rintro e w4 ⟨a4, c4, rfl, r4, b6⟩
        have b7 := Below.next b5 b6
        have R4 := Lib.hid r4
        clear r4 b5 b6 HC
        go_wp2_with fail
        refine (HN.out a4 c4 w4 R4.out).mono ?_
        rintro e w5 ⟨rfl, b8⟩
        have b9 := Below.next b7 b8
        clear b7 b8 HN
        rcases hend.out with ⟨rfl, h2, h3⟩ | ⟨h1, h2, h3⟩
        · rw [h2]
          rw [h3] at HW
          clear h2 h3 hend
          go_wp2_with fail
          refine (HW.out w5 (HF.out.below b9)).mono ?_
          rintro e w6 ⟨rfl, b10⟩
          go_wp2_with fail
          go_ret
          exact ⟨rfl, Below.next b9 b10⟩
        · rw [h2]
          obtain ⟨v3, hv3⟩ : ∃ v, valS f = v := ⟨_, rfl⟩
          rw [hv3] at HW
          clear h2 hend hv3
          go_wp2_with fail
          refine (HW.out w5 (HF.out.below b9)).mono ?_
          rintro e w6 ⟨rfl, b10⟩
          by_cases h0 : v3 = 0
          · subst h0
            go_wp2_with fail
            go_ret
            exact ⟨ret_bool (by simp), Below.next b9 b10⟩
          · have h0' : (v3 == 0) = false := by simpa using h0
            clear h0
            go_wp2_with fail
            go_ret
            exact ⟨ret_bool (by simp [h3]), Below.next b9 b10⟩
      · have HR := Lib.hid (fun a c a2 c2 a3 n3 c3 w h h2 => run_err f g nn a len c a2 len2 c2 a3 n3 c3 w h h2 he)
        have hatt : attS f g nn = ([], chkS nn [f, g]) := by unfold attS; rw [if_pos he]
        have HK := Lib.hid (fun a c a2 c2 w h h2 ht => attack_c f g nn a len c a2 len2 c2 w h h2 ht)
        rw [hatt] at HK
        obtain ⟨v1, hv1⟩ : ∃ v, chkS nn [f, g] = v := ⟨_, rfl⟩
        rw [hv1] at HV HR HK he
        have hv1' : (v1 != 0) = true := by simpa using he
        clear he hatt hv1
        go_enter Tryd.func5, Tryd.ntmps5
        go_wp2_with fail
        refine (HA.out w HT.out).mono ?_
        rintro e w1 ⟨rfl, b1⟩
        go_wp2_with fail
        refine (HV.out w1 (HF.out.below b1) (HG.out.below b1)).mono ?_
        rintro e w2 ⟨rfl, b2⟩
        have b3 := Below.next b1 b2
        clear b1 b2 HV HA
        go_wp2_with fail
        refine (HC.out w2 (HF.out.below b3)).mono ?_
        rintro e w3 ⟨a3, c3, rfl, r3, b4⟩
        have b5 := Below.next b3 b4
        have R3 := Lib.hid r3
        clear r3 b3 b4
        go_wp2_with fail
        refine (HC2.out w3 (HG.out.below b5)).mono ?_
        rintro e w4 ⟨a4, c4, rfl, r4, b6⟩
        have b7 := Below.next b5 b6
        have R4 := Lib.hid r4
        have R3' := Lib.hid (R3.out.below b6)
        clear r4 b5 b6 R3
        go_wp2_with fail
        have b8 : Below w4.heap.size w4 (w4.alloc (.cells #[.int .u8 0, .int .u8 1] 5)) := (Below.refl _ _).alloc (Nat.le_refl _) _
        refine (HR.out a3 c3 a4 c4 _ 2 2 _ (R3'.out.below b8) (R4.out.below b8)).mono ?_
        rintro e w5 ⟨rfl, b9⟩
        have b10 := Below.next (Below.next b7 b8) b9
        clear b7 b8 b9 R3' R4 HR
        go_wp2_with fail
        refine (HC.out w5 (HF.out.below b10)).mono ?_
        rintro e w6 ⟨a6, c6, rfl, r6, b11⟩
        have b12 := Below.next b10 b11
        have R6 := Lib.hid r6
        clear r6 b10 b11
        go_wp2_with fail
        refine (HC2.out w6 (HG.out.below b12)).mono ?_
        rintro e w7 ⟨a7, c7, rfl, r7, b13⟩
        have b14 := Below.next b12 b13
        have R7 := Lib.hid r7
        have R6' := Lib.hid (R6.out.below b13)
        clear r7 b12 b13 R6
        go_wp2_with fail
        refine (HK.out a6 c6 a7 c7 w7 R6'.out R7.out (HT.out.below b14)).mono ?_
        rintro e w8 ⟨a8, c8, rfl, _, b15⟩
        have b16 := Below.next b14 b15
        clear b14 b15 R6' R7 HK
        go_wp2_with fail
        refine (HV2.out w8 (HF.out.below b16)).mono ?_
        rintro e w9 ⟨rfl, b17⟩
        have b18 := Below.next b16 b17
        clear b16 b17 HV2
        go_wp2_with fail
        refine (HC.out w9 (HF.out.below b18)).mono ?_
        rintro e wA ⟨a4, c4, rfl, r4, b6⟩
        have b7 := Below.next b18 b6
        have R4 := Lib.hid r4
        clear r4 b18 b6 HC
        go_wp2_with fail
        refine (HN.out a4 c4 wA R4.out).mono ?_
        rintro e w5 ⟨rfl, b8⟩
        have b9 := Below.next b7 b8
        clear b7 b8 HN
        rcases hend.out with ⟨rfl, h2, h3⟩ | ⟨h1, h2, h3⟩
        · rw [h2]
          rw [h3] at HW
          clear h2 h3 hend
          go_wp2_with fail
          refine (HW.out w5 (HF.out.below b9)).mono ?_
          rintro e w6 ⟨rfl, b10⟩
          go_wp2_with fail
          go_ret
          exact ⟨rfl, Below.next b9 b10⟩
        · rw [h2]
          obtain ⟨v3, hv3⟩ : ∃ v, valS f = v := ⟨_, rfl⟩
          rw [hv3] at HW
          clear h2 hend hv3
          go_wp2_with fail
          refine (HW.out w5 (HF.out.below b9)).mono ?_
          rintro e w6 ⟨rfl, b10⟩
          by_cases h0 : v3 = 0
          · subst h0
            go_wp2_with fail
            go_ret
            exact ⟨ret_bool (by simp), Below.next b9 b10⟩
          · have h0' : (v3 == 0) = false := by simpa using h0
            clear h0
            go_wp2_with fail
            go_ret
            exact ⟨ret_bool (by simp [h3]), Below.next b9 b10⟩
end Go.Proofs.YtgfjmplifmbmlaaDoor
