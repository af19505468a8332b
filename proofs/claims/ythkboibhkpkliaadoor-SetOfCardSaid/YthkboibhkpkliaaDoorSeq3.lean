/- set.choose: the walk. -/
import Derived.Test.YthkboibhkpkliaaDoorSeq2
namespace Go.Proofs.YthkboibhkpkliaaDoor
open Go.RowKit Go.Shelf
attribute [local go_sem] Oper.semAt_some

@[go_sem] theorem bv32_shr2 (x : BitVec 32) : (V x) / 4 = V (shrV x 2) := by have := bv32_shr x 2; simpa using this

@[go_sem] theorem V_mod (x : BitVec 32) : V x % 4294967296 = V x := by have := V_bd x; omega
@[go_sem] theorem U_mod (x : BitVec 16) : U x % 65536 = U x := by have := U_bd x; omega

theorem grown_of_below {W W' : World} (h : Below W.heap.size W W') : W.grownBy W' none := ⟨h.os, h.tape, h.output, h.size, fun k hk _ => h.block k hk⟩
theorem abides_below {β : Type} {B : Nat} {J : β → World → Prop} (h : AbidesFrom B J) {s : β} {W W' : World} (hs : J s W) (hb : Below W.heap.size W W') : J s W' :=
  h s W W' none hs (grown_of_below hb) (fun r e => by cases e)

theorem numsTo_lt (k : Int) (n N : Nat) (h : n < N) (hk : (popR 32 n : Int) = k) : (numsTo k n).length < (numsTo k N).length := by
  obtain ⟨d, rfl⟩ : ∃ d, N = n + (1 + d) := ⟨N - n - 1, by omega⟩
  unfold numsTo
  rw [List.range_add, List.filter_append, List.range_add, List.map_append, List.filter_append, List.length_append, List.length_append]
  have e1 : List.filter (fun n => (popR 32 n : Int) == k) (List.map (fun x => n + x) (List.range 1)) = [n] := by simp [List.range_succ, hk]
  rw [e1]
  simp; omega
theorem numsTo_zero (k : Int) (c : Nat) (hk : (popR 32 0 : Int) = k) (hc : c ≤ 16) : numsTo k (2 ^ c) = [0] := by
  have hp : 0 < 2 ^ c := Nat.two_pow_pos c
  have h1 : numsTo k (0 + 1) = [0] := by unfold numsTo; simp [List.range_succ, hk]
  rw [numsTo_cut k (0 + 1) (2 ^ c) (by omega), h1]
  intro m h1 h2
  rw [popR_zero] at hk
  have hm : m < 2 ^ 32 := Nat.lt_of_lt_of_le h2 (Nat.pow_le_pow_right (by decide) (by omega))
  have := popR_pos 32 m hm (by omega)
  omega

set_option maxRecDepth 100000 in
set_option maxHeartbeats 4000000 in
theorem choose_in (l N B : Nat) (C : Nat → TypeId → Prop) (hCi : ∀ k, C k 3) (x : BitVec 16) (J Jx : List (BitVec 16) → World → Prop) (hJ : AbidesFrom B J)
    (hY : ∀ m pre y W, J pre W → pre.length < N → YieldAt Fence.wide m Tryd.prog l #[.int .u16 (U y)] W fun e W' =>
      (e = .returned (.bool true) ∧ J (pre ++ [y]) W' ∧ KeepC C W W') ∨ (e = .returned (.bool false) ∧ Jx (pre ++ [y]) W'))
    (n : Nat) (k : Int) (pre : List (BitVec 16)) (W : World) (ht : HasTab W) (h0 : J pre W) (hN : pre.length + (chooseS x k).length ≤ N) :
    CallsIn Fence.wide n Tryd.prog 45 #[.int .u16 (U x), .int .i64 k, .func (.yield l) #[] #[]] W fun e W' =>
      (e = .returned (.bool true) ∧ J (pre ++ chooseS x k) W' ∧ KeepC C W W') ∨ (e = .returned (.bool false) ∧ ∃ q, q <+: chooseS x k ∧ Jx (pre ++ q) W') := by
  have hcl := cnt_le x
  by_cases hk : 0 ≤ k ∧ k ≤ cnt x
  · obtain ⟨kk, rfl⟩ := Int.eq_ofNat_of_zero_le hk.1
    have hkc : kk ≤ cnt x := by omega
    have hf1 := numsTo_first kk (by omega)
    have hvf := V_first kk (by omega)
    have hpc := Nat.pow_le_pow_right (show 0 < 2 by decide) hkc
    have hp2 := Nat.two_pow_pos kk
    have hc16 : 2 ^ cnt x ≤ 2 ^ 16 := Nat.pow_le_pow_right (by decide) hcl
    have hvc := V_pow (cnt x) hcl
    have hcs := chooseS_dep x kk
    have hd1 : decide ((kk : Int) < 0) = false := by simp
    have hd2 : decide (cnt x < kk) = false := by simp; omega
    have HF := Lib.hid hf1; have HV := Lib.hid hvf; have HPC := Lib.hid hpc; have HP2 := Lib.hid hp2; have HC := Lib.hid hc16; have HVC := Lib.hid hvc; have HCS := Lib.hid hcs
    have HN := Lib.hid hN
    clear hf1 hvf hpc hp2 hc16 hvc hcs hk hN
    have HY := Lib.hid hY
    have HJ := Lib.hid hJ
    have HX := Lib.hid hCi
    clear hY hJ hCi
    refine callsIn_of_wp Tryd.func45 rfl trivial ?_ rfl
    simp only [Tryd.ntmps45, List.size_toArray, List.length_cons, List.length_nil, Nat.reduceAdd, Nat.reduceSub, Array.replicate_succ, Array.replicate_zero, List.push_toArray, List.append_toArray, List.nil_append, List.cons_append]
    have HT := Lib.hid ht
    clear ht
    gi_wp2_with fail
    refine ⟨trivial, fun h => (by cases h), ?_⟩
    refine (callsIn_wide.2 (members_c x _ _ rfl HT.out)).mono ?_
    rintro e W1 ⟨v, rfl, hown, hb⟩
    obtain ⟨la, lc, rfl, hr⟩ := hown.rdn (cnt x) (by simp [cnt])
    have h1 : J pre W1 := abides_below HJ.out h0 hb
    have hkx : KeepC C W W1 := KeepC.of_below C hb
    have hsafe : Hid (∀ b o cur t f, la = some ⟨b, o, none⟩ → W1.heap[b]? = some (.cells cur t f) → C b t) := by
      intro b o cur t f e hbk
      subst e
      rw [hown.type rfl hbk]
      exact HX.out b
    have hrl := hr.le
    have hrm := hr.max
    unfold maxLen at hrm
    clear hown hb h0
    gi_wp2_with fail
    gi_loopw [8] (fun nv wr => ∃ nn : BitVec 32, nv = .int .u32 (V nn) ∧ Hid ((popR 32 nn.toNat : Int) = kk) ∧ J (pre ++ (numsTo kk nn.toNat).map (dep (memS x))) wr ∧ KeepC C W1 wr ∧ Hid (2 ^ cnt x ≤ nn.toNat → numsTo kk nn.toNat = numsTo kk (2 ^ cnt x))) (fun nv _ => 2 ^ cnt x - (intOf nv).toNat)
    case atStart =>
      refine ⟨bitV kk - 1#32, rfl, ?_, ?_, KeepC.refl _ _, ?_⟩
      · rw [HV.out]; exact HF.out.1
      · rw [HV.out, HF.out.2]; simpa using h1
      · intro h; rw [HV.out] at h; have := HPC.out; have := HP2.out; omega
    case round =>
      obtain ⟨nn, rfl, hpop, hj, hkw, hcut⟩ := hrel
      by_cases hlt0 : nn.toNat < 2 ^ cnt x
      · have hdt : decide (V nn < V (bitV (cnt x))) = true := by
          rw [decide_eq_true_eq, HVC.out]; unfold V
          have : ((2 : Int) ^ cnt x) = ((2 ^ cnt x : Nat) : Int) := by simp
          omega
        have hlt := Lib.hid hlt0
        clear hlt0
        have hrw := hr.keepC hkw hsafe.out
        have hlen : Hid ((pre ++ (numsTo kk nn.toNat).map (dep (memS x))).length < N) := by
          have h2 := numsTo_lt kk nn.toNat (2 ^ cnt x) hlt.out hpop.out
          have h3 := HN.out
          rw [HCS.out, List.length_map] at h3
          show _ < N
          rw [List.length_append, List.length_map]
          omega
        gi_wp2_with fail
        gi_loop [9, 34] (fun out i => ∃ j : Nat, j ≤ cnt x ∧ i = .int .i64 j ∧ out = .int .u16 (U (dep ((memS x).take j) nn.toNat))) (fun _ i => cnt x - (intOf i).toNat)
        case atStart => exact ⟨0, Nat.zero_le _, rfl, rfl⟩
        case round =>
          obtain ⟨j, hjc, rfl, rfl⟩ := hrel
          by_cases hjl : j < cnt x
          · obtain ⟨m, hm⟩ : ∃ m, (memS x)[j]? = some m := ⟨_, List.getElem?_eq_getElem (show j < (memS x).length from hjl)⟩
            have hm16 := memS_lt hm
            have hd := Lib.hid (dep_take hm nn.toNat)
            obtain ⟨b, o, rfl, hcell⟩ := hrw.at' (by omega)
            have hc := hcell j (intV m) (by simp [hm])
            unfold intV at hc
            clear hcell hm hrw hr
            cases hb : hasV nn j
            · have hb' : nn.toNat.testBit j = false := hb
              have HB := Lib.hid hb'
              clear hb'
              gi_wp2_with fail
              go_round
              case rel => exact ⟨j + 1, by omega, by go_num, by rw [hd.out, HB.out]; simp⟩
              case measure => simp [intOf]; omega
            · have hb' : nn.toNat.testBit j = true := hb
              have HB := Lib.hid hb'
              clear hb'
              gi_wp2_with fail
              go_round
              case rel => exact ⟨j + 1, by omega, by go_num, by rw [hd.out, HB.out]; simp⟩
              case measure => simp [intOf]; omega
          · have hjE : Hid (List.take j (memS x) = memS x) := by
              show List.take j (memS x) = memS x
              rw [List.take_of_length_le]; unfold cnt at hjl; omega
            rw [hjE.out]
            clear hrw
            obtain ⟨fn, tmps, assign, body, hy, hR⟩ := HY.out n (pre ++ (numsTo kk nn.toNat).map (dep (memS x))) (dep (memS x) nn.toNat) wr hj hlen.out
            have hR' : RoundIn Fence.wide (n - 1) Tryd.prog l fn tmps assign body wr _ := ⟨hR.1, fun c cs _ => hR.2 c cs (room_of_none rfl _)⟩
            clear hR
            by_cases hz : nn = 0#32
            · subst hz
              change (Instr.yield l #[.int .u16 (U (dep (memS x) 0))]).run Tryd.prog wr = _ at hy
              have hE : Hid (chooseS x kk = (numsTo kk 0).map (dep (memS x)) ++ [dep (memS x) 0]) := by
                show chooseS x kk = _
                rw [HCS.out, numsTo_zero kk (cnt x) hpop.out hcl]
                rfl
              gi_wp2_with fail
              refine ⟨fun h => (by cases h), ?_⟩
              refine hR'.mono ?_
              clear hR' hy
              rintro e W3 (⟨rfl, hj3, hk3⟩ | ⟨rfl, hj3⟩)
              · gi_wp2_with fail
                go_ret
                refine .inl ⟨rfl, ?_, hkx.trans (hkw.trans hk3)⟩
                rw [hE.out, ← List.append_assoc]; exact hj3
              · gi_wp2_with fail
                go_ret
                refine .inr ⟨rfl, _, (by rw [hE.out]; exact List.prefix_refl _), ?_⟩
                rw [← List.append_assoc]; exact hj3
            · have hz1 : (nn == 0#32) = false := by simpa using hz
              have hn16 : nn.toNat < 2 ^ 16 := Nat.lt_of_lt_of_le hlt.out HC.out
              obtain ⟨i, jj, A, hrf⟩ := run_form nn.toNat (fun e => hz (BitVec.eq_of_toNat_eq (by simpa using e)))
              obtain ⟨hlow, hi16, _⟩ := next_nat nn hn16 i jj A hrf
              have hl0 : (nn &&& -nn == 0#32) = false := by
                rw [hlow]
                have h5 : 2 ^ i < 2 ^ 16 := Nat.pow_lt_pow_right (by decide) hi16
                have h6 := Nat.two_pow_pos i
                rw [beq_eq_false_iff_ne]
                intro e
                have := congrArg BitVec.toNat e
                simp only [BitVec.toNat_ofNat] at this
                omega
              have hl1 : ¬ V (nn &&& -nn) = 0 := by
                intro e
                rw [← V_zero] at e
                have := V_inj e
                rw [this] at hl0
                exact absurd hl0 (by decide)
              have hnx := numsTo_next kk nn hz hn16 hpop.out
              have hsp := next_spec nn hz hn16
              have HNX := Lib.hid hnx
              have HSP := Lib.hid hsp
              have hpre : Hid ((numsTo kk nn.toNat).map (dep (memS x)) ++ [dep (memS x) nn.toNat] <+: chooseS x kk) := by
                show _ <+: _
                rw [HCS.out]
                obtain ⟨d, hd⟩ : ∃ d, 2 ^ cnt x = nn.toNat + 1 + d := ⟨2 ^ cnt x - nn.toNat - 1, by have := hlt.out; omega⟩
                refine ⟨((List.range' (nn.toNat + 1) d).filter (fun n => (popR 32 n : Int) == kk)).map (dep (memS x)), ?_⟩
                unfold numsTo
                rw [hd, List.range_eq_range' (n := nn.toNat + 1 + d), ← List.range'_append_1, Nat.zero_add, List.filter_append, List.map_append]
                congr 1
                rw [← List.range_eq_range', List.range_succ, List.filter_append, List.map_append]
                congr 1
                simp [hpop.out]
              clear hz hrf hlow hnx hsp
              gi_wp2_with fail
              refine ⟨fun h => (by cases h), ?_⟩
              refine hR'.mono ?_
              clear hR' hy
              rintro e W3 (⟨rfl, hj3, hk3⟩ | ⟨rfl, hj3⟩)
              · gi_wp2_with fail
                go_roundw
                case rel =>
                  refine ⟨nextV nn, rfl, HNX.out.2.1, ?_, hkw.trans hk3, ?_⟩
                  · rw [HNX.out.2.2, List.map_append, ← List.append_assoc]; exact hj3
                  · intro hge
                    refine numsTo_cut _ _ _ hge fun m h1 h2 => ?_
                    have h3 := HSP.out.2.2 m (Nat.lt_of_lt_of_le hlt.out h1) h2
                    have h4 := hpop.out
                    omega
                case measure =>
                  have h1 := HNX.out.1
                  have h2 := hlt.out
                  show 2 ^ cnt x - (V (nextV nn)).toNat < 2 ^ cnt x - (V nn).toNat
                  unfold V
                  rw [Int.toNat_natCast, Int.toNat_natCast]
                  omega
              · gi_wp2_with fail
                go_ret
                refine .inr ⟨rfl, _, hpre.out, ?_⟩
                rw [← List.append_assoc]; exact hj3
      · have hdt : decide (V nn < V (bitV (cnt x))) = false := by
          rw [decide_eq_false_iff_not, HVC.out]; unfold V
          have : ((2 : Int) ^ cnt x) = ((2 ^ cnt x : Nat) : Int) := by simp
          omega
        have hE : Hid (numsTo kk nn.toNat = numsTo kk (2 ^ cnt x)) := hcut.out (by omega)
        clear hlt0
        gi_wp2_with fail
        go_ret
        refine .inl ⟨rfl, ?_, hkx.trans hkw⟩
        rw [HCS.out, ← hE.out]; exact hj
  · have hE : Hid (chooseS x k = []) := chooseS_out x k (by omega)
    have HT := Lib.hid ht
    have HJ := Lib.hid hJ
    clear ht hCi hJ hY hN
    refine callsIn_of_wp Tryd.func45 rfl trivial ?_ rfl
    simp only [Tryd.ntmps45, List.size_toArray, List.length_cons, List.length_nil, Nat.reduceAdd, Nat.reduceSub, Array.replicate_succ, Array.replicate_zero, List.push_toArray, List.append_toArray, List.nil_append, List.cons_append]
    gi_wp2_with fail
    refine ⟨trivial, fun h => (by cases h), ?_⟩
    refine (callsIn_wide.2 (members_c x _ _ rfl HT.out)).mono ?_
    rintro e W1 ⟨v, rfl, hown, hb⟩
    obtain ⟨la, lc, rfl, hr⟩ := hown.rdn (cnt x) (by simp [cnt])
    have h1 : J pre W1 := abides_below HJ.out h0 hb
    have hkx : KeepC C W W1 := KeepC.of_below C hb
    clear hown hr h0
    by_cases hk0 : k < 0
    · gi_wp2_with fail
      go_ret
      exact .inl ⟨rfl, by rw [hE.out, List.append_nil]; exact h1, hkx⟩
    · have hk1 : (cnt x : Int) < k := by omega
      gi_wp2_with fail
      go_ret
      exact .inl ⟨rfl, by rw [hE.out, List.append_nil]; exact h1, hkx⟩
end Go.Proofs.YthkboibhkpkliaaDoor
