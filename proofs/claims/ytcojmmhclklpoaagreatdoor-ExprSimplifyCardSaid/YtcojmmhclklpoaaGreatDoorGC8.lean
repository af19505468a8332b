/- Texts laid together. set.choose: the walk. set.Subsets and set.Choose as iterators; slices.Collect of sets. expr.Family. Layer 10, plain: the dual expression. No program. expr.Dual. -/
import Derived.Test.YtcojmmhclklpoaaGreatDoorGC1
import Derived.Test.YtcojmmhclklpoaaGreatDoorGC2
import Derived.Test.YtcojmmhclklpoaaGreatDoorGC3
import Derived.Test.YtcojmmhclklpoaaGreatDoorGC6
import Derived.Test.YtcojmmhclklpoaaGreatDoorGC7
import Derived.RangeFuncBox
import Derived.Maps.AppendAt
import Derived.RangeFuncWrites
import Derived.RangeFuncCalls
import Derived.RangeFuncLeaves
import Derived.Sort.QuietIn
import Derived.Deep.RegionLaw
namespace Go.Proofs.YtcojmmhclklpoaaGreatDoor
open Go.RowKit Go.Shelf
attribute [local go_sem] Oper.semAt_some

@[go_sem] theorem bv32_shr2 (x : BitVec 32) : (V x) / 4 = V (shrV x 2) := by have := bv32_shr x 2; simpa using this

@[go_sem] theorem V_mod (x : BitVec 32) : V x % 4294967296 = V x := by have := V_bd x; omega
@[go_sem] theorem U_mod (x : BitVec 16) : U x % 65536 = U x := by have := U_bd x; omega

theorem grown_of_below {W W' : World} (h : Below W.heap.size W W') : W.grownBy W' none := ⟨h.os, h.tape, h.output, h.size, fun k hk _ => h.block k hk⟩
theorem abides_below {β : Type} {B : Nat} {J : β → World → Prop} (h : AbidesFrom B J) {s : β} {W W' : World} (hs : J s W) (hb : Below W.heap.size W W') : J s W' :=
  h s W W' none hs (grown_of_below hb) (fun r e => by cases e)

theorem numsTo_lt (k : Int) (n N : Nat) (h : n < N) (hk : (popR 32 n : Int) = k) : (numsTo k n).length < (numsTo k N).length := by
  obtain ⟨d, rfl⟩ : ∃ d, N = n + (1 + d) := ⟨N - n - 1, by omega⟩
  unfold numsTo
  rw [List.range_add, List.filter_append, List.range_add, List.map_append, List.filter_append, List.length_append, List.length_append]
  have e1 : List.filter (fun n => (popR 32 n : Int) == k) (List.map (fun x => n + x) (List.range 1)) = [n] := by simp [List.range_succ, hk]
  rw [e1]
  simp; omega
theorem numsTo_zero (k : Int) (c : Nat) (hk : (popR 32 0 : Int) = k) (hc : c ≤ 16) : numsTo k (2 ^ c) = [0] := by
  have hp : 0 < 2 ^ c := Nat.two_pow_pos c
  have h1 : numsTo k (0 + 1) = [0] := by unfold numsTo; simp [List.range_succ, hk]
  rw [numsTo_cut k (0 + 1) (2 ^ c) (by omega), h1]
  intro m h1 h2
  rw [popR_zero] at hk
  have hm : m < 2 ^ 32 := Nat.lt_of_lt_of_le h2 (Nat.pow_le_pow_right (by decide) (by omega))
  have := popR_pos 32 m hm (by omega)
  omega

set_option maxRecDepth 100000 in
set_option maxHeartbeats 4000000 in
theorem choose_in (l N B : Nat) (C : Nat → TypeId → Prop) (hCi : ∀ k, C k 3) (x : BitVec 16) (J Jx : List (BitVec 16) → World → Prop) (hJ : AbidesFrom B J)
    (hY : ∀ m pre y W, J pre W → pre.length < N → YieldAt Fence.wide m Tryz.prog l #[.int .u16 (U y)] W fun e W' =>
      (e = .returned (.bool true) ∧ J (pre ++ [y]) W' ∧ KeepC C W W') ∨ (e = .returned (.bool false) ∧ Jx (pre ++ [y]) W'))
    (n : Nat) (k : Int) (pre : List (BitVec 16)) (W : World) (ht : HasTab W) (h0 : J pre W) (hN : pre.length + (chooseS x k).length ≤ N) :
    CallsIn Fence.wide n Tryz.prog 83 #[.int .u16 (U x), .int .i64 k, .func (.yield l) #[] #[]] W fun e W' =>
      (e = .returned (.bool true) ∧ J (pre ++ chooseS x k) W' ∧ KeepC C W W') ∨ (e = .returned (.bool false) ∧ ∃ q, q <+: chooseS x k ∧ Jx (pre ++ q) W') := by
  have hcl := cnt_le x
  by_cases hk : 0 ≤ k ∧ k ≤ cnt x
  · obtain ⟨kk, rfl⟩ := Int.eq_ofNat_of_zero_le hk.1
    have hkc : kk ≤ cnt x := by omega
    have hf1 := numsTo_first kk (by omega)
    have hvf := V_first kk (by omega)
    have hpc := Nat.pow_le_pow_right (show 0 < 2 by decide) hkc
    have hp2 := Nat.two_pow_pos kk
    have hc16 : 2 ^ cnt x ≤ 2 ^ 16 := Nat.pow_le_pow_right (by decide) hcl
    have hvc := V_pow (cnt x) hcl
    have hcs := chooseS_dep x kk
    have hd1 : decide ((kk : Int) < 0) = false := by simp
    have hd2 : decide (cnt x < kk) = false := by simp; omega
    have HF := Lib.hid hf1; have HV := Lib.hid hvf; have HPC := Lib.hid hpc; have HP2 := Lib.hid hp2; have HC := Lib.hid hc16; have HVC := Lib.hid hvc; have HCS := Lib.hid hcs
    have HN := Lib.hid hN
    clear hf1 hvf hpc hp2 hc16 hvc hcs hk hN
    have HY := Lib.hid hY
    have HJ := Lib.hid hJ
    have HX := Lib.hid hCi
    clear hY hJ hCi
    refine callsIn_of_wp Tryz.func83 rfl trivial ?_ rfl
    simp only [Tryz.ntmps83, List.size_toArray, List.length_cons, List.length_nil, Nat.reduceAdd, Nat.reduceSub, Array.replicate_succ, Array.replicate_zero, List.push_toArray, List.append_toArray, List.nil_append, List.cons_append]
    have HT := Lib.hid ht
    clear ht
    gi_wp2_with fail
    refine ⟨trivial, fun h => (by cases h), ?_⟩
    refine (callsIn_wide.2 (members_c x _ _ rfl HT.out)).mono ?_
    rintro e W1 ⟨v, rfl, hown, hb⟩
    obtain ⟨la, lc, rfl, hr⟩ := hown.rdn (cnt x) (by simp [cnt])
    have h1 : J pre W1 := abides_below HJ.out h0 hb
    have hkx : KeepC C W W1 := KeepC.of_below C hb
    have hsafe : Hid (∀ b o cur t f, la = some ⟨b, o, none⟩ → W1.heap[b]? = some (.cells cur t f) → C b t) := by
      intro b o cur t f e hbk
      subst e
      rw [hown.type rfl hbk]
      exact HX.out b
    have hrl := hr.le
    have hrm := hr.max
    unfold maxLen at hrm
    clear hown hb h0
    gi_wp2_with fail
    gi_loopw [8] (fun nv wr => ∃ nn : BitVec 32, nv = .int .u32 (V nn) ∧ Hid ((popR 32 nn.toNat : Int) = kk) ∧ J (pre ++ (numsTo kk nn.toNat).map (dep (memS x))) wr ∧ KeepC C W1 wr ∧ Hid (2 ^ cnt x ≤ nn.toNat → numsTo kk nn.toNat = numsTo kk (2 ^ cnt x))) (fun nv _ => 2 ^ cnt x - (intOf nv).toNat)
    case atStart =>
      refine ⟨bitV kk - 1#32, rfl, ?_, ?_, KeepC.refl _ _, ?_⟩
      · rw [HV.out]; exact HF.out.1
      · rw [HV.out, HF.out.2]; simpa using h1
      · intro h; rw [HV.out] at h; have := HPC.out; have := HP2.out; omega
    case round =>
      obtain ⟨nn, rfl, hpop, hj, hkw, hcut⟩ := hrel
      by_cases hlt0 : nn.toNat < 2 ^ cnt x
      · have hdt : decide (V nn < V (bitV (cnt x))) = true := by
          rw [decide_eq_true_eq, HVC.out]; unfold V
          have : ((2 : Int) ^ cnt x) = ((2 ^ cnt x : Nat) : Int) := by simp
          omega
        have hlt := Lib.hid hlt0
        clear hlt0
        have hrw := hr.keepC hkw hsafe.out
        have hlen : Hid ((pre ++ (numsTo kk nn.toNat).map (dep (memS x))).length < N) := by
          have h2 := numsTo_lt kk nn.toNat (2 ^ cnt x) hlt.out hpop.out
          have h3 := HN.out
          rw [HCS.out, List.length_map] at h3
          show _ < N
          rw [List.length_append, List.length_map]
          omega
        gi_wp2_with fail
        gi_loop [9, 34] (fun out i => ∃ j : Nat, j ≤ cnt x ∧ i = .int .i64 j ∧ out = .int .u16 (U (dep ((memS x).take j) nn.toNat))) (fun _ i => cnt x - (intOf i).toNat)
        case atStart => exact ⟨0, Nat.zero_le _, rfl, rfl⟩
        case round =>
          obtain ⟨j, hjc, rfl, rfl⟩ := hrel
          by_cases hjl : j < cnt x
          · obtain ⟨m, hm⟩ : ∃ m, (memS x)[j]? = some m := ⟨_, List.getElem?_eq_getElem (show j < (memS x).length from hjl)⟩
            have hm16 := memS_lt hm
            have hd := Lib.hid (dep_take hm nn.toNat)
            obtain ⟨b, o, rfl, hcell⟩ := hrw.at' (by omega)
            have hc := hcell j (intV m) (by simp [hm])
            unfold intV at hc
            clear hcell hm hrw hr
            cases hb : hasV nn j
            · have hb' : nn.toNat.testBit j = false := hb
              have HB := Lib.hid hb'
              clear hb'
              gi_wp2_with fail
              go_round
              case rel => exact ⟨j + 1, by omega, by go_num, by rw [hd.out, HB.out]; simp⟩
              case measure => simp [intOf]; omega
            · have hb' : nn.toNat.testBit j = true := hb
              have HB := Lib.hid hb'
              clear hb'
              gi_wp2_with fail
              go_round
              case rel => exact ⟨j + 1, by omega, by go_num, by rw [hd.out, HB.out]; simp⟩
              case measure => simp [intOf]; omega
          · have hjE : Hid (List.take j (memS x) = memS x) := by
              show List.take j (memS x) = memS x
              rw [List.take_of_length_le]; unfold cnt at hjl; omega
            rw [hjE.out]
            clear hrw
            obtain ⟨fn, tmps, assign, body, hy, hR⟩ := HY.out n (pre ++ (numsTo kk nn.toNat).map (dep (memS x))) (dep (memS x) nn.toNat) wr hj hlen.out
            have hR' : RoundIn Fence.wide (n - 1) Tryz.prog l fn tmps assign body wr _ := ⟨hR.1, fun c cs _ => hR.2 c cs (room_of_none rfl _)⟩
            clear hR
            by_cases hz : nn = 0#32
            · subst hz
              change (Instr.yield l #[.int .u16 (U (dep (memS x) 0))]).run Tryz.prog wr = _ at hy
              have hE : Hid (chooseS x kk = (numsTo kk 0).map (dep (memS x)) ++ [dep (memS x) 0]) := by
                show chooseS x kk = _
                rw [HCS.out, numsTo_zero kk (cnt x) hpop.out hcl]
                rfl
              gi_wp2_with fail
              refine ⟨fun h => (by cases h), ?_⟩
              refine hR'.mono ?_
              clear hR' hy
              rintro e W3 (⟨rfl, hj3, hk3⟩ | ⟨rfl, hj3⟩)
              · gi_wp2_with fail
                go_ret
                refine .inl ⟨rfl, ?_, hkx.trans (hkw.trans hk3)⟩
                rw [hE.out, ← List.append_assoc]; exact hj3
              · gi_wp2_with fail
                go_ret
                refine .inr ⟨rfl, _, (by rw [hE.out]; exact List.prefix_refl _), ?_⟩
                rw [← List.append_assoc]; exact hj3
            · have hz1 : (nn == 0#32) = false := by simpa using hz
              have hn16 : nn.toNat < 2 ^ 16 := Nat.lt_of_lt_of_le hlt.out HC.out
              obtain ⟨i, jj, A, hrf⟩ := run_form nn.toNat (fun e => hz (BitVec.eq_of_toNat_eq (by simpa using e)))
              obtain ⟨hlow, hi16, _⟩ := next_nat nn hn16 i jj A hrf
              have hl0 : (nn &&& -nn == 0#32) = false := by
                rw [hlow]
                have h5 : 2 ^ i < 2 ^ 16 := Nat.pow_lt_pow_right (by decide) hi16
                have h6 := Nat.two_pow_pos i
                rw [beq_eq_false_iff_ne]
                intro e
                have := congrArg BitVec.toNat e
                simp only [BitVec.toNat_ofNat] at this
                omega
              have hl1 : ¬ V (nn &&& -nn) = 0 := by
                intro e
                rw [← V_zero] at e
                have := V_inj e
                rw [this] at hl0
                exact absurd hl0 (by decide)
              have hnx := numsTo_next kk nn hz hn16 hpop.out
              have hsp := next_spec nn hz hn16
              have HNX := Lib.hid hnx
              have HSP := Lib.hid hsp
              have hpre : Hid ((numsTo kk nn.toNat).map (dep (memS x)) ++ [dep (memS x) nn.toNat] <+: chooseS x kk) := by
                show _ <+: _
                rw [HCS.out]
                obtain ⟨d, hd⟩ : ∃ d, 2 ^ cnt x = nn.toNat + 1 + d := ⟨2 ^ cnt x - nn.toNat - 1, by have := hlt.out; omega⟩
                refine ⟨((List.range' (nn.toNat + 1) d).filter (fun n => (popR 32 n : Int) == kk)).map (dep (memS x)), ?_⟩
                unfold numsTo
                rw [hd, List.range_eq_range' (n := nn.toNat + 1 + d), ← List.range'_append_1, Nat.zero_add, List.filter_append, List.map_append]
                congr 1
                rw [← List.range_eq_range', List.range_succ, List.filter_append, List.map_append]
                congr 1
                simp [hpop.out]
              clear hz hrf hlow hnx hsp
              gi_wp2_with fail
              refine ⟨fun h => (by cases h), ?_⟩
              refine hR'.mono ?_
              clear hR' hy
              rintro e W3 (⟨rfl, hj3, hk3⟩ | ⟨rfl, hj3⟩)
              · gi_wp2_with fail
                go_roundw
                case rel =>
                  refine ⟨nextV nn, rfl, HNX.out.2.1, ?_, hkw.trans hk3, ?_⟩
                  · rw [HNX.out.2.2, List.map_append, ← List.append_assoc]; exact hj3
                  · intro hge
                    refine numsTo_cut _ _ _ hge fun m h1 h2 => ?_
                    have h3 := HSP.out.2.2 m (Nat.lt_of_lt_of_le hlt.out h1) h2
                    have h4 := hpop.out
                    omega
                case measure =>
                  have h1 := HNX.out.1
                  have h2 := hlt.out
                  show 2 ^ cnt x - (V (nextV nn)).toNat < 2 ^ cnt x - (V nn).toNat
                  unfold V
                  rw [Int.toNat_natCast, Int.toNat_natCast]
                  omega
              · gi_wp2_with fail
                go_ret
                refine .inr ⟨rfl, _, hpre.out, ?_⟩
                rw [← List.append_assoc]; exact hj3
      · have hdt : decide (V nn < V (bitV (cnt x))) = false := by
          rw [decide_eq_false_iff_not, HVC.out]; unfold V
          have : ((2 : Int) ^ cnt x) = ((2 ^ cnt x : Nat) : Int) := by simp
          omega
        have hE : Hid (numsTo kk nn.toNat = numsTo kk (2 ^ cnt x)) := hcut.out (by omega)
        clear hlt0
        gi_wp2_with fail
        go_ret
        refine .inl ⟨rfl, ?_, hkx.trans hkw⟩
        rw [HCS.out, ← hE.out]; exact hj
  · have hE : Hid (chooseS x k = []) := chooseS_out x k (by omega)
    have HT := Lib.hid ht
    have HJ := Lib.hid hJ
    clear ht hCi hJ hY hN
    refine callsIn_of_wp Tryz.func83 rfl trivial ?_ rfl
    simp only [Tryz.ntmps83, List.size_toArray, List.length_cons, List.length_nil, Nat.reduceAdd, Nat.reduceSub, Array.replicate_succ, Array.replicate_zero, List.push_toArray, List.append_toArray, List.nil_append, List.cons_append]
    gi_wp2_with fail
    refine ⟨trivial, fun h => (by cases h), ?_⟩
    refine (callsIn_wide.2 (members_c x _ _ rfl HT.out)).mono ?_
    rintro e W1 ⟨v, rfl, hown, hb⟩
    obtain ⟨la, lc, rfl, hr⟩ := hown.rdn (cnt x) (by simp [cnt])
    have h1 : J pre W1 := abides_below HJ.out h0 hb
    have hkx : KeepC C W W1 := KeepC.of_below C hb
    clear hown hr h0
    by_cases hk0 : k < 0
    · gi_wp2_with fail
      go_ret
      exact .inl ⟨rfl, by rw [hE.out, List.append_nil]; exact h1, hkx⟩
    · have hk1 : (cnt x : Int) < k := by omega
      gi_wp2_with fail
      go_ret
      exact .inl ⟨rfl, by rw [hE.out, List.append_nil]; exact h1, hkx⟩
end Go.Proofs.YtcojmmhclklpoaaGreatDoor
namespace Go.Proofs.YtcojmmhclklpoaaGreatDoor
open Go.RowKit Go.Shelf
attribute [local go_sem] Oper.semAt_some

theorem subsTo_prefix (x : BitVec 16) (k : Nat) (h : k ≤ cnt x) (q : List (BitVec 16)) (hq : q <+: chooseS x k) : subsTo x k ++ q <+: subsS x := by
  obtain ⟨d, hd⟩ : ∃ d, cnt x + 1 = (k + 1) + d := ⟨cnt x - k, by omega⟩
  obtain ⟨r, hr⟩ := hq
  unfold subsS
  rw [hd]
  refine ⟨r ++ ((List.range d).map (fun i => k + 1 + i)).flatMap (fun (k : Nat) => chooseS x (k : Int)), ?_⟩
  have e : subsTo x (k + 1 + d) = subsTo x (k + 1) ++ ((List.range d).map (fun i => k + 1 + i)).flatMap (fun (k : Nat) => chooseS x (k : Int)) := by
    unfold subsTo; rw [List.range_add, List.flatMap_append]
  rw [e, subsTo_succ, ← hr]
  simp [List.append_assoc]

set_option maxRecDepth 100000 in
set_option maxHeartbeats 2000000 in
theorem subsets1_stops (n Bs : Nat) (C : Nat → TypeId → Prop) (hCi : ∀ k, C k 3) (hCg : ∀ t, C 0 t) (hCs : ∀ t, C Bs t) (x : BitVec 16) (w : World) (ht : HasTab w)
    (hs : w.cell? ⟨Bs, 0, none⟩ = some (.int .u16 (U x))) :
    SeqStopsK Fence.wide n Tryz.prog 81 #[.pointer (some ⟨Bs, 0, none⟩)] (fun y : BitVec 16 => #[Value.int .u16 (U y)]) (KeepC C) (fun ys => ys = subsS x) (fun pre => pre <+: subsS x) (subsS x).length w := by
  intro l J Jx W hW hJ hJx hY h0
  have hs' : W.cell? ⟨Bs, 0, none⟩ = some (.int .u16 (U x)) := (hW.cell (p := ⟨Bs, 0, none⟩) (cell_lt hs)).trans hs
  have hc := fun k => choose_in l (subsS x).length W.heap.size C hCi x J Jx hJ (fun m pre y W hj hl => YieldAt.any m (hY pre y W hj hl)) (n - 1) k
  have HC := Lib.hid hc
  have HT := Lib.hid (ht.below hW)
  have HJ := Lib.hid hJ
  have HCS := Lib.hid hCs
  have HCG := Lib.hid hCg
  have HS := Lib.hid hs'
  have hcl := cnt_le x
  clear hc hY hJ hJx hW hCi hCg hCs hs ht hs'
  refine callsIn_of_wp Tryz.func81 rfl trivial ?_ rfl
  simp only [Tryz.ntmps81, List.size_toArray, List.length_cons, List.length_nil, Nat.reduceAdd, Nat.reduceSub, Array.replicate_succ, Array.replicate_zero, List.push_toArray, List.append_toArray, List.nil_append, List.cons_append]
  gi_wp2_with fail
  gi_loopw [3] (fun i wr => ∃ k : Nat, k ≤ cnt x + 1 ∧ i = .int .i64 k ∧ J (subsTo x k) wr ∧ KeepC C W wr) (fun i _ => cnt x + 1 - (intOf i).toNat)
  case atStart => exact ⟨0, Nat.zero_le _, rfl, h0, KeepC.refl _ _⟩
  case round =>
    obtain ⟨k, hk, rfl, hj, hkw⟩ := hrel
    have hsw : wr.cell? ⟨Bs, 0, none⟩ = some (.int .u16 (U x)) := hkw.cell HS.out (fun _ t _ _ => HCS.out t)
    gi_wp2_with fail
    refine ⟨trivial, fun h => (by cases h), ?_⟩
    refine (callsIn_wide.2 (count_c x _ _ rfl)).mono ?_
    rintro e W1 ⟨rfl, q, rfl⟩
    have hb1 : Below wr.heap.size wr (wr.drewN q) := below_drewN (Below.refl _ _)
    have hj1 := abides_below HJ.out hj hb1
    have hk1 := hkw.trans (KeepC.of_below C hb1)
    clear hj hkw
    by_cases hlt : k ≤ cnt x
    · have HT1 := Lib.hid (HT.out.keepC hk1 HCG.out)
      have hlen : (subsTo x k).length + (chooseS x k).length ≤ (subsS x).length := by
        obtain ⟨r, hr⟩ := subsTo_prefix x k hlt _ (List.prefix_refl _)
        rw [← hr]; simp
      have hpr := fun q hq => subsTo_prefix x k hlt q hq
      have HP := Lib.hid hpr
      have hss := Lib.hid (subsTo_succ x k)
      clear hpr
      gi_wp2_with fail
      refine ⟨trivial, fun h => (by cases h), ?_⟩
      refine (HC.out k _ _ HT1.out hj1 hlen).mono ?_
      clear hlen hj1
      rintro e W2 (⟨rfl, hj2, hk2⟩ | ⟨rfl, q, hq, hx⟩)
      · gi_wp2_with fail
        go_roundw
        case rel => exact ⟨k + 1, by omega, by go_num, by rw [hss.out]; exact hj2, hk1.trans hk2⟩
        case measure => simp [intOf]; omega
      · gi_wp2_with fail
        go_end0
        exact ⟨⟨_, rfl⟩, .inr ⟨_, HP.out q hq, hx⟩⟩
    · have hE : Hid (subsTo x k = subsS x) := by
        have : k = cnt x + 1 := by omega
        show subsTo x k = subsTo x (cnt x + 1)
        rw [this]
      gi_wp2_with fail
      refine ⟨trivial, ?_⟩
      gi_wp2_with fail
      go_end0
      exact ⟨⟨_, rfl⟩, .inl ⟨_, rfl, by rw [← hE.out]; exact hj1⟩⟩

theorem kT_b {C : Nat → TypeId → Prop} {w : World} (W : World) (l : Nat) (o o' : Obj) (_ : w.heap.size ≤ l) (h : W.heap[l]? = some o) (ho : o.isCells = false) (_ : o.isWalk = false) : KeepC C W (W.putObj l o') := KeepC.putObj C W l o o' h ho

set_option maxHeartbeats 400000 in
theorem subsets_c (x : BitVec 16) (s : Int) (w : World) (hs : s = U x) :
    Calls Tryz.prog 41 #[.int .u16 s] w fun e w' => e = .returned (.func (.func 81) #[] #[.pointer (some ⟨w.heap.size, 0, none⟩)]) ∧ w' = w.alloc (.cells #[.int .u16 (U x)] 37) := by
  subst hs
  go_enter Tryz.func41, Tryz.ntmps41
  go_wp2
  go_ret
  exact ⟨rfl, rfl⟩

end Go.Proofs.YtcojmmhclklpoaaGreatDoor
namespace Go.Proofs.YtcojmmhclklpoaaGreatDoor
open Go.RowKit Go.Shelf
attribute [local go_sem] Oper.semAt_some
theorem wide_fnx (f : FuncId) : Fence.wide.fn f = True := rfl
attribute [local simp] wide_fnx

theorem rangeFunc_x {α : Type} {F : Fence} {n : Nat} {P : Program} {g : Operand} {ps : Array Tmp} {assign body : Code} {Q : Exit → Act → World → Prop} {a : Act} {w : World}
    (hro : F.round = none) (h1 : 1 ≤ n) {gf : Nat} {lb : Array Value} (hg : a.eval g = .func (.func gf) #[] lb) (hFg : F.fn gf) (eg : ∀ args w, (callFunc gf args).run P w = .ok (.enter gf args) w)
    {encs : α → Array Value} {Kp : World → World → Prop} {S Sp : List α → Prop} {N : Nat} {w0 : World} (hseq : SeqStopsK F (n - 1) P gf lb encs Kp S Sp N w0)
    (hKt : ∀ {A B C : World}, Kp A B → Kp B C → Kp A C) (hKb : ∀ (W : World) (l : Nat) (o o' : Obj), w.heap.size ≤ l → W.heap[l]? = some o → o.isCells = false → o.isWalk = false → Kp W (W.putObj l o')) (hb0 : Below w0.heap.size w0 w) (hps : ∀ x, (encs x).size = ps.size)
    (I : List α → World → Prop) (Ix : Code → List α → World → Prop) (hI : OwnFrom w.heap.size I) (hIx : ∀ c, OwnFrom w.heap.size (Ix c)) (h0 : I [] w)
    (hdone : ∀ (D : Nat) (xs : List α) (W : World), w.heap.size ≤ D → S xs → I xs W → W.heap[D]? = some (.deferred (some [])) → Q .normal { a with defers := { target := .collected D, args := #[] } :: a.defers } W)
    (hstop : ∀ (D : Nat) (c : Code) (pre : List α) (W : World), w.heap.size ≤ D → Sp pre → Ix c pre W → W.heap[D]? = some (.deferred (some [])) → c.wpIn F n P Q { a with defers := { target := .collected D, args := #[] } :: a.defers } W)
    (hA : ∃ a₁ : α → Act, (∀ (l : Nat) (x : α) (W : World) (K : Act → World → Prop), K (a₁ x) W →
      assign.wpIn (F.inRound l) (n - 1 - 1) P (Exit.then K (fun _ _ _ => False)) { tmps := (ps.zip (encs x)).foldl (fun t (p, v) => t.setIfInBounds p v) a.tmps, defers := [] } W) ∧
      ∀ (l : Nat) (pre : List α) (x : α) (W : World), I pre W → pre.length < N → body.wpIn (F.inRound l) (n - 1 - 1) P (ownPostG w.heap.size Kp I Ix (pre ++ [x]) W) (a₁ x) W) :
    (Code.rangeFunc g ps assign body).wpIn F n P Q a w := by
  obtain ⟨a₁, h2, h3⟩ := hA
  exact wpIn_rangeFunc_ownG hro h1 hg hFg eg hseq (fun h k => hKt h k) hKb hb0 hps I Ix hI hIx h0 a₁ h2 h3 hdone hstop

theorem results_cell_cell {fn : Func} {p q : Tmp} {ty ty' : TypeId} (h : fn.results = #[.cell p ty, .cell q ty']) (tmps : Array Value) (P : Program) (w : World) :
    (results fn tmps).run P w =
      ((asAddr (tmps.getD p undef)).run P w).andThen fun a w₁ => ((loadVar ty a).run P w₁).andThen fun v w₂ => ((asAddr (tmps.getD q undef)).run P w₂).andThen fun a' w₃ => ((loadVar ty' a').run P w₃).andThen fun v' w₄ => .ok (.tuple #[v, v']) w₄ := by
  simp only [results, h]
  simp [Sem.run_bind, Result.andThen]
/-- all that lay when a loop began is kept, but for one box -/
def CBox (base Bo : Nat) (k : Nat) (t : TypeId) : Prop := (k < base ∧ k ≠ Bo) ∨ (t ≠ 26 ∧ t ≠ 37)
theorem keepC_box {base B : Nat} {W w1 : World} {v v' : Value} {k : Nat} {xs : List Value} {tmp : Obj}
    (hv : Boxed W B 26 v) (hrow : W.ownsRow base 37 1 v k xs)
    (hgrow : (W.alloc tmp).grownBy w1 v.ownBlock) : KeepC (CBox base B) W (w1.setCell ⟨B, 0, none⟩ v') := by
  have h1 := hgrow.size
  simp only [World.size_alloc] at h1
  refine ⟨by have := (grownBy_setCell' w1 B v').size; omega, fun j cur t f hj hc => ?_⟩
  have hlt := (Array.getElem?_eq_some_iff.1 hj).1
  have hjB : j ≠ B := by
    intro e; subst e
    have := (show W.heap[j]? = _ from hv).symm.trans hj
    simp only [Option.some.injEq, Obj.cells.injEq] at this
    rcases hc with hc | hc
    · exact hc.2 rfl
    · exact hc.1 this.2.1.symm
  have hjv : some j ≠ v.ownBlock := by
    intro e
    have h2 := hrow.lt j e.symm
    rcases hc with hc | hc
    · omega
    · rcases hrow.2 with ⟨rfl, _⟩ | ⟨g, cap, cur', rfl, _, hg, _⟩
      · simp [Value.ownBlock] at e
      · obtain rfl : j = g := by simpa [Value.ownBlock] using e
        rw [hg] at hj; cases hj; exact hc.2 rfl
  rw [Below.heap_setCell _ _ _ _ hjB, hgrow.block j (by simp; omega) hjv, Below.heap_alloc _ _ _ hlt]
  exact hj
def FillsX (B0 Ba : Nat) (W : World) (l : List (BitVec 16)) : Prop := ∃ v, Boxed W Ba 26 v ∧ W.ownsRow B0 37 1 v l.length (l.map setV) ∧ True
theorem fillsx_own (B0 Ba B : Nat) : OwnFrom B (fun (l : List (BitVec 16)) W => FillsX B0 Ba W l) :=
  Own.from (holdsRow_own B0 Ba 26 37 1 (fun l : List (BitVec 16) => l.length) (fun l => l.map setV) (fun _ _ => True)) B
def BelX (B : Nat) (W : World) (s : Nat) (Wr : World) : Prop := Below B W Wr ∧ s ≤ Wr.heap.size
theorem belx_own {B0 B s : Nat} {W : World} (hn : B0 ≤ W.heap.size) (hB : B0 ≤ B) : OwnFrom B (fun (_ : List (BitVec 16)) Wr => BelX B0 W s Wr) :=
  OwnFrom.and (ownFrom_below hn hB) (fun _ _ _ _ h hg _ => Nat.le_trans h hg.size)
theorem blkx_own {D B : Nat} {ob : Obj} (h : D < B) : OwnFrom B (fun (_ : List (BitVec 16)) W => W.heap[D]? = some ob) := fun _ W W' row hm hg hr =>
  (hg.block D (Array.getElem?_eq_some_iff.1 hm).1 (fun e => by have := (hr D e.symm).1; omega)).trans hm
theorem purex_own {p : List (BitVec 16) → Prop} (B : Nat) : OwnFrom B (fun l (_ : World) => p l) := fun _ _ _ _ h _ _ => h
theorem keepsFrom_below {B : Nat} {W W' : World} (h : Below W.heap.size W W') : KeepsFrom B W W' := ⟨h.size, fun k _o _ hk _ => (h.block k (Array.getElem?_eq_some_iff.1 hk).1).trans hk⟩

/-- what has been found behind some subsets -/
def famP (x : Xpr) (pre : List (BitVec 16)) : List (BitVec 16) := pre.foldl (famStep x) []
theorem famP_snoc (x : Xpr) (pre : List (BitVec 16)) (s : BitVec 16) : famP x (pre ++ [s]) = famStep x (famP x pre) s := by unfold famP; rw [List.foldl_append]; rfl
theorem famP_all (x : Xpr) : famP x (subsS (srvX x)) = famS x := rfl
theorem famP_grow (x : Xpr) : ∀ (l o : List (BitVec 16)), o.length ≤ (l.foldl (famStep x) o).length
  | [], o => Nat.le_refl _
  | s :: l, o => by
    rw [List.foldl_cons]
    refine Nat.le_trans ?_ (famP_grow x l _)
    unfold famStep
    split
    · exact Nat.le_refl _
    · split <;> simp
theorem famP_prefix (x : Xpr) {pre l : List (BitVec 16)} (h : pre <+: l) : (famP x pre).length ≤ (famP x l).length := by
  obtain ⟨r, rfl⟩ := h
  unfold famP
  rw [List.foldl_append]
  exact famP_grow x r _
def FamR (x : Xpr) (w : World) (e : Ending) (w' : World) : Prop :=
  ∃ a' c', e = .returned (.tuple #[.slice a' (famE x).1.length c', .int .i64 (famE x).2]) ∧ Rd w' a' (famE x).1.length c' ((famE x).1.map setV) ∧ Below w.heap.size w w'

set_option maxRecDepth 100000 in
set_option maxHeartbeats 8000000 in
theorem family_in (x : Xpr) (hx : xprE x = 0) (hf : XprFew x) (a : Option Addr) (n c : Nat) (w : World) (ht : HasTab w) (h : XM w a n c x.nodes) :
    CallsIn Fence.wide 5 Tryz.prog 14 #[.agg #[.slice a n c, .int .i64 x.root]] w fun e w' => FamR x w e w' := by
  obtain ⟨i0, hi0, hz0, hz1, hz2⟩ := info_parts Tryz.infoSet
  have HT := Lib.hid ht
  have H1 := Lib.hid (fun (u : World) (hb : Below w.heap.size w u) => xpr_c x a n c u (h.below hb))
  rw [hx] at H1
  have hok := xprE_ok hx
  have H2 := Lib.hid (fun (u : World) (hb : Below w.heap.size w u) => servers_x x hok a n c u (h.below hb))
  have H4 := Lib.hid (fun (s : BitVec 16) (u : World) (hb : Below w.heap.size w u) => holds_c x hok hf s a n c u (h.below hb))
  have HE : Hid (famE x = if 400 < (famS x).length then ([], 3) else (famS x, 0)) := Lib.hid (by unfold famE; rw [if_neg (by rw [hx]; simp)])
  have HN3 : Hid (True) := Lib.hid trivial
  clear ht h hx hok
  refine callsIn_of_wp_marks Tryz.func14 rfl trivial ?_ rfl
  simp only [Tryz.ntmps14, List.size_toArray, List.length_cons, List.length_nil, Nat.reduceAdd, Nat.reduceSub, Array.replicate_succ, Array.replicate_zero, List.push_toArray, List.append_toArray, List.nil_append, List.cons_append]
  gi_wp2_with fail
  generalize hW3 : ((w.alloc _).alloc _).alloc _ = w3
  obtain ⟨gX, gR, gE, hb3, hs3⟩ := box3 hW3
  have GX := Lib.hid gX
  have GR := Lib.hid gR
  have GE := Lib.hid gE
  have HB3 := Lib.hid hb3
  clear hW3 gX gR gE hb3
  refine (callsIn_wide.2 (H1.out w3 HB3.out)).mono ?_
  rintro e w4 ⟨rfl, hb4⟩
  obtain ⟨wB, hwB⟩ : ∃ wB, wB = w4.alloc (.cells #[.slice none 0 0] 26) := ⟨_, rfl⟩
  have hbB : Below w4.heap.size w4 wB := by rw [hwB]; exact (Below.refl _ _).alloc (Nat.le_refl _) _
  have gB : wB.heap[w4.heap.size]? = some (.cells #[.slice none 0 0] 26 (0, 0)) := by rw [hwB]; exact heap_alloc_new _ _
  have hsB : wB.heap.size = w4.heap.size + 1 := by rw [hwB]; simp
  have GXB := Lib.hid (heap_below (Below.next hb4 hbB) GX.out)
  have GRB := Lib.hid (heap_below (Below.next hb4 hbB) GR.out)
  have GEB := Lib.hid (heap_below (Below.next hb4 hbB) GE.out)
  have HBB := Lib.hid (Below.next HB3.out (Below.next hb4 hbB))
  have GB := Lib.hid gB
  have hs4 := hb4.size
  have HH2 := Lib.hid (H2.out wB HBB.out)
  obtain ⟨⟨x0, x1⟩, _⟩ := open2 GXB.out
  rw [hwB] at x0 x1
  clear hb4 hbB gB GX GR GE
  gi_wp2_with fail
  rw [← hwB]
  clear x0 x1 hwB
  refine (callsIn_wide.2 HH2.out).mono ?_
  rintro e w5 ⟨rfl, hb5⟩
  have HB5 := Lib.hid hb5
  have hs5 := hb5.size
  clear hb5
  gi_wp2_with fail
  refine (callsIn_wide.2 (subsets_c (srvX x) _ _ rfl)).mono ?_
  rintro e w6 ⟨rfl, hw6⟩
  have hb6 : Below w5.heap.size w5 w6 := by rw [hw6]; exact (Below.refl _ _).alloc (Nat.le_refl _) _
  have gS6 : w6.cell? ⟨w5.heap.size, 0, none⟩ = some (.int .u16 (U (srvX x))) := by rw [hw6]; exact cell_new _ _ _ 0 _ rfl
  have hs6 : w6.heap.size = w5.heap.size + 1 := by rw [hw6]; simp
  have HB6 := Lib.hid (Below.next HBB.out (Below.next HB5.out hb6))
  have G6 := Lib.hid (heap_below (Below.next HB5.out hb6) GB.out)
  have GX6 := Lib.hid (heap_below (Below.next HB5.out hb6) GXB.out)
  have GR6 := Lib.hid (heap_below (Below.next HB5.out hb6) GRB.out)
  have GE6 := Lib.hid (heap_below (Below.next HB5.out hb6) GEB.out)
  obtain ⟨Bo, hBo⟩ : ∃ Bo, w4.heap.size = Bo := ⟨_, rfl⟩
  rw [hBo] at G6 hs4 hsB ⊢
  have hBw : w.heap.size + 3 ≤ Bo := by omega
  have hB6 : Bo + 1 ≤ w6.heap.size := by omega
  have hBs : w5.heap.size < w6.heap.size := by omega
  have hBne : w5.heap.size ≠ Bo := by omega
  have HSQ := Lib.hid (fun m => subsets1_stops m w5.heap.size (CBox w6.heap.size Bo) (fun k => .inr ⟨by decide, by decide⟩) (fun t => .inl ⟨Nat.lt_of_lt_of_le (cell_lt (HT.out 0 (by decide))) HB6.out.size, by have := cell_lt (HT.out 0 (by decide)); omega⟩) (fun t => .inl ⟨hBs, hBne⟩) (srvX x) w6 (HT.out.below HB6.out) gS6)
  clear hb6 gS6 hw6 HB5 HBB GB GXB GRB GEB hs5 hs6 hsB hs4 hs3 hBo
  gi_wp2_with fail
  refine rangeFunc_x rfl (by decide) rfl trivial (enters_of Tryz.func81 (by kernel_rfl) rfl) (HSQ.out _) KeepC.trans kT_b (Below.refl _ _) (fun _ => rfl)
      (fun pre Wr => FillsX w6.heap.size Bo Wr (famP x pre) ∧ (famP x pre).length ≤ 400 ∧ BelX Bo w6 w6.heap.size Wr)
      (fun c ys Wr => c = .ret ∧ 400 < (famP x ys).length ∧ BelX w.heap.size w6 w6.heap.size Wr ∧ Wr.heap[w.heap.size + 1]? = some (.cells #[.slice none 0 0] 26 (0, 0)) ∧ Wr.heap[w.heap.size + 1 + 1]? = some (.cells #[.int .i64 3] 27 (0, 0)))
      ?hI ?hIx ?h0 ?done ?stop ?A
  case hI => exact OwnFrom.and (fun pre W W' row h hg hr => fillsx_own _ _ _ (famP x pre) W W' row h hg hr) (OwnFrom.and (purex_own (p := fun pre => (famP x pre).length ≤ 400) _) (belx_own (by omega) (by omega)))
  case hIx =>
    intro c
    exact OwnFrom.and (purex_own (p := fun _ => c = .ret) _) (OwnFrom.and (purex_own (p := fun ys => 400 < (famP x ys).length) _) (OwnFrom.and (belx_own (by omega) (by omega)) (OwnFrom.and (blkx_own (by omega)) (blkx_own (by omega)))))
  case h0 => exact ⟨⟨_, G6.out, World.ownsRow_nil _ _ _ _, trivial⟩, Nat.zero_le _, Below.refl _ _, Nat.le_refl _⟩
  case done =>
    rintro D ys W hD rfl ⟨⟨v, hv, hrow, _⟩, hlen, hB⟩ hK
    rw [famP_all] at hrow hlen
    have HR : Hid (famE x = (famS x, 0)) := Lib.hid (by rw [HE.out, if_neg (by omega)])
    obtain ⟨nn, hnn⟩ : ∃ nn, (famS x).length = nn := ⟨_, rfl⟩
    rw [hnn] at hrow
    obtain ⟨av, cv, rfl, hrd⟩ := rd_of_row hrow
    have hc := hv.cell
    have gR := (hB.1.block (w.heap.size + 1) (by omega)).trans GR6.out
    have gE := (hB.1.block (w.heap.size + 1 + 1) (by omega)).trans GE6.out
    have r0 := cell_of_row _ _ 0 _ _ _ gR
    have r1 := cell_of_row _ _ 0 _ _ _ gE
    have z0 := frozen_row gR 0
    have z1 := frozen_row gE 0
    have HGR := Lib.hid gR
    have HGE := Lib.hid gE
    have HB := Lib.hid hB
    have HV := Lib.hid hv
    have HROW := Lib.hid hrow
    clear hv hrow hB gR gE hrd
    gi_wp2_with fail
    clear r0 r1 z0 z1 hc
    generalize hWA : W.setCell _ _ = WA
    have gRA : WA.heap[w.heap.size + 1]? = some (.cells #[.slice av nn cv] 26 (0, 0)) := by rw [← hWA, heap_set_at HGR.out]; rfl
    have gEA : WA.heap[w.heap.size + 1 + 1]? = some (.cells #[.int .i64 0] 27 (0, 0)) := by rw [← hWA]; exact heap_set_other (by omega) _ _ HGE.out
    have hoA : ∀ g, g ≠ w.heap.size + 1 → WA.heap[g]? = W.heap[g]? := fun g hg => by rw [← hWA]; exact Below.heap_setCell _ ⟨w.heap.size + 1, 0, none⟩ _ g hg
    have hsA : WA.heap.size = W.heap.size := by rw [← hWA]; simp
    have hbA : Below w.heap.size W WA := by rw [← hWA]; exact (Below.refl _ _).setCell (p := ⟨w.heap.size + 1, 0, none⟩) (by show w.heap.size ≤ w.heap.size + 1; omega) _
    generalize hWZ : WA.setCell _ _ = WZ
    have gRZ : WZ.heap[w.heap.size + 1]? = some (.cells #[.slice av nn cv] 26 (0, 0)) := by rw [← hWZ]; exact heap_set_other (by omega) _ _ gRA
    have gEZ : WZ.heap[w.heap.size + 1 + 1]? = some (.cells #[.int .i64 0] 27 (0, 0)) := by rw [← hWZ, heap_set_at gEA]; rfl
    have hoZ : ∀ g, g ≠ w.heap.size + 1 → g ≠ w.heap.size + 1 + 1 → WZ.heap[g]? = W.heap[g]? := fun g h1 h2 => by rw [← hWZ]; exact (Below.heap_setCell _ ⟨w.heap.size + 1 + 1, 0, none⟩ _ g h2).trans (hoA g h1)
    have hsZ : WZ.heap.size = W.heap.size := by rw [← hWZ]; simpa using hsA
    have hbZ : Below w.heap.size W WZ := by rw [← hWZ]; exact hbA.setCell (p := ⟨w.heap.size + 1 + 1, 0, none⟩) (by show w.heap.size ≤ w.heap.size + 1 + 1; omega) _
    have hKZ : WZ.heap[D]? = some (.deferred (some [])) := (hoZ D (by omega) (by omega)).trans hK
    have hlt := HROW.out.lt
    have hBs := HB.out.2
    refine ⟨by simp, .inl ⟨_, _, rfl, run_takeDeferred hKZ, ?_⟩⟩
    have gR2 : (WZ.putObj D (.deferred none)).heap[w.heap.size + 1]? = some (.cells #[.slice av nn cv] 26 (0, 0)) := (World.putObj_heap_other (by omega)).trans gRZ
    have gE2 : (WZ.putObj D (.deferred none)).heap[w.heap.size + 1 + 1]? = some (.cells #[.int .i64 0] 27 (0, 0)) := (World.putObj_heap_other (by omega)).trans gEZ
    have f0 := cell_of_row _ _ 0 _ _ _ gR2
    have f1 := cell_of_row _ _ 0 _ _ _ gE2
    have hrow2 : WZ.ownsRow w6.heap.size 37 1 (.slice av nn cv) nn ((famS x).map setV) := rowK_at HROW.out fun g hg => hoZ g (by have := hlt g hg; omega) (by have := hlt g hg; omega)
    have hrow3 := ownsRow_putObj hrow2 (.deferred none) hKZ rfl
    have hbF : Below w.heap.size w (WZ.putObj D (.deferred none)) := (HB6.out.trans ((HB.out.1.mono (by omega)).trans hbZ)).grown (grownBy_putObj' WZ D _) (by omega) (fun k hk => by injection hk with hk; omega)
    obtain ⟨_, _, e9, hrd⟩ := rd_of_row hrow3
    cases e9
    have HRD := Lib.hid hrd
    have HBF := Lib.hid hbF
    clear gR2 gE2 hrow2 hrow3 hbF hrd
    refine ⟨.tuple #[.slice av nn cv, .int .i64 0], ?_, ⟨av, cv, ?_, ?_, HBF.out⟩⟩
    · rw [results_cell_cell rfl]
      go_simp
    · rw [HR.out]; show _ = Ending.returned (.tuple #[.slice av (famS x).length cv, .int .i64 0]); rw [hnn]
    · rw [HR.out]; show Rd _ av (famS x).length cv ((famS x).map setV); rw [hnn]; exact HRD.out
  case stop =>
    rintro D c ys W hD hp ⟨rfl, hl, hB, hr2, hr3⟩ hK
    have hgt : 400 < (famS x).length := Nat.lt_of_lt_of_le hl (famP_prefix x hp)
    have HR : Hid (famE x = ([], 3)) := Lib.hid (by rw [HE.out, if_pos hgt])
    have r0 := cell_of_row _ _ 0 _ _ _ hr2
    have r1 := cell_of_row _ _ 0 _ _ _ hr3
    have hDr := hB.2
    gi_wp2_with fail
    refine ⟨by simp, .inl ⟨_, _, rfl, run_takeDeferred hK, ?_⟩⟩
    have gR2 : (W.putObj D (.deferred none)).heap[w.heap.size + 1]? = some (.cells #[.slice none 0 0] 26 (0, 0)) := (World.putObj_heap_other (by omega)).trans hr2
    have gE2 : (W.putObj D (.deferred none)).heap[w.heap.size + 1 + 1]? = some (.cells #[.int .i64 3] 27 (0, 0)) := (World.putObj_heap_other (by omega)).trans hr3
    have f0 := cell_of_row _ _ 0 _ _ _ gR2
    have f1 := cell_of_row _ _ 0 _ _ _ gE2
    have hbF : Below w.heap.size w (W.putObj D (.deferred none)) := (HB6.out.trans hB.1).grown (grownBy_putObj' W D _) (by have := HB6.out.size; omega) (fun k hk => by injection hk with hk; omega)
    have HBF := Lib.hid hbF
    clear gR2 gE2 hbF r0 r1
    refine ⟨.tuple #[.slice none 0 0, .int .i64 3], ?_, ⟨none, 0, ?_, ?_, HBF.out⟩⟩
    · rw [results_cell_cell rfl]
      go_simp
    · rw [HR.out]; rfl
    · rw [HR.out]; exact Rd.none_ _
  case A =>
    refine ⟨fun y => { tmps := #[.agg #[.slice a n c, .int .i64 x.root], .pointer (some ⟨w.heap.size, 0, none⟩), .pointer (some ⟨w.heap.size + 1, 0, none⟩), .pointer (some ⟨w.heap.size + 1 + 1, 0, none⟩), .int .i64 0, .pointer (some ⟨Bo, 0, none⟩), .int .u16 (U y), .agg #[.slice a n c, .int .i64 x.root], .int .i64 0, .int .i64 0, .bool false, undef, .agg #[.slice a n c, .int .i64 x.root], .int .u16 (U (srvX x)), .func (.func 81) #[] #[.pointer (some ⟨w5.heap.size, 0, none⟩)], .int .u16 (U y), undef, undef, undef, undef, undef, undef, undef, undef, undef, undef, undef, undef, undef, undef, undef, undef, undef], defers := [] }, ?_, ?_⟩
    · intro l y Wr K hK
      gi_wp2_with fail
      exact hK
    · rintro l pre y Wr ⟨⟨v, hv, hrow, _⟩, hlen, hB⟩ hlt
      have hbw : Below w.heap.size w Wr := HB6.out.trans (hB.1.mono (by omega))
      have gX := (hB.1.block w.heap.size (by omega)).trans GX6.out
      obtain ⟨⟨x0, x1⟩, _⟩ := open2 gX
      have HB := Lib.hid hB
      have HBW := Lib.hid hbw
      have HFS := Lib.hid (famP_snoc x pre y)
      obtain ⟨O, hO⟩ : ∃ O, famP x pre = O := ⟨_, rfl⟩
      rw [hO] at hrow hlen HFS
      obtain ⟨nn, hnn⟩ : ∃ nn, O.length = nn := ⟨_, rfl⟩
      rw [hnn] at hrow hlen
      have HV := Lib.hid hv
      have HROW := Lib.hid hrow
      have HH := Lib.hid (H4.out y Wr hbw)
      have HNN := Lib.hid hnn
      clear hv hrow hB hbw gX hO hlt hnn
      gi_wp2_with fail
      refine (CallsIn.inRound l (callsIn_wide.2 HH.out)).mono ?_
      rintro e W1 ⟨rfl, hb1⟩
      have hv1 : Boxed W1 Bo 26 v := heap_below hb1 HV.out
      have hrow1 := row_below HROW.out hb1
      have HB1 : Hid (BelX Bo w6 w6.heap.size W1) := Lib.hid ⟨HB.out.1.trans (hb1.mono (by have := HB.out.2; omega)), Nat.le_trans HB.out.2 hb1.size⟩
      have hKF : KeepsFrom w6.heap.size Wr W1 := keepsFrom_below hb1
      have hKC : KeepC (CBox w6.heap.size Bo) Wr W1 := KeepC.of_below _ hb1
      have HKF := Lib.hid hKF
      have HKC := Lib.hid hKC
      have HBW1 := Lib.hid (Below.next HBW.out hb1)
      clear HH hb1 hKF hKC x0 x1
      cases hh : holdX x y
      · have HF2 : Hid (famP x (pre ++ [y]) = O) := Lib.hid (by rw [HFS.out]; unfold famStep; rw [hh]; simp)
        clear hh
        have HV1 := Lib.hid hv1
        have HR1 := Lib.hid hrow1
        clear hv1 hrow1
        gi_wp2_with fail
        exact ⟨HKF.out, HKC.out, by rw [HF2.out]; exact ⟨v, HV1.out, by rw [HNN.out]; exact HR1.out, trivial⟩, by rw [HF2.out, HNN.out]; exact hlen, HB1.out⟩
      · obtain ⟨av, cv, rfl, hrd⟩ := rd_of_row hrow1
        have HA := Lib.hid (accepts_c O y av nn cv W1 hrd)
        have hc := hv1.cell
        have HV1 := Lib.hid hv1
        have HR1 := Lib.hid hrow1
        clear hv1 hrow1 hrd
        gi_wp2_with fail
        refine (CallsIn.inRound l (callsIn_wide.2 HA.out)).mono ?_
        rintro e W2 ⟨rfl, hb2⟩
        have hv2 : Boxed W2 Bo 26 (.slice av nn cv) := heap_below hb2 HV1.out
        have hrow2 := row_below HR1.out hb2
        have HB2 : Hid (BelX Bo w6 w6.heap.size W2) := Lib.hid ⟨HB1.out.1.trans (hb2.mono (by have := HB1.out.2; omega)), Nat.le_trans HB1.out.2 hb2.size⟩
        have HKF2 := Lib.hid (HKF.out.trans (keepsFrom_below (B := w6.heap.size) hb2))
        have HKC2 := Lib.hid (HKC.out.trans (KeepC.of_below (CBox w6.heap.size Bo) hb2))
        have HBW2 := Lib.hid (Below.next HBW1.out hb2)
        clear hb2 HA hc HKF HKC HV1 HR1
        cases hacc : accS O y
        · have HF2 : Hid (famP x (pre ++ [y]) = O ++ [y]) := Lib.hid (by rw [HFS.out]; unfold famStep; rw [hacc, hh]; simp)
          clear hacc hh
          have hc := hv2.cell
          by_cases h400 : nn = 400
          · have h4 : ((nn : Int) == 400) = true := by rw [h400]; rfl
            have gR := (HB2.out.1.block (w.heap.size + 1) (by omega)).trans GR6.out
            have gE := (HB2.out.1.block (w.heap.size + 1 + 1) (by omega)).trans GE6.out
            have r0 := cell_of_row _ _ 0 _ _ _ gR
            have r1 := cell_of_row _ _ 0 _ _ _ gE
            have z0 := frozen_row gR 0
            have z1 := frozen_row gE 0
            have HGR := Lib.hid gR
            have HGE := Lib.hid gE
            clear gR gE hv2 hrow2
            gi_wp2_with fail
            generalize hWA : W2.setCell _ _ = WA
            have gRA : WA.heap[w.heap.size + 1]? = some (.cells #[.slice none 0 0] 26 (0, 0)) := by rw [← hWA, heap_set_at HGR.out]; rfl
            have gEA : WA.heap[w.heap.size + 1 + 1]? = some (.cells #[.int .i64 0] 27 (0, 0)) := by rw [← hWA]; exact heap_set_other (by omega) _ _ HGE.out
            have hkA := grownBy_setCell' W2 (w.heap.size + 1) (.slice none 0 0)
            have hkZ := grownBy_setCell' WA (w.heap.size + 1 + 1) (.int .i64 3)
            rw [hWA] at hkA
            have hB2 := HB2.out
            refine ⟨HKF2.out.trans ((KeepsFrom.of_grownBy hkA (fun j hj => by injection hj with hj; omega)).trans (KeepsFrom.of_grownBy hkZ (fun j hj => by injection hj with hj; omega))), rfl, by rw [HF2.out, List.length_append, HNN.out, h400, List.length_singleton]; omega, ⟨?_, ?_⟩, ?_, ?_⟩
            · have hbA : Below w.heap.size W2 WA := by rw [← hWA]; exact (Below.refl _ _).setCell (p := ⟨w.heap.size + 1, 0, none⟩) (by show w.heap.size ≤ w.heap.size + 1; omega) _
              exact (hB2.1.mono (by omega)).trans (hbA.setCell (p := ⟨w.heap.size + 1 + 1, 0, none⟩) (by show w.heap.size ≤ w.heap.size + 1 + 1; omega) _)
            · rw [← hWA]; simpa using hB2.2
            · exact heap_set_other (by omega) _ _ gRA
            · rw [heap_set_at gEA]; rfl
          · have h4 : ((nn : Int) == 400) = false := by rw [beq_eq_false_iff_ne]; omega
            have hHB2 := HB2.out.2
            gi_wp2_with (gi_at_builtin; refine wpListIn_append_own _ rfl _ _ 26 rfl w6.heap.size 37 i0 (.int .u16 0) 1 2 Tryz.underlying26 hi0 hz0 hz1 hz2 rfl (by decide) _ _ _ rfl (hrow2.alloc _) ⟨W2.heap.size, 0, none⟩ 1 1 [.int .u16 (U y)] rfl rfl (cell_one_new _ _ _) (by simp [Value.oneCell']) (by unfold maxLen; omega) (by omega) (by simp; omega) ?_; intro v' w1 hown' hgrow _; obtain ⟨g', cap', rfl⟩ := ownsRow_succ hown'; obtain ⟨hv1, hv2', hr2, hk2, hb2⟩ := hv2.appended (by decide) (rowK_mono hrow2 (show Bo ≤ w6.heap.size by omega)) (by omega) (Nat.le_refl Bo) (rowK_mono hown' (show Bo ≤ w6.heap.size by omega)) hgrow; have hkk := keepC_box (v' := .slice (some ⟨g', 0, none⟩) (nn + 1) cap') hv2 hrow2 hgrow; have hr3 := hown'.kept (grownBy_setCell' w1 Bo (.slice (some ⟨g', 0, none⟩) (nn + 1) cap')) (.inr (hv1.not_row (by decide) hown').symm); have hc1 := hv1.cell; have hf1 := hv1.frozen)
            refine ⟨HKF2.out.trans (hk2.from _), HKC2.out.trans hkk, ?_, ?_, HB2.out.1.trans hb2, Nat.le_trans HB2.out.2 hb2.size⟩
            · rw [HF2.out]
              refine ⟨_, hv2', ?_, trivial⟩
              rw [List.length_append, HNN.out, List.map_append]
              exact hr3
            · rw [HF2.out, List.length_append, HNN.out, List.length_singleton]; omega
        · have HF2 : Hid (famP x (pre ++ [y]) = O) := Lib.hid (by rw [HFS.out]; unfold famStep; rw [hacc, if_pos rfl])
          clear hacc hh
          have HV2 := Lib.hid hv2
          have HR2 := Lib.hid hrow2
          clear hv2 hrow2
          gi_wp2_with fail
          exact ⟨HKF2.out, HKC2.out, by rw [HF2.out]; exact ⟨_, HV2.out, by rw [HNN.out]; exact HR2.out, trivial⟩, by rw [HF2.out, HNN.out]; exact hlen, HB2.out⟩
theorem family_x (x : Xpr) (hx : xprE x = 0) (hf : XprFew x) (a : Option Addr) (n c : Nat) (w : World) (ht : HasTab w) (h : XM w a n c x.nodes) :
    Calls Tryz.prog 14 #[.agg #[.slice a n c, .int .i64 x.root]] w fun e w' => FamR x w e w' := callsIn_wide.1 (family_in x hx hf a n c w ht h)
end Go.Proofs.YtcojmmhclklpoaaGreatDoor
namespace Go.Proofs.YtcojmmhclklpoaaGreatDoor

def dualN (nd : Nod) : Nod := if nd.kind = 2 then ⟨nd.kind, nd.server, max 0 (sumN nd - nd.need + 1), nd.weights, nd.kids⟩ else nd
def dualX (x : Xpr) : Xpr := ⟨x.nodes.map dualN, x.root⟩
/-- what Dual answers -/
def dualS (x : Xpr) : Xpr × Int := if xprE x ≠ 0 then (⟨[], 0⟩, xprE x) else (dualX x, 0)

theorem sum_rng {nd : Nod} {i : Nat} (h : NodOk nd i) : ∀ k, 0 ≤ sumTo nd k ∧ sumTo nd k ≤ 1000 * k
  | 0 => ⟨Int.le_refl _, by simp [sumTo]⟩
  | k + 1 => by
    have h1 := sum_rng h k
    have h2 := wgt_pos h k
    rw [sumTo]
    omega
end Go.Proofs.YtcojmmhclklpoaaGreatDoor
namespace Go.Proofs.YtcojmmhclklpoaaGreatDoor
open Go.RowKit Go.Shelf

/-- a node behind a row of nodes -/
theorem XB.app {S SW : Nat → Prop} {B : Nat} {w x y : World} {v u : Value} {t : TypeId} {nodes : List Nod} {p : NodV} {nd : Nod} {V : List NodV} (h : XB S B w v t nodes) (hV : V.length = nodes.length) (h3 : ∀ (i : Nat) p nd, V[i]? = some p → nodes[i]? = some nd → NodS S w p nd)
    (hb : Below w.heap.size w x) (hg : x.grownBy y v.ownBlock) (ho : y.ownsRow B t 5 u (nodes.length + 1) (V.flatMap nodVC ++ nodVC p)) (hv : ∀ g, u.ownBlock = some g → v.ownBlock = some g ∨ w.heap.size ≤ g) (hp : NodS SW w p nd) (hSW : ∀ g, SW g → g < w.heap.size ∧ v.ownBlock ≠ some g) :
    XB (fun g => S g ∨ SW g) B y u t (nodes ++ [nd]) := by
  have hx := hb.size
  have hgx : w.grownBy y v.ownBlock := ⟨hg.os.trans hb.os, hg.tape.trans hb.tape, hg.output.trans hb.output, Nat.le_trans hx hg.size, fun g g1 g2 => (hg.block g (by omega) g2).trans (hb.block g g1)⟩
  refine XB.push (p := p) hV (fun i p nd hp hn => (h3 i p nd hp hn).mono fun g hg' => .inl hg') (fun g hg' => ?_) (fun g e hT => ?_) ho (hp.mono fun g hg' => .inr hg') hgx hv hgx.size
  · rcases hg' with h6 | h6
    · exact h.lt g h6
    · exact (hSW g h6).1
  · rcases hT with h6 | h6
    · exact h.own g e h6
    · exact (hSW g h6).2 e

theorem row_base {w : World} {B B' k n : Nat} {e : TypeId} {v : Value} {l : List Value} (h : w.ownsRow B e k v n l) (hB : B' ≤ B) : w.ownsRow B' e k v n l := by
  obtain ⟨h1, h2⟩ := h
  refine ⟨h1, ?_⟩
  rcases h2 with h2 | ⟨g, cap, cur, hv, hb', hg, r⟩
  · exact .inl h2
  · exact .inr ⟨g, cap, cur, hv, Nat.le_trans hB hb', hg, r⟩

set_option maxRecDepth 100000 in
set_option maxHeartbeats 8000000 in
theorem dual_c (x : Xpr) (hf : XprFew x) (a : Option Addr) (n c : Nat) (w : World) (h : XM w a n c x.nodes) :
    Calls Tryz.prog 18 #[.agg #[.slice a n c, .int .i64 x.root]] w fun e w' => RetX (dualS x).1 (dualS x).2 w e w' := by
  have HX := Lib.hid h
  have HV := Lib.hid (fun (u : World) (hu : Below w.heap.size w u) => xpr_c x a n c u (h.below hu))
  have HF := Lib.hid hf
  clear h hf
  by_cases hx : xprE x = 0
  · have hR : dualS x = (dualX x, 0) := by unfold dualS; rw [if_neg (by rw [hx]; simp)]
    rw [hx] at HV
    rw [hR]
    have ok := xprE_ok hx
    have hn60 : n ≤ 60 := by have h1 := ok.most; have h2 := HX.out.len; omega
    have HO := Lib.hid ok
    have HN := Lib.hid HX.out.len
    clear hx hR ok
    go_enter Tryz.func18, Tryz.ntmps18
    go_wp2_with fail
    generalize hW2 : (w.alloc _).alloc _ = W2
    obtain ⟨gX, gR, hb2, hs2⟩ := box2 hW2
    have GX := Lib.hid gX
    have GR := Lib.hid gR
    have HB2 := Lib.hid hb2
    clear hW2 gX gR hb2
    with_reducible refine (HV.out W2 HB2.out).mono ?_
    rintro e w4 ⟨rfl, hb4⟩
    have gX4 := heap_below hb4 GX.out
    have x0 := cell_of_row _ _ 0 _ _ _ gX4
    have x1 := cell_of_row _ _ 1 _ _ _ gX4
    have hs4 := hb4.size
    obtain ⟨W5, hW5⟩ : ∃ W5, W5 = w4.alloc (.cells #[.slice none 0 0, .int .i64 x.root] 32) := ⟨_, rfl⟩
    have hb5 : Below w4.heap.size w4 W5 := by rw [hW5]; exact (Below.refl _ _).alloc (Nat.le_refl _) _
    have gO : W5.heap[w4.heap.size]? = some (.cells #[.slice none 0 0, .int .i64 x.root] 32 (0, 0)) := by rw [hW5]; exact heap_alloc_new _ _
    have hs5 : W5.heap.size = w4.heap.size + 1 := by rw [hW5]; simp
    have x05 : (w4.alloc (Obj.cells #[.slice none 0 0, .int .i64 x.root] 32)).cell? ⟨w.heap.size, 0, none⟩ = some (.slice a n c) := by rw [← hW5]; exact cell_keep hb5 x0
    have GX5 := Lib.hid (heap_below hb5 gX4)
    have GR5 := Lib.hid (heap_below hb5 (heap_below hb4 GR.out))
    have GO := Lib.hid gO
    have HB5 := Lib.hid (Below.next HB2.out (Below.next hb4 hb5))
    clear gX4 hb4 hb5 gO GX GR
    go_wp2_with fail
    rw [← hW5]
    clear hW5 x05 x0 x1
    obtain ⟨OB, hOB⟩ : ∃ OB, OB = w4.heap.size := ⟨_, rfl⟩
    rw [← hOB] at GO hs5 hs4 ⊢
    have hOBw : w.heap.size + 2 ≤ OB := by omega
    clear hs4 hs2 hOB
    go_loopw [22] (fun i wr => ∃ k v S, k ≤ n ∧ i = .int .i64 ((k : Nat) : Int) ∧ wr.heap[OB]? = some (.cells #[v, .int .i64 x.root] 32 (0, 0)) ∧ XB S (OB + 1) wr v 71 ((x.nodes.take k).map dualN) ∧ (∀ g, S g → OB + 1 ≤ g) ∧ Below OB W5 wr) (fun i _ => n - (intOf i).toNat)
    case atStart => exact ⟨0, _, fun _ => False, Nat.zero_le _, rfl, GO.out, XB.nil _ _ _ _ (fun _ h => h.elim), fun _ h => h.elim, Below.refl _ _⟩
    case round =>
      obtain ⟨k, v, S, hk, rfl, hbx, hxb, hSl, hb⟩ := hrel
      by_cases hlt : k < n
      · obtain ⟨nd, hnd⟩ : ∃ nd, x.nodes[k]? = some nd := ⟨_, List.getElem?_eq_getElem (by have := HN.out; omega)⟩
        have hbw : Below w.heap.size w wr := HB5.out.trans (hb.mono (by omega))
        obtain ⟨b, o, ha, hat⟩ := HX.out.at' (by omega)
        have hM := hat k nd hnd
        obtain ⟨aw, nw, cw, m3, rw3⟩ := hM.ws
        obtain ⟨ak, nk, ck, m4, rk4⟩ := hM.ks
        have m0 := cell_keep hbw hM.c0
        have m1 := cell_keep hbw hM.c1
        have m2 := cell_keep hbw hM.c2
        have m3 := cell_keep hbw m3
        have m4 := cell_keep hbw m4
        have ok := HO.out.node k nd hnd
        have hfew := HF.out k nd hnd
        have HST : Hid ((x.nodes.take (k + 1)).map dualN = (x.nodes.take k).map dualN ++ [dualN nd]) := Lib.hid (by rw [List.take_add_one, hnd, List.map_append]; rfl)
        obtain ⟨kind, server, need, ws, ks⟩ := nd
        simp only at m0 m1 m2 rw3 rk4 hfew
        have hwl := rw3.len
        have hkl := rk4.len
        rw [List.length_map] at hwl hkl
        have hnk : nk ≤ 1000 := by omega
        have hnw : nw ≤ 1000 := by
          rcases ok.arity with h5 | h5 <;> simp only at h5
          · rw [h5] at hwl; simp at hwl; omega
          · omega
        have HWL := Lib.hid hwl
        have HKL := Lib.hid hkl
        have HOK := Lib.hid ok
        have HW3 := Lib.hid rw3
        have HK4 := Lib.hid rk4
        have HBX := Lib.hid hbx
        have HXB := Lib.hid hxb
        have HSL := Lib.hid hSl
        have HB := Lib.hid hb
        have HBW := Lib.hid hbw
        have hOBr : OB < wr.heap.size := (Array.getElem?_eq_some_iff.1 hbx).1
        subst ha
        clear hM hat hnd hwl hkl ok rw3 rk4 hbx hxb hSl hb hbw hfew
        go_wp2_with fail
        generalize hW6 : wr.alloc _ = W6
        have hb6 : Below wr.heap.size wr W6 := by rw [← hW6]; exact (Below.refl _ _).alloc (Nat.le_refl _) _
        have g6 : W6.heap[wr.heap.size]? = some (.cells #[.int .i64 kind, .int .i64 server, .int .i64 need, .slice aw nw cw, .slice ak nk ck] 71 (0, 0)) := by rw [← hW6]; exact heap_alloc_new _ _
        have hs6 : W6.heap.size = wr.heap.size + 1 := by rw [← hW6]; simp
        have HB6 := Lib.hid hb6
        have G6 := Lib.hid g6
        clear hW6 hb6 g6 m0 m1 m2 m3 m4
        have HC1 := Lib.hid (fun u (hu : Below W6.heap.size W6 u) => clone_c ws aw nw cw u ((HW3.out.below (HBW.out.trans (HB6.out.mono HBW.out.size))).below (hu.mono (by have := HBW.out.size; omega))) (by omega))
        have HC2 := Lib.hid (fun u (hu : Below W6.heap.size W6 u) => clone_c ks ak nk ck u ((HK4.out.below (HBW.out.trans (HB6.out.mono HBW.out.size))).below (hu.mono (by have := HBW.out.size; omega))) (by omega))
        have c3 := cell_of_row _ _ 3 _ _ _ G6.out
        have c4 := cell_of_row _ _ 4 _ _ _ G6.out
        go_region_law (first
          | (go_simp; go_at_call 49; (with_reducible refine (HC1.out _ (below_drew (Below.refl _ _))).mono ?_); rintro e w7 ⟨wv, rfl, hr7, hb7⟩; obtain ⟨aw2, cw2, rfl, _⟩ := rd_of_row hr7; have HB7 := Lib.hid (Below.next (below_drew (Below.refl _ _)) hb7 : Below W6.heap.size W6 w7); have c74 := cell_of_row _ _ 4 _ _ _ (heap_below HB7.out G6.out); have HR7 := Lib.hid hr7; clear hr7 hb7)
          | (go_simp; go_at_call 49; (with_reducible refine (HC2.out _ HB7.out).mono ?_); rintro e w8 ⟨kv, rfl, hr8, hb8⟩; obtain ⟨ak2, ck2, rfl, _⟩ := rd_of_row hr8; have HB8 := Lib.hid (Below.next HB7.out hb8); have g8 := heap_below HB8.out G6.out; have z83 := frozen_row g8 3; have z84 := frozen_row g8 4; have c83 := cell_of_row _ _ 3 _ _ _ g8; have c84 := cell_of_row _ _ 4 _ _ _ g8; have G8 := Lib.hid g8; have HR8 := Lib.hid hr8; have HR78 := Lib.hid (row_below HR7.out hb8); clear hr8 hb8 g8))
        all_goals
          generalize hW9 : (w8.setCell _ _).setCell _ _ = W9
          have hs8 : wr.heap.size + 1 ≤ w8.heap.size := by have := HB8.out.size; omega
          have hs7 : wr.heap.size + 1 ≤ w7.heap.size := by have := HB7.out.size; omega
          have hk9 : ∀ g, g ≠ wr.heap.size → W9.heap[g]? = w8.heap[g]? := fun g hg => by
            rw [← hW9, Below.heap_setCell _ ⟨wr.heap.size, 4, none⟩ _ g (by exact hg), Below.heap_setCell _ ⟨wr.heap.size, 3, none⟩ _ g (by exact hg)]
          have g9 : W9.heap[wr.heap.size]? = some (.cells #[.int .i64 kind, .int .i64 server, .int .i64 need, .slice aw2 nw cw2, .slice ak2 nk ck2] 71 (0, 0)) := by
            rw [← hW9]
            exact heap_set_at (heap_set_at G8.out 3 _) 4 _
          have hs9 : W9.heap.size = w8.heap.size := by rw [← hW9]; simp
          have hb9r : Below wr.heap.size wr W9 := by
            rw [← hW9]
            exact ((HB6.out.trans (HB8.out.mono (by omega))).setCell (p := ⟨wr.heap.size, 3, none⟩) (Nat.le_refl _) _).setCell (p := ⟨wr.heap.size, 4, none⟩) (Nat.le_refl _) _
          have hrw9 : W9.ownsRow (wr.heap.size + 1) 3 1 (.slice aw2 nw cw2) nw (ws.map (Value.int .i64)) :=
            rowK_at (row_base HR78.out (by simp; omega)) fun g hg => hk9 g (by have := ((row_base HR78.out (B' := wr.heap.size + 1) (by simp; omega)).lt g hg).1; omega)
          have hrk9 : W9.ownsRow (wr.heap.size + 1) 3 1 (.slice ak2 nk ck2) nk (ks.map (Value.int .i64)) :=
            rowK_at (row_base HR8.out (by omega)) fun g hg => hk9 g (by have := (HR8.out.lt g hg).1; omega)
          have G9 := Lib.hid g9
          have HB9 := Lib.hid hb9r
          have HRW9 := Lib.hid hrw9
          have HRK9 := Lib.hid hrk9
          have HVW : Hid (∀ g, v.ownBlock = some g → g < wr.heap.size) := Lib.hid (fun g hg => (HXB.out.lt_own g hg).2)
          have hs9r : wr.heap.size + 1 ≤ W9.heap.size := by omega
          clear hs9 hs6 hW9 hk9 g9 hb9r hrw9 hrk9 c3 c4 c74 z83 z84 c83 c84 HR7 HR8 HR78 HB7 HB8 G8 HC1 HC2
          have n0 := cell_of_row _ _ 0 _ _ _ G9.out
          by_cases hk2 : kind = 2
          · have e1 : (kind == 2) = true := by simpa using hk2
            have n4 := cell_of_row _ _ 4 _ _ _ G9.out
            subst hk2
            have hneed := HOK.out.need
            simp only at hneed
            have hsr := sum_rng HOK.out
            go_wp2_with fail
            obtain ⟨W1, hW1⟩ : ∃ W1, W1 = wr := ⟨_, rfl⟩
            subst hW1
            go_loopw [8, 40] (fun q i wq => ∃ j : Nat, j ≤ nk ∧ i = .int .i64 ((j : Nat) : Int) ∧ q = .int .i64 (sumTo ⟨2, server, need, ws, ks⟩ j) ∧ Below W9.heap.size W9 wq) (fun _ i _ => nk - (intOf i).toNat)
            case atStart => exact ⟨0, Nat.zero_le _, rfl, rfl, Below.refl _ _⟩
            case round =>
              obtain ⟨j, hj, rfl, rfl, hbq⟩ := hrel
              by_cases hltj : j < nk
              · have hws : sumTo ⟨2, server, need, ws, ks⟩ (j + 1) = sumTo ⟨2, server, need, ws, ks⟩ j + wgtN ⟨2, server, need, ws, ks⟩ j := rfl
                have h1 := hsr j
                have h2 := wgt_pos HOK.out j
                obtain ⟨aw3, cw3, e3, r3⟩ := rd_of_row HRW9.out
                obtain ⟨ak3, ck3, e4, r4⟩ := rd_of_row HRK9.out
                cases e3
                cases e4
                have HW := Lib.hid (wgt_c ⟨2, server, need, ws, ks⟩ j aw2 nw cw2 ak2 nk ck2 wr (r3.below hbq) (by
                  rcases HOK.out.arity with h | h
                  · exact .inl h
                  · right; rw [h]; show j < ks.length; have := HKL.out; omega))
                obtain ⟨SS, hSS⟩ : ∃ SS, sumTo ⟨2, server, need, ws, ks⟩ j = SS := ⟨_, rfl⟩
                obtain ⟨GG, hGG⟩ : ∃ GG, wgtN ⟨2, server, need, ws, ks⟩ j = GG := ⟨_, rfl⟩
                rw [hSS] at h1 hws ⊢
                rw [hGG] at h2 hws HW
                have hw2 : wrap64 (SS + GG) = SS + GG := by unfold wrap64; omega
                have HWS := Lib.hid hws
                have gq := heap_below hbq G9.out
                have q0 := cell_of_row _ _ 0 _ _ _ gq
                have q1 := cell_of_row _ _ 1 _ _ _ gq
                have q2 := cell_of_row _ _ 2 _ _ _ gq
                have q3 := cell_of_row _ _ 3 _ _ _ gq
                have q4 := cell_of_row _ _ 4 _ _ _ gq
                clear hws hSS hGG r3 r4 gq n0 n4
                go_wp2_with fail
                with_reducible refine HW.out.mono ?_
                rintro e w10 ⟨rfl, hb10⟩
                have hb11 := Below.next hbq hb10
                clear q0 q1 q2 q3 q4 hb10
                go_wp2_with fail
                go_roundw
                case rel => exact ⟨j + 1, by omega, by go_num, by rw [HWS.out], hb11⟩
                case measure => simp [intOf] <;> omega
              · obtain rfl : j = nk := by omega
                have hdn : dualN ⟨2, server, need, ws, ks⟩ = ⟨2, server, max 0 (sumN ⟨2, server, need, ws, ks⟩ - need + 1), ws, ks⟩ := by unfold dualN; rw [if_pos rfl]
                have hsn : sumTo ⟨2, server, need, ws, ks⟩ j = sumN ⟨2, server, need, ws, ks⟩ := by unfold sumN; rw [show (⟨2, server, need, ws, ks⟩ : Nod).kids.length = j from HKL.out.symm]
                have h1 := hsr j
                rw [hsn] at h1 ⊢
                obtain ⟨SM, hSM⟩ : ∃ SM, sumN ⟨2, server, need, ws, ks⟩ = SM := ⟨_, rfl⟩
                rw [hSM] at h1 hdn ⊢
                obtain ⟨ND, hND⟩ : ∃ ND, ND = max 0 (SM - need + 1) := ⟨_, rfl⟩
                rw [← hND] at hdn
                have HDN := Lib.hid hdn
                have HND := Lib.hid hND
                have hw1 : wrap64 (SM - need) = SM - need := by unfold wrap64; omega
                have hw2 : wrap64 (SM - need + 1) = SM - need + 1 := by unfold wrap64; omega
                have gq := heap_below hbq G9.out
                have hbqs := hbq.size
                have q2 := cell_of_row _ _ 2 _ _ _ gq
                have f2 := frozen_row gq 2
                obtain ⟨z, hz⟩ : ∃ z, z = wr.setCell ⟨W1.heap.size, 2, none⟩ (.int .i64 (max 0 (SM - need + 1))) := ⟨_, rfl⟩
                have hzk : ∀ g, g ≠ W1.heap.size → z.heap[g]? = wr.heap[g]? := fun g hg => by rw [hz]; exact Below.heap_setCell _ _ _ _ hg
                have gz : z.heap[W1.heap.size]? = some (.cells #[.int .i64 2, .int .i64 server, .int .i64 ND, .slice aw2 nw cw2, .slice ak2 j ck2] 71 (0, 0)) := by
                  rw [hz, heap_set_at gq, hND]; rfl
                have hsz : z.heap.size = wr.heap.size := by rw [hz]; simp
                have hb1z : Below W1.heap.size W1 z := by rw [hz]; exact (HB9.out.trans (hbq.mono (by omega))).setCell (p := ⟨W1.heap.size, 2, none⟩) (Nat.le_refl _) _
                have GZ := Lib.hid gz
                have HXBZ := Lib.hid (HXB.out.below hb1z)
                have HBXZ := Lib.hid (heap_below hb1z HBX.out)
                have HRWZ := Lib.hid (rowK_at (row_below HRW9.out hbq) fun g hg => hzk g (by have := (HRW9.out.lt g hg).1; omega))
                have HRKZ := Lib.hid (rowK_at (row_below HRK9.out hbq) fun g hg => hzk g (by have := (HRK9.out.lt g hg).1; omega))
                have HBZ := Lib.hid (HB.out.trans (hb1z.mono (by omega)))
                have hszr : W1.heap.size + 1 ≤ z.heap.size := by omega
                have HZS := Lib.hid hsz
                clear G9 HXB HBX HRW9 HRK9 hdn hND hsn hSM hsr hzk gz hsz hb1z gq hbq
                obtain ⟨V, hV1, hV2, hV3⟩ := HXBZ.out.row
                rw [show ((x.nodes.take k).map dualN).length = k by rw [List.length_map, List.length_take]; have := HN.out; omega] at hV2 hV1
                obtain ⟨av, cv, rfl, _⟩ := rdK_of_row hV2
                have n0 := cell_of_row _ _ 0 _ _ _ GZ.out
                have n1 := cell_of_row _ _ 1 _ _ _ GZ.out
                have n2 := cell_of_row _ _ 2 _ _ _ GZ.out
                have n3 := cell_of_row _ _ 3 _ _ _ GZ.out
                have n4 := cell_of_row _ _ 4 _ _ _ GZ.out
                have b0 := cell_of_row _ _ 0 _ _ _ HBXZ.out
                have hOBz : OB + 1 ≤ z.heap.size := by omega
                rw [hz] at n0 n1 n2 n3 n4 b0
                have HZ := Lib.hid hz
                clear hz
                have HV1 := Lib.hid hV1
                have HV3 := Lib.hid hV3
                clear hV1 hV3
                go_wp2_with (at_builtin; rw [← HZ.out, ← HZS.out]; go_must (refine wpList_appK2 5 _ _ 30 72 (.agg #[.int .i64 0, .int .i64 0, .int .i64 0, .slice none 0 0, .slice none 0 0]) (nodVC ⟨2, server, ND, .slice aw2 nw cw2, .slice ak2 j ck2⟩) _ Tryz.underlying30 Tryz.infoNod rfl (by decide) hV2 (Below.refl (OB + 1) z) hOBz rfl rfl rfl rfl rfl (by intro u hu; unfold nodVC at hu; simp at hu; rcases hu with rfl | rfl | rfl | rfl | rfl <;> rfl) (by unfold maxLen; omega) (by omega) ?_))
                intro v' w10 hown hb10 hg10 hs10 hv10
                obtain ⟨a5, c5, rfl, _⟩ := rdK_of_row hown
                have hO10 := (hg10.block OB (by omega) (fun e => by have := (hV2.lt _ e.symm).1; omega)).trans HBXZ.out
                have p0 := cell_of_row _ _ 0 _ _ _ hO10
                have f0 := frozen_row hO10 0
                have hp : NodS (fun g => (Value.slice aw2 nw cw2).ownBlock = some g ∨ (Value.slice ak2 j ck2).ownBlock = some g) z ⟨2, server, ND, .slice aw2 nw cw2, .slice ak2 j ck2⟩ (dualN ⟨2, server, need, ws, ks⟩) := by
                  have := nodS_of (S := fun g => (Value.slice aw2 nw cw2).ownBlock = some g ∨ (Value.slice ak2 j ck2).ownBlock = some g) (p := ⟨2, server, ND, .slice aw2 nw cw2, .slice ak2 j ck2⟩) (nd := ⟨2, server, ND, ws, ks⟩) rfl rfl rfl HRWZ.out HRKZ.out (fun g hg => .inl hg) (fun g hg => .inr hg)
                  rw [HDN.out]; exact this
                have hown2 : w10.ownsRow (OB + 1) 71 5 (.slice a5 (k + 1) c5) (((x.nodes.take k).map dualN).length + 1) (V.flatMap nodVC ++ nodVC ⟨2, server, ND, .slice aw2 nw cw2, .slice ak2 j ck2⟩) := by
                  rw [show ((x.nodes.take k).map dualN).length = k by rw [List.length_map, List.length_take]; have := HN.out; omega]
                  exact hown
                have hxb2 := HXBZ.out.app (SW := fun g => (Value.slice aw2 nw cw2).ownBlock = some g ∨ (Value.slice ak2 j ck2).ownBlock = some g) (x := z) (by rw [HV1.out, List.length_map, List.length_take]; have := HN.out; omega) HV3.out (Below.refl _ _) hg10 hown2 hv10 hp (fun g hg => by
                  rcases hg with hg | hg
                  · have := HRWZ.out.lt g hg
                    exact ⟨this.2, fun e => by have := (hV2.lt g e).2; have := HVW.out g e; omega⟩
                  · have := HRKZ.out.lt g hg
                    exact ⟨this.2, fun e => by have := (hV2.lt g e).2; have := HVW.out g e; omega⟩)
                rw [← HST.out] at hxb2
                have HXB2 := Lib.hid hxb2
                have HG10 := Lib.hid hg10
                have HO10 := Lib.hid hO10
                have HB10 := Lib.hid hb10
                have HRV := Lib.hid hV2
                have HRN := Lib.hid hown
                have HV10 := Lib.hid hv10
                clear hown hown2 hb10 hg10 hs10 hv10 hO10 hp hxb2 hV2 b0 n0 n1 n2 n3 n4
                go_wp2_with fail
                go_roundw
                case rel =>
                  refine ⟨k + 1, .slice a5 (k + 1) c5, _, by omega, by go_num, by rw [heap_set_at HO10.out]; rfl, HXB2.out.move (fun g hg => ?_) (fun g hg => ?_) (by simp), fun g hg => ?_, ?_⟩
                  · refine Below.heap_setCell _ _ _ _ ?_
                    show g ≠ OB
                    rcases hg with hg | hg | hg
                    · have := HSL.out g hg; omega
                    · have := (HRWZ.out.lt g hg).1; omega
                    · have := (HRKZ.out.lt g hg).1; omega
                  · refine Below.heap_setCell _ _ _ _ ?_
                    show g ≠ OB
                    have := (HRN.out.lt g hg).1; omega
                  · rcases hg with hg | hg | hg
                    · exact HSL.out g hg
                    · have := (HRWZ.out.lt g hg).1; omega
                    · have := (HRKZ.out.lt g hg).1; omega
                  · exact (HBZ.out.trans (HB10.out.mono (Nat.le_succ _))).setCell (p := ⟨OB, 0, none⟩) (Nat.le_refl _) _
                case measure => simp [intOf] <;> omega
          · have e1 : (kind == 2) = false := by simpa using hk2
            have hdn : dualN ⟨kind, server, need, ws, ks⟩ = ⟨kind, server, need, ws, ks⟩ := by unfold dualN; rw [if_neg hk2]
            have HDN := Lib.hid hdn
            have GZ := Lib.hid G9.out
            have HXBZ := Lib.hid (HXB.out.below HB9.out)
            have HBXZ := Lib.hid (heap_below HB9.out HBX.out)
            have HRWZ := Lib.hid HRW9.out
            have HRKZ := Lib.hid HRK9.out
            have HBZ := Lib.hid (HB.out.trans (HB9.out.mono (by omega)))
            clear G9 HXB HBX HRW9 HRK9 hdn
            obtain ⟨V, hV1, hV2, hV3⟩ := HXBZ.out.row
            rw [show ((x.nodes.take k).map dualN).length = k by rw [List.length_map, List.length_take]; have := HN.out; omega] at hV2 hV1
            obtain ⟨av, cv, rfl, _⟩ := rdK_of_row hV2
            have n0 := cell_of_row _ _ 0 _ _ _ GZ.out
            have n1 := cell_of_row _ _ 1 _ _ _ GZ.out
            have n2 := cell_of_row _ _ 2 _ _ _ GZ.out
            have n3 := cell_of_row _ _ 3 _ _ _ GZ.out
            have n4 := cell_of_row _ _ 4 _ _ _ GZ.out
            have b0 := cell_of_row _ _ 0 _ _ _ HBXZ.out
            have hOBz : OB + 1 ≤ W9.heap.size := by omega
            have HV1 := Lib.hid hV1
            have HV3 := Lib.hid hV3
            clear hV1 hV3
            go_wp2_with (at_builtin; go_must (refine wpList_appK2 5 _ _ 30 72 (.agg #[.int .i64 0, .int .i64 0, .int .i64 0, .slice none 0 0, .slice none 0 0]) (nodVC ⟨kind, server, need, .slice aw2 nw cw2, .slice ak2 nk ck2⟩) _ Tryz.underlying30 Tryz.infoNod rfl (by decide) hV2 (Below.refl (OB + 1) W9) hOBz rfl rfl rfl rfl rfl (by intro u hu; unfold nodVC at hu; simp at hu; rcases hu with rfl | rfl | rfl | rfl | rfl <;> rfl) (by unfold maxLen; omega) (by omega) ?_))
            intro v' w10 hown hb10 hg10 hs10 hv10
            obtain ⟨a5, c5, rfl, _⟩ := rdK_of_row hown
            have hO10 := (hg10.block OB (by omega) (fun e => by have := (hV2.lt _ e.symm).1; omega)).trans HBXZ.out
            have p0 := cell_of_row _ _ 0 _ _ _ hO10
            have f0 := frozen_row hO10 0
            have hp : NodS (fun g => (Value.slice aw2 nw cw2).ownBlock = some g ∨ (Value.slice ak2 nk ck2).ownBlock = some g) W9 ⟨kind, server, need, .slice aw2 nw cw2, .slice ak2 nk ck2⟩ (dualN ⟨kind, server, need, ws, ks⟩) := by
              have := nodS_of (S := fun g => (Value.slice aw2 nw cw2).ownBlock = some g ∨ (Value.slice ak2 nk ck2).ownBlock = some g) (p := ⟨kind, server, need, .slice aw2 nw cw2, .slice ak2 nk ck2⟩) (nd := ⟨kind, server, need, ws, ks⟩) rfl rfl rfl HRWZ.out HRKZ.out (fun g hg => .inl hg) (fun g hg => .inr hg)
              rw [HDN.out]; exact this
            have hown2 : w10.ownsRow (OB + 1) 71 5 (.slice a5 (k + 1) c5) (((x.nodes.take k).map dualN).length + 1) (V.flatMap nodVC ++ nodVC ⟨kind, server, need, .slice aw2 nw cw2, .slice ak2 nk ck2⟩) := by
              rw [show ((x.nodes.take k).map dualN).length = k by rw [List.length_map, List.length_take]; have := HN.out; omega]
              exact hown
            have hxb2 := HXBZ.out.app (SW := fun g => (Value.slice aw2 nw cw2).ownBlock = some g ∨ (Value.slice ak2 nk ck2).ownBlock = some g) (x := W9) (by rw [HV1.out, List.length_map, List.length_take]; have := HN.out; omega) HV3.out (Below.refl _ _) hg10 hown2 hv10 hp (fun g hg => by
              rcases hg with hg | hg
              · have := HRWZ.out.lt g hg
                exact ⟨this.2, fun e => by have := (hV2.lt g e).2; have := HVW.out g e; omega⟩
              · have := HRKZ.out.lt g hg
                exact ⟨this.2, fun e => by have := (hV2.lt g e).2; have := HVW.out g e; omega⟩)
            rw [← HST.out] at hxb2
            have HXB2 := Lib.hid hxb2
            have HG10 := Lib.hid hg10
            have HO10 := Lib.hid hO10
            have HB10 := Lib.hid hb10
            have HRV := Lib.hid hV2
            have HRN := Lib.hid hown
            have HV10 := Lib.hid hv10
            clear hown hown2 hb10 hg10 hs10 hv10 hO10 hp hxb2 hV2 b0 n0 n1 n2 n3 n4
            go_wp2_with fail
            go_roundw
            case rel =>
              refine ⟨k + 1, .slice a5 (k + 1) c5, _, by omega, by go_num, by rw [heap_set_at HO10.out]; rfl, HXB2.out.move (fun g hg => ?_) (fun g hg => ?_) (by simp), fun g hg => ?_, ?_⟩
              · refine Below.heap_setCell _ _ _ _ ?_
                show g ≠ OB
                rcases hg with hg | hg | hg
                · have := HSL.out g hg; omega
                · have := (HRWZ.out.lt g hg).1; omega
                · have := (HRKZ.out.lt g hg).1; omega
              · refine Below.heap_setCell _ _ _ _ ?_
                show g ≠ OB
                have := (HRN.out.lt g hg).1; omega
              · rcases hg with hg | hg | hg
                · exact HSL.out g hg
                · have := (HRWZ.out.lt g hg).1; omega
                · have := (HRKZ.out.lt g hg).1; omega
              · exact (HBZ.out.trans (HB10.out.mono (Nat.le_succ _))).setCell (p := ⟨OB, 0, none⟩) (Nat.le_refl _) _
            case measure => simp [intOf] <;> omega
      · obtain rfl : k = n := by omega
        rw [List.take_of_length_le (by have := HN.out; omega)] at hxb
        obtain ⟨a', c', rfl, _⟩ := hxb.shape
        have o0 := cell_of_row _ _ 0 _ _ _ hbx
        have o1 := cell_of_row _ _ 1 _ _ _ hbx
        have gR9 := (hb.block (w.heap.size + 1) (by omega)).trans GR5.out
        have t0 := cell_of_row _ _ 0 _ _ _ gR9
        have t1 := cell_of_row _ _ 1 _ _ _ gR9
        have z0 := frozen_row gR9 0
        have z1 := frozen_row gR9 1
        have HBR := Lib.hid (HB5.out.trans (hb.mono (by omega)))
        have GR9 := Lib.hid gR9
        have HXB := Lib.hid hxb
        have HSL := Lib.hid hSl
        clear hbx hxb hSl hb gR9
        go_wp2_with fail
        clear t0 t1 z0 z1 o0 o1
        generalize hWF : (wr.setCell _ _).setCell _ _ = WF
        obtain ⟨e1, hbf⟩ := fin_box GR9.out (by omega) HBR.out hWF
        have hkeep : ∀ g, g ≠ w.heap.size + 1 → WF.heap[g]? = wr.heap[g]? := fun g hg => by
          rw [← hWF, Below.heap_setCell _ ⟨w.heap.size + 1, 1, none⟩ _ g hg, Below.heap_setCell _ ⟨w.heap.size + 1, 0, none⟩ _ g hg]
        have hsF : WF.heap.size = wr.heap.size := by rw [← hWF]; simp
        have hxb := HXB.out.move (w' := WF) (fun g hg => hkeep g (by have := HSL.out g hg; omega)) (fun g hg => hkeep g (by have := (HXB.out.lt_own g hg).1; omega)) (by omega)
        obtain ⟨a2, c2, e2, hxmr⟩ := hxb.xmr (lo := w.heap.size) (fun g hg => by have := HSL.out g hg; omega) (by omega)
        cases e2
        have f0 := cell_of_row _ _ 0 _ _ _ e1
        have f1 := cell_of_row _ _ 1 _ _ _ e1
        have HXM := Lib.hid hxmr
        have HBF := Lib.hid hbf
        clear hWF e1 hkeep hxb hxmr hbf hsF
        refine bodyPost_ret (v := .tuple #[.agg #[.slice a' (x.nodes.map dualN).length c', .int .i64 x.root], .int .i64 0]) ?_ rfl ⟨a', c', rfl, HXM.out, HBF.out⟩
        rw [results_cell_tmp rfl]
        go_simp
  · have hR : dualS x = (⟨[], 0⟩, xprE x) := by unfold dualS; rw [if_pos hx]
    obtain ⟨E, hE⟩ : ∃ E, xprE x = E := ⟨_, rfl⟩
    rw [hR, hE]
    rw [hE] at HV hx
    have hne : (E != 0) = true := by simpa using hx
    clear hR hE hx
    go_enter Tryz.func18, Tryz.ntmps18
    go_wp2_with fail
    generalize hW2 : (w.alloc _).alloc _ = W2
    obtain ⟨gX, gR, hb2, hs2⟩ := box2 hW2
    have GR := Lib.hid gR
    have HB2 := Lib.hid hb2
    clear hW2 gX gR hb2
    with_reducible refine (HV.out W2 HB2.out).mono ?_
    rintro e w4 ⟨rfl, hb4⟩
    have g4 := heap_below hb4 GR.out
    have t0 := cell_of_row _ _ 0 _ _ _ g4
    have t1 := cell_of_row _ _ 1 _ _ _ g4
    have z0 := frozen_row g4 0
    have z1 := frozen_row g4 1
    have G4 := Lib.hid g4
    have HB4 := Lib.hid (Below.next HB2.out hb4)
    clear g4 hb4 GR
    go_wp2_with fail
    clear t0 t1 z0 z1
    generalize hWF : (w4.setCell _ _).setCell _ _ = WF
    obtain ⟨e1, hbf⟩ := fin_box G4.out (by omega) HB4.out hWF
    have HBF := Lib.hid hbf
    have f0 := cell_of_row _ _ 0 _ _ _ e1
    have f1 := cell_of_row _ _ 1 _ _ _ e1
    clear hWF e1 hbf
    refine bodyPost_ret (v := .tuple #[.agg #[.slice none 0 0, .int .i64 0], .int .i64 E]) ?_ rfl (RetX.none_ rfl HBF.out)
    rw [results_cell_tmp rfl]
    go_simp
end Go.Proofs.YtcojmmhclklpoaaGreatDoor
