/- Texts laid together. The reference's Servers and Family of layer 10. Layer 10: the law Family, walked. The sets of a family that is found are in order; what the same sets satisfy has the same family. Plain Lean, no program. A region that draws its order, inside a fence (in a round of a loop over a function, too): quiet operations in any order, and behind them, in one forced order, a tail. Over any program. expr.Equivalent. The reference's Same of families (layer 9). Layer 10: the law Equivalent, walked (printed by p10d.py). -/
import Derived.Test.YtcojmmhclklpoaaGreatDoorGC2
import Derived.Test.YtcojmmhclklpoaaGreatDoorGC3
import Derived.Test.YtcojmmhclklpoaaGreatDoorGC4
import Derived.Test.YtcojmmhclklpoaaGreatDoorGC6
import Derived.Test.YtcojmmhclklpoaaGreatDoorGC8
import Derived.Test.YtcojmmhclklpoaaGreatDoorGC10
import Derived.Test.YtcojmmhclklpoaaGreatDoorGExprEquivalent1
import Derived.StillTail
import Derived.Sort.QuietThIn
import Derived.OwnWalkIn
import Derived.Sort.QuietTacIn
import Derived.Sort.CutIn
import Derived.Deep.CutRange
import Derived.Deep.DeepCutAuto
namespace Go.Proofs.YtcojmmhclklpoaaGreatDoor
open Go.RowKit Go.Shelf

set_option maxRecDepth 100000 in
set_option maxHeartbeats 2000000 in
theorem rservers_c (x : Xpr) (hx : XprOk x) (a : Option Addr) (n c : Nat) (w : World) (h : XM w a n c x.nodes) :
    Calls Tryz.prog 47 #[.agg #[.slice a n c, .int .i64 x.root]] w fun e w' => e = .returned (.int .u16 (U (srvX x))) ∧ Below w.heap.size w w' := by
  obtain ⟨W2, hW2⟩ : ∃ W2, W2 = w.alloc (.cells #[.slice a n c, .int .i64 x.root] 32) := ⟨_, rfl⟩
  have hb2 : Below w.heap.size w W2 := by rw [hW2]; exact (Below.refl _ w).alloc (Nat.le_refl _) _
  have g2 : W2.heap[w.heap.size]? = some (.cells #[.slice a n c, .int .i64 x.root] 32 (0, 0)) := by rw [hW2]; exact heap_alloc_new _ _
  obtain ⟨⟨q0, q1⟩, _⟩ := open2 g2
  have HX := Lib.hid (h.below hb2)
  have HO := Lib.hid hx
  have HN := Lib.hid h.len
  have hle := h.le
  have hm := h.max
  unfold maxLen at hm
  have HB2 := Lib.hid hb2
  have HE : Hid (srvTo x.nodes n = srvX x) := by show _ = _; unfold srvX; rw [HN.out]
  clear h hb2 hx g2
  go_enter Tryz.func47, Tryz.ntmps47
  go_wp2_with fail
  rw [← hW2]
  clear hW2
  go_loopw [3, 4] (fun v i wr => ∃ k : Nat, k ≤ n ∧ i = .int .i64 k ∧ v = .int .u16 (U (srvTo x.nodes k)) ∧ wr = W2) (fun _ i _ => n - (intOf i).toNat)
  case atStart => exact ⟨0, Nat.zero_le _, rfl, rfl, rfl⟩
  case round =>
    obtain ⟨k, hk, rfl, rfl, rfl⟩ := hrel
    by_cases hlt : k < n
    · obtain ⟨nd, hnd⟩ : ∃ nd, x.nodes[k]? = some nd := ⟨_, List.getElem?_eq_getElem (by have := HN.out; omega)⟩
      obtain ⟨b, o, ha, hat⟩ := HX.out.at' (by omega)
      have hM := hat k nd hnd
      have m0 := hM.c0
      have m1 := hM.c1
      have hst := srvTo_succ hnd
      have HOK := Lib.hid (HO.out.node k nd hnd)
      obtain ⟨S, hS⟩ : ∃ S, srvTo x.nodes k = S := ⟨_, rfl⟩
      rw [hS] at hst ⊢
      subst ha
      obtain ⟨kind, server, need, ws, ks⟩ := nd
      simp only at m0 m1 hst
      clear hM hat hnd hS
      by_cases hkind : kind = 1
      · subst hkind
        obtain ⟨sv, rfl⟩ := Int.eq_ofNat_of_zero_le HOK.out.server.1
        rw [if_pos rfl, Int.toNat_natCast] at hst
        have HST := Lib.hid hst
        have hsv := HOK.out.server.2
        simp only at hsv
        clear hst
        go_wp2_with fail
        go_roundw
        case rel => exact ⟨k + 1, by omega, by go_num, by rw [HST.out], trivial⟩
        case measure => simp [intOf]; omega
      · have hk2 : (kind == 1) = false := by simpa using hkind
        rw [if_neg hkind] at hst
        have HST := Lib.hid hst
        clear hst hkind
        go_wp2_with fail
        go_roundw
        case rel => exact ⟨k + 1, by omega, by go_num, by rw [HST.out], trivial⟩
        case measure => simp [intOf]; omega
    · obtain rfl : k = n := by omega
      rw [HE.out]
      go_wp2_with fail
      go_ret
      exact ⟨rfl, HB2.out⟩

theorem foldl_take_succ {α β : Type} (f : β → α → β) (z : β) {l : List α} {k : Nat} {y : α} (h : l[k]? = some y) : (l.take (k + 1)).foldl f z = f ((l.take k).foldl f z) y := by
  rw [List.take_add_one, h]; simp

/-- the sets found so far -/
def famTo (x : Xpr) (k : Nat) : List (BitVec 16) := ((subsS (srvX x)).take k).foldl (famStep x) []
theorem famTo_succ {x : Xpr} {k : Nat} {s : BitVec 16} (h : (subsS (srvX x))[k]? = some s) : famTo x (k + 1) = famStep x (famTo x k) s := by
  unfold famTo; exact foldl_take_succ _ _ h
theorem famTo_all (x : Xpr) {k : Nat} (h : (subsS (srvX x)).length = k) : famTo x k = famS x := by
  unfold famTo famS famOf; rw [← h, List.take_length]
theorem famTo_len (x : Xpr) (k : Nat) : (famTo x k).length ≤ k := by
  unfold famTo
  have := famFold_le x ((subsS (srvX x)).take k) []
  rw [List.length_take] at this
  simp at this
  omega

set_option maxRecDepth 100000 in
set_option maxHeartbeats 4000000 in
theorem rfamily_c (x : Xpr) (hx : xprE x = 0) (hf : XprFew x) (hs : XprSum x) (a : Option Addr) (n c : Nat) (w : World) (h : XM w a n c x.nodes) :
    Calls Tryz.prog 16 #[.agg #[.slice a n c, .int .i64 x.root]] w fun e w' => ∃ a' c', e = .returned (.tuple #[.slice a' (famE x).1.length c', .int .i64 (famE x).2]) ∧ Rd w' a' (famE x).1.length c' ((famE x).1.map setV2) ∧ Below w.heap.size w w' := by
  have H1 := Lib.hid (fun (u : World) (hb : Below w.heap.size w u) => rvalid10_c x hs a n c u (h.below hb))
  rw [hx] at H1
  have H2 := Lib.hid (fun (u : World) (hb : Below w.heap.size w u) => rservers_c x (xprE_ok hx) a n c u (h.below hb))
  have H3 := Lib.hid (fun (u : World) => rsubsets_c (srvX x) (U (srvX x)) u rfl)
  have H4 := Lib.hid (fun (s : BitVec 16) (u : World) (hb : Below w.heap.size w u) => rholds_c x (xprE_ok hx) hf s a n c u (h.below hb))
  have hcnt : (subsS (srvX x)).length ≤ 65536 := by
    rw [subsM_len]
    have h1 : cnt (srvX x) ≤ 16 := cnt_le _
    exact Nat.pow_le_pow_right (n := 2) (by decide) h1
  obtain ⟨L, hL⟩ : ∃ L, (subsS (srvX x)).length = L := ⟨_, rfl⟩
  have HE : Hid (famE x = if 400 < (famS x).length then ([], 3) else (famS x, 0)) := by show _ = _; unfold famE; rw [if_neg (by simpa using hx)]
  have HL := Lib.hid hL
  rw [hL] at hcnt
  obtain ⟨W2, hW2⟩ : ∃ W2, W2 = w.alloc (.cells #[.slice a n c, .int .i64 x.root] 32) := ⟨_, rfl⟩
  have hb2 : Below w.heap.size w W2 := by rw [hW2]; exact (Below.refl _ w).alloc (Nat.le_refl _) _
  have g2 : W2.heap[w.heap.size]? = some (.cells #[.slice a n c, .int .i64 x.root] 32 (0, 0)) := by rw [hW2]; exact heap_alloc_new _ _
  obtain ⟨⟨q0, q1⟩, _⟩ := open2 g2
  have HB2 := Lib.hid hb2
  have HG2 := Lib.hid g2
  clear hb2 g2 h hx hf hs hL
  go_enter Tryz.func16, Tryz.ntmps16
  go_wp2_with fail
  rw [← hW2]
  with_reducible refine (H1.out W2 HB2.out).mono ?_
  rintro e w1 ⟨rfl, hb1⟩
  have hg1 := heap_below hb1 HG2.out
  obtain ⟨⟨q0, q1⟩, _⟩ := open2 hg1
  have HB1 := Lib.hid (Below.next HB2.out hb1)
  have HG1 := Lib.hid hg1
  clear hb1 hg1 hW2
  go_wp2_with fail
  with_reducible refine (H2.out w1 HB1.out).mono ?_
  rintro e w3 ⟨rfl, hb3⟩
  have HB3 := Lib.hid (Below.next HB1.out hb3)
  have HG3 := Lib.hid (heap_below hb3 HG1.out)
  clear hb3 q0 q1
  go_wp2_with fail
  with_reducible refine (H3.out w3).mono ?_
  rintro e w4 ⟨v4, rfl, hown4, hb4⟩
  obtain ⟨aS, cS, rfl, hrd4⟩ := hown4.rdn L (by rw [List.length_map]; exact HL.out)
  have hml := hrd4.max
  have hle := hrd4.le
  unfold maxLen at hml
  have HB4 := Lib.hid (Below.next HB3.out hb4)
  have HG4 := Lib.hid (heap_below hb4 HG3.out)
  have HRD := Lib.hid hrd4
  clear hown4 hb4 hrd4
  go_wp2_with fail
  go_loopw [5, 7] (fun v i wr => ∃ k : Nat, k ≤ L ∧ i = .int .i64 k ∧ wr.ownsRow w4.heap.size 37 1 v (famTo x k).length ((famTo x k).map setV2) ∧ Below w4.heap.size w4 wr) (fun _ i _ => L - (intOf i).toNat)
  case atStart => exact ⟨0, Nat.zero_le _, rfl, World.ownsRow_nil _ _ _ _, Below.refl _ _⟩
  case round =>
    obtain ⟨k, hk, rfl, hrow, hb⟩ := hrel
    by_cases hlt : k < L
    · obtain ⟨s, hsk⟩ : ∃ s, (subsS (srvX x))[k]? = some s := ⟨_, List.getElem?_eq_getElem (by have := HL.out; omega)⟩
      obtain ⟨bS, oS, hA, hcS⟩ := (HRD.out.below hb).at' (by omega)
      have m0 := hcS k (.int .u16 (U s)) (by rw [List.getElem?_map, hsk]; rfl)
      have HFS := Lib.hid (famTo_succ hsk)
      have HLE := Lib.hid (famTo_len x k)
      have hk2 : (famTo x k).length ≤ 65536 := Nat.le_trans HLE.out (by omega)
      obtain ⟨O, hO⟩ : ∃ O, famTo x k = O := ⟨_, rfl⟩
      rw [hO] at hrow HFS HLE hk2
      obtain ⟨ao, co, rfl, hro⟩ := rd_of_row hrow
      have HA := Lib.hid (fun (u : World) (hu : Below wr.heap.size wr u) => accepts8_c O s ao O.length co u (hro.below hu))
      have HH := Lib.hid (fun (u : World) (hu : Below wr.heap.size wr u) => H4.out s u (Below.next HB4.out (Below.next hb hu)))
      have HKS := Lib.hid (fun (u : World) (hu : Below wr.heap.size wr u) => And.intro (cell_keep hu m0) (open2 (heap_below (Below.next hb hu) HG4.out)).1)
      have HB := Lib.hid hb
      have HROW := Lib.hid hrow
      subst hA
      obtain ⟨A, hAc⟩ : ∃ A, accS O s = A := ⟨_, rfl⟩
      rw [hAc] at HA
      have HAC := Lib.hid hAc
      clear hcS hsk hO hrow hb hro hAc
      cases A
      · obtain ⟨V, hV⟩ : ∃ V, holdX x s = V := ⟨_, rfl⟩
        rw [hV] at HH
        have HST : Hid (famStep x O s = if V = true then O ++ [s] else O) := Lib.hid (by unfold famStep; rw [if_neg (by rw [HAC.out]; decide), hV])
        clear hV
        go_wp2_with fail
        refine wp_region_quiet (C := fun y => Below wr.heap.size wr y) (by kernel_rfl) (by kernel_rfl) (below_drew (Below.refl _ _)) ?_
        repeat (refine wpQuiet_step (fun K hK => ?_); go_simp; (first | (refine hK _ ?_; clear hK K) | (apply Exists.intro; refine ⟨fun y hy => ?_, hK _ ?_⟩; (first | exact rfl | exact ⟨rfl, hy⟩ | ((refine (HA.out y hy).mono ?_); (rintro e w3 ⟨rfl, rfl⟩; exact ⟨rfl, hy⟩)) | ((refine (HH.out y hy).mono ?_); (rintro e w3 ⟨rfl, h3⟩; exact ⟨rfl, Below.next hy h3⟩)) | (obtain ⟨q1, q2, q3⟩ := HKS.out y hy; go_simp; first | exact rfl | exact ⟨rfl, hy⟩ | exact hy)); clear hK K)))
        refine wpQuiet_nil ?_
        intro wq hwq
        have HBQ := Lib.hid (Below.next HB.out hwq)
        have hrq := rowK_below HROW.out hwq
        have mq := (HKS.out wq hwq).1
        cases V
        · rw [if_neg (by decide)] at HST
          have HRQ := Lib.hid hrq
          clear hrq mq hwq
          go_wp2_with fail
          go_roundw
          case rel => exact ⟨k + 1, by omega, by go_num, by rw [HFS.out, HST.out]; exact HRQ.out, HBQ.out⟩
          case measure => simp [intOf]; omega
        · rw [if_pos rfl] at HST
          have hbq := HBQ.out
          clear hwq
          go_wp2_with (at_builtin; go_must (refine wpList_app _ _ 26 2 (.int .u16 0) (.int .u16 (U s)) _ Tryz.underlying26 Tryz.infoSet rfl hrq hbq (Nat.le_refl _) rfl rfl rfl rfl rfl (by unfold maxLen; omega) (by omega) ?_))
          intro v' w9 hown9 hb9 _ _
          have HO9 := Lib.hid hown9
          have HB9 := Lib.hid hb9
          clear hown9 hb9 hrq hbq mq
          go_wp2_with fail
          go_roundw
          case rel => exact ⟨k + 1, by omega, by go_num, by rw [HFS.out, HST.out, List.length_append, List.map_append]; exact HO9.out, HB9.out⟩
          case measure => simp [intOf]; omega
      · have HST : Hid (famStep x O s = O) := Lib.hid (by unfold famStep; rw [if_pos HAC.out])
        go_wp2_with fail
        refine wp_region_quiet (C := fun y => Below wr.heap.size wr y) (by kernel_rfl) (by kernel_rfl) (below_drew (Below.refl _ _)) ?_
        repeat (refine wpQuiet_step (fun K hK => ?_); go_simp; (first | (refine hK _ ?_; clear hK K) | (apply Exists.intro; refine ⟨fun y hy => ?_, hK _ ?_⟩; (first | exact rfl | exact ⟨rfl, hy⟩ | ((refine (HA.out y hy).mono ?_); (rintro e w3 ⟨rfl, rfl⟩; exact ⟨rfl, hy⟩)) | (obtain ⟨q1, q2, q3⟩ := HKS.out y hy; go_simp; first | exact rfl | exact ⟨rfl, hy⟩ | exact hy)); clear hK K)))
        refine wpQuiet_nil ?_
        intro wq hwq
        have HBQ := Lib.hid (Below.next HB.out hwq)
        have HRQ := Lib.hid (rowK_below HROW.out hwq)
        clear hwq
        go_wp2_with fail
        go_roundw
        case rel => exact ⟨k + 1, by omega, by go_num, by rw [HFS.out, HST.out]; exact HRQ.out, HBQ.out⟩
        case measure => simp [intOf]; omega
    · obtain rfl : k = L := by omega
      have hft := famTo_all x HL.out
      rw [hft] at hrow
      have hfl := famTo_len x k
      rw [hft] at hfl
      have HBF := Lib.hid (Below.next HB4.out hb)
      obtain ⟨O, hO⟩ : ∃ O, famS x = O := ⟨_, rfl⟩
      rw [hO] at hrow hfl HE
      obtain ⟨ao, co, rfl, hro⟩ := rd_of_row hrow
      have HRO := Lib.hid hro
      clear hft hO hrow hro hb
      by_cases h4 : 400 < O.length
      · rw [if_pos h4] at HE
        have hd : decide ((400 : Int) < (O.length : Int)) = true := decide_eq_true (by omega)
        clear h4
        go_wp2_with fail
        go_ret2
        rw [HE.out]
        exact ⟨none, 0, rfl, Rd.none_ _, HBF.out⟩
      · rw [if_neg h4] at HE
        have hd : decide ((400 : Int) < (O.length : Int)) = false := decide_eq_false (by omega)
        clear h4
        go_wp2_with fail
        go_ret2
        rw [HE.out]
        exact ⟨ao, co, rfl, HRO.out, HBF.out⟩
end Go.Proofs.YtcojmmhclklpoaaGreatDoor
namespace Go.Proofs.YtcojmmhclklpoaaGreatDoor
open Go.RowKit Go.Shelf

theorem setV_same : (setV : BitVec 16 → Value) = setV2 := by funext x; rfl
set_option maxRecDepth 100000 in
set_option maxHeartbeats 4000000 in
theorem families_w (v : Value) (xs : List Pce) (w : World) (ht : HasTab w) (hp : HasPow w) (hr : HasRng w) (hy : HasSyn w) (w0 : IsDraft w v xs) :
    Calls Tryz.prog 3 #[v] w fun e w' => e = .returned (.bool true) ∧ Below w.heap.size w w' := by
  have HA := Lib.hid (fun u (hb : Below w.heap.size w u) => awake10_c u (ht.below hb) (hp.below hb) (hr.below hb) (hy.below hb))
  obtain ⟨ax, nx, cx, rfl, hpx⟩ := w0.val
  have HMX := Lib.hid (fun u (hb : Below w.heap.size w u) => made_c xs w0.okx ax nx cx u (hpx.below hb))
  obtain ⟨hxo, _, _⟩ := madX_ok w0.okx
  have hxf := madX_few xs
  have hxs := madX_sum xs
  obtain ⟨X, hX⟩ : ∃ X, madX xs = X := ⟨_, rfl⟩
  rw [hX] at HMX hxo hxf hxs
  have HE := Lib.hid (fun a n c u h (hb : Below w.heap.size w u) => family_x X hxo hxf a n c u (ht.below hb) h)
  have HR := Lib.hid (fun a n c u h => rfamily_c X hxo hxf hxs a n c u h)
  unfold FamR at HE
  obtain ⟨Q, hQ⟩ : ∃ Q, famE X = Q := ⟨_, rfl⟩
  rw [hQ] at HE HR
  obtain ⟨L, er⟩ := Q
  simp only at HE HR
  have hee : (er == er) = true := by simp
  clear hX hxo hxf hxs hQ ht hp hr hy w0 hpx
  go_enter Tryz.func3, Tryz.ntmps3
  go_wp2_with fail
  obtain ⟨W0, hW0⟩ : ∃ W0, W0 = w.alloc (.cells #[.slice ax nx cx] 24) := ⟨_, rfl⟩
  rw [← hW0]
  have hb0 : Below w.heap.size w W0 := by rw [hW0]; exact (Below.refl _ _).alloc (Nat.le_refl _) _
  have g0 : W0.heap[w.heap.size]? = some (.cells #[.slice ax nx cx] 24 (0, 0)) := by rw [hW0]; exact heap_alloc_new _ _
  with_reducible refine (HA.out W0 hb0).mono ?_
  rintro e w1 ⟨rfl, b1⟩
  have HB1 := Lib.hid (Below.next hb0 b1)
  have HG1 := Lib.hid (heap_below b1 g0)
  have r0 := cell_of_row _ _ 0 _ _ _ HG1.out
  clear b1 hb0 g0 hW0 HA
  go_wp2_with fail
  clear r0
  with_reducible refine (HMX.out w1 HB1.out).mono ?_
  rintro e w2 ⟨a2, c2, rfl, hx2, b2⟩
  obtain ⟨N, hN⟩ : ∃ N, X.nodes.length = N := ⟨_, rfl⟩
  obtain ⟨RT, hRT⟩ : ∃ RT, X.root = RT := ⟨_, rfl⟩
  rw [hN, hRT] at HMX
  rw [hN] at hx2 ⊢
  rw [hRT] at HE HR ⊢
  have HX2 := Lib.hid hx2
  have HB2 := Lib.hid (Below.next HB1.out b2)
  have HG2 := Lib.hid (heap_below b2 HG1.out)
  clear hx2 b2 hN hRT HB1 HG1
  go_wp2_with fail
  with_reducible refine (HE.out a2 N c2 w2 HX2.out HB2.out).mono ?_
  rintro e w3 ⟨a3, c3, rfl, hr3, b3⟩
  have HR3 := Lib.hid hr3
  have HB3 := Lib.hid (Below.next HB2.out b3)
  have HG3 := Lib.hid (heap_below b3 HG2.out)
  have r0 := cell_of_row _ _ 0 _ _ _ HG3.out
  clear hr3 b3 HB2 HG2 HX2
  go_wp2_with fail
  clear r0
  with_reducible refine (HMX.out w3 HB3.out).mono ?_
  rintro e w4 ⟨a4, c4, rfl, hx4, b4⟩
  have HX4 := Lib.hid hx4
  have HB4 := Lib.hid (Below.next HB3.out b4)
  have HR4 := Lib.hid (HR3.out.below b4)
  clear hx4 b4 HB3 HG3 HR3
  go_wp2_with fail
  with_reducible refine (HR.out a4 N c4 w4 HX4.out).mono ?_
  rintro e w5 ⟨a5, c5, rfl, hr5, b5⟩
  have HR5 := Lib.hid hr5
  have HB5 := Lib.hid (Below.next HB4.out b5)
  have HR45 := Lib.hid (HR4.out.below b5)
  clear hr5 b5 HB4 HX4 HR4
  go_wp2_with fail
  with_reducible refine (same8_c L a3 L.length c3 a5 L.length c5 w5 (by have h := HR45.out; rw [setV_same] at h; exact h) HR5.out).mono ?_
  rintro e w6 ⟨rfl, b6⟩
  have HB6 := Lib.hid (Below.next HB5.out b6)
  clear b6
  go_wp2_with fail
  go_ret
  exact ⟨rfl, HB6.out⟩
end Go.Proofs.YtcojmmhclklpoaaGreatDoor
namespace Go.Proofs.YtcojmmhclklpoaaGreatDoor

def Rk (a b : BitVec 16) : Prop := keyS a < keyS b
def Rs (a b : BitVec 16) : Prop := keyS a < keyS b ∧ subB b a = false

theorem subs_asc (x : BitVec 16) : (subsS x).Pairwise Rk := by
  rw [subsM_dep, List.pairwise_flatMap]
  have hc : ∀ (k : Int) (n : Nat), n ∈ numsTo k (2 ^ cnt x) → n < 2 ^ cnt x ∧ ((cnt (dep (memS x) n) : Nat) : Int) = k := by
    intro k n hn
    have h1 := List.mem_filter.1 hn
    have h2 := List.mem_range.1 h1.1
    refine ⟨h2, ?_⟩
    rw [cnt_dep (memS x) (memS_16 x) (memS_sorted x) n]
    have h3 := eq_of_beq h1.2
    rw [popR_32 x n h2] at h3
    exact h3
  refine ⟨fun k _ => ?_, ?_⟩
  · rw [List.pairwise_map]
    refine List.Pairwise.imp_of_mem (fun {a b} ha hb hab => ?_) (numsTo_sorted (k : Int) (2 ^ cnt x))
    have hA := hc _ _ ha
    have hB := hc _ _ hb
    have := dep_mono (memS x) (memS_16 x) (memS_sorted x) a b hab hB.1
    unfold Rk keyS; omega
  · refine List.Pairwise.imp (fun {a b} hab s hs t ht => ?_) List.pairwise_lt_range
    obtain ⟨n, hn, rfl⟩ := List.mem_map.1 hs
    obtain ⟨m, hm, rfl⟩ := List.mem_map.1 ht
    have hA := hc _ _ hn
    have hB := hc _ _ hm
    unfold Rk keyS
    have := (dep (memS x) n).isLt
    omega
theorem famFold_good (x : Xpr) : ∀ (l o : List (BitVec 16)), l.Pairwise Rk → o.Pairwise Rs → (∀ a ∈ o, ∀ b ∈ l, keyS a < keyS b) → (l.foldl (famStep x) o).Pairwise Rs := by
  intro l
  induction l with
  | nil => intro o _ h2 _; exact h2
  | cons y l ih =>
    intro o h1 h2 h3
    rw [List.pairwise_cons] at h1
    rw [List.foldl_cons]
    have hsame : (l.foldl (famStep x) o).Pairwise Rs := ih o h1.2 h2 fun a ha b hb => h3 a ha b (List.mem_cons_of_mem _ hb)
    cases ha : accS o y
    · cases hh : holdX x y
      · have e : famStep x o y = o := by unfold famStep; rw [ha, hh]; simp
        rw [e]; exact hsame
      · have e : famStep x o y = o ++ [y] := by unfold famStep; rw [ha, hh]; simp
        rw [e]
        refine ih _ h1.2 ?_ ?_
        · rw [List.pairwise_append]
          refine ⟨h2, List.pairwise_singleton _ _, fun a ham b hb => ?_⟩
          rw [List.mem_singleton] at hb; subst hb
          refine ⟨h3 a ham b (List.mem_cons_self ..), ?_⟩
          cases hs : subB b a
          · rfl
          · have : accS o b = true := List.any_eq_true.2 ⟨a, ham, hs⟩
            rw [ha] at this; cases this
        · intro a ham b hb
          rcases List.mem_append.1 ham with h | h
          · exact h3 a h b (List.mem_cons_of_mem _ hb)
          · rw [List.mem_singleton] at h; subst h; exact h1.1 b hb
    · have e : famStep x o y = o := by unfold famStep; rw [ha]; simp
      rw [e]; exact hsame
theorem famS_good (x : Xpr) : (famS x).Pairwise Rs := famFold_good x _ [] (subs_asc _) List.Pairwise.nil (by simp)
theorem key_sub {a b : BitVec 16} (h : subB a b = true) : keyS b ≤ keyS a := by
  rcases Nat.lt_or_ge (cnt b) (cnt a) with hc | hc
  · unfold keyS; have := b.isLt; omega
  · rw [sub_eq h hc]; exact Nat.le_refl _
theorem good_eq {l : List (BitVec 16)} (hl : l.Pairwise Rs) {a b : BitVec 16} (ha : a ∈ l) (hb : b ∈ l) (h : subB a b = true) : a = b := by
  obtain ⟨i, hi, rfl⟩ := List.mem_iff_getElem.1 ha
  obtain ⟨j, hj, rfl⟩ := List.mem_iff_getElem.1 hb
  rcases Nat.lt_trichotomy i j with hij | rfl | hij
  · have h1 := (List.pairwise_iff_getElem.1 hl i j hi hj hij).1
    have := key_sub h
    omega
  · rfl
  · have h1 := (List.pairwise_iff_getElem.1 hl j i hj hi hij).2
    rw [h] at h1; cases h1
theorem good_sub {l m : List (BitVec 16)} (hl : l.Pairwise Rs) (h : ∀ s, accS l s = accS m s) : ∀ f ∈ l, f ∈ m := by
  intro f hf
  have h1 : accS l f = true := List.any_eq_true.2 ⟨f, hf, (subB_iff f f).2 fun _ h => h⟩
  rw [h] at h1
  obtain ⟨g, hg, hgf⟩ := List.any_eq_true.1 h1
  have h2 : accS m g = true := List.any_eq_true.2 ⟨g, hg, (subB_iff g g).2 fun _ h => h⟩
  rw [← h] at h2
  obtain ⟨f', hf', hfg⟩ := List.any_eq_true.1 h2
  have e : f = f' := good_eq hl hf hf' ((subB_iff _ _).2 fun i hi => (subB_iff _ _).1 hgf i ((subB_iff _ _).1 hfg i hi))
  subst e
  have : f = g := sub_eq hgf (by have := sub_cnt hfg; exact this)
  rw [this]; exact hg
/-- two lists in order, of which no set contains another: the same sets are accepted only if they are equal -/
theorem good_ext {l m : List (BitVec 16)} (hl : l.Pairwise Rs) (hm : m.Pairwise Rs) (h : ∀ s, accS l s = accS m s) : l = m :=
  ext_sorted keyS l m (hl.imp fun h => h.1) (hm.imp fun h => h.1) fun y => ⟨good_sub hl h y, good_sub hm (fun s => (h s).symm) y⟩
theorem valS_good {l : List (BitVec 16)} (h : valS l = 0) : l.Pairwise Rs := by
  obtain ⟨_, h1, h2⟩ := valS_ok h
  rw [List.pairwise_iff_getElem]
  intro i j hi hj hij
  have hm := sorted_mono h1 i j hij hj
  rw [getD_at hi, getD_at hj] at hm
  refine ⟨hm, ?_⟩
  cases hs : subB l[j] l[i]
  · rfl
  · have := (overB_iff l).2 ⟨j, i, hj, hij, by rw [getD_at hi, getD_at hj]; exact hs⟩
    rw [h2] at this; cases this

/-- do the same sets satisfy both -/
def eqvB (x y : Xpr) : Bool := (subsS (srvX x ||| srvX y)).all fun s => holdX x s == holdX y s
def eqvE (x y : Xpr) : Bool × Int := if xprE x ≠ 0 then (false, xprE x) else if xprE y ≠ 0 then (false, xprE y) else (eqvB x y, 0)
theorem eqv_iff {x y : Xpr} (hx : XprOk x) (hy : XprOk y) : eqvB x y = true ↔ ∀ s, holdX x s = holdX y s := by
  unfold eqvB
  rw [List.all_eq_true]
  constructor
  · intro h s
    have h1 := h (s &&& (srvX x ||| srvX y)) (mem_subs fun p hp => by rw [hasB_and, Bool.and_eq_true] at hp; exact hp.2)
    have e1 : holdX x (s &&& (srvX x ||| srvX y)) = holdX x s := holdX_only hx fun p hp => by rw [hasB_and, hasB_or, hp, Bool.true_or, Bool.and_true]
    have e2 : holdX y (s &&& (srvX x ||| srvX y)) = holdX y s := holdX_only hy fun p hp => by rw [hasB_and, hasB_or, hp, Bool.or_true, Bool.and_true]
    rw [e1, e2] at h1
    exact eq_of_beq h1
  · intro h s _
    rw [h s]; simp
theorem eqv_fam {x y : Xpr} (hx : XprOk x) (hy : XprOk y) : eqvB x y = decide (famS x = famS y) := by
  rw [Bool.eq_iff_iff, eqv_iff hx hy, decide_eq_true_iff]
  constructor
  · intro h
    exact good_ext (famS_good x) (famS_good y) fun s => by rw [famS_holds hx, famS_holds hy, h s]
  · intro h s
    rw [← famS_holds hx, ← famS_holds hy, h]
end Go.Proofs.YtcojmmhclklpoaaGreatDoor
namespace Go.Proofs.YtcojmmhclklpoaaGreatDoor
open Go.RowKit
section
variable {F : Fence} {d : Nat} {P : Program} {ops : Array Oper} {md : Region.Mode} {C : World → Prop}

def noDefer (ops : Array Oper) : Bool := ops.all fun o => match o.op with | .defer _ => false | _ => true
theorem noDefer_at {ops : Array Oper} (h : noDefer ops = true) {i : Nat} {o : Oper} (hi : ops[i]? = some o) : ∀ c, o.op ≠ .defer c := fun c hc => by
  unfold noDefer at h
  obtain ⟨hlt, e⟩ := Array.getElem?_eq_some_iff.1 hi
  have := Array.all_eq_true.1 h i hlt
  rw [e, hc] at this
  cases this
theorem wpIn_of_quiet_r {o : Oper} {a : Act} {K : Act → Prop} {K' : Act → World → Prop} {Q' : Exit → Act → World → Prop} {w : World} (hnd : ∀ c, o.op ≠ .defer c) (hw : C w) (h : ∀ a w', C w' → K a → K' a w')
    (ha : o.askedIn F P a C) (hh : o.quietIn F d P a C K) : o.wpIn F d P a w K' Q' := by
  obtain ⟨v, h1, h2⟩ := hh
  have h3 := h1 w hw
  unfold Oper.quietAtIn at h3
  unfold Oper.wpIn
  refine ⟨ha w hw, ?_⟩
  rw [Oper.semAt_plain F _ _ hnd]
  generalize (execOp a.eval o).run P w = r at *
  cases r with
  | ok x w' =>
    cases x <;> simp only [Oper.quietUponIn] at h3 <;> simp only [Oper.uponIn]
    case value u =>
      obtain ⟨e1, e2⟩ := h3
      rw [e1, e2]
      exact h _ _ hw h2
    case skip =>
      obtain ⟨e1, e2⟩ := h3
      rw [e1, ← e2]
      exact h _ _ hw h2
    case enter f args =>
      obtain ⟨e1, hd, hc⟩ := h3
      rw [e1]
      exact ⟨hd, hc.mono fun e w'' ⟨he, hw''⟩ => by subst he; exact h _ _ hw'' h2⟩
  | halt x w' => simp only [Oper.quietUponIn] at h3
theorem wpOpIn_of_qOpIn_r {i : Nat} {a : Act} {K : Act → Prop} {K' : Act → World → Prop} {Q' : Exit → Act → World → Prop} {w : World} (hnd : noDefer ops = true) (hC : C w) (h : ∀ a w', C w' → K a → K' a w')
    (hh : qOpIn F d P ops C i K a) : wpOpIn F d P ops Q' i K' a w := by
  unfold qOpIn at hh
  unfold wpOpIn
  split
  · rename_i ho; simp only [ho] at hh; exact h _ _ hC hh
  · rename_i o ho
    simp only [ho] at hh
    obtain ⟨ha, hh⟩ := hh
    split
    · rename_i hw; simp only [hw, if_true] at hh; exact wpIn_of_quiet_r (noDefer_at hnd ho) hC h ha hh
    · rename_i hw; simp only [hw] at hh; exact ⟨ha w hC, h _ _ hC hh⟩
theorem wpAnyIn_of_quiet_r {Q : Act → Prop} {Q' : Exit → Act → World → Prop} (hnd : noDefer ops = true) (hQ : ∀ a w, C w → Q a → Q' .normal a w) : ∀ (fuel : Nat) (listed : Array Bool) (a : Act) (w : World), C w →
    wpAnyQIn F d P md ops C Q fuel listed a → wpAnyIn F d P md ops Q' fuel listed a w
  | 0, _, _, _, hw, h => ⟨h.1, hQ _ _ hw h.2⟩
  | fuel + 1, _, _, _, hw, h => ⟨fun h0 => hQ _ _ hw (h.1 h0), fun i hi => wpOpIn_of_qOpIn_r hnd hw (fun a' w' hw' => wpAnyIn_of_quiet_r hnd hQ fuel _ a' w' hw') (h.2 i hi)⟩
/-- one walk of the order of the text serves every order, in a round too -/
theorem wpIn_region_quiet_r {id : Nat} {Q : Exit → Act → World → Prop} {a : Act} {w : World} {l : List Oper} (C : World → Prop) (hm : P.follows .mixedOrders = true) (hB : (noDefer l.toArray && Region.lexB .any l.toArray) = true) (hC : C { w with drawn := w.drawn + 1 })
    (h : wpQuietIn F d P l.toArray C (fun a' => ∀ w', C w' → Q .normal a' w') l a) : (Code.region id l.toArray true).wpIn F d P Q a w := by
  simp only [Region.lexB, Bool.and_eq_true] at hB
  refine wpIn_region_any hm (wpAnyIn_of_quiet_r (Q := fun a' => ∀ w', C w' → Q .normal a' w') hB.1 (fun _ w' hw' h => h w' hw') _ _ _ _ hC ?_)
  have := wpAnyQIn_lex (F := F) (n := d) (C := C) (md := .any) hB.2.1 l 0 (Array.replicate l.length false) a (by simp) (by simpa using hB.2.2) h
  simpa using this

def headQIn (F : Fence) (d : Nat) (P : Program) (md : Region.Mode) (ops : Array Oper) (C : World → Prop) (n : Nat) (L : Array Bool → Act → Prop) : Nat → Array Bool → Act → Prop
  | 0, listed, a => L listed a
  | f + 1, listed, a => Region.ready md ops listed ≠ [] ∧ ∀ i ∈ Region.ready md ops listed, i < n ∧ qOpIn F d P ops C i (headQIn F d P md ops C n L f (listed.setIfInBounds i true)) a

theorem any_of_headQIn {n g : Nat} {L : Array Bool → Act → Prop} {Q' : Exit → Act → World → Prop} (hnd : noDefer ops = true) (hL : ∀ listed a w, C w → L listed a → wpAnyIn F d P md ops Q' g listed a w) :
    ∀ (f : Nat) (listed : Array Bool) (a : Act) (w : World), C w → headQIn F d P md ops C n L f listed a → wpAnyIn F d P md ops Q' (f + g) listed a w
  | 0, listed, a, w, hw, h => by rw [Nat.zero_add]; exact hL _ _ _ hw h
  | f + 1, listed, a, w, hw, h => by
    rw [show f + 1 + g = (f + g) + 1 by omega]
    exact ⟨fun h0 => absurd h0 h.1, fun i hi => wpOpIn_of_qOpIn_r hnd hw (fun a' w' hw' h' => any_of_headQIn hnd hL f _ a' w' hw' h') (h.2 i hi).2⟩

theorem headQIn_first {n i : Nat} {oi : Oper} {v : Value} {L : Array Bool → Act → Prop} (hi : ops[i]? = some oi) (hsel : ∀ (j : Nat) (o : Oper) cs b, ops[j]? = some o → o.op ≠ .select cs b)
    (hs : Region.sinkB md ops n = true) (hc : Region.chainB md ops n = true) (hn : n < ops.size) (hin : i < n)
    (hdone : ∀ listed a, L listed a → ∀ j ∈ Region.ready md ops listed, n ≤ j) :
    ∀ (f : Nat) (listed : Array Bool) (a : Act), HeadInv md ops n listed →
      (∀ j oj, ops[j]? = some oj → j ≠ i → listed.getD j true = false → (∀ e ∈ oj.after, Region.binds md e = true → e.on ≠ i) → oi.apart ops oj = true) →
      i ∈ Region.ready md ops listed → YieldsQuiet F d P ops C oi v a →
      headQIn F d P md ops C n L f (listed.setIfInBounds i true) (a.put oi.dst v) → headQIn F d P md ops C n L (f + 1) listed a := by
  intro f
  induction f with
  | zero =>
    intro listed a inv _ hr hy H
    have hun := (mem_ready.1 hr).1
    refine ⟨fun h => (by rw [h] at hr; cases hr), fun j hj => ?_⟩
    have hjn : j < n := by
      rcases Nat.lt_or_ge j n with h | h
      · exact h
      · exact absurd hj (tail_waits hs hc hn inv _ i rfl hin hun j h)
    refine ⟨hjn, ?_⟩
    by_cases hji : j = i
    · subst hji; exact hy.qOpIn hi H
    · have := hdone _ _ H j (ready_mono hj hji)
      omega
  | succ f ih =>
    intro listed a inv hfree hr hy H
    have hun := (mem_ready.1 hr).1
    refine ⟨fun h => (by rw [h] at hr; cases hr), fun j hj => ?_⟩
    have hjn : j < n := by
      rcases Nat.lt_or_ge j n with h | h
      · exact h
      · exact absurd hj (tail_waits hs hc hn inv _ i rfl hin hun j h)
    refine ⟨hjn, ?_⟩
    by_cases hji : j = i
    · subst hji; exact hy.qOpIn hi H
    · have h1 := (H.2 j (ready_mono hj hji)).2
      obtain ⟨hjun, oj, hoj, hall⟩ := mem_ready.1 hj
      have hnot : ∀ e ∈ oj.after, Region.binds md e = true → e.on ≠ i := fun e he hb heq => by
        have h1 := hall e he hb
        rw [heq, getD_both hun] at h1
        cases h1
      have h2 := qOpIn_put hoj (hfree j oj hoj hji hjun hnot) (fun cs b => hsel i oi cs b hi) (fun cs b => hsel j oj cs b hoj) hy h1
      have hfree' : ∀ k ok, ops[k]? = some ok → k ≠ i → (listed.setIfInBounds j true).getD k true = false →
          (∀ e ∈ ok.after, Region.binds md e = true → e.on ≠ i) → oi.apart ops ok = true := fun k ok hk hki hun hno => by
        refine hfree k ok hk hki ?_ hno
        by_cases hjk : j = k
        · subst hjk; exact hjun
        · rw [getD_set_ne true hjk] at hun; exact hun
      refine qOpIn_mono (fun a' h3 => ih (listed.setIfInBounds j true) a' (inv.set hj hjn) hfree' (ready_mono hr (Ne.symm hji)) h3.1 ?_) h2
      rw [Array.setIfInBounds_comm _ _ hji]
      exact h3.2

theorem headQIn_lex {n g : Nat} {Lq : Act → Prop} (hsel : Region.noSelect ops = true) (hs : Region.sinkB md ops n = true) (hc : Region.chainB md ops n = true) (hn : n < ops.size) :
    ∀ (l : List Oper) (k : Nat) (listed : Array Bool) (a : Act), (∀ j, j < l.length → l[j]? = ops[k + j]?) → k + l.length = n → HeadInv md ops n listed →
    Region.lexHead md ops g l.length k listed = true → wpQuietIn F d P ops C Lq l a →
    headQIn F d P md ops C n (fun listed' a' => Region.seqB md ops g n listed' = true ∧ Lq a') l.length listed a
  | [], k, listed, a, _, hk, _, hB, h => by
    have : k = n := by simpa using hk
    subst this
    exact ⟨by simpa [Region.lexHead] using hB, h⟩
  | o :: l, k, listed, a, hl, hk, inv, hB, h => by
    have h0 : ops[k]? = some o := by simpa using (hl 0 (by simp)).symm
    simp only [List.length_cons, Region.lexHead, Bool.and_eq_true] at hB
    obtain ⟨⟨hr, hf⟩, hB'⟩ := hB
    have hkn : k < n := by simp only [List.length_cons] at hk; omega
    have hr' : k ∈ Region.ready md ops listed := by simpa using hr
    have hst : qOpIn F d P ops C k (wpQuietIn F d P ops C Lq l) a := by unfold qOpIn; simp only [h0]; exact h
    obtain ⟨v, hy, hK⟩ := yieldsQuiet_of_qOpIn h0 hst
    exact headQIn_first h0 (Region.noSelect_spec hsel) hs hc hn hkn (fun listed' a' hL => seqB_ready hL.1) l.length listed a inv (Region.free_spec h0 hf) hr' hy
      (headQIn_lex hsel hs hc hn l (k + 1) _ _ (fun j hj => by have := hl (j + 1) (by simp; omega); simpa [Nat.add_assoc, Nat.add_comm 1 j] using this) (by simp only [List.length_cons] at hk; omega) (inv.set hr' hkn) hB' hK)

theorem wpAnyIn_of_seq {Q' : Exit → Act → World → Prop} : ∀ (l : List Oper) (k : Nat) (listed : Array Bool) (a : Act) (w : World), (∀ j, l[j]? = ops[k + j]?) →
    Region.seqB md ops l.length k listed = true → wpListIn F d P ops Q' l a w → wpAnyIn F d P md ops Q' l.length listed a w
  | [], _, _, _, _, _, hB, h => ⟨by simpa [Region.seqB] using hB, h⟩
  | o :: l, k, listed, a, w, hl, hB, h => by
    have h0 : ops[k]? = some o := by simpa using (hl 0).symm
    simp only [List.length_cons, Region.seqB, Bool.and_eq_true, decide_eq_true_eq] at hB
    refine ⟨fun h1 => (by rw [hB.1] at h1; cases h1), fun i hi => ?_⟩
    rw [hB.1] at hi
    have hik : i = k := by simpa using hi
    subst hik
    have hw : wpOpIn F d P ops Q' i (wpListIn F d P ops Q' l) a w := by unfold wpOpIn; simp only [h0]; exact h
    exact wpOpIn_mono (fun a' w' h' => wpAnyIn_of_seq l (i + 1) _ a' w' (fun j => by have := hl (j + 1); simpa [Nat.add_assoc, Nat.add_comm 1 j] using this) hB.2 h') hw
/-- one walk in the order of the text serves every order; the tail stands behind, in any world of the class -/
theorem wpIn_region_quiet_tail {id : Nat} {Q : Exit → Act → World → Prop} {a : Act} {w : World} {l : List Oper} (C : World → Prop) (n : Nat) (hm : P.follows .mixedOrders = true) (hB : (noDefer l.toArray && Region.lexTailB .any l.toArray n) = true) (hC : C { w with drawn := w.drawn + 1 })
    (h : wpQuietIn F d P l.toArray C (fun a' => ∀ w', C w' → wpListIn F d P l.toArray Q (l.drop n) a' w') (l.take n) a) : (Code.region id l.toArray true).wpIn F d P Q a w := by
  simp only [Region.lexTailB, Bool.and_eq_true, decide_eq_true_eq] at hB
  obtain ⟨hnd, ⟨⟨⟨hsel, hn⟩, hs⟩, hc⟩, hlex⟩ := hB
  have hn' : n < l.length := by simpa using hn
  have htl : (l.take n).length = n := by simp; omega
  have hdl : (l.drop n).length = l.toArray.size - n := by simp
  have inv0 : HeadInv .any l.toArray n (Array.replicate l.toArray.size false) :=
    ⟨by simp, fun j oj _ hl => (by rw [getD_replicate_false] at hl; cases hl), fun t _ ht => getD_in (by simpa using ht) (getD_replicate_false _ _)⟩
  have H := headQIn_lex (md := .any) (C := C) (g := l.toArray.size - n) hsel hs hc hn (l.take n) 0 _ a (fun j hj => by
    have hj' : j < n := by rw [htl] at hj; exact hj
    simp [hj']) (by simpa using htl) inv0 (by rw [htl]; exact hlex) h
  refine wpIn_region_any hm ?_
  have := any_of_headQIn (Q' := Q) (g := l.toArray.size - n) hnd (fun listed a' w' hw' hL => by
    have := wpAnyIn_of_seq (md := .any) (Q' := Q) (l.drop n) n listed a' w' (fun j => by simp [List.getElem?_drop]) (by rw [hdl]; exact hL.1) (hL.2 w' hw')
    rwa [hdl] at this) _ _ _ _ hC H
  rw [htl, show n + (l.toArray.size - n) = l.toArray.size by omega] at this
  exact this
end
end Go.Proofs.YtcojmmhclklpoaaGreatDoor
namespace Go.Proofs.YtcojmmhclklpoaaGreatDoor
open Go.RowKit Go.Shelf
attribute [local go_sem] Oper.semAt_some
attribute [local simp] wide_fnx

theorem box5 {w W5 : World} {c0 c1 c2 c3 c4 : Array Value} {t0 t1 t2 t3 t4 : TypeId} (h : ((((w.alloc (.cells c0 t0)).alloc (.cells c1 t1)).alloc (.cells c2 t2)).alloc (.cells c3 t3)).alloc (.cells c4 t4) = W5) :
    W5.heap[w.heap.size]? = some (.cells c0 t0 (0, 0)) ∧ W5.heap[w.heap.size + 1]? = some (.cells c1 t1 (0, 0)) ∧ W5.heap[w.heap.size + 1 + 1]? = some (.cells c2 t2 (0, 0)) ∧ W5.heap[w.heap.size + 1 + 1 + 1]? = some (.cells c3 t3 (0, 0)) ∧ W5.heap[w.heap.size + 1 + 1 + 1 + 1]? = some (.cells c4 t4 (0, 0)) ∧ Below w.heap.size w W5 ∧ W5.heap.size = w.heap.size + 5 := by
  obtain ⟨W3, hW3⟩ : ∃ W3, ((w.alloc (.cells c0 t0)).alloc (.cells c1 t1)).alloc (.cells c2 t2) = W3 := ⟨_, rfl⟩
  rw [hW3] at h
  obtain ⟨g0, g1, g2, hb, hs⟩ := box3 hW3
  obtain ⟨g3, g4, hb2, hs2⟩ := box2' h
  have e : w.heap.size + 1 + 1 + 1 = W3.heap.size := by omega
  rw [e]
  exact ⟨heap_below hb2 g0, heap_below hb2 g1, heap_below hb2 g2, g3, g4, hb.trans (hb2.mono (by omega)), by omega⟩
theorem fin2 {w w4 WF : World} {R E : Nat} {p u q z : Value} {t t' : TypeId} (hR : w4.heap[R]? = some (.cells #[p] t (0, 0))) (hE : w4.heap[E]? = some (.cells #[q] t' (0, 0))) (hne : R ≠ E) (hRb : w.heap.size ≤ R) (hEb : w.heap.size ≤ E) (hb : Below w.heap.size w w4) (hW : (w4.setCell ⟨R, 0, none⟩ u).setCell ⟨E, 0, none⟩ z = WF) :
    WF.heap[R]? = some (.cells #[u] t (0, 0)) ∧ WF.heap[E]? = some (.cells #[z] t' (0, 0)) ∧ Below w.heap.size w WF ∧ (∀ g, g ≠ R → g ≠ E → WF.heap[g]? = w4.heap[g]?) ∧ WF.heap.size = w4.heap.size := by
  subst hW
  have h1 : (w4.setCell ⟨R, 0, none⟩ u).heap[R]? = some (.cells #[u] t (0, 0)) := by rw [heap_set_at hR]; rfl
  have h2 : (w4.setCell ⟨R, 0, none⟩ u).heap[E]? = some (.cells #[q] t' (0, 0)) := heap_set_other (Ne.symm hne) _ _ hE
  refine ⟨heap_set_other hne _ _ h1, by rw [heap_set_at h2]; rfl, (hb.setCell (p := ⟨R, 0, none⟩) hRb _).setCell (p := ⟨E, 0, none⟩) hEb _, fun g h3 h4 => ?_, by simp⟩
  rw [Below.heap_setCell _ ⟨E, 0, none⟩ _ g h4, Below.heap_setCell _ ⟨R, 0, none⟩ _ g h3]
set_option maxRecDepth 100000 in
set_option maxHeartbeats 8000000 in
theorem equiv_in (x y : Xpr) (hfx : XprFew x) (hfy : XprFew y) (a : Option Addr) (n c : Nat) (a2 : Option Addr) (n2 c2 : Nat) (w : World) (ht : HasTab w) (h : XM w a n c x.nodes) (h2 : XM w a2 n2 c2 y.nodes) :
    CallsIn Fence.wide 5 Tryz.prog 37 #[.agg #[.slice a n c, .int .i64 x.root], .agg #[.slice a2 n2 c2, .int .i64 y.root]] w fun e w' => e = .returned (.tuple #[.bool (eqvE x y).1, .int .i64 (eqvE x y).2]) ∧ Below w.heap.size w w' := by
  have HT := Lib.hid ht
  have HX := Lib.hid (fun (u : World) (hb : Below w.heap.size w u) => xpr_c x a n c u (h.below hb))
  have HY := Lib.hid (fun (u : World) (hb : Below w.heap.size w u) => xpr_c y a2 n2 c2 u (h2.below hb))
  have HSX := Lib.hid (fun (hx : XprOk x) (u : World) (hb : Below w.heap.size w u) => servers_x x hx a n c u (h.below hb))
  have HSY := Lib.hid (fun (hx : XprOk y) (u : World) (hb : Below w.heap.size w u) => servers_x y hx a2 n2 c2 u (h2.below hb))
  have HHX := Lib.hid (fun (hx : XprOk x) (s : BitVec 16) (u : World) (hb : Below w.heap.size w u) => holds_c x hx hfx s a n c u (h.below hb))
  have HHY := Lib.hid (fun (hx : XprOk y) (s : BitVec 16) (u : World) (hb : Below w.heap.size w u) => holds_c y hx hfy s a2 n2 c2 u (h2.below hb))
  have HOX : Hid (xprE x = 0 → XprOk x) := Lib.hid xprE_ok
  have HOY : Hid (xprE y = 0 → XprOk y) := Lib.hid xprE_ok
  have HE : Hid (eqvE x y = if xprE x ≠ 0 then (false, xprE x) else if xprE y ≠ 0 then (false, xprE y) else (eqvB x y, 0)) := Lib.hid rfl
  obtain ⟨EX, hEX⟩ : ∃ EX, xprE x = EX := ⟨_, rfl⟩
  obtain ⟨EY, hEY⟩ : ∃ EY, xprE y = EY := ⟨_, rfl⟩
  rw [hEX] at HX HOX HE
  rw [hEY] at HY HOY HE
  obtain ⟨EV, hEV⟩ : ∃ EV, eqvE x y = EV := ⟨_, rfl⟩
  rw [hEV] at HE ⊢
  clear ht h h2 hfx hfy hEX hEY hEV
  refine callsIn_of_wp_marks Tryz.func37 rfl trivial ?_ rfl
  simp only [Tryz.ntmps37, List.size_toArray, List.length_cons, List.length_nil, Nat.reduceAdd, Nat.reduceSub, Array.replicate_succ, Array.replicate_zero, List.push_toArray, List.append_toArray, List.nil_append, List.cons_append]
  gi_wp2_with fail
  generalize hW5 : ((((w.alloc _).alloc _).alloc _).alloc _).alloc _ = w5
  obtain ⟨gX, gY, gR, gE, gL, hb5, hs5⟩ := box5 hW5
  have GX := Lib.hid gX
  have GY := Lib.hid gY
  have GR := Lib.hid gR
  have GE := Lib.hid gE
  have GL := Lib.hid gL
  have HB5 := Lib.hid hb5
  clear hW5 gX gY gR gE gL hb5
  gi_loopw [14] (fun i wr => ∃ k : Nat, k ≤ 2 ∧ i = .int .i64 ((k : Nat) : Int) ∧ Hid (0 < k → EX = 0) ∧ Hid (1 < k → EY = 0) ∧ Below w5.heap.size w5 wr) (fun i _ => 2 - (intOf i).toNat)
  case atStart => exact ⟨0, by omega, rfl, Lib.hid (fun h => by omega), Lib.hid (fun h => by omega), Below.refl _ _⟩
  case round =>
    obtain ⟨k, hk, rfl, h0, h1, hb⟩ := hrel
    have HB := Lib.hid hb
    have gl := heap_below hb GL.out
    have l0 := cell_of_row _ _ 0 _ _ _ gl
    have l1 := cell_of_row _ _ 1 _ _ _ gl
    have l2 := cell_of_row _ _ 2 _ _ _ gl
    have l3 := cell_of_row _ _ 3 _ _ _ gl
    have hsr := hb.size
    clear hb gl
    by_cases k0 : k = 0
    · subst k0
      clear l2 l3
      gi_wp2_with fail
      refine (callsIn_wide.2 (HX.out _ (Below.next HB5.out (HB.out.trans (((Below.refl _ wr).alloc (Nat.le_refl _) _).mono hsr))))).mono ?_
      rintro e w6 ⟨rfl, hb6⟩
      have hb6 := HB.out.trans ((Below.next ((Below.refl _ wr).alloc (Nat.le_refl _) _) hb6).mono hsr)
      by_cases hE : EX = 0
      · subst hE
        have HB6 := Lib.hid hb6
        clear hb6 l0 l1
        gi_wp2_with fail
        go_roundw
        case rel => exact ⟨1, by omega, by go_num, Lib.hid (fun _ => trivial), Lib.hid (fun h => by omega), HB6.out⟩
        case measure => simp [intOf]
      · have hne : (EX != 0) = true := by simpa using hE
        have hV : EV = (false, EX) := by rw [HE.out, if_pos hE]
        have gr := heap_below hb6 GR.out
        have ge := heap_below hb6 GE.out
        have t0 := cell_of_row _ _ 0 _ _ _ gr
        have t1 := cell_of_row _ _ 0 _ _ _ ge
        have z0 := frozen_row gr 0
        have z1 := frozen_row ge 0
        have HGR := Lib.hid gr
        have HGE := Lib.hid ge
        have HB6 := Lib.hid (HB5.out.trans (hb6.mono (by omega)))
        clear hb6 gr ge l0 l1 hE HE
        gi_wp2_with fail
        clear t0 t1 z0 z1
        generalize hWF : (w6.setCell _ _).setCell _ _ = WF
        obtain ⟨e1, e2, hbf, _, _⟩ := fin2 HGR.out HGE.out (by omega) (by omega) (by omega) HB6.out hWF
        have HBF := Lib.hid hbf
        have f0 := cell_of_row _ _ 0 _ _ _ e1
        have f1 := cell_of_row _ _ 0 _ _ _ e2
        clear hWF e1 e2 hbf
        refine ⟨.tuple #[.bool false, .int .i64 EX], ?_, ?_⟩
        · rw [results_cell_cell rfl]
          go_simp
        · rw [hV]; exact ⟨rfl, HBF.out⟩
    · by_cases k1 : k = 1
      · subst k1
        obtain rfl : EX = 0 := h0.out (by omega)
        clear l0 l1
        gi_wp2_with fail
        refine (callsIn_wide.2 (HY.out _ (Below.next HB5.out (HB.out.trans (((Below.refl _ wr).alloc (Nat.le_refl _) _).mono hsr))))).mono ?_
        rintro e w6 ⟨rfl, hb6⟩
        have hb6 := HB.out.trans ((Below.next ((Below.refl _ wr).alloc (Nat.le_refl _) _) hb6).mono hsr)
        by_cases hE : EY = 0
        · subst hE
          have HB6 := Lib.hid hb6
          clear hb6 l2 l3
          gi_wp2_with fail
          go_roundw
          case rel => exact ⟨2, by omega, by go_num, Lib.hid (fun _ => trivial), Lib.hid (fun _ => trivial), HB6.out⟩
          case measure => simp [intOf]
        · have hne : (EY != 0) = true := by simpa using hE
          have hV : EV = (false, EY) := by rw [HE.out, if_neg (by simp), if_pos hE]
          have gr := heap_below hb6 GR.out
          have ge := heap_below hb6 GE.out
          have t0 := cell_of_row _ _ 0 _ _ _ gr
          have t1 := cell_of_row _ _ 0 _ _ _ ge
          have z0 := frozen_row gr 0
          have z1 := frozen_row ge 0
          have HGR := Lib.hid gr
          have HGE := Lib.hid ge
          have HB6 := Lib.hid (HB5.out.trans (hb6.mono (by omega)))
          clear hb6 gr ge l2 l3 hE HE
          gi_wp2_with fail
          clear t0 t1 z0 z1
          generalize hWF : (w6.setCell _ _).setCell _ _ = WF
          obtain ⟨e1, e2, hbf, _, _⟩ := fin2 HGR.out HGE.out (by omega) (by omega) (by omega) HB6.out hWF
          have HBF := Lib.hid hbf
          have f0 := cell_of_row _ _ 0 _ _ _ e1
          have f1 := cell_of_row _ _ 0 _ _ _ e2
          clear hWF e1 e2 hbf
          refine ⟨.tuple #[.bool false, .int .i64 EY], ?_, ?_⟩
          · rw [results_cell_cell rfl]
            go_simp
          · rw [hV]; exact ⟨rfl, HBF.out⟩
      · obtain rfl : k = 2 := by omega
        obtain rfl : EX = 0 := h0.out (by omega)
        obtain rfl : EY = 0 := h1.out (by omega)
        have hok := HOX.out rfl
        have hoy := HOY.out rfl
        have HH1 := Lib.hid (HHX.out hok)
        have HH2 := Lib.hid (HHY.out hoy)
        have HS1 := Lib.hid (HSX.out hok)
        have HS2 := Lib.hid (HSY.out hoy)
        have hV : Hid (EV = (eqvB x y, 0)) := Lib.hid (by rw [HE.out, if_neg (by simp), if_neg (by simp)])
        have HBW := Lib.hid (Below.next HB5.out (HB.out.trans ((Below.refl _ wr).mono hsr)))
        have hbw : Below w.heap.size w wr := HB5.out.trans (HB.out.mono (by omega))
        have HBW := Lib.hid hbw
        have KS := Lib.hid (fun (u : World) (hu : Below wr.heap.size wr u) => And.intro (open2 (heap_below (HB.out.trans (hu.mono hsr)) GX.out)).1 (open2 (heap_below (HB.out.trans (hu.mono hsr)) GY.out)).1)
        clear hok hoy HHX HHY HSX HSY HOX HOY HE h0 h1 l0 l1 l2 l3 hbw HX HY k0 k1
        gi_upto_region 8 with fail
        refine wpIn_region_quiet_tail (fun u => Below wr.heap.size wr u) 5 (by kernel_rfl) (by kernel_rfl) (below_drew (Below.refl _ _)) ?_
        repeat (refine wpQuietIn_step (by quiet_asked_in) (fun K hK => ?_); go_simp; (first | (refine hK _ ?_; clear hK K) | (apply Exists.intro; refine ⟨fun u hu => ?_, hK _ ?_⟩; (first | with_reducible exact rfl | with_reducible exact ⟨rfl, hu⟩ | ((with_reducible refine (callsIn_wide.2 (HS1.out u (Below.next HBW.out hu))).mono ?_); (rintro e w3 ⟨rfl, h3⟩; exact ⟨rfl, Below.next hu h3⟩)) | ((with_reducible refine (callsIn_wide.2 (HS2.out u (Below.next HBW.out hu))).mono ?_); (rintro e w3 ⟨rfl, h3⟩; exact ⟨rfl, Below.next hu h3⟩)) | (obtain ⟨⟨q1, q2⟩, ⟨q3, q4⟩⟩ := KS.out u hu; go_simp; first | exact rfl | exact ⟨rfl, hu⟩ | exact hu)); clear hK K)))
        refine wpQuietIn_nil ?_
        intro wq hwq
        simp only [List.drop_succ_cons, List.drop_zero]
        have HBQ := Lib.hid (Below.next HBW.out hwq)
        have GRQ := Lib.hid (heap_below (HB.out.trans (hwq.mono hsr)) GR.out)
        have GEQ := Lib.hid (heap_below (HB.out.trans (hwq.mono hsr)) GE.out)
        have GXQ := Lib.hid (heap_below (HB.out.trans (hwq.mono hsr)) GX.out)
        have GYQ := Lib.hid (heap_below (HB.out.trans (hwq.mono hsr)) GY.out)
        have hsq : w.heap.size + 5 ≤ wq.heap.size := by have := hwq.size; omega
        clear hwq HB KS HS1 HS2 GL GR GE GX GY hs5 hsr
        gi_wp2_with fail
        refine (callsIn_wide.2 (subsets_c (srvX x ||| srvX y) _ _ rfl)).mono ?_
        rintro e w6 ⟨rfl, hw6⟩
        have hb6 : Below wq.heap.size wq w6 := by rw [hw6]; exact (Below.refl _ _).alloc (Nat.le_refl _) _
        have gS6 : w6.cell? ⟨wq.heap.size, 0, none⟩ = some (.int .u16 (U (srvX x ||| srvX y))) := by rw [hw6]; exact cell_new _ _ _ 0 _ rfl
        have hs6 : w6.heap.size = wq.heap.size + 1 := by rw [hw6]; simp
        have HB6 := Lib.hid (Below.next HBQ.out hb6)
        have GX6 := Lib.hid (heap_below hb6 GXQ.out)
        have GY6 := Lib.hid (heap_below hb6 GYQ.out)
        have GR6 := Lib.hid (heap_below hb6 GRQ.out)
        have GE6 := Lib.hid (heap_below hb6 GEQ.out)
        have hBs : wq.heap.size < w6.heap.size := by omega
        obtain ⟨SU, hSU⟩ : ∃ SU, srvX x ||| srvX y = SU := ⟨_, rfl⟩
        have HVE : Hid (eqvB x y = (subsS SU).all fun s => holdX x s == holdX y s) := Lib.hid (by rw [← hSU]; rfl)
        rw [hSU] at gS6 ⊢
        have HSQ := Lib.hid (fun m => subsets1_stops m wq.heap.size (CBox w6.heap.size w6.heap.size) (fun k => .inr ⟨by decide, by decide⟩) (fun t => .inl ⟨Nat.lt_of_lt_of_le (cell_lt (HT.out 0 (by decide))) HB6.out.size, by have := cell_lt (HT.out 0 (by decide)); have := HB6.out.size; omega⟩) (fun t => .inl ⟨hBs, by omega⟩) SU w6 (HT.out.below HB6.out) gS6)
        clear hb6 gS6 hw6 HBQ GRQ GEQ GXQ GYQ hs6 hSU
        gi_wp2_with fail
        refine rangeFunc_x rfl (by decide) rfl trivial (enters_of Tryz.func81 (by kernel_rfl) rfl) (HSQ.out _) KeepC.trans kT_b (Below.refl _ _) (fun _ => rfl)
          (fun pre Wr => (pre.all fun s => holdX x s == holdX y s) = true ∧ BelX w6.heap.size w6 w6.heap.size Wr)
          (fun c ys Wr => c = .ret ∧ (ys.all fun s => holdX x s == holdX y s) = false ∧ BelX w.heap.size w6 w6.heap.size Wr ∧ Wr.heap[w.heap.size + 1 + 1]? = some (.cells #[.bool false] 4 (0, 0)) ∧ Wr.heap[w.heap.size + 1 + 1 + 1]? = some (.cells #[.int .i64 0] 27 (0, 0)))
          ?hI ?hIx ?h0 ?done ?stop ?A
        case hI => exact OwnFrom.and (purex_own (p := fun pre => (pre.all fun s => holdX x s == holdX y s) = true) _) (belx_own (Nat.le_refl _) (Nat.le_refl _))
        case hIx =>
          intro c
          exact OwnFrom.and (purex_own (p := fun _ => c = .ret) _) (OwnFrom.and (purex_own (p := fun ys => (ys.all fun s => holdX x s == holdX y s) = false) _) (OwnFrom.and (belx_own (by omega) (by omega)) (OwnFrom.and (blkx_own (by omega)) (blkx_own (by omega)))))
        case h0 => exact ⟨rfl, Below.refl _ _, Nat.le_refl _⟩
        case done =>
          rintro D ys W hD rfl ⟨hall, hB⟩ hK
          have HR : Hid (EV = (true, 0)) := Lib.hid (by rw [hV.out, HVE.out, hall])
          have gR := (hB.1.block (w.heap.size + 1 + 1) (by omega)).trans GR6.out
          have gE := (hB.1.block (w.heap.size + 1 + 1 + 1) (by omega)).trans GE6.out
          have r0 := cell_of_row _ _ 0 _ _ _ gR
          have r1 := cell_of_row _ _ 0 _ _ _ gE
          have z0 := frozen_row gR 0
          have z1 := frozen_row gE 0
          have HGR := Lib.hid gR
          have HGE := Lib.hid gE
          have HB := Lib.hid hB
          have hBs2 := hB.2
          clear hB gR gE hall
          gi_wp2_with fail
          clear r0 r1 z0 z1
          generalize hWZ : (W.setCell _ _).setCell _ _ = WZ
          obtain ⟨gRZ, gEZ, hbZ, hoZ, hsZ⟩ := fin2 (w := w) HGR.out HGE.out (by omega) (by omega) (by omega) (HB6.out.trans (HB.out.1.mono (by omega))) hWZ
          have hKZ : WZ.heap[D]? = some (.deferred (some [])) := (hoZ D (by omega) (by omega)).trans hK
          refine ⟨by simp, .inl ⟨_, _, rfl, run_takeDeferred hKZ, ?_⟩⟩
          have gR2 : (WZ.putObj D (.deferred none)).heap[w.heap.size + 1 + 1]? = some (.cells #[.bool true] 4 (0, 0)) := (World.putObj_heap_other (by omega)).trans gRZ
          have gE2 : (WZ.putObj D (.deferred none)).heap[w.heap.size + 1 + 1 + 1]? = some (.cells #[.int .i64 0] 27 (0, 0)) := (World.putObj_heap_other (by omega)).trans gEZ
          have f0 := cell_of_row _ _ 0 _ _ _ gR2
          have f1 := cell_of_row _ _ 0 _ _ _ gE2
          have HBF := Lib.hid (hbZ.grown (grownBy_putObj' WZ D (.deferred none)) (by omega) (fun k hk => by injection hk with hk; omega))
          clear gR2 gE2 hWZ gRZ gEZ hbZ hoZ hsZ hKZ
          refine ⟨.tuple #[.bool true, .int .i64 0], ?_, ?_⟩
          · rw [results_cell_cell rfl]
            go_simp
          · rw [HR.out]; exact ⟨rfl, HBF.out⟩
        case stop =>
          rintro D c ys W hD hp ⟨rfl, hl, hB, hr2, hr3⟩ hK
          have hAll : ((subsS SU).all fun s => holdX x s == holdX y s) = false := by
            cases hc : (subsS SU).all fun s => holdX x s == holdX y s
            · rfl
            · rw [List.all_eq_true] at hc
              have : (ys.all fun s => holdX x s == holdX y s) = true := List.all_eq_true.2 fun s hs => hc s (hp.subset hs)
              rw [hl] at this; cases this
          have HR : Hid (EV = (false, 0)) := Lib.hid (by rw [hV.out, HVE.out, hAll])
          have r0 := cell_of_row _ _ 0 _ _ _ hr2
          have r1 := cell_of_row _ _ 0 _ _ _ hr3
          have hDr := hB.2
          clear hAll hl
          gi_wp2_with fail
          refine ⟨by simp, .inl ⟨_, _, rfl, run_takeDeferred hK, ?_⟩⟩
          have gR2 : (W.putObj D (.deferred none)).heap[w.heap.size + 1 + 1]? = some (.cells #[.bool false] 4 (0, 0)) := (World.putObj_heap_other (by omega)).trans hr2
          have gE2 : (W.putObj D (.deferred none)).heap[w.heap.size + 1 + 1 + 1]? = some (.cells #[.int .i64 0] 27 (0, 0)) := (World.putObj_heap_other (by omega)).trans hr3
          have f0 := cell_of_row _ _ 0 _ _ _ gR2
          have f1 := cell_of_row _ _ 0 _ _ _ gE2
          have hbF : Below w.heap.size w (W.putObj D (.deferred none)) := (HB6.out.trans hB.1).grown (grownBy_putObj' W D _) (by have := HB6.out.size; omega) (fun k hk => by injection hk with hk; omega)
          have HBF := Lib.hid hbF
          clear gR2 gE2 hbF r0 r1
          refine ⟨.tuple #[.bool false, .int .i64 0], ?_, ?_⟩
          · rw [results_cell_cell rfl]
            go_simp
          · rw [HR.out]; exact ⟨rfl, HBF.out⟩
        case A =>
          refine ⟨fun s => { tmps := #[.agg #[.slice a n c, .int .i64 x.root], .agg #[.slice a2 n2 c2, .int .i64 y.root], .pointer (some ⟨w.heap.size, 0, none⟩), .pointer (some ⟨w.heap.size + 1, 0, none⟩), .pointer (some ⟨w.heap.size + 1 + 1, 0, none⟩), .pointer (some ⟨w.heap.size + 1 + 1 + 1, 0, none⟩), undef, u7, u8, .int .u16 (U s), .agg #[.slice a n c, .int .i64 x.root], .agg #[.slice a2 n2 c2, .int .i64 y.root], .slice (some ⟨w.heap.size + 1 + 1 + 1 + 1, 0, none⟩) 2 2, .int .i64 2, .int .i64 2, .bool false, u16, u17, u18, u19, u20, u21, u22, u23, .agg #[.slice a n c, .int .i64 x.root], .int .u16 (U (srvX x)), .agg #[.slice a2 n2 c2, .int .i64 y.root], .int .u16 (U (srvX y)), .int .u16 (U SU), .func (.func 81) #[] #[.pointer (some ⟨wq.heap.size, 0, none⟩)], .int .u16 (U s), undef, undef, undef, undef, undef, undef, undef], defers := [] }, ?_, ?_⟩
          · intro l s Wr K hK
            gi_wp2_with fail
            exact hK
          · rintro l pre s Wr ⟨hall, hB⟩ hlt
            have hbw : Below w.heap.size w Wr := HB6.out.trans (hB.1.mono (by omega))
            have HB := Lib.hid hB
            have HBW := Lib.hid hbw
            have HH1s := Lib.hid (HH1.out s)
            have HH2s := Lib.hid (HH2.out s)
            have KS := Lib.hid (fun (u : World) (hu : Below Wr.heap.size Wr u) => And.intro (open2 (heap_below (hB.1.trans (hu.mono hB.2)) GX6.out)).1 (open2 (heap_below (hB.1.trans (hu.mono hB.2)) GY6.out)).1)
            have HAL : Hid ((pre ++ [s]).all (fun s => holdX x s == holdX y s) = (holdX x s == holdX y s)) := Lib.hid (by rw [List.all_append, hall]; simp)
            obtain ⟨BX, hBX⟩ : ∃ BX, holdX x s = BX := ⟨_, rfl⟩
            obtain ⟨BY, hBY⟩ : ∃ BY, holdX y s = BY := ⟨_, rfl⟩
            rw [hBX] at HH1s HAL
            rw [hBY] at HH2s HAL
            have HALL := Lib.hid hall
            clear hB hbw hlt hBX hBY hall
            gi_upto_region 10 with fail
            refine wpIn_region_quiet_r (fun u => Below Wr.heap.size Wr u) (by kernel_rfl) (by kernel_rfl) (below_drew (Below.refl _ _)) ?_
            repeat (refine wpQuietIn_step (by quiet_asked_in) (fun K hK => ?_); go_simp; (first | (refine hK _ ?_; clear hK K) | (apply Exists.intro; refine ⟨fun u hu => ?_, hK _ ?_⟩; (first | with_reducible exact rfl | with_reducible exact ⟨rfl, hu⟩ | ((with_reducible refine (CallsIn.inRound l (callsIn_wide.2 (HH1s.out u (Below.next HBW.out hu)))).mono ?_); (rintro e w3 ⟨rfl, h3⟩; exact ⟨rfl, Below.next hu h3⟩)) | ((with_reducible refine (CallsIn.inRound l (callsIn_wide.2 (HH2s.out u (Below.next HBW.out hu)))).mono ?_); (rintro e w3 ⟨rfl, h3⟩; exact ⟨rfl, Below.next hu h3⟩)) | (obtain ⟨⟨q1, q2⟩, ⟨q3, q4⟩⟩ := KS.out u hu; go_simp; first | exact rfl | exact ⟨rfl, hu⟩ | exact hu)); clear hK K)))
            refine wpQuietIn_nil ?_
            intro W2 hb2
            have hB2 : BelX w6.heap.size w6 w6.heap.size W2 := ⟨HB.out.1.trans (hb2.mono HB.out.2), Nat.le_trans HB.out.2 hb2.size⟩
            have HB2 := Lib.hid hB2
            have HKF := Lib.hid (keepsFrom_below (B := w6.heap.size) hb2)
            have HKC := Lib.hid (KeepC.of_below (CBox w6.heap.size w6.heap.size) hb2)
            have hs2 := hB2.2
            clear hb2 KS HH1s HH2s
            by_cases hq : BX = BY
            · have hne : (!BX == BY) = false := by rw [hq]; simp
              have hal : (BX == BY) = true := by rw [hq]; simp
              rw [hal] at HAL
              rw [hne]
              clear hq hne hal
              gi_wp2_with fail
              exact ⟨HKF.out, HKC.out, HAL.out, HB2.out⟩
            · have hal : (BX == BY) = false := by simpa using hq
              have hne : (!BX == BY) = true := by rw [hal]; rfl
              rw [hal] at HAL
              rw [hne]
              have gR := (hB2.1.block (w.heap.size + 1 + 1) (by omega)).trans GR6.out
              have gE := (hB2.1.block (w.heap.size + 1 + 1 + 1) (by omega)).trans GE6.out
              have r0 := cell_of_row _ _ 0 _ _ _ gR
              have r1 := cell_of_row _ _ 0 _ _ _ gE
              have z0 := frozen_row gR 0
              have z1 := frozen_row gE 0
              have HGR := Lib.hid gR
              have HGE := Lib.hid gE
              clear gR gE hq hne hal hB2
              gi_wp2_with fail
              have hkA := grownBy_setCell' W2 (w.heap.size + 1 + 1) (.bool false)
              have hkZ := grownBy_setCell' (W2.setCell ⟨w.heap.size + 1 + 1, 0, none⟩ (.bool false)) (w.heap.size + 1 + 1 + 1) (.int .i64 0)
              obtain ⟨gRZ, gEZ, _, hoZ, hsZ⟩ := fin2 (w := w) HGR.out HGE.out (by omega) (by omega) (by omega) (HB6.out.trans (HB2.out.1.mono (by omega))) rfl
              refine ⟨HKF.out.trans ((KeepsFrom.of_grownBy hkA (fun j hj => by injection hj with hj; omega)).trans (KeepsFrom.of_grownBy hkZ (fun j hj => by injection hj with hj; omega))), rfl, HAL.out, ⟨?_, ?_⟩, gRZ, gEZ⟩
              · exact ((HB2.out.1.mono (by omega)).setCell (p := ⟨w.heap.size + 1 + 1, 0, none⟩) (by show w.heap.size ≤ w.heap.size + 1 + 1; omega) _).setCell (p := ⟨w.heap.size + 1 + 1 + 1, 0, none⟩) (by show w.heap.size ≤ w.heap.size + 1 + 1 + 1; omega) _
              · rw [hsZ]; exact hs2
theorem equiv_c (x y : Xpr) (hfx : XprFew x) (hfy : XprFew y) (a : Option Addr) (n c : Nat) (a2 : Option Addr) (n2 c2 : Nat) (w : World) (ht : HasTab w) (h : XM w a n c x.nodes) (h2 : XM w a2 n2 c2 y.nodes) :
    Calls Tryz.prog 37 #[.agg #[.slice a n c, .int .i64 x.root], .agg #[.slice a2 n2 c2, .int .i64 y.root]] w fun e w' => e = .returned (.tuple #[.bool (eqvE x y).1, .int .i64 (eqvE x y).2]) ∧ Below w.heap.size w w' := callsIn_wide.1 (equiv_in x y hfx hfy a n c a2 n2 c2 w ht h h2)
end Go.Proofs.YtcojmmhclklpoaaGreatDoor
namespace Go.Proofs.YtcojmmhclklpoaaGreatDoor
open Go.RowKit Go.Shelf

set_option maxRecDepth 100000 in
set_option maxHeartbeats 2000000 in
theorem rsame9_c (l m : List (BitVec 16)) (a b : Option Addr) (n c n' c' : Nat) (w : World) (h : Rd w a n c (l.map setV)) (h' : Rd w b n' c' (m.map setV)) :
    Calls Tryz.prog 38 #[.slice a n c, .slice b n' c'] w fun e w' => e = .returned (.bool (decide (l = m))) ∧ Below w.heap.size w w' := by
  have hn : n ≤ l.length ∧ l.length ≤ n := by have := h.len; simp at this; omega
  obtain ⟨hn1, hn2⟩ := hn
  have hn' : n' ≤ m.length ∧ m.length ≤ n' := by have := h'.len; simp at this; omega
  obtain ⟨hm1, hm2⟩ := hn'
  have hm := h.max
  have hle := h.le
  have hm' := h'.max
  have hle' := h'.le
  unfold maxLen at hm hm'
  by_cases hnn : n = n'
  · subst hnn
    have hlm : Hid (l.length = m.length) := by show l.length = m.length; omega
    have hne : ((n : Int) != (n : Int)) = false := by simp
    go_enter Tryz.func38, Tryz.ntmps38
    go_wp2_with fail
    go_loopw [5] (fun i wr => ∃ (k : Nat), k ≤ n ∧ i = .int .i64 k ∧ Hid (l.take k = m.take k) ∧ Below w.heap.size w wr) (fun i _ => n - (intOf i).toNat)
    case atStart => exact ⟨0, Nat.zero_le _, rfl, rfl, Below.refl _ _⟩
    case round =>
      obtain ⟨k, hk, rfl, ht, hbw⟩ := hrel
      have hw := h.below hbw
      have hw' := h'.below hbw
      by_cases hlt : k < n
      · obtain ⟨x, hx⟩ : ∃ x, l[k]? = some x := ⟨_, List.getElem?_eq_getElem (by omega)⟩
        obtain ⟨y, hy⟩ : ∃ y, m[k]? = some y := ⟨_, List.getElem?_eq_getElem (by omega)⟩
        have T := Lib.hid (same_take hlm.out hx hy ht.out)
        obtain ⟨b1, o1, rfl, hcell⟩ := hw.at' (by omega)
        have hc : wr.cell? ⟨b1, o1 + k, none⟩ = some (.int .u16 (U x)) := hcell k (setV x) (by simp [hx])
        obtain ⟨b2, o2, rfl, hcell2⟩ := hw'.at' (by omega)
        have hc2 : wr.cell? ⟨b2, o2 + k, none⟩ = some (.int .u16 (U y)) := hcell2 k (setV y) (by simp [hy])
        have hk1 : (k : Int) < n := by omega
        have hk2 : (0 : Int) ≤ k := by omega
        clear hcell hcell2 hx hy h h' ht hw hw'
        by_cases hxy : x = y
        · have hb : (x != y) = false := by simpa using hxy
          have HX := Lib.hid hxy
          clear hxy
          go_wp2_with fail
          go_quiet (fail)
          go_wp2_with fail
          go_roundw
          case rel => exact ⟨k + 1, by omega, by go_num, T.out.1 HX.out, below_drewN hbw⟩
          case measure => simp [intOf]; omega
        · have hb : (x != y) = true := by simpa using hxy
          have HX := Lib.hid hxy
          clear hxy
          go_wp2_with fail
          go_quiet (fail)
          go_wp2_with fail
          go_ret
          exact ⟨ret_bool (by simp [T.out.2 HX.out]), below_drewN hbw⟩
      · have hE : Hid (l = m) := by
          have := ht.out
          rw [List.take_of_length_le (by omega), List.take_of_length_le (by omega)] at this
          exact this
        clear ht h h' hw hw'
        go_wp2_with fail
        go_ret
        exact ⟨ret_bool (by simp [hE.out]), hbw⟩
  · have hne : ((n : Int) != (n' : Int)) = true := by rw [bne_iff_ne]; omega
    have hE : Hid (l ≠ m) := by intro e; subst e; omega
    clear hnn h h'
    go_enter Tryz.func38, Tryz.ntmps38
    go_wp2_with fail
    go_ret
    exact ⟨ret_bool (by simp [hE.out]), Below.refl _ _⟩
end Go.Proofs.YtcojmmhclklpoaaGreatDoor
namespace Go.Proofs.YtcojmmhclklpoaaGreatDoor
open Go.RowKit Go.Shelf

set_option maxRecDepth 100000 in
set_option maxHeartbeats 4000000 in
theorem equivs_w (v : Value) (xs : List Pce) (v2 : Value) (ys : List Pce) (w : World) (ht : HasTab w) (hp : HasPow w) (hr : HasRng w) (hy : HasSyn w) (w0 : IsDraft w v xs) (w1 : IsDraft w v2 ys) :
    Calls Tryz.prog 11 #[v, v2] w fun e w' => e = .returned (.bool true) ∧ Below w.heap.size w w' := by
  have HA := Lib.hid (fun u (hb : Below w.heap.size w u) => awake10_c u (ht.below hb) (hp.below hb) (hr.below hb) (hy.below hb))
  obtain ⟨ax, nx, cx, rfl, hpx⟩ := w0.val
  obtain ⟨ay, ny, cy, rfl, hpy⟩ := w1.val
  have HMX := Lib.hid (fun u (hb : Below w.heap.size w u) => made_r xs w0.okx ax nx cx u (hpx.below hb))
  have HMY := Lib.hid (fun u (hb : Below w.heap.size w u) => made_r ys w1.okx ay ny cy u (hpy.below hb))
  obtain ⟨hxo, _, hx6⟩ := madX_ok w0.okx
  obtain ⟨hyo, _, hy6⟩ := madX_ok w1.okx
  have hxf := madX_few xs
  have hyf := madX_few ys
  have hxs := madX_sum xs
  have hys := madX_sum ys
  obtain ⟨X, hX⟩ : ∃ X, madX xs = X := ⟨_, rfl⟩
  obtain ⟨Y, hY⟩ : ∃ Y, madX ys = Y := ⟨_, rfl⟩
  rw [hX] at HMX hxo hxf hxs hx6
  rw [hY] at HMY hyo hyf hys hy6
  have HEQ := Lib.hid (fun a1 n1 c1 a2 n2 c2 u h1 h2 (hb : Below w.heap.size w u) => equiv_c X Y hxf hyf a1 n1 c1 a2 n2 c2 u (ht.below hb) h1 h2)
  rw [show eqvE X Y = (decide (famS X = famS Y), 0) by unfold eqvE; rw [if_neg (by rw [hxo]; simp), if_neg (by rw [hyo]; simp), eqv_fam (xprE_ok hxo) (xprE_ok hyo)]] at HEQ
  have HFX := Lib.hid (fun a n c u h => rfamily_c X hxo hxf hxs a n c u h)
  have HFY := Lib.hid (fun a n c u h => rfamily_c Y hyo hyf hys a n c u h)
  rw [famE_six hxo hx6] at HFX
  rw [famE_six hyo hy6] at HFY
  simp only at HFX HFY
  obtain ⟨FX, hFX⟩ : ∃ F, famS X = F := ⟨_, rfl⟩
  obtain ⟨FY, hFY⟩ : ∃ F, famS Y = F := ⟨_, rfl⟩
  rw [hFX] at HFX HEQ
  rw [hFY] at HFY HEQ
  obtain ⟨LX, hLX⟩ : ∃ L, FX.length = L := ⟨_, rfl⟩
  obtain ⟨LY, hLY⟩ : ∃ L, FY.length = L := ⟨_, rfl⟩
  obtain ⟨TB, hTB⟩ : ∃ T, decide (FX = FY) = T := ⟨_, rfl⟩
  have HSM := Lib.hid (fun a1 n1 c1 a2 n2 c2 u h1 h2 => rsame9_c FX FY a1 a2 n1 c1 n2 c2 u h1 h2)
  rw [hTB] at HEQ HSM
  rw [hLX] at HFX
  rw [hLY] at HFY
  obtain ⟨W2, hW2⟩ : ∃ W2, W2 = (w.alloc (.cells #[.slice ax nx cx] 24)).alloc (.cells #[.slice ay ny cy] 24) := ⟨_, rfl⟩
  have hb2 : Below w.heap.size w W2 := by rw [hW2]; exact ((Below.refl _ w).alloc (Nat.le_refl _) _).alloc (by simp) _
  have g2 : W2.heap[w.heap.size]? = some (.cells #[.slice ax nx cx] 24 (0, 0)) := by rw [hW2]; exact heap_alloc_at (heap_alloc_new _ _) _
  have g2' : W2.heap[w.heap.size + 1]? = some (.cells #[.slice ay ny cy] 24 (0, 0)) := by
    rw [hW2]
    have := heap_alloc_new (w.alloc (.cells #[.slice ax nx cx] 24)) (.cells #[.slice ay ny cy] 24)
    rwa [World.size_alloc] at this
  have HB2 := Lib.hid hb2
  have HG2 := Lib.hid (And.intro g2 g2')
  clear ht hp hr hy hpx hpy hX hY hb2 g2 g2' hxo hyo hxf hyf hxs hys hx6 hy6 w0 w1 hFX hFY hLX hLY hTB
  go_enter Tryz.func11, Tryz.ntmps11
  go_wp2_with fail
  rw [← hW2]
  with_reducible refine (HA.out W2 HB2.out).mono ?_
  rintro e w3 ⟨rfl, b3⟩
  have HB3 := Lib.hid (Below.next HB2.out b3)
  have HG3 := Lib.hid (And.intro (heap_below b3 HG2.out.1) (heap_below b3 HG2.out.2))
  have q0 := cell_of_row _ _ 0 _ _ _ HG3.out.1
  have q1 := cell_of_row _ _ 0 _ _ _ HG3.out.2
  clear b3 hW2
  go_upto_region 3 with fail
  go_cut [5, 6] from 15 to 18 (fun p5 p6 wx => TwoB X Y w3 wx p5 p6)
  case first =>
    have HCC := Lib.hid (fun (u : World) (hu : Below w3.heap.size w3 u) => And.intro (cell_of_row _ _ 0 _ _ _ (heap_below hu HG3.out.1)) (cell_of_row _ _ 0 _ _ _ (heap_below hu HG3.out.2)))
    rename_i k0 h0 j0 k1 h1 h2
    clear h0
    refine wp_region_noPanic ?_
    refine wp_region_takes (fun u => Below w3.heap.size w3 u) [0, 2] 6 (by kernel_rfl) (by kernel_rfl) (by kernel_rfl) (fun _ _ _ _ _ h => h) (below_drew (Below.refl _ _)) ?_
    repeat (refine wpTk_cons rfl (fun K hK => ?_); go_simp; apply Exists.intro; refine ⟨fun u hu => ?_, hK _ ?_⟩; (first | exact rfl | (obtain ⟨r0, r1⟩ := HCC.out u hu; go_simp; done) | (obtain ⟨r0, r1⟩ := HCC.out u hu; go_simp; exact rfl)); clear hK K)
    refine wpTk_nil ?_
    have HT0 := Lib.hid (TS.start X Y w3)
    generalize w3.drew = y0 at HT0 ⊢
    refine held_ready (rs := [1, 4, 5]) (by kernel_rfl) (by simp) ?_
    refine AllReadyH.cons rfl (fun K hK => ?_) (AllReadyH.cons rfl (fun K hK => ?_) (AllReadyH.cons rfl (fun K hK => ?_) AllReadyH.nil))
    go_simp
    with_reducible refine (HMX.out y0 (Below.next HB3.out HT0.out.bel)).mono ?_
    rintro e z1 ⟨ac11, cc11, rfl, hx1, hb1⟩
    have HZ1 := Lib.hid ((HT0.out).call1 hb1 hx1)
    clear hx1 hb1
    go_simp
    refine hK.out _ _ HZ1.out.bel (fun hh => ?_)
    clear hh hK K; try simp only [Act.put, List.setIfInBounds_toArray, List.set_cons_zero, List.set_cons_succ]
    refine held_ready (rs := [3, 4, 5]) (by kernel_rfl) (by simp) ?_
    refine AllReadyH.cons rfl (fun K hK => ?_) (AllReadyH.cons rfl (fun K hK => ?_) (AllReadyH.cons rfl (fun K hK => ?_) AllReadyH.nil))
    go_simp
    with_reducible refine (HMY.out z1 (Below.next HB3.out HZ1.out.bel)).mono ?_
    rintro e z2 ⟨ac22, cc22, rfl, hx2, hb2⟩
    have HZ2 := Lib.hid ((HZ1.out).call2 hb2 hx2)
    clear hx2 hb2
    go_simp
    refine hK.out _ _ HZ2.out.bel (fun hh => ?_)
    clear hh hK K; try simp only [Act.put, List.setIfInBounds_toArray, List.set_cons_zero, List.set_cons_succ]
    refine held_ready (rs := [4, 5]) (by kernel_rfl) (by simp) ?_
    refine AllReadyH.cons rfl (fun K hK => ?_) (AllReadyH.cons rfl (fun K hK => ?_) AllReadyH.nil)
    go_simp
    have HZ3 := Lib.hid ((HZ2.out).alloc5)
    refine hK.out _ _ HZ3.out.bel (fun hh => ?_)
    clear hh hK K; try simp only [Act.put, List.setIfInBounds_toArray, List.set_cons_zero, List.set_cons_succ]
    try unfold zEx at HZ3
    generalize hgb3 : z2.heap.size = b3 at HZ3 ⊢
    generalize hgw3 : World.alloc z2 _ = z3 at HZ3 ⊢
    clear hgw3 hgb3
    refine held_ready (rs := [5]) (by kernel_rfl) (by simp) ?_
    refine AllReadyH.cons rfl (fun K hK => ?_) AllReadyH.nil
    go_simp
    have HZ4 := Lib.hid ((HZ3.out).alloc6)
    refine hK.out _ _ HZ4.out.bel (fun hh => ?_)
    clear hh hK K; try simp only [Act.put, List.setIfInBounds_toArray, List.set_cons_zero, List.set_cons_succ]
    try unfold zEx at HZ4
    generalize hgb4 : z3.heap.size = b4 at HZ4 ⊢
    generalize hgw4 : World.alloc z3 _ = z4 at HZ4 ⊢
    clear hgw4 hgb4
    refine held_ready (rs := [6]) (by kernel_rfl) (by simp) ?_
    refine AllReadyH.cons rfl (fun K hK => ?_) AllReadyH.nil
    go_simp
    obtain ⟨⟨x0, x1⟩, x2, x3⟩ := open2 ((HZ4.out).b5 _ rfl).1
    go_simp
    have hfin := fun (U1 U2 : World) => (HZ4.out).fin (W1 := U1) (W2 := U2)
    have HFIN := Lib.hid hfin
    clear hfin x0 x1 x2 x3
    generalize hU5 : World.setCell (World.setCell z4 _ _) _ _ = U5
    obtain ⟨k6, kb⟩ := (HFIN.out U5 _ hU5.symm rfl).1
    refine hK.out _ _ kb (fun hh => ?_)
    clear hh hK K; try simp only [Act.put, List.setIfInBounds_toArray, List.set_cons_zero, List.set_cons_succ]
    refine held_ready (rs := [7]) (by kernel_rfl) (by simp) ?_
    refine AllReadyH.cons rfl (fun K hK => ?_) AllReadyH.nil
    obtain ⟨⟨x0, x1⟩, x2, x3⟩ := open2 k6
    go_simp
    clear x0 x1 x2 x3
    generalize hV5 : World.setCell (World.setCell U5 _ _) _ _ = V5
    have hTB := (HFIN.out U5 V5 hU5.symm hV5.symm).2
    refine hK.out _ _ hTB.bel (fun hh => ?_)
    clear hh hK K; try simp only [Act.put, List.setIfInBounds_toArray, List.set_cons_zero, List.set_cons_succ]
    refine wpAnyH_done (by kernel_rfl) (NoPanic.normal ?_) _
    clear hU5 hV5 HFIN k6 kb HZ4
    refine h2 _ _ ?_
    go_meet
    exact hTB
    go_simp
    have HZ6 := Lib.hid ((HZ2.out).alloc6)
    refine hK.out _ _ HZ6.out.bel (fun hh => ?_)
    clear hh hK K; try simp only [Act.put, List.setIfInBounds_toArray, List.set_cons_zero, List.set_cons_succ]
    try unfold zEx at HZ6
    generalize hgb6 : z2.heap.size = b6 at HZ6 ⊢
    generalize hgw6 : World.alloc z2 _ = z6 at HZ6 ⊢
    clear hgw6 hgb6
    refine held_ready (rs := [4]) (by kernel_rfl) (by simp) ?_
    refine AllReadyH.cons rfl (fun K hK => ?_) AllReadyH.nil
    go_simp
    have HZ7 := Lib.hid ((HZ6.out).alloc5)
    refine hK.out _ _ HZ7.out.bel (fun hh => ?_)
    clear hh hK K; try simp only [Act.put, List.setIfInBounds_toArray, List.set_cons_zero, List.set_cons_succ]
    try unfold zEx at HZ7
    generalize hgb7 : z6.heap.size = b7 at HZ7 ⊢
    generalize hgw7 : World.alloc z6 _ = z7 at HZ7 ⊢
    clear hgw7 hgb7
    refine held_ready (rs := [6]) (by kernel_rfl) (by simp) ?_
    refine AllReadyH.cons rfl (fun K hK => ?_) AllReadyH.nil
    go_simp
    obtain ⟨⟨x0, x1⟩, x2, x3⟩ := open2 ((HZ7.out).b5 _ rfl).1
    go_simp
    have hfin := fun (U1 U2 : World) => (HZ7.out).fin (W1 := U1) (W2 := U2)
    have HFIN := Lib.hid hfin
    clear hfin x0 x1 x2 x3
    generalize hU8 : World.setCell (World.setCell z7 _ _) _ _ = U8
    obtain ⟨k6, kb⟩ := (HFIN.out U8 _ hU8.symm rfl).1
    refine hK.out _ _ kb (fun hh => ?_)
    clear hh hK K; try simp only [Act.put, List.setIfInBounds_toArray, List.set_cons_zero, List.set_cons_succ]
    refine held_ready (rs := [7]) (by kernel_rfl) (by simp) ?_
    refine AllReadyH.cons rfl (fun K hK => ?_) AllReadyH.nil
    obtain ⟨⟨x0, x1⟩, x2, x3⟩ := open2 k6
    go_simp
    clear x0 x1 x2 x3
    generalize hV8 : World.setCell (World.setCell U8 _ _) _ _ = V8
    have hTB := (HFIN.out U8 V8 hU8.symm hV8.symm).2
    refine hK.out _ _ hTB.bel (fun hh => ?_)
    clear hh hK K; try simp only [Act.put, List.setIfInBounds_toArray, List.set_cons_zero, List.set_cons_succ]
    refine wpAnyH_done (by kernel_rfl) (NoPanic.normal ?_) _
    clear hU8 hV8 HFIN k6 kb HZ7
    refine h2 _ _ ?_
    go_meet
    exact hTB
    go_simp
    have HZ9 := Lib.hid ((HZ1.out).alloc5)
    refine hK.out _ _ HZ9.out.bel (fun hh => ?_)
    clear hh hK K; try simp only [Act.put, List.setIfInBounds_toArray, List.set_cons_zero, List.set_cons_succ]
    try unfold zEx at HZ9
    generalize hgb9 : z1.heap.size = b9 at HZ9 ⊢
    generalize hgw9 : World.alloc z1 _ = z9 at HZ9 ⊢
    clear hgw9 hgb9
    refine held_ready (rs := [3, 5]) (by kernel_rfl) (by simp) ?_
    refine AllReadyH.cons rfl (fun K hK => ?_) (AllReadyH.cons rfl (fun K hK => ?_) AllReadyH.nil)
    go_simp
    with_reducible refine (HMY.out z9 (Below.next HB3.out HZ9.out.bel)).mono ?_
    rintro e z10 ⟨ac210, cc210, rfl, hx10, hb10⟩
    have HZ10 := Lib.hid ((HZ9.out).call2 hb10 hx10)
    clear hx10 hb10
    go_simp
    refine hK.out _ _ HZ10.out.bel (fun hh => ?_)
    clear hh hK K; try simp only [Act.put, List.setIfInBounds_toArray, List.set_cons_zero, List.set_cons_succ]
    refine held_ready (rs := [5]) (by kernel_rfl) (by simp) ?_
    refine AllReadyH.cons rfl (fun K hK => ?_) AllReadyH.nil
    go_simp
    have HZ11 := Lib.hid ((HZ10.out).alloc6)
    refine hK.out _ _ HZ11.out.bel (fun hh => ?_)
    clear hh hK K; try simp only [Act.put, List.setIfInBounds_toArray, List.set_cons_zero, List.set_cons_succ]
    try unfold zEx at HZ11
    generalize hgb11 : z10.heap.size = b11 at HZ11 ⊢
    generalize hgw11 : World.alloc z10 _ = z11 at HZ11 ⊢
    clear hgw11 hgb11
    refine held_ready (rs := [6]) (by kernel_rfl) (by simp) ?_
    refine AllReadyH.cons rfl (fun K hK => ?_) AllReadyH.nil
    go_simp
    obtain ⟨⟨x0, x1⟩, x2, x3⟩ := open2 ((HZ11.out).b5 _ rfl).1
    go_simp
    have hfin := fun (U1 U2 : World) => (HZ11.out).fin (W1 := U1) (W2 := U2)
    have HFIN := Lib.hid hfin
    clear hfin x0 x1 x2 x3
    generalize hU12 : World.setCell (World.setCell z11 _ _) _ _ = U12
    obtain ⟨k6, kb⟩ := (HFIN.out U12 _ hU12.symm rfl).1
    refine hK.out _ _ kb (fun hh => ?_)
    clear hh hK K; try simp only [Act.put, List.setIfInBounds_toArray, List.set_cons_zero, List.set_cons_succ]
    refine held_ready (rs := [7]) (by kernel_rfl) (by simp) ?_
    refine AllReadyH.cons rfl (fun K hK => ?_) AllReadyH.nil
    obtain ⟨⟨x0, x1⟩, x2, x3⟩ := open2 k6
    go_simp
    clear x0 x1 x2 x3
    generalize hV12 : World.setCell (World.setCell U12 _ _) _ _ = V12
    have hTB := (HFIN.out U12 V12 hU12.symm hV12.symm).2
    refine hK.out _ _ hTB.bel (fun hh => ?_)
    clear hh hK K; try simp only [Act.put, List.setIfInBounds_toArray, List.set_cons_zero, List.set_cons_succ]
    refine wpAnyH_done (by kernel_rfl) (NoPanic.normal ?_) _
    clear hU12 hV12 HFIN k6 kb HZ11
    refine h2 _ _ ?_
    go_meet
    exact hTB
    go_simp
    have HZ13 := Lib.hid ((HZ9.out).alloc6)
    refine hK.out _ _ HZ13.out.bel (fun hh => ?_)
    clear hh hK K; try simp only [Act.put, List.setIfInBounds_toArray, List.set_cons_zero, List.set_cons_succ]
    try unfold zEx at HZ13
    generalize hgb13 : z9.heap.size = b13 at HZ13 ⊢
    generalize hgw13 : World.alloc z9 _ = z13 at HZ13 ⊢
    clear hgw13 hgb13
    refine held_ready (rs := [3]) (by kernel_rfl) (by simp) ?_
    refine AllReadyH.cons rfl (fun K hK => ?_) AllReadyH.nil
    go_simp
    with_reducible refine (HMY.out z13 (Below.next HB3.out HZ13.out.bel)).mono ?_
    rintro e z14 ⟨ac214, cc214, rfl, hx14, hb14⟩
    have HZ14 := Lib.hid ((HZ13.out).call2 hb14 hx14)
    clear hx14 hb14
    go_simp
    refine hK.out _ _ HZ14.out.bel (fun hh => ?_)
    clear hh hK K; try simp only [Act.put, List.setIfInBounds_toArray, List.set_cons_zero, List.set_cons_succ]
    refine held_ready (rs := [6]) (by kernel_rfl) (by simp) ?_
    refine AllReadyH.cons rfl (fun K hK => ?_) AllReadyH.nil
    go_simp
    obtain ⟨⟨x0, x1⟩, x2, x3⟩ := open2 ((HZ14.out).b5 _ rfl).1
    go_simp
    have hfin := fun (U1 U2 : World) => (HZ14.out).fin (W1 := U1) (W2 := U2)
    have HFIN := Lib.hid hfin
    clear hfin x0 x1 x2 x3
    generalize hU15 : World.setCell (World.setCell z14 _ _) _ _ = U15
    obtain ⟨k6, kb⟩ := (HFIN.out U15 _ hU15.symm rfl).1
    refine hK.out _ _ kb (fun hh => ?_)
    clear hh hK K; try simp only [Act.put, List.setIfInBounds_toArray, List.set_cons_zero, List.set_cons_succ]
    refine held_ready (rs := [7]) (by kernel_rfl) (by simp) ?_
    refine AllReadyH.cons rfl (fun K hK => ?_) AllReadyH.nil
    obtain ⟨⟨x0, x1⟩, x2, x3⟩ := open2 k6
    go_simp
    clear x0 x1 x2 x3
    generalize hV15 : World.setCell (World.setCell U15 _ _) _ _ = V15
    have hTB := (HFIN.out U15 V15 hU15.symm hV15.symm).2
    refine hK.out _ _ hTB.bel (fun hh => ?_)
    clear hh hK K; try simp only [Act.put, List.setIfInBounds_toArray, List.set_cons_zero, List.set_cons_succ]
    refine wpAnyH_done (by kernel_rfl) (NoPanic.normal ?_) _
    clear hU15 hV15 HFIN k6 kb HZ14
    refine h2 _ _ ?_
    go_meet
    exact hTB
    go_simp
    have HZ16 := Lib.hid ((HZ1.out).alloc6)
    refine hK.out _ _ HZ16.out.bel (fun hh => ?_)
    clear hh hK K; try simp only [Act.put, List.setIfInBounds_toArray, List.set_cons_zero, List.set_cons_succ]
    try unfold zEx at HZ16
    generalize hgb16 : z1.heap.size = b16 at HZ16 ⊢
    generalize hgw16 : World.alloc z1 _ = z16 at HZ16 ⊢
    clear hgw16 hgb16
    refine held_ready (rs := [3, 4]) (by kernel_rfl) (by simp) ?_
    refine AllReadyH.cons rfl (fun K hK => ?_) (AllReadyH.cons rfl (fun K hK => ?_) AllReadyH.nil)
    go_simp
    with_reducible refine (HMY.out z16 (Below.next HB3.out HZ16.out.bel)).mono ?_
    rintro e z17 ⟨ac217, cc217, rfl, hx17, hb17⟩
    have HZ17 := Lib.hid ((HZ16.out).call2 hb17 hx17)
    clear hx17 hb17
    go_simp
    refine hK.out _ _ HZ17.out.bel (fun hh => ?_)
    clear hh hK K; try simp only [Act.put, List.setIfInBounds_toArray, List.set_cons_zero, List.set_cons_succ]
    refine held_ready (rs := [4]) (by kernel_rfl) (by simp) ?_
    refine AllReadyH.cons rfl (fun K hK => ?_) AllReadyH.nil
    go_simp
    have HZ18 := Lib.hid ((HZ17.out).alloc5)
    refine hK.out _ _ HZ18.out.bel (fun hh => ?_)
    clear hh hK K; try simp only [Act.put, List.setIfInBounds_toArray, List.set_cons_zero, List.set_cons_succ]
    try unfold zEx at HZ18
    generalize hgb18 : z17.heap.size = b18 at HZ18 ⊢
    generalize hgw18 : World.alloc z17 _ = z18 at HZ18 ⊢
    clear hgw18 hgb18
    refine held_ready (rs := [6]) (by kernel_rfl) (by simp) ?_
    refine AllReadyH.cons rfl (fun K hK => ?_) AllReadyH.nil
    go_simp
    obtain ⟨⟨x0, x1⟩, x2, x3⟩ := open2 ((HZ18.out).b5 _ rfl).1
    go_simp
    have hfin := fun (U1 U2 : World) => (HZ18.out).fin (W1 := U1) (W2 := U2)
    have HFIN := Lib.hid hfin
    clear hfin x0 x1 x2 x3
    generalize hU19 : World.setCell (World.setCell z18 _ _) _ _ = U19
    obtain ⟨k6, kb⟩ := (HFIN.out U19 _ hU19.symm rfl).1
    refine hK.out _ _ kb (fun hh => ?_)
    clear hh hK K; try simp only [Act.put, List.setIfInBounds_toArray, List.set_cons_zero, List.set_cons_succ]
    refine held_ready (rs := [7]) (by kernel_rfl) (by simp) ?_
    refine AllReadyH.cons rfl (fun K hK => ?_) AllReadyH.nil
    obtain ⟨⟨x0, x1⟩, x2, x3⟩ := open2 k6
    go_simp
    clear x0 x1 x2 x3
    generalize hV19 : World.setCell (World.setCell U19 _ _) _ _ = V19
    have hTB := (HFIN.out U19 V19 hU19.symm hV19.symm).2
    refine hK.out _ _ hTB.bel (fun hh => ?_)
    clear hh hK K; try simp only [Act.put, List.setIfInBounds_toArray, List.set_cons_zero, List.set_cons_succ]
    refine wpAnyH_done (by kernel_rfl) (NoPanic.normal ?_) _
    clear hU19 hV19 HFIN k6 kb HZ18
    refine h2 _ _ ?_
    go_meet
    exact hTB
    go_simp
    have HZ20 := Lib.hid ((HZ16.out).alloc5)
    refine hK.out _ _ HZ20.out.bel (fun hh => ?_)
    clear hh hK K; try simp only [Act.put, List.setIfInBounds_toArray, List.set_cons_zero, List.set_cons_succ]
    try unfold zEx at HZ20
    generalize hgb20 : z16.heap.size = b20 at HZ20 ⊢
    generalize hgw20 : World.alloc z16 _ = z20 at HZ20 ⊢
    clear hgw20 hgb20
    refine held_ready (rs := [3]) (by kernel_rfl) (by simp) ?_
    refine AllReadyH.cons rfl (fun K hK => ?_) AllReadyH.nil
    go_simp
    with_reducible refine (HMY.out z20 (Below.next HB3.out HZ20.out.bel)).mono ?_
    rintro e z21 ⟨ac221, cc221, rfl, hx21, hb21⟩
    have HZ21 := Lib.hid ((HZ20.out).call2 hb21 hx21)
    clear hx21 hb21
    go_simp
    refine hK.out _ _ HZ21.out.bel (fun hh => ?_)
    clear hh hK K; try simp only [Act.put, List.setIfInBounds_toArray, List.set_cons_zero, List.set_cons_succ]
    refine held_ready (rs := [6]) (by kernel_rfl) (by simp) ?_
    refine AllReadyH.cons rfl (fun K hK => ?_) AllReadyH.nil
    go_simp
    obtain ⟨⟨x0, x1⟩, x2, x3⟩ := open2 ((HZ21.out).b5 _ rfl).1
    go_simp
    have hfin := fun (U1 U2 : World) => (HZ21.out).fin (W1 := U1) (W2 := U2)
    have HFIN := Lib.hid hfin
    clear hfin x0 x1 x2 x3
    generalize hU22 : World.setCell (World.setCell z21 _ _) _ _ = U22
    obtain ⟨k6, kb⟩ := (HFIN.out U22 _ hU22.symm rfl).1
    refine hK.out _ _ kb (fun hh => ?_)
    clear hh hK K; try simp only [Act.put, List.setIfInBounds_toArray, List.set_cons_zero, List.set_cons_succ]
    refine held_ready (rs := [7]) (by kernel_rfl) (by simp) ?_
    refine AllReadyH.cons rfl (fun K hK => ?_) AllReadyH.nil
    obtain ⟨⟨x0, x1⟩, x2, x3⟩ := open2 k6
    go_simp
    clear x0 x1 x2 x3
    generalize hV22 : World.setCell (World.setCell U22 _ _) _ _ = V22
    have hTB := (HFIN.out U22 V22 hU22.symm hV22.symm).2
    refine hK.out _ _ hTB.bel (fun hh => ?_)
    clear hh hK K; try simp only [Act.put, List.setIfInBounds_toArray, List.set_cons_zero, List.set_cons_succ]
    refine wpAnyH_done (by kernel_rfl) (NoPanic.normal ?_) _
    clear hU22 hV22 HFIN k6 kb HZ21
    refine h2 _ _ ?_
    go_meet
    exact hTB
    go_simp
    have HZ23 := Lib.hid ((HT0.out).alloc5)
    refine hK.out _ _ HZ23.out.bel (fun hh => ?_)
    clear hh hK K; try simp only [Act.put, List.setIfInBounds_toArray, List.set_cons_zero, List.set_cons_succ]
    try unfold zEx at HZ23
    generalize hgb23 : y0.heap.size = b23 at HZ23 ⊢
    generalize hgw23 : World.alloc y0 _ = z23 at HZ23 ⊢
    clear hgw23 hgb23
    refine held_ready (rs := [1, 5]) (by kernel_rfl) (by simp) ?_
    refine AllReadyH.cons rfl (fun K hK => ?_) (AllReadyH.cons rfl (fun K hK => ?_) AllReadyH.nil)
    go_simp
    with_reducible refine (HMX.out z23 (Below.next HB3.out HZ23.out.bel)).mono ?_
    rintro e z24 ⟨ac124, cc124, rfl, hx24, hb24⟩
    have HZ24 := Lib.hid ((HZ23.out).call1 hb24 hx24)
    clear hx24 hb24
    go_simp
    refine hK.out _ _ HZ24.out.bel (fun hh => ?_)
    clear hh hK K; try simp only [Act.put, List.setIfInBounds_toArray, List.set_cons_zero, List.set_cons_succ]
    refine held_ready (rs := [3, 5]) (by kernel_rfl) (by simp) ?_
    refine AllReadyH.cons rfl (fun K hK => ?_) (AllReadyH.cons rfl (fun K hK => ?_) AllReadyH.nil)
    go_simp
    with_reducible refine (HMY.out z24 (Below.next HB3.out HZ24.out.bel)).mono ?_
    rintro e z25 ⟨ac225, cc225, rfl, hx25, hb25⟩
    have HZ25 := Lib.hid ((HZ24.out).call2 hb25 hx25)
    clear hx25 hb25
    go_simp
    refine hK.out _ _ HZ25.out.bel (fun hh => ?_)
    clear hh hK K; try simp only [Act.put, List.setIfInBounds_toArray, List.set_cons_zero, List.set_cons_succ]
    refine held_ready (rs := [5]) (by kernel_rfl) (by simp) ?_
    refine AllReadyH.cons rfl (fun K hK => ?_) AllReadyH.nil
    go_simp
    have HZ26 := Lib.hid ((HZ25.out).alloc6)
    refine hK.out _ _ HZ26.out.bel (fun hh => ?_)
    clear hh hK K; try simp only [Act.put, List.setIfInBounds_toArray, List.set_cons_zero, List.set_cons_succ]
    try unfold zEx at HZ26
    generalize hgb26 : z25.heap.size = b26 at HZ26 ⊢
    generalize hgw26 : World.alloc z25 _ = z26 at HZ26 ⊢
    clear hgw26 hgb26
    refine held_ready (rs := [6]) (by kernel_rfl) (by simp) ?_
    refine AllReadyH.cons rfl (fun K hK => ?_) AllReadyH.nil
    go_simp
    obtain ⟨⟨x0, x1⟩, x2, x3⟩ := open2 ((HZ26.out).b5 _ rfl).1
    go_simp
    have hfin := fun (U1 U2 : World) => (HZ26.out).fin (W1 := U1) (W2 := U2)
    have HFIN := Lib.hid hfin
    clear hfin x0 x1 x2 x3
    generalize hU27 : World.setCell (World.setCell z26 _ _) _ _ = U27
    obtain ⟨k6, kb⟩ := (HFIN.out U27 _ hU27.symm rfl).1
    refine hK.out _ _ kb (fun hh => ?_)
    clear hh hK K; try simp only [Act.put, List.setIfInBounds_toArray, List.set_cons_zero, List.set_cons_succ]
    refine held_ready (rs := [7]) (by kernel_rfl) (by simp) ?_
    refine AllReadyH.cons rfl (fun K hK => ?_) AllReadyH.nil
    obtain ⟨⟨x0, x1⟩, x2, x3⟩ := open2 k6
    go_simp
    clear x0 x1 x2 x3
    generalize hV27 : World.setCell (World.setCell U27 _ _) _ _ = V27
    have hTB := (HFIN.out U27 V27 hU27.symm hV27.symm).2
    refine hK.out _ _ hTB.bel (fun hh => ?_)
    clear hh hK K; try simp only [Act.put, List.setIfInBounds_toArray, List.set_cons_zero, List.set_cons_succ]
    refine wpAnyH_done (by kernel_rfl) (NoPanic.normal ?_) _
    clear hU27 hV27 HFIN k6 kb HZ26
    refine h2 _ _ ?_
    go_meet
    exact hTB
    go_simp
    have HZ28 := Lib.hid ((HZ24.out).alloc6)
    refine hK.out _ _ HZ28.out.bel (fun hh => ?_)
    clear hh hK K; try simp only [Act.put, List.setIfInBounds_toArray, List.set_cons_zero, List.set_cons_succ]
    try unfold zEx at HZ28
    generalize hgb28 : z24.heap.size = b28 at HZ28 ⊢
    generalize hgw28 : World.alloc z24 _ = z28 at HZ28 ⊢
    clear hgw28 hgb28
    refine held_ready (rs := [3]) (by kernel_rfl) (by simp) ?_
    refine AllReadyH.cons rfl (fun K hK => ?_) AllReadyH.nil
    go_simp
    with_reducible refine (HMY.out z28 (Below.next HB3.out HZ28.out.bel)).mono ?_
    rintro e z29 ⟨ac229, cc229, rfl, hx29, hb29⟩
    have HZ29 := Lib.hid ((HZ28.out).call2 hb29 hx29)
    clear hx29 hb29
    go_simp
    refine hK.out _ _ HZ29.out.bel (fun hh => ?_)
    clear hh hK K; try simp only [Act.put, List.setIfInBounds_toArray, List.set_cons_zero, List.set_cons_succ]
    refine held_ready (rs := [6]) (by kernel_rfl) (by simp) ?_
    refine AllReadyH.cons rfl (fun K hK => ?_) AllReadyH.nil
    go_simp
    obtain ⟨⟨x0, x1⟩, x2, x3⟩ := open2 ((HZ29.out).b5 _ rfl).1
    go_simp
    have hfin := fun (U1 U2 : World) => (HZ29.out).fin (W1 := U1) (W2 := U2)
    have HFIN := Lib.hid hfin
    clear hfin x0 x1 x2 x3
    generalize hU30 : World.setCell (World.setCell z29 _ _) _ _ = U30
    obtain ⟨k6, kb⟩ := (HFIN.out U30 _ hU30.symm rfl).1
    refine hK.out _ _ kb (fun hh => ?_)
    clear hh hK K; try simp only [Act.put, List.setIfInBounds_toArray, List.set_cons_zero, List.set_cons_succ]
    refine held_ready (rs := [7]) (by kernel_rfl) (by simp) ?_
    refine AllReadyH.cons rfl (fun K hK => ?_) AllReadyH.nil
    obtain ⟨⟨x0, x1⟩, x2, x3⟩ := open2 k6
    go_simp
    clear x0 x1 x2 x3
    generalize hV30 : World.setCell (World.setCell U30 _ _) _ _ = V30
    have hTB := (HFIN.out U30 V30 hU30.symm hV30.symm).2
    refine hK.out _ _ hTB.bel (fun hh => ?_)
    clear hh hK K; try simp only [Act.put, List.setIfInBounds_toArray, List.set_cons_zero, List.set_cons_succ]
    refine wpAnyH_done (by kernel_rfl) (NoPanic.normal ?_) _
    clear hU30 hV30 HFIN k6 kb HZ29
    refine h2 _ _ ?_
    go_meet
    exact hTB
    go_simp
    have HZ31 := Lib.hid ((HZ23.out).alloc6)
    refine hK.out _ _ HZ31.out.bel (fun hh => ?_)
    clear hh hK K; try simp only [Act.put, List.setIfInBounds_toArray, List.set_cons_zero, List.set_cons_succ]
    try unfold zEx at HZ31
    generalize hgb31 : z23.heap.size = b31 at HZ31 ⊢
    generalize hgw31 : World.alloc z23 _ = z31 at HZ31 ⊢
    clear hgw31 hgb31
    refine held_ready (rs := [1]) (by kernel_rfl) (by simp) ?_
    refine AllReadyH.cons rfl (fun K hK => ?_) AllReadyH.nil
    go_simp
    with_reducible refine (HMX.out z31 (Below.next HB3.out HZ31.out.bel)).mono ?_
    rintro e z32 ⟨ac132, cc132, rfl, hx32, hb32⟩
    have HZ32 := Lib.hid ((HZ31.out).call1 hb32 hx32)
    clear hx32 hb32
    go_simp
    refine hK.out _ _ HZ32.out.bel (fun hh => ?_)
    clear hh hK K; try simp only [Act.put, List.setIfInBounds_toArray, List.set_cons_zero, List.set_cons_succ]
    refine held_ready (rs := [3]) (by kernel_rfl) (by simp) ?_
    refine AllReadyH.cons rfl (fun K hK => ?_) AllReadyH.nil
    go_simp
    with_reducible refine (HMY.out z32 (Below.next HB3.out HZ32.out.bel)).mono ?_
    rintro e z33 ⟨ac233, cc233, rfl, hx33, hb33⟩
    have HZ33 := Lib.hid ((HZ32.out).call2 hb33 hx33)
    clear hx33 hb33
    go_simp
    refine hK.out _ _ HZ33.out.bel (fun hh => ?_)
    clear hh hK K; try simp only [Act.put, List.setIfInBounds_toArray, List.set_cons_zero, List.set_cons_succ]
    refine held_ready (rs := [6]) (by kernel_rfl) (by simp) ?_
    refine AllReadyH.cons rfl (fun K hK => ?_) AllReadyH.nil
    go_simp
    obtain ⟨⟨x0, x1⟩, x2, x3⟩ := open2 ((HZ33.out).b5 _ rfl).1
    go_simp
    have hfin := fun (U1 U2 : World) => (HZ33.out).fin (W1 := U1) (W2 := U2)
    have HFIN := Lib.hid hfin
    clear hfin x0 x1 x2 x3
    generalize hU34 : World.setCell (World.setCell z33 _ _) _ _ = U34
    obtain ⟨k6, kb⟩ := (HFIN.out U34 _ hU34.symm rfl).1
    refine hK.out _ _ kb (fun hh => ?_)
    clear hh hK K; try simp only [Act.put, List.setIfInBounds_toArray, List.set_cons_zero, List.set_cons_succ]
    refine held_ready (rs := [7]) (by kernel_rfl) (by simp) ?_
    refine AllReadyH.cons rfl (fun K hK => ?_) AllReadyH.nil
    obtain ⟨⟨x0, x1⟩, x2, x3⟩ := open2 k6
    go_simp
    clear x0 x1 x2 x3
    generalize hV34 : World.setCell (World.setCell U34 _ _) _ _ = V34
    have hTB := (HFIN.out U34 V34 hU34.symm hV34.symm).2
    refine hK.out _ _ hTB.bel (fun hh => ?_)
    clear hh hK K; try simp only [Act.put, List.setIfInBounds_toArray, List.set_cons_zero, List.set_cons_succ]
    refine wpAnyH_done (by kernel_rfl) (NoPanic.normal ?_) _
    clear hU34 hV34 HFIN k6 kb HZ33
    refine h2 _ _ ?_
    go_meet
    exact hTB
    go_simp
    have HZ35 := Lib.hid ((HT0.out).alloc6)
    refine hK.out _ _ HZ35.out.bel (fun hh => ?_)
    clear hh hK K; try simp only [Act.put, List.setIfInBounds_toArray, List.set_cons_zero, List.set_cons_succ]
    try unfold zEx at HZ35
    generalize hgb35 : y0.heap.size = b35 at HZ35 ⊢
    generalize hgw35 : World.alloc y0 _ = z35 at HZ35 ⊢
    clear hgw35 hgb35
    refine held_ready (rs := [1, 4]) (by kernel_rfl) (by simp) ?_
    refine AllReadyH.cons rfl (fun K hK => ?_) (AllReadyH.cons rfl (fun K hK => ?_) AllReadyH.nil)
    go_simp
    with_reducible refine (HMX.out z35 (Below.next HB3.out HZ35.out.bel)).mono ?_
    rintro e z36 ⟨ac136, cc136, rfl, hx36, hb36⟩
    have HZ36 := Lib.hid ((HZ35.out).call1 hb36 hx36)
    clear hx36 hb36
    go_simp
    refine hK.out _ _ HZ36.out.bel (fun hh => ?_)
    clear hh hK K; try simp only [Act.put, List.setIfInBounds_toArray, List.set_cons_zero, List.set_cons_succ]
    refine held_ready (rs := [3, 4]) (by kernel_rfl) (by simp) ?_
    refine AllReadyH.cons rfl (fun K hK => ?_) (AllReadyH.cons rfl (fun K hK => ?_) AllReadyH.nil)
    go_simp
    with_reducible refine (HMY.out z36 (Below.next HB3.out HZ36.out.bel)).mono ?_
    rintro e z37 ⟨ac237, cc237, rfl, hx37, hb37⟩
    have HZ37 := Lib.hid ((HZ36.out).call2 hb37 hx37)
    clear hx37 hb37
    go_simp
    refine hK.out _ _ HZ37.out.bel (fun hh => ?_)
    clear hh hK K; try simp only [Act.put, List.setIfInBounds_toArray, List.set_cons_zero, List.set_cons_succ]
    refine held_ready (rs := [4]) (by kernel_rfl) (by simp) ?_
    refine AllReadyH.cons rfl (fun K hK => ?_) AllReadyH.nil
    go_simp
    have HZ38 := Lib.hid ((HZ37.out).alloc5)
    refine hK.out _ _ HZ38.out.bel (fun hh => ?_)
    clear hh hK K; try simp only [Act.put, List.setIfInBounds_toArray, List.set_cons_zero, List.set_cons_succ]
    try unfold zEx at HZ38
    generalize hgb38 : z37.heap.size = b38 at HZ38 ⊢
    generalize hgw38 : World.alloc z37 _ = z38 at HZ38 ⊢
    clear hgw38 hgb38
    refine held_ready (rs := [6]) (by kernel_rfl) (by simp) ?_
    refine AllReadyH.cons rfl (fun K hK => ?_) AllReadyH.nil
    go_simp
    obtain ⟨⟨x0, x1⟩, x2, x3⟩ := open2 ((HZ38.out).b5 _ rfl).1
    go_simp
    have hfin := fun (U1 U2 : World) => (HZ38.out).fin (W1 := U1) (W2 := U2)
    have HFIN := Lib.hid hfin
    clear hfin x0 x1 x2 x3
    generalize hU39 : World.setCell (World.setCell z38 _ _) _ _ = U39
    obtain ⟨k6, kb⟩ := (HFIN.out U39 _ hU39.symm rfl).1
    refine hK.out _ _ kb (fun hh => ?_)
    clear hh hK K; try simp only [Act.put, List.setIfInBounds_toArray, List.set_cons_zero, List.set_cons_succ]
    refine held_ready (rs := [7]) (by kernel_rfl) (by simp) ?_
    refine AllReadyH.cons rfl (fun K hK => ?_) AllReadyH.nil
    obtain ⟨⟨x0, x1⟩, x2, x3⟩ := open2 k6
    go_simp
    clear x0 x1 x2 x3
    generalize hV39 : World.setCell (World.setCell U39 _ _) _ _ = V39
    have hTB := (HFIN.out U39 V39 hU39.symm hV39.symm).2
    refine hK.out _ _ hTB.bel (fun hh => ?_)
    clear hh hK K; try simp only [Act.put, List.setIfInBounds_toArray, List.set_cons_zero, List.set_cons_succ]
    refine wpAnyH_done (by kernel_rfl) (NoPanic.normal ?_) _
    clear hU39 hV39 HFIN k6 kb HZ38
    refine h2 _ _ ?_
    go_meet
    exact hTB
    go_simp
    have HZ40 := Lib.hid ((HZ36.out).alloc5)
    refine hK.out _ _ HZ40.out.bel (fun hh => ?_)
    clear hh hK K; try simp only [Act.put, List.setIfInBounds_toArray, List.set_cons_zero, List.set_cons_succ]
    try unfold zEx at HZ40
    generalize hgb40 : z36.heap.size = b40 at HZ40 ⊢
    generalize hgw40 : World.alloc z36 _ = z40 at HZ40 ⊢
    clear hgw40 hgb40
    refine held_ready (rs := [3]) (by kernel_rfl) (by simp) ?_
    refine AllReadyH.cons rfl (fun K hK => ?_) AllReadyH.nil
    go_simp
    with_reducible refine (HMY.out z40 (Below.next HB3.out HZ40.out.bel)).mono ?_
    rintro e z41 ⟨ac241, cc241, rfl, hx41, hb41⟩
    have HZ41 := Lib.hid ((HZ40.out).call2 hb41 hx41)
    clear hx41 hb41
    go_simp
    refine hK.out _ _ HZ41.out.bel (fun hh => ?_)
    clear hh hK K; try simp only [Act.put, List.setIfInBounds_toArray, List.set_cons_zero, List.set_cons_succ]
    refine held_ready (rs := [6]) (by kernel_rfl) (by simp) ?_
    refine AllReadyH.cons rfl (fun K hK => ?_) AllReadyH.nil
    go_simp
    obtain ⟨⟨x0, x1⟩, x2, x3⟩ := open2 ((HZ41.out).b5 _ rfl).1
    go_simp
    have hfin := fun (U1 U2 : World) => (HZ41.out).fin (W1 := U1) (W2 := U2)
    have HFIN := Lib.hid hfin
    clear hfin x0 x1 x2 x3
    generalize hU42 : World.setCell (World.setCell z41 _ _) _ _ = U42
    obtain ⟨k6, kb⟩ := (HFIN.out U42 _ hU42.symm rfl).1
    refine hK.out _ _ kb (fun hh => ?_)
    clear hh hK K; try simp only [Act.put, List.setIfInBounds_toArray, List.set_cons_zero, List.set_cons_succ]
    refine held_ready (rs := [7]) (by kernel_rfl) (by simp) ?_
    refine AllReadyH.cons rfl (fun K hK => ?_) AllReadyH.nil
    obtain ⟨⟨x0, x1⟩, x2, x3⟩ := open2 k6
    go_simp
    clear x0 x1 x2 x3
    generalize hV42 : World.setCell (World.setCell U42 _ _) _ _ = V42
    have hTB := (HFIN.out U42 V42 hU42.symm hV42.symm).2
    refine hK.out _ _ hTB.bel (fun hh => ?_)
    clear hh hK K; try simp only [Act.put, List.setIfInBounds_toArray, List.set_cons_zero, List.set_cons_succ]
    refine wpAnyH_done (by kernel_rfl) (NoPanic.normal ?_) _
    clear hU42 hV42 HFIN k6 kb HZ41
    refine h2 _ _ ?_
    go_meet
    exact hTB
    go_simp
    have HZ43 := Lib.hid ((HZ35.out).alloc5)
    refine hK.out _ _ HZ43.out.bel (fun hh => ?_)
    clear hh hK K; try simp only [Act.put, List.setIfInBounds_toArray, List.set_cons_zero, List.set_cons_succ]
    try unfold zEx at HZ43
    generalize hgb43 : z35.heap.size = b43 at HZ43 ⊢
    generalize hgw43 : World.alloc z35 _ = z43 at HZ43 ⊢
    clear hgw43 hgb43
    refine held_ready (rs := [1]) (by kernel_rfl) (by simp) ?_
    refine AllReadyH.cons rfl (fun K hK => ?_) AllReadyH.nil
    go_simp
    with_reducible refine (HMX.out z43 (Below.next HB3.out HZ43.out.bel)).mono ?_
    rintro e z44 ⟨ac144, cc144, rfl, hx44, hb44⟩
    have HZ44 := Lib.hid ((HZ43.out).call1 hb44 hx44)
    clear hx44 hb44
    go_simp
    refine hK.out _ _ HZ44.out.bel (fun hh => ?_)
    clear hh hK K; try simp only [Act.put, List.setIfInBounds_toArray, List.set_cons_zero, List.set_cons_succ]
    refine held_ready (rs := [3]) (by kernel_rfl) (by simp) ?_
    refine AllReadyH.cons rfl (fun K hK => ?_) AllReadyH.nil
    go_simp
    with_reducible refine (HMY.out z44 (Below.next HB3.out HZ44.out.bel)).mono ?_
    rintro e z45 ⟨ac245, cc245, rfl, hx45, hb45⟩
    have HZ45 := Lib.hid ((HZ44.out).call2 hb45 hx45)
    clear hx45 hb45
    go_simp
    refine hK.out _ _ HZ45.out.bel (fun hh => ?_)
    clear hh hK K; try simp only [Act.put, List.setIfInBounds_toArray, List.set_cons_zero, List.set_cons_succ]
    refine held_ready (rs := [6]) (by kernel_rfl) (by simp) ?_
    refine AllReadyH.cons rfl (fun K hK => ?_) AllReadyH.nil
    go_simp
    obtain ⟨⟨x0, x1⟩, x2, x3⟩ := open2 ((HZ45.out).b5 _ rfl).1
    go_simp
    have hfin := fun (U1 U2 : World) => (HZ45.out).fin (W1 := U1) (W2 := U2)
    have HFIN := Lib.hid hfin
    clear hfin x0 x1 x2 x3
    generalize hU46 : World.setCell (World.setCell z45 _ _) _ _ = U46
    obtain ⟨k6, kb⟩ := (HFIN.out U46 _ hU46.symm rfl).1
    refine hK.out _ _ kb (fun hh => ?_)
    clear hh hK K; try simp only [Act.put, List.setIfInBounds_toArray, List.set_cons_zero, List.set_cons_succ]
    refine held_ready (rs := [7]) (by kernel_rfl) (by simp) ?_
    refine AllReadyH.cons rfl (fun K hK => ?_) AllReadyH.nil
    obtain ⟨⟨x0, x1⟩, x2, x3⟩ := open2 k6
    go_simp
    clear x0 x1 x2 x3
    generalize hV46 : World.setCell (World.setCell U46 _ _) _ _ = V46
    have hTB := (HFIN.out U46 V46 hU46.symm hV46.symm).2
    refine hK.out _ _ hTB.bel (fun hh => ?_)
    clear hh hK K; try simp only [Act.put, List.setIfInBounds_toArray, List.set_cons_zero, List.set_cons_succ]
    refine wpAnyH_done (by kernel_rfl) (NoPanic.normal ?_) _
    clear hU46 hV46 HFIN k6 kb HZ45
    refine h2 _ _ ?_
    go_meet
    exact hTB

  case rest =>
    obtain ⟨⟨b5, b6, a1, c1, a2, c2, rfl, rfl, e5, e6, x1, x2⟩, hbc⟩ := hcut
    have HBC := Lib.hid (Below.next HB3.out hbc)
    have HK : Hid (∀ u : World, Below wc.heap.size wc u → (u.cell? ⟨b5, 0, none⟩ = some (.slice a1 X.nodes.length c1) ∧ u.cell? ⟨b5, 1, none⟩ = some (.int .i64 X.root)) ∧ (u.cell? ⟨b6, 0, none⟩ = some (.slice a2 Y.nodes.length c2) ∧ u.cell? ⟨b6, 1, none⟩ = some (.int .i64 Y.root))) := Lib.hid (fun u hu => by
      obtain ⟨k01, _⟩ := open2 (heap_below hu e5)
      obtain ⟨k23, _⟩ := open2 (heap_below hu e6)
      exact ⟨k01, k23⟩)
    have HX1 := Lib.hid x1
    have HX2 := Lib.hid x2
    have HE1 := Lib.hid (HEQ.out a1 _ c1 a2 _ c2 wc x1 x2 HBC.out)
    obtain ⟨⟨k0, k1⟩, k2, k3⟩ := HK.out wc (Below.refl _ _)
    clear hbc e5 e6 x1 x2 q0 q1
    go_wp2_with fail
    with_reducible refine HE1.out.mono ?_
    rintro e w4 ⟨rfl, b4⟩
    have HB4 := Lib.hid b4
    have HF1 := Lib.hid (HFX.out a1 _ c1 w4 (HX1.out.below b4))
    obtain ⟨⟨k0, k1⟩, k2, k3⟩ := HK.out w4 b4
    clear b4 HE1
    go_wp2_with fail
    with_reducible refine HF1.out.mono ?_
    rintro e w5 ⟨af, cf, rfl, rf, b5'⟩
    have hb5 := Below.next HB4.out b5'
    have HRF := Lib.hid rf
    have HB5 := Lib.hid hb5
    have HF2 := Lib.hid (HFY.out a2 _ c2 w5 (HX2.out.below hb5))
    obtain ⟨⟨k0, k1⟩, k2, k3⟩ := HK.out w5 hb5
    clear rf b5' hb5 HF1
    go_wp2_with fail
    with_reducible refine HF2.out.mono ?_
    rintro e w6 ⟨ag, cg, rfl, rg, b6'⟩
    have HB6 := Lib.hid (Below.next HB5.out b6')
    have HS1 := Lib.hid (HSM.out af _ cf ag _ cg w6 (HRF.out.below b6') rg)
    clear b6' rg HF2 k0 k1 k2 k3
    go_wp2_with fail
    with_reducible refine HS1.out.mono ?_
    rintro e w7 ⟨rfl, b7⟩
    have HB7 := Lib.hid (Below.next HB6.out b7)
    clear b7 HS1
    go_wp2_with fail
    go_ret
    exact ⟨congrArg (fun b => Ending.returned (.bool b)) (by cases TB <;> rfl), Below.next HBC.out HB7.out⟩
end Go.Proofs.YtcojmmhclklpoaaGreatDoor
