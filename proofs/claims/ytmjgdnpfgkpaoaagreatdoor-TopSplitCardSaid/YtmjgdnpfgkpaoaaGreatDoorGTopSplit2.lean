/- Texts laid together. The reference of layer 39: Made. Package broadcast, plain: by the attack on a split, two values are delivered. Package dissemination: the dissemination property. The law TopSplit, walked. -/
import Derived.Test.YtmjgdnpfgkpaoaaGreatDoorGC3
import Derived.Test.YtmjgdnpfgkpaoaaGreatDoorGC7
import Derived.Test.YtmjgdnpfgkpaoaaGreatDoorGC10
import Derived.Test.YtmjgdnpfgkpaoaaGreatDoorGTopSplit1
import Derived.Deep.DeepCutAuto
import Derived.Deep.CutRange
import Derived.Deep.CutBlock
namespace Go.Proofs.YtmjgdnpfgkpaoaaGreatDoor
open Go.RowKit Go.Shelf

/-- the sets of a case, cut to its servers -/
def cutTo (A : BitVec 16) (F : List (BitVec 16)) (k : Nat) : List (BitVec 16) := (F.take k).map fun x => x &&& A
def nzTo (A : BitVec 16) (F : List (BitVec 16)) (k : Nat) : List (BitVec 16) := (cutTo A F k).filter fun x => x != 0#16
theorem cutTo_succ {A : BitVec 16} {F : List (BitVec 16)} {k : Nat} {x : BitVec 16} (h : F[k]? = some x) : cutTo A F (k + 1) = cutTo A F k ++ [x &&& A] := by
  unfold cutTo; rw [List.take_add_one, h, List.map_append]; rfl
theorem nzTo_succ {A : BitVec 16} {F : List (BitVec 16)} {k : Nat} {x : BitVec 16} (h : F[k]? = some x) : nzTo A F (k + 1) = if (x &&& A != 0#16) = true then nzTo A F k ++ [x &&& A] else nzTo A F k := by
  unfold nzTo; rw [cutTo_succ h, List.filter_append]
  cases hz : (x &&& A != 0#16) <;> simp [hz]
theorem cutTo_len (A : BitVec 16) (F : List (BitVec 16)) (k : Nat) : (cutTo A F k).length ≤ k := by
  unfold cutTo; rw [List.length_map, List.length_take]; omega
theorem nzTo_len (A : BitVec 16) (F : List (BitVec 16)) (k : Nat) : (nzTo A F k).length ≤ k := by
  unfold nzTo; exact Nat.le_trans (List.length_filter_le _ _) (cutTo_len A F k)

theorem good_val {l : List (BitVec 16)} {m : Nat} (hm : m ≤ 5) (h : l.Pairwise Rs) (hb : ∀ x ∈ l, ∀ i, hasB x i = true → i < m) : valS l = 0 := by
  have hx : ∀ x ∈ l, x.toNat < 32 := fun x hx => by
    have : x.toNat < 2 ^ 5 := Nat.lt_pow_two_of_testBit _ fun i hi => by
      cases hq : x.toNat.testBit i
      · rfl
      · have := hb x hx i (by rw [hasB_nat]; exact hq)
        omega
    omega
  refine good_valid h (fun x hx' => by have := hx x hx'; omega) ?_
  have := nodup_len l ((List.range 32).map (BitVec.ofNat 16)) (good_nodup h) (fun x hx' => List.mem_map.2 ⟨x.toNat, List.mem_range.2 (hx x hx'), by simp⟩)
  rw [List.length_map, List.length_range] at this
  omega
theorem choose_good (A : BitVec 16) (k : Int) : (chooseS A k).Pairwise Rs ∧ ∀ x ∈ chooseS A k, ∀ i, hasB x i = true → hasB A i = true := by
  unfold chooseS
  refine ⟨?_, fun x hx i hi => (subB_iff _ _).1 (pick_mem hx).1 i hi⟩
  refine List.Pairwise.imp_of_mem (fun {a b} ha hb hab => ⟨hab, ?_⟩) (pick_asc A k 65536 (Nat.le_refl _))
  cases hs : subB b a
  · rfl
  · exfalso
    have h1 := (pick_mem ha).2.1
    have h2 := (pick_mem hb).2.1
    have : b = a := sub_eq hs (by omega)
    rw [this] at hab
    exact Nat.lt_irrefl _ hab
theorem val_len {l : List (BitVec 16)} (h : valS l = 0) : l.length ≤ 400 := by
  unfold valS at h
  split at h
  · cases h
  · omega
theorem choose_len {A : BitVec 16} {k : Int} {m : Nat} (hm : m ≤ 5) (hb : ∀ x ∈ chooseS A k, ∀ i, hasB x i = true → i < m) : (chooseS A k).length ≤ 400 := by
  exact val_len (good_val hm (choose_good A k).1 hb)
theorem ins_of {l : List (BitVec 16)} {m : Nat} (h : ∀ x ∈ l, ∀ i, hasB x i = true → i < m) : insQ l m = true := by
  unfold insQ
  rw [Bool.not_eq_true', List.any_eq_false]
  intro x hx
  have : shrS x m = 0#16 := by
    unfold shrS
    apply BitVec.eq_of_getLsbD_eq
    intro i hi
    rw [BitVec.getLsbD_ushiftRight]
    cases hq : x.getLsbD (m + i)
    · simp
    · have := h x hx (m + i) hq
      omega
  rw [this]; decide
theorem bch_of {f b : List (BitVec 16)} {m : Nat} (hv : valS f = 0) (hf : ∀ x ∈ f, ∀ i, hasB x i = true → i < m) (hb : ∀ x ∈ b, ∀ i, hasB x i = true → i < m) : bchS f b m = 0 := by
  unfold bchS
  rw [if_neg (by rw [hv]; decide), ins_of hf, ins_of hb]
  rfl
/-- what is made of a case -/
def Mad39 (w : World) (e : Ending) (w' : World) : Prop :=
  ∃ (m : Nat) (f b : List (BitVec 16)) (af : Option Addr) (cf : Nat) (ab : Option Addr) (cb : Nat) (v4 v5 : Value), 2 ≤ m ∧ m ≤ 5 ∧ bchS f b m = 0 ∧ f.length ≤ 400 ∧ b.length ≤ 6 ∧ e = .returned (.tuple #[.slice af f.length cf, .slice ab b.length cb, .int .i64 m, v4, v5]) ∧ Rd w' af f.length cf (f.map setV2) ∧ Rd w' ab b.length cb (b.map setV2) ∧ Below w.heap.size w w'
set_option maxRecDepth 100000 in
set_option maxHeartbeats 4000000 in
theorem made39_c (v : Value) (F B : List (BitVec 16)) (nn sz : Int) (w : World) (h : IsC39 w v F B nn sz) :
    Calls Tryz.prog 6 #[v] w (Mad39 w) := by
  obtain ⟨⟨so, bz, a, n, c, a2, n2, c2, rfl, hF, hB, hso, hbz⟩, hnn, hsz⟩ := h
  obtain ⟨W, hW⟩ : ∃ W, W = w.alloc (.cells #[.int .u8 nn, .int .u8 sz, .int .u8 so, .slice a n c, .slice a2 n2 c2, .int .u8 bz] 24) := ⟨_, rfl⟩
  have hbW : Below w.heap.size w W := by rw [hW]; exact (Below.refl _ w).alloc (Nat.le_refl _) _
  have hX : W.heap[w.heap.size]? = some (.cells #[.int .u8 nn, .int .u8 sz, .int .u8 so, .slice a n c, .slice a2 n2 c2, .int .u8 bz] 24 (0, 0)) := by rw [hW]; exact heap_alloc_new _ _
  have HX := Lib.hid hX
  have x0 := cell_of_row _ _ 0 _ _ _ hX
  obtain ⟨r4, hr4⟩ : ∃ r : Nat, nn % 4 = r := ⟨(nn % 4).toNat, by omega⟩
  have hr4l : r4 < 4 := by omega
  have htm : nn.tmod 4 = r4 := by rw [Int.tmod_eq_emod_of_nonneg hnn.1]; exact hr4
  obtain ⟨m, hm⟩ : ∃ m, 2 + r4 = m := ⟨_, rfl⟩
  have hm2 : (2 : Int) + (r4 : Int) = (m : Int) := by omega
  have hm12 : m ≤ 5 := by omega
  go_enter Tryz.func6, Tryz.ntmps6
  go_upto_region 1 with fail
  rw [← hW]
  clear hW
  have HBW := Lib.hid hbW
  have HRF := Lib.hid (hF.below hbW)
  have HRB := Lib.hid (hB.below hbW)
  have hFl : F.length = n := by have := hF.len; simp at this; omega
  have hBl : B.length = n2 := by have := hB.len; simp at this; omega
  have hle1 := hF.le
  have hmx1 := hF.max
  have hle2 := hB.le
  have hmx2 := hB.max
  unfold maxLen at hmx1 hmx2
  have HFL := Lib.hid hFl
  have HBL := Lib.hid hBl
  go_upto_block 0 with fail
  obtain ⟨A, hA⟩ : ∃ A, bitS m - 1#16 = A := ⟨_, rfl⟩
  rw [hA]
  have HA := Lib.hid hA
  have hm2l : 2 ≤ m := by omega
  clear hF hB hFl hBl hbW hX hA x0 htm hr4 hm hm2
  go_cut [9, 11, 12] from 22 to 45 (fun v _ _ wx => ∃ k L : Nat, k ≤ 6 ∧ L ≤ k ∧ Hid ((nzTo A F k).length = L) ∧ wx.ownsRow W.heap.size 27 1 v L ((nzTo A F k).map setV2) ∧ Below W.heap.size W wx)
  case first =>
    go_wp2_with fail
    go_loopw [9, 11] (fun v i wr => ∃ k : Nat, k ≤ n ∧ k ≤ 6 ∧ i = .int .i64 k ∧ ∃ L : Nat, L ≤ k ∧ Hid ((nzTo A F k).length = L) ∧ wr.ownsRow W.heap.size 27 1 v L ((nzTo A F k).map setV2) ∧ Below W.heap.size W wr) (fun _ i _ => 6 - (intOf i).toNat)
    case atStart => exact ⟨0, Nat.zero_le _, Nat.zero_le _, rfl, 0, Nat.le_refl _, rfl, World.ownsRow_nil _ _ _ _, Below.refl _ _⟩
    case round =>
      obtain ⟨k, hk, hk6, rfl, L, hLk, hL, hown, hb⟩ := hrel
      have x3 : wr.cell? ⟨w.heap.size, 3, none⟩ = some (.slice a n c) := cell_of_row _ _ 3 _ _ _ (heap_below hb HX.out)
      by_cases hlt : k < n
      · by_cases hlt6 : k < 6
        · obtain ⟨x, hx⟩ : ∃ x, F[k]? = some x := ⟨_, List.getElem?_eq_getElem (by have := HFL.out; omega)⟩
          obtain ⟨bb, oo, ha, hcell⟩ := (HRF.out.below hb).at' (by omega)
          have hc := hcell k (setV2 x) (by rw [List.getElem?_map, hx]; rfl)
          unfold setV2 at hc
          have hand := bv16_and x A
          have hsu := nzTo_succ (A := A) hx
          obtain ⟨y, hy⟩ : ∃ y, x &&& A = y := ⟨_, rfl⟩
          rw [hy] at hand hsu
          subst ha
          clear hcell hx hy
          cases hq : (y != 0#16)
          · have HN : Hid (nzTo A F (k + 1) = nzTo A F k) := Lib.hid (by rw [hsu, hq, if_neg (by decide)])
            clear hsu
            go_wp2_with fail
            go_roundw
            case rel => exact ⟨k + 1, by omega, by omega, by go_num, L, by omega, Lib.hid (by rw [HN.out]; exact hL.out), by rw [HN.out]; exact hown, hb⟩
            case measure => simp [intOf]; omega
          · have HN : Hid (nzTo A F (k + 1) = nzTo A F k ++ [y]) := Lib.hid (by rw [hsu, hq, if_pos rfl])
            have HM2 : Hid ((nzTo A F (k + 1)).map setV2 = (nzTo A F k).map setV2 ++ [.int .u16 (U y)]) := Lib.hid (by rw [HN.out, List.map_append]; rfl)
            have HL2 : Hid ((nzTo A F (k + 1)).length = L + 1) := Lib.hid (by rw [HN.out, List.length_append, hL.out]; rfl)
            clear hsu HN
            go_wp2_with (at_builtin; go_must (refine wpList_app _ _ 25 2 (.int .u16 0) (.int .u16 (U y)) _ Tryz.underlying25 Tryz.infoSet rfl hown hb (Nat.le_refl _) rfl rfl rfl rfl rfl (by unfold maxLen; omega) (by omega) ?_))
            intro v' w5 hown5 hb5 _ _
            clear hown hb hc x3
            go_wp2_with fail
            go_roundw
            case rel => exact ⟨k + 1, by omega, by omega, by go_num, L + 1, by omega, HL2, by rw [HM2.out]; exact hown5, hb5⟩
            case measure => simp [intOf]; omega
        · have HOW := Lib.hid hown
          have HBB := Lib.hid hb
          clear hown hb
          go_wp2_with fail
          go_meet
          exact ⟨k, L, hk6, hLk, hL, HOW.out, HBB.out⟩
      · have HOW := Lib.hid hown
        have HBB := Lib.hid hb
        clear hown hb
        go_wp2_with fail
        go_meet
        exact ⟨k, L, hk6, hLk, hL, HOW.out, HBB.out⟩
  case rest =>
    obtain ⟨k, L, hk6, hLk, hL, hown, hb⟩ := hcut
    obtain ⟨aG, cG, rfl, hrG⟩ := rd_of_row hown
    have HLS := Lib.hid (least8_c (nzTo A F k) aG L cG wc hrG (by omega))
    have hlg := lesS_good (nzTo A F k)
    have hA6 : ∀ i, hasB A i = true → i < m := fun i hi => by
      have h16 := hasB_lt hi
      rw [← HA.out, full_has m (by omega) i h16] at hi
      simpa using hi
    have hG6 : ∀ x ∈ lesS (nzTo A F k), ∀ i, hasB x i = true → i < m := fun x hx i hi => by
      have h1 := hlg.2.1 x hx
      unfold nzTo cutTo at h1
      obtain ⟨y, _, rfl⟩ := List.mem_map.1 (List.mem_filter.1 h1).1
      rw [hasB_and, Bool.and_eq_true] at hi
      exact hA6 i hi.2
    have hGv : valS (lesS (nzTo A F k)) = 0 := good_val (by omega) hlg.1 hG6
    have hGl : (lesS (nzTo A F k)).length ≤ 400 := val_len hGv
    obtain ⟨G, hG⟩ : ∃ G, lesS (nzTo A F k) = G := ⟨_, rfl⟩
    rw [hG] at HLS hG6 hGv hGl
    have HG6 := Lib.hid hG6
    have HGV := Lib.hid hGv
    have HA6 := Lib.hid hA6
    have HBC := Lib.hid hb
    have hcle := hrG.le
    have hcmx := hrG.max
    unfold maxLen at hcmx
    clear hlg hG6 hGv hA6 hG hown hb hrG hL
    go_wp2_with fail
    refine HLS.out.mono ?_
    rintro e w2 ⟨v2, rfl, hrow2, hb2⟩
    have HBC2 := Lib.hid (Below.next HBC.out hb2)
    have HR2 := Lib.hid (rowK_mono hrow2 (B' := W.heap.size) HBC.out.size)
    clear HLS hrow2 hb2
    have hX2 := heap_below HBC2.out HX.out
    have y1 := cell_of_row _ _ 1 _ _ _ hX2
    go_upto_if 50 with fail
    go_cut [9] from 50 to 58 (fun v wx => ∃ f : List (BitVec 16), Hid (valS f = 0) ∧ Hid (∀ x ∈ f, ∀ i, hasB x i = true → i < m) ∧ wx.ownsRow W.heap.size 27 1 v f.length (f.map setV2) ∧ Below W.heap.size W wx)
    case first =>
      by_cases h0 : sz = 0
      · subst h0
        go_wp2_with fail
        go_meet
        exact ⟨G, HGV, HG6, HR2.out, HBC2.out⟩
      · have hz : (sz != 0) = true := by simpa using h0
        obtain ⟨r, hr⟩ : ∃ r : Nat, sz % (m : Int) = r := ⟨(sz % m).toNat, by have := Int.emod_nonneg sz (b := m) (by omega); omega⟩
        have hrl : r < m := by have := Int.emod_lt_of_pos sz (b := m) (by omega); omega
        have htm : sz.tmod (m : Int) = r := by rw [Int.tmod_eq_emod_of_nonneg hsz.1]; exact hr
        have hmz : ((m : Int) == 0) = false := by simp; omega
        have HCH := Lib.hid (fun w => rchoose_c A (U A) (1 + (r : Int)) w rfl)
        have hcg := choose_good A (1 + (r : Int))
        have hc6 : ∀ x ∈ chooseS A (1 + (r : Int)), ∀ i, hasB x i = true → i < m := fun x hx i hi => HA6.out i (hcg.2 x hx i hi)
        have hcv := good_val (by omega) hcg.1 hc6
        obtain ⟨f, hf⟩ : ∃ f, chooseS A (1 + (r : Int)) = f := ⟨_, rfl⟩
        rw [hf] at HCH hc6 hcv
        have HC6 := Lib.hid hc6
        have HCV := Lib.hid hcv
        clear hcg hc6 hcv hf hr h0
        go_wp2_with fail
        refine (HCH.out _).mono ?_
        rintro e w3 ⟨v3, rfl, ho, hb3⟩
        unfold Own at ho
        rw [List.length_map] at ho
        have HO3 := Lib.hid (rowK_mono ho (B' := W.heap.size) HBC2.out.size)
        have HB3 := Lib.hid (Below.next HBC2.out hb3)
        clear ho hb3 HCH y1
        go_wp2_with fail
        go_meet
        exact ⟨f, HCV, HC6, HO3.out, HB3.out⟩
    case rest =>
      obtain ⟨f, hfv, hf6, hrow, hb⟩ := hcut
      obtain ⟨af, cf, rfl, hrf⟩ := rd_of_row hrow
      have HRf := Lib.hid hrf
      have HBD := Lib.hid hb
      clear hrow hb y1 hX2 HR2 HBC2 HBC HG6 HGV hrf
      go_upto_block 2 with fail
      go_cut [10, 13] from 59 to 79 (fun v _ wx => ∃ q M : Nat, q ≤ 6 ∧ M ≤ q ∧ Hid ((cutTo A B q).length = M) ∧ wx.ownsRow wc.heap.size 27 1 v M ((cutTo A B q).map setV2) ∧ Below wc.heap.size wc wx)
      case first =>
        go_wp2_with fail
        go_loopw [10, 13] (fun v i wr => ∃ q : Nat, q ≤ n2 ∧ q ≤ 6 ∧ i = .int .i64 q ∧ ∃ M : Nat, M ≤ q ∧ Hid ((cutTo A B q).length = M) ∧ wr.ownsRow wc.heap.size 27 1 v M ((cutTo A B q).map setV2) ∧ Below wc.heap.size wc wr) (fun _ i _ => 6 - (intOf i).toNat)
        case atStart => exact ⟨0, Nat.zero_le _, Nat.zero_le _, rfl, 0, Nat.le_refl _, rfl, World.ownsRow_nil _ _ _ _, Below.refl _ _⟩
        case round =>
          obtain ⟨q, hq, hq6, rfl, M, hMq, hM, hown, hb⟩ := hrel
          have hbw := Below.next HBD.out hb
          have x4 : wr.cell? ⟨w.heap.size, 4, none⟩ = some (.slice a2 n2 c2) := cell_of_row _ _ 4 _ _ _ (heap_below hbw HX.out)
          by_cases hlt : q < n2
          · by_cases hlt6 : q < 6
            · obtain ⟨x, hx⟩ : ∃ x, B[q]? = some x := ⟨_, List.getElem?_eq_getElem (by have := HBL.out; omega)⟩
              obtain ⟨bb, oo, ha, hcell⟩ := (HRB.out.below hbw).at' (by omega)
              have hc := hcell q (setV2 x) (by rw [List.getElem?_map, hx]; rfl)
              unfold setV2 at hc
              have hand := bv16_and x A
              have hsu := cutTo_succ (A := A) hx
              obtain ⟨y, hy⟩ : ∃ y, x &&& A = y := ⟨_, rfl⟩
              rw [hy] at hand hsu
              subst ha
              have HM2 : Hid ((cutTo A B (q + 1)).map setV2 = (cutTo A B q).map setV2 ++ [.int .u16 (U y)]) := Lib.hid (by rw [hsu, List.map_append]; rfl)
              have HL2 : Hid ((cutTo A B (q + 1)).length = M + 1) := Lib.hid (by rw [hsu, List.length_append, hM.out]; rfl)
              clear hcell hx hy hsu hbw
              go_wp2_with (at_builtin; go_must (refine wpList_app _ _ 25 2 (.int .u16 0) (.int .u16 (U y)) _ Tryz.underlying25 Tryz.infoSet rfl hown hb (Nat.le_refl _) rfl rfl rfl rfl rfl (by unfold maxLen; omega) (by omega) ?_))
              intro v' w5 hown5 hb5 _ _
              clear hown hb hc x4
              go_wp2_with fail
              go_roundw
              case rel => exact ⟨q + 1, by omega, by omega, by go_num, M + 1, by omega, HL2, by rw [HM2.out]; exact hown5, hb5⟩
              case measure => simp [intOf]; omega
            · have HOW := Lib.hid hown
              have HBB := Lib.hid hb
              clear hown hb hbw
              go_wp2_with fail
              go_meet
              exact ⟨q, M, hq6, hMq, hM, HOW.out, HBB.out⟩
          · have HOW := Lib.hid hown
            have HBB := Lib.hid hb
            clear hown hb hbw
            go_wp2_with fail
            go_meet
            exact ⟨q, M, hq6, hMq, hM, HOW.out, HBB.out⟩
      case rest =>
        obtain ⟨q, M, hq6, hMq, hM, hown, hb⟩ := hcut
        obtain ⟨ab, cb, rfl, hrb⟩ := rd_of_row hown
        have hbw := Below.next HBD.out hb
        have hXe := heap_below hbw HX.out
        have x2 := cell_of_row _ _ 2 _ _ _ hXe
        have x5 := cell_of_row _ _ 5 _ _ _ hXe
        have RF := Lib.hid (HRf.out.below hb)
        have RB := Lib.hid hrb
        have BE := Lib.hid (Below.next HBW.out hbw)
        have hmz : ((m : Int) == 0) = false := by simp; omega
        obtain ⟨r, hr⟩ : ∃ r : Nat, so % (m : Int) = r := ⟨(so % m).toNat, by have := Int.emod_nonneg so (b := m) (by omega); omega⟩
        have hrl : r < m := by have := Int.emod_lt_of_pos so (b := m) (by omega); omega
        have htm : so.tmod (m : Int) = r := by rw [Int.tmod_eq_emod_of_nonneg hso.1]; exact hr
        clear hown hrb hb hbw hXe hr
        go_wp2_with fail
        go_quiet (fail)
        go_wp2_with fail
        have hin : ∀ x ∈ cutTo A B q, ∀ i, hasB x i = true → i < m := fun x hx i hi => by
          unfold cutTo at hx
          obtain ⟨y, _, rfl⟩ := List.mem_map.1 hx
          rw [hasB_and, Bool.and_eq_true] at hi
          exact HA6.out i hi.2
        refine bodyPost_ret (v := .tuple #[.slice af f.length cf, .slice ab M cb, .int .i64 m, .int .u16 (bits BinOp.and IntKind.u16 bz (U A)), .int .i64 r]) (by simp [results, Tryz.results6, go_sem]) rfl ⟨m, f, cutTo A B q, af, cf, ab, cb, _, _, hm2l, hm12, bch_of hfv.out hf6.out hin, val_len hfv.out, by rw [hM.out]; omega, by rw [hM.out], rd_drewN RF.out nq, by rw [hM.out]; exact rd_drewN RB.out nq, below_drewN BE.out⟩
end Go.Proofs.YtmjgdnpfgkpaoaaGreatDoor
namespace Go.Proofs.YtmjgdnpfgkpaoaaGreatDoor
open Go.RowKit Go.Shelf

/-- heard of one value alone -/
def Sole (v : ByteArray) (l : List Hea) : Prop := l = [] ∨ ∃ t, l = [(v, t)]
/-- heard from a server -/
def Hrd (v : ByteArray) (l : List Hea) (j : Nat) : Prop := ∃ t, l = [(v, t)] ∧ hasB t j = true
theorem sayB_self (v : ByteArray) (t : BitVec 16) : sayB v (v, t) = true := by unfold sayB; simp
theorem heaS_one (v : ByteArray) (t : BitVec 16) : heaS [(v, t)] v = t := by
  unfold heaS; rw [List.find?_cons, sayB_self]
theorem addH_sole {v : ByteArray} {l : List Hea} (h : Sole v l) {s : Nat} (hs : s < 16) :
    ∃ t, (addH l s v).1 = [(v, t)] ∧ hasB t s = true ∧ (∀ j, Hrd v l j → hasB t j = true) ∧ ((addH l s v).2 = false → (addH l s v).1 = l) := by
  rcases h with rfl | ⟨t, rfl⟩
  · exact ⟨bitS s, rfl, by rw [hasB_bit s s hs]; simp, fun j ⟨t, h, _⟩ => (by cases h), fun h => (by cases h)⟩
  · unfold addH
    cases hb : hasB t s
    · rw [if_neg (by simp [hadB, hb]), if_pos (by simp [sayB_self])]
      refine ⟨t ||| bitS s, ?_, by rw [hasB_or, hasB_bit s s hs]; simp, fun j ⟨t', h, h2⟩ => ?_, fun h => (by cases h)⟩
      · have : List.findIdx (sayB v) [((v, t) : Hea)] = 0 := by rw [List.findIdx_cons, sayB_self]; rfl
        rw [this]; rfl
      · cases h; rw [hasB_or, h2]; rfl
    · rw [if_pos (by simp [hadB, hb])]
      exact ⟨t, rfl, hb, fun j ⟨t', h, h2⟩ => (by cases h; exact h2), fun _ => rfl⟩

/-- a node of a side -/
structure NdSd (f : List (BitVec 16)) (v : ByteArray) (x : CasT) : Prop where
  soleE : Sole v x.echoes
  soleR : Sole v x.readies
  rdy : ∀ t, x.echoes = [(v, t)] → accS f t = true → x.hasR = true
  dlv : ∀ t, x.readies = [(v, t)] → accS f t = true → x.hasD = true
  dval : x.hasD = true → x.delivered = v
/-- what a node of a side is and says, behind a message of the side -/
structure HnSd (f : List (BitVec 16)) (v : ByteArray) (x x' : CasT) (out : List MsgT) (s : Nat) (kind : Int) : Prop where
  nod : NdSd f v x'
  keepE : ∀ j, Hrd v x.echoes j → Hrd v x'.echoes j
  keepR : ∀ j, Hrd v x.readies j → Hrd v x'.readies j
  gotE : kind = 2 → Hrd v x'.echoes s
  gotR : kind = 3 → Hrd v x'.readies s
  sent : kind = 1 → x'.hasE = true
  monE : x.hasE = true → x'.hasE = true
  newE : x'.hasE = true → x.hasE = true ∨ (⟨2, x.id, -1, v⟩ : MsgT) ∈ out
  newR : x'.hasR = true → x.hasR = true ∨ (⟨3, x.id, -1, v⟩ : MsgT) ∈ out
  out : ∀ m ∈ out, m.value = v ∧ m.src = x.id
theorem ready_say (is : Bool) (x : CasT) (v : ByteArray) :
    (readyS is x v).1.echoes = x.echoes ∧ (readyS is x v).1.readies = x.readies ∧ (readyS is x v).1.hasD = x.hasD ∧ (readyS is x v).1.delivered = x.delivered ∧ (readyS is x v).1.hasE = x.hasE ∧
    (x.hasR = true → (readyS is x v).1.hasR = true) ∧ (is = true → (readyS is x v).1.hasR = true) ∧ ((readyS is x v).1.hasR = true → x.hasR = true ∨ (⟨3, x.id, -1, v⟩ : MsgT) ∈ (readyS is x v).2) ∧ ∀ m ∈ (readyS is x v).2, m.value = v ∧ m.src = x.id := by
  unfold readyS
  cases is <;> cases hr : x.hasR <;> simp [hr]
theorem last_say (f : List (BitVec 16)) (s : BitVec 16) (x : CasT) (v : ByteArray) :
    (lastS f s x v).echoes = x.echoes ∧ (lastS f s x v).readies = x.readies ∧ (lastS f s x v).hasE = x.hasE ∧ (lastS f s x v).hasR = x.hasR ∧ (accS f s = true → (lastS f s x v).hasD = true) ∧ ((lastS f s x v).hasD = true → (x.hasD = true ∧ (lastS f s x v).delivered = x.delivered) ∨ (lastS f s x v).delivered = v) := by
  unfold lastS
  cases hd : x.hasD <;> cases ha : accS f s <;> simp [hd]
theorem hrd_of {v : ByteArray} {l : List Hea} {t : BitVec 16} (h : l = [(v, t)]) {j : Nat} (hj : hasB t j = true) : Hrd v l j := ⟨t, h, hj⟩
theorem hand_say {f : List (BitVec 16)} (b : List (BitVec 16)) {v : ByteArray} {x : CasT} (hx : NdSd f v x) {s : Nat} (hs : s < 12) (kind : Int) : HnSd f v x (handleS f b x (s : Int) kind v).1 (handleS f b x (s : Int) kind v).2 s kind := by
  unfold handleS
  rw [if_neg (by omega)]
  by_cases k1 : kind = 1
  · subst k1
    rw [if_pos rfl]
    cases he : x.hasE
    · exact ⟨⟨hx.soleE, hx.soleR, hx.rdy, hx.dlv, hx.dval⟩, fun _ h => h, fun _ h => h, fun h => absurd h (by decide), fun h => absurd h (by decide), fun _ => rfl, fun _ => rfl, fun _ => .inr (List.mem_singleton_self _), fun h => .inl h, fun m hm => by
        rw [if_neg (by decide)] at hm
        rw [List.mem_singleton] at hm; rw [hm]; exact ⟨rfl, rfl⟩⟩
    · rw [if_pos rfl]
      exact ⟨hx, fun _ h => h, fun _ h => h, fun h => absurd h (by decide), fun h => absurd h (by decide), fun _ => he, fun _ => he, fun _ => .inl he, fun h => .inl h, fun m hm => by cases hm⟩
  · rw [if_neg k1]
    by_cases k2 : kind = 2
    · subst k2
      rw [if_pos rfl, Int.toNat_natCast]
      obtain ⟨t, h1, h2, h3, h4⟩ := addH_sole hx.soleE (s := s) (by omega)
      cases hn : (addH x.echoes s v).2
      · have h5 := h4 hn
        rw [if_neg (by decide), h5]
        rw [h5] at h1
        exact ⟨⟨hx.soleE, hx.soleR, hx.rdy, hx.dlv, hx.dval⟩, fun _ h => h, fun _ h => h, fun _ => ⟨t, h1, h2⟩, fun h => absurd h (by decide), fun h => absurd h (by decide), fun h => h, fun h => .inl h, fun h => .inl h, fun m hm => by cases hm⟩
      · rw [if_pos rfl, h1, heaS_one]
        obtain ⟨r1, r2, r3, r4, r5, r6, r7, r8, r9⟩ := ready_say (accS f t) { x with echoes := [(v, t)] } v
        obtain ⟨⟨x', out⟩, hH⟩ : ∃ r, readyS (accS f t) { x with echoes := [(v, t)] } v = r := ⟨_, rfl⟩
        rw [hH] at r1 r2 r3 r4 r5 r6 r7 r8 r9 ⊢
        simp only at r1 r2 r3 r4 r5 r6 r7 r8 r9 ⊢
        refine ⟨⟨.inr ⟨t, r1⟩, by rw [r2]; exact hx.soleR, fun t' h5 h6 => ?_, fun t' h5 h6 => by rw [r3]; exact hx.dlv t' (by rw [← r2]; exact h5) h6, fun h5 => by rw [r4]; exact hx.dval (by rw [← r3]; exact h5)⟩, fun j hj => ⟨t, r1, h3 j hj⟩, fun j hj => by rw [r2]; exact hj, fun _ => ⟨t, r1, h2⟩, fun h => absurd h (by decide), fun h => absurd h (by decide), fun h => by rw [r5]; exact h, fun h => .inl (by rw [← r5]; exact h), r8, r9⟩
        rw [r1] at h5
        injection h5 with h5 _
        injection h5 with _ h5
        subst h5
        exact r7 h6
    · rw [if_neg k2]
      by_cases k3 : kind = 3
      · subst k3
        rw [if_pos rfl, Int.toNat_natCast]
        obtain ⟨t, h1, h2, h3, h4⟩ := addH_sole hx.soleR (s := s) (by omega)
        cases hn : (addH x.readies s v).2
        · have h5 := h4 hn
          rw [if_neg (by decide), h5]
          rw [h5] at h1
          exact ⟨⟨hx.soleE, hx.soleR, hx.rdy, hx.dlv, hx.dval⟩, fun _ h => h, fun _ h => h, fun h => absurd h (by decide), fun _ => ⟨t, h1, h2⟩, fun h => absurd h (by decide), fun h => h, fun h => .inl h, fun h => .inl h, fun m hm => by cases hm⟩
        · rw [if_pos rfl, h1, heaS_one]
          obtain ⟨r1, r2, r3, r4, r5, r6, r7, r8, r9⟩ := ready_say (!witS b t) { x with readies := [(v, t)] } v
          obtain ⟨⟨x', out⟩, hH⟩ : ∃ r, readyS (!witS b t) { x with readies := [(v, t)] } v = r := ⟨_, rfl⟩
          rw [hH] at r1 r2 r3 r4 r5 r6 r7 r8 r9 ⊢
          simp only at r1 r2 r3 r4 r5 r6 r7 r8 r9 ⊢
          obtain ⟨l1, l2, l3, l4, l5, l6⟩ := last_say f t x' v
          obtain ⟨x2, hL⟩ : ∃ r, lastS f t x' v = r := ⟨_, rfl⟩
          rw [hL] at l1 l2 l3 l4 l5 l6 ⊢
          have e1 := l1.trans r1
          have e2 := l2.trans r2
          refine ⟨⟨by rw [e1]; exact hx.soleE, .inr ⟨t, e2⟩, fun t' h5 h6 => ?_, fun t' h5 h6 => ?_, fun h5 => ?_⟩, fun j hj => by rw [e1]; exact hj, fun j hj => ⟨t, e2, h3 j hj⟩, fun h => absurd h (by decide), fun _ => ⟨t, e2, h2⟩, fun h => absurd h (by decide), fun h => by rw [l3, r5]; exact h, fun h => .inl (by rw [← r5, ← l3]; exact h), fun h => r8 (by rw [← l4]; exact h), r9⟩
          · rw [l4]; exact r6 (hx.rdy t' (by rw [← e1]; exact h5) h6)
          · rw [e2] at h5
            injection h5 with h5 _
            injection h5 with _ h5
            subst h5
            exact l5 h6
          · rcases l6 h5 with ⟨h6, h7⟩ | h6
            · rw [h7, r4]; exact hx.dval (by rw [← r3]; exact h6)
            · exact h6
      · rw [if_neg k3]
        exact ⟨hx, fun _ h => h, fun _ h => h, fun h => absurd h k2, fun h => absurd h k3, fun h => absurd h k1, fun h => h, fun h => .inl h, fun h => .inl h, fun m hm => by cases hm⟩

theorem fold_memL (byz : BitVec 16) (n : Nat) : ∀ (out fs : List MsgT) (m : MsgT), (m ∈ fs ∨ ∃ o ∈ out, m ∈ allK byz o n) → m ∈ out.foldl (fun l m => l ++ allK byz m n) fs
  | [], fs, m, h => by
    rcases h with h | ⟨o, h, _⟩
    · exact h
    · cases h
  | o :: out, fs, m, h => by
    rw [List.foldl_cons]
    refine fold_memL byz n out _ m ?_
    rcases h with h | ⟨o', h, h2⟩
    · exact .inl (List.mem_append_left _ h)
    · rcases List.mem_cons.1 h with rfl | h
      · exact .inl (List.mem_append_right _ h2)
      · exact .inr ⟨o', h, h2⟩
theorem mem_erase_ne {α : Type} {l : List α} {k : Nat} {c m : α} (hc : l[k]? = some c) (hm : m ∈ l) (hne : m ≠ c) : m ∈ l.eraseIdx k := by
  rw [List.mem_eraseIdx_iff_getElem?]
  obtain ⟨i, hi⟩ := List.mem_iff_getElem?.1 hm
  refine ⟨i, fun e => hne ?_, hi⟩
  subst e
  rw [hc] at hi; exact (Option.some.inj hi).symm
theorem set_cases {α : Type} {l : List α} {d i : Nat} {x y z : α} (hx : l[d]? = some x) (h : (l.set d y)[i]? = some z) : (i = d ∧ z = y) ∨ (i ≠ d ∧ l[i]? = some z) := by
  rw [List.getElem?_set] at h
  split at h
  · rename_i e
    subst e
    split at h
    · cases h; exact .inl ⟨rfl, rfl⟩
    · cases h
  · rename_i e
    exact .inr ⟨fun q => e q.symm, h⟩

/-- what holds while a side's messages are delivered -/
structure SayB (f : List (BitVec 16)) (bad S q : BitVec 16) (v : ByteArray) (st : StB) : Prop where
  val : ∀ m ∈ st.2, pickQ S bad m = true → m.value = v
  nod : ∀ (i : Nat) x, st.1[i]? = some x → hasB S i = true → NdSd f v x
  send : ∀ (i : Nat) x, st.1[i]? = some x → hasB S i = true → x.hasE = true ∨ ∃ m ∈ st.2, pickQ S bad m = true ∧ m.kind = 1 ∧ m.dst = i
  echo : ∀ (i : Nat) x, st.1[i]? = some x → hasB S i = true → ∀ j : Nat, ((hasB q j = true ∧ hasB bad j = true) ∨ (hasB S j = true ∧ ∃ y, st.1[j]? = some y ∧ y.hasE = true)) → Hrd v x.echoes j ∨ ∃ m ∈ st.2, m.kind = 2 ∧ m.src = j ∧ m.dst = i
  redi : ∀ (i : Nat) x, st.1[i]? = some x → hasB S i = true → ∀ j : Nat, ((hasB q j = true ∧ hasB bad j = true) ∨ (hasB S j = true ∧ ∃ y, st.1[j]? = some y ∧ y.hasR = true)) → Hrd v x.readies j ∨ ∃ m ∈ st.2, m.kind = 3 ∧ m.src = j ∧ m.dst = i
theorem say_step {f b : List (BitVec 16)} {n K : Nat} {bad S q : BitVec 16} {v : ByteArray} {st : StB} {k : Nat} {c : MsgT} (hn : n ≤ 12) (hSb : ∀ i, hasB S i = true → hasB bad i = false) (hSn : ∀ i, hasB S i = true → i < n) (hi : InvB n K st) (h : SayB f bad S q v st) (hc : st.2[k]? = some c) (hp : pickQ S bad c = true) : SayB f bad S q v (delS f b n bad st.1 st.2 k) := by
  obtain ⟨s, d, hs, hd, hs2, hd2⟩ := hi.msg c (List.mem_of_getElem? hc)
  obtain ⟨x, hx⟩ : ∃ x, st.1[d]? = some x := ⟨_, List.getElem?_eq_getElem (by rw [hi.len]; exact hd2)⟩
  rw [del_eq hc hd hx]
  have hSd : hasB S d = true := by
    unfold pickQ at hp
    rw [Bool.and_eq_true, hd, Int.toNat_natCast] at hp
    exact hp.1
  have cv : c.value = v := h.val c (List.mem_of_getElem? hc) hp
  have hxid := hi.id d x hx
  have H := hand_say b (h.nod d x hx hSd) (s := s) (by omega) c.kind
  rw [hs, cv]
  obtain ⟨⟨x', out⟩, hH⟩ : ∃ r, handleS f b x (s : Int) c.kind v = r := ⟨_, rfl⟩
  rw [hH] at H ⊢
  simp only at H ⊢
  have hkeep : ∀ m ∈ st.2, m ≠ c → m ∈ out.foldl (fun l m => l ++ allK bad m n) (st.2.eraseIdx k) := fun m hm hne => fold_memL bad n out _ m (.inl (mem_erase_ne hc hm hne))
  have hnew : ∀ (kd : Int) (i : Nat), (⟨kd, x.id, -1, v⟩ : MsgT) ∈ out → hasB S i = true → (⟨kd, d, i, v⟩ : MsgT) ∈ out.foldl (fun l m => l ++ allK bad m n) (st.2.eraseIdx k) := fun kd i ho hiS => fold_memL bad n out _ _ (.inr ⟨_, ho, by
    unfold allK
    refine List.mem_map.2 ⟨i, List.mem_filter.2 ⟨List.mem_range.2 (hSn i hiS), by rw [hSb i hiS]; rfl⟩, ?_⟩
    rw [hxid]⟩)
  refine ⟨fun m hm hpm => ?_, fun i z hz hS => ?_, fun i z hz hS => ?_, fun i z hz hS j hj => ?_, fun i z hz hS j hj => ?_⟩
  · rcases fold_memQ bad n out _ m hm with h6 | ⟨o, h6, h7⟩
    · exact h.val m (List.mem_of_mem_eraseIdx h6) hpm
    · unfold allK at h7
      obtain ⟨i, h8, rfl⟩ := List.mem_map.1 h7
      exact (H.out o h6).1
  · rcases set_cases hx hz with ⟨rfl, rfl⟩ | ⟨_, h6⟩
    · exact H.nod
    · exact h.nod i z h6 hS
  · rcases set_cases hx hz with ⟨rfl, rfl⟩ | ⟨hne, h6⟩
    · rcases h.send i x hx hS with h7 | ⟨m, h7, h8, h9, h10⟩
      · exact .inl (H.monE h7)
      · by_cases hmc : m = c
        · exact .inl (H.sent (by rw [← hmc]; exact h9))
        · exact .inr ⟨m, hkeep m h7 hmc, h8, h9, h10⟩
    · rcases h.send i z h6 hS with h7 | ⟨m, h7, h8, h9, h10⟩
      · exact .inl h7
      · refine .inr ⟨m, hkeep m h7 (fun e => hne ?_), h8, h9, h10⟩
        rw [e, hd] at h10; omega
  · have hold : (hasB q j = true ∧ hasB bad j = true) ∨ (hasB S j = true ∧ ∃ y, st.1[j]? = some y ∧ y.hasE = true) ∨ (j = d ∧ (⟨2, x.id, -1, v⟩ : MsgT) ∈ out) := by
      rcases hj with hj | ⟨hj, y, hy, hyE⟩
      · exact .inl hj
      · rcases set_cases hx hy with ⟨rfl, rfl⟩ | ⟨_, h6⟩
        · rcases H.newE hyE with h7 | h7
          · exact .inr (.inl ⟨hj, x, hx, h7⟩)
          · exact .inr (.inr ⟨rfl, h7⟩)
        · exact .inr (.inl ⟨hj, y, h6, hyE⟩)
    have hgo : ((hasB q j = true ∧ hasB bad j = true) ∨ (hasB S j = true ∧ ∃ y, st.1[j]? = some y ∧ y.hasE = true)) ∨ (j = d ∧ (⟨2, x.id, -1, v⟩ : MsgT) ∈ out) := by
      rcases hold with h6 | h6 | h6
      · exact .inl (.inl h6)
      · exact .inl (.inr h6)
      · exact .inr h6
    rcases hgo with hcond | ⟨rfl, ho⟩
    · rcases set_cases hx hz with ⟨rfl, rfl⟩ | ⟨hne, h6⟩
      · rcases h.echo i x hx hS j hcond with h7 | ⟨m, h7, h8, h9, h10⟩
        · exact .inl (H.keepE j h7)
        · by_cases hmc : m = c
          · refine .inl ?_
            have : j = s := by rw [hmc, hs] at h9; omega
            rw [this]; exact H.gotE (by rw [← hmc]; exact h8)
          · exact .inr ⟨m, hkeep m h7 hmc, h8, h9, h10⟩
      · rcases h.echo i z h6 hS j hcond with h7 | ⟨m, h7, h8, h9, h10⟩
        · exact .inl h7
        · refine .inr ⟨m, hkeep m h7 (fun e => hne ?_), h8, h9, h10⟩
          rw [e, hd] at h10; omega
    · exact .inr ⟨_, hnew 2 i ho hS, rfl, rfl, rfl⟩
  · have hgo : ((hasB q j = true ∧ hasB bad j = true) ∨ (hasB S j = true ∧ ∃ y, st.1[j]? = some y ∧ y.hasR = true)) ∨ (j = d ∧ (⟨3, x.id, -1, v⟩ : MsgT) ∈ out) := by
      rcases hj with hj | ⟨hj, y, hy, hyE⟩
      · exact .inl (.inl hj)
      · rcases set_cases hx hy with ⟨rfl, rfl⟩ | ⟨_, h6⟩
        · rcases H.newR hyE with h7 | h7
          · exact .inl (.inr ⟨hj, x, hx, h7⟩)
          · exact .inr ⟨rfl, h7⟩
        · exact .inl (.inr ⟨hj, y, h6, hyE⟩)
    rcases hgo with hcond | ⟨rfl, ho⟩
    · rcases set_cases hx hz with ⟨rfl, rfl⟩ | ⟨hne, h6⟩
      · rcases h.redi i x hx hS j hcond with h7 | ⟨m, h7, h8, h9, h10⟩
        · exact .inl (H.keepR j h7)
        · by_cases hmc : m = c
          · refine .inl ?_
            have : j = s := by rw [hmc, hs] at h9; omega
            rw [this]; exact H.gotR (by rw [← hmc]; exact h8)
          · exact .inr ⟨m, hkeep m h7 hmc, h8, h9, h10⟩
      · rcases h.redi i z h6 hS j hcond with h7 | ⟨m, h7, h8, h9, h10⟩
        · exact .inl h7
        · refine .inr ⟨m, hkeep m h7 (fun e => hne ?_), h8, h9, h10⟩
          rw [e, hd] at h10; omega
    · exact .inr ⟨_, hnew 3 i ho hS, rfl, rfl, rfl⟩

theorem goS_ind {f b : List (BitVec 16)} {n K : Nat} {bad sn : BitVec 16} (hn : n ≤ 12) {P : StB → Prop} (hP : ∀ (st : StB) (k : Nat) (c : MsgT), InvB n K st → P st → st.2[k]? = some c → pickQ sn bad c = true → P (delS f b n bad st.1 st.2 k)) : ∀ (t : Nat) (st : StB), InvB n K st → P st → P (goS f b n bad sn t st)
  | 0, _, _, h => h
  | t + 1, st, hi, h => by
    rw [goS]
    split
    · exact h
    · rename_i h1
      obtain ⟨k, hk, hl, x, hx, hpx⟩ := idxG_lt h1
      rw [hk, Int.toNat_natCast]
      exact goS_ind hn hP t _ (del_inv hn hi hx).1 (hP st k x hi h hx hpx)
theorem goS_done {f b : List (BitVec 16)} {n K : Nat} {bad sn : BitVec 16} (hn : n ≤ 12) : ∀ (t : Nat) (st : StB), InvB n K st → muS st ≤ t → idxG (pickQ sn bad) (goS f b n bad sn t st).2 < 0
  | 0, st, _, hm => by
    have : st.2 = [] := List.eq_nil_of_length_eq_zero (by unfold muS at hm; omega)
    rw [goS, this]; unfold idxG; simp
  | t + 1, st, hi, hm => by
    rw [goS]
    split
    · rename_i h; exact h
    · rename_i h1
      obtain ⟨k, hk, hl, x, hx, hpx⟩ := idxG_lt h1
      rw [hk, Int.toNat_natCast]
      obtain ⟨h2, h3⟩ := del_inv (b := b) (f := f) (byz := bad) hn hi hx
      exact goS_done hn t _ h2 (by omega)
theorem idxG_no {α : Type} {p : α → Bool} {l : List α} (h : idxG p l < 0) : ∀ x ∈ l, p x = false := by
  unfold idxG at h
  cases ha : l.any p
  · intro x hx
    have := List.any_eq_false.1 ha x hx
    simpa using this
  · rw [ha, if_pos rfl] at h; omega
/-- no message of a side is left: all its nodes have delivered -/
theorem say_end {f : List (BitVec 16)} {n K : Nat} {bad S q : BitVec 16} {v : ByteArray} {st : StB} (hi : InvB n K st) (h : SayB f bad S q v st) (hx : idxG (pickQ S bad) st.2 < 0) (hq : ∀ i, hasB q i = true → hasB S i = true ∨ hasB bad i = true) (hf : q ∈ f) (hSn : ∀ i, hasB S i = true → i < n) :
    ∀ i, hasB S i = true → ∃ x, st.1[i]? = some x ∧ x.hasD = true ∧ x.delivered = v := by
  have hno := idxG_no hx
  have hnp : ∀ (i j : Nat) (m : MsgT), hasB S i = true → (hasB S j = true ∨ hasB bad j = true) → m ∈ st.2 → m.src = j → m.dst = i → False := fun i j m hS hj hm h1 h2 => by
    have := hno m hm
    unfold pickQ at this
    rw [h1, h2, Int.toNat_natCast, Int.toNat_natCast, hS, hasB_or] at this
    rcases hj with hj | hj <;> rw [hj] at this <;> simp at this
  have hat : ∀ i, hasB S i = true → ∃ x, st.1[i]? = some x := fun i hS => ⟨_, List.getElem?_eq_getElem (by rw [hi.len]; exact hSn i hS)⟩
  have hE : ∀ i x, hasB S i = true → st.1[i]? = some x → x.hasE = true := fun i x hS hx => by
    rcases h.send i x hx hS with h1 | ⟨m, h1, h2, _⟩
    · exact h1
    · rw [hno m h1] at h2; cases h2
  have hHE : ∀ i x, hasB S i = true → st.1[i]? = some x → ∀ j, (hasB q j = true ∨ j = i) → Hrd v x.echoes j := fun i x hS hx j hj => by
    have hc : (hasB q j = true ∧ hasB bad j = true) ∨ (hasB S j = true ∧ ∃ y, st.1[j]? = some y ∧ y.hasE = true) := by
      have hSj : hasB S j = true → ∃ y, st.1[j]? = some y ∧ y.hasE = true := fun hS => by
        obtain ⟨y, hy⟩ := hat j hS
        exact ⟨y, hy, hE j y hS hy⟩
      rcases hj with hj | rfl
      · rcases hq j hj with h1 | h1
        · exact .inr ⟨h1, hSj h1⟩
        · exact .inl ⟨hj, h1⟩
      · exact .inr ⟨hS, hSj hS⟩
    rcases h.echo i x hx hS j hc with h1 | ⟨m, h1, _, h3, h4⟩
    · exact h1
    · exact (hnp i j m hS (by rcases hc with hc | hc; exact .inr hc.2; exact .inl hc.1) h1 h3 h4).elim
  have hacc : ∀ (l : List Hea) (i : Nat), (∀ j, (hasB q j = true ∨ j = i) → Hrd v l j) → ∃ t, l = [(v, t)] ∧ accS f t = true := fun l i hl => by
    obtain ⟨t, h1, _⟩ := hl i (.inr rfl)
    refine ⟨t, h1, ?_⟩
    unfold accS
    refine List.any_eq_true.2 ⟨q, hf, (subB_iff _ _).2 fun j hj => ?_⟩
    obtain ⟨t', h2, h3⟩ := hl j (.inl hj)
    rw [h1] at h2
    injection h2 with h2 _
    injection h2 with _ h2
    rw [h2]; exact h3
  have hR : ∀ i x, hasB S i = true → st.1[i]? = some x → x.hasR = true := fun i x hS hx => by
    obtain ⟨t, h1, h2⟩ := hacc x.echoes i (hHE i x hS hx)
    exact (h.nod i x hx hS).rdy t h1 h2
  have hHR : ∀ i x, hasB S i = true → st.1[i]? = some x → ∀ j, (hasB q j = true ∨ j = i) → Hrd v x.readies j := fun i x hS hx j hj => by
    have hc : (hasB q j = true ∧ hasB bad j = true) ∨ (hasB S j = true ∧ ∃ y, st.1[j]? = some y ∧ y.hasR = true) := by
      have hSj : hasB S j = true → ∃ y, st.1[j]? = some y ∧ y.hasR = true := fun hS => by
        obtain ⟨y, hy⟩ := hat j hS
        exact ⟨y, hy, hR j y hS hy⟩
      rcases hj with hj | rfl
      · rcases hq j hj with h1 | h1
        · exact .inr ⟨h1, hSj h1⟩
        · exact .inl ⟨hj, h1⟩
      · exact .inr ⟨hS, hSj hS⟩
    rcases h.redi i x hx hS j hc with h1 | ⟨m, h1, _, h3, h4⟩
    · exact h1
    · exact (hnp i j m hS (by rcases hc with hc | hc; exact .inr hc.2; exact .inl hc.1) h1 h3 h4).elim
  intro i hS
  obtain ⟨x, hx⟩ := hat i hS
  obtain ⟨t, h1, h2⟩ := hacc x.readies i (hHR i x hS hx)
  have hD := (h.nod i x hx hS).dlv t h1 h2
  exact ⟨x, hx, hD, (h.nod i x hx hS).dval hD⟩
/-- a side begins -/
theorem say_start {f : List (BitVec 16)} {bad S q : BitVec 16} {v : ByteArray} {st : StB} {k : Nat} (hfr : ∀ (i : Nat) x, st.1[i]? = some x → hasB S i = true → x = casI i) (hno : ∀ m ∈ st.2, pickQ S bad m = false) (hk : hasB bad k = true) (hSb : ∀ i, hasB S i = true → hasB bad i = false) :
    SayB f bad S q v (st.1, st.2 ++ saysS bad (k : Int) (S, q, v)) := by
  have hsay : ∀ (kd : Int) (j i : Nat), hasB S i = true → (⟨kd, j, i, v⟩ : MsgT) ∈ sayL S v kd (j : Int) := fun kd j i hS => List.mem_map.2 ⟨i, mem_memS.2 hS, rfl⟩
  have hval : ∀ m ∈ saysS bad (k : Int) (S, q, v), m.value = v := fun m hm => by
    unfold saysS at hm
    have h1 : ∀ kd src, m ∈ sayL S v kd src → m.value = v := fun kd src h => by
      obtain ⟨t, _, rfl⟩ := List.mem_map.1 h; rfl
    rcases List.mem_append.1 hm with hm | hm
    · rcases List.mem_append.1 hm with hm | hm
      · exact h1 _ _ hm
      · obtain ⟨i, _, hm⟩ := List.mem_flatMap.1 hm
        exact h1 _ _ hm
    · obtain ⟨i, _, hm⟩ := List.mem_flatMap.1 hm
      exact h1 _ _ hm
  have hj : ∀ j, hasB q j = true ∧ hasB bad j = true → j ∈ memS (q &&& bad) := fun j hj => mem_memS.2 (by rw [hasB_and, hj.1, hj.2]; rfl)
  refine ⟨fun m hm hp => ?_, fun i x hx hS => ?_, fun i x hx hS => ?_, fun i x hx hS j hj' => ?_, fun i x hx hS j hj' => ?_⟩
  · rcases List.mem_append.1 hm with hm | hm
    · rw [hno m hm] at hp; cases hp
    · exact hval m hm
  · rw [hfr i x hx hS]
    exact ⟨.inl rfl, .inl rfl, fun t h => (by cases h), fun t h => (by cases h), fun h => (by cases h)⟩
  · refine .inr ⟨⟨1, k, i, v⟩, List.mem_append_right _ ?_, ?_, rfl, rfl⟩
    · unfold saysS
      exact List.mem_append_left _ (List.mem_append_left _ (hsay 1 k i hS))
    · unfold pickQ
      rw [Int.toNat_natCast, Int.toNat_natCast, hS, hasB_or, hk]; simp
  · rcases hj' with hj' | ⟨hj', y, hy, hyE⟩
    · refine .inr ⟨⟨2, j, i, v⟩, List.mem_append_right _ ?_, rfl, rfl, rfl⟩
      unfold saysS
      exact List.mem_append_left _ (List.mem_append_right _ (List.mem_flatMap.2 ⟨j, hj j hj', hsay 2 j i hS⟩))
    · rw [hfr j y hy hj'] at hyE; cases hyE
  · rcases hj' with hj' | ⟨hj', y, hy, hyE⟩
    · refine .inr ⟨⟨3, j, i, v⟩, List.mem_append_right _ ?_, rfl, rfl, rfl⟩
      unfold saysS
      exact List.mem_append_right _ (List.mem_flatMap.2 ⟨j, hj j hj', hsay 3 j i hS⟩)
    · rw [hfr j y hy hj'] at hyE; cases hyE
/-- what a side leaves alone -/
structure FarB (bad S' : BitVec 16) (xs : List CasT) (st : StB) : Prop where
  nod : ∀ i, hasB S' i = true → st.1[i]? = xs[i]?
  msg : ∀ m ∈ st.2, pickQ S' bad m = false
theorem far_step {f b : List (BitVec 16)} {n K : Nat} {bad S S' : BitVec 16} {xs : List CasT} {st : StB} {k : Nat} {c : MsgT} (hSb : ∀ i, hasB S i = true → hasB bad i = false) (hSS : ∀ i, hasB S i = true → hasB S' i = false) (hi : InvB n K st) (h : FarB bad S' xs st) (hc : st.2[k]? = some c) (hp : pickQ S bad c = true) : FarB bad S' xs (delS f b n bad st.1 st.2 k) := by
  obtain ⟨s, d, hs, hd, hs2, hd2⟩ := hi.msg c (List.mem_of_getElem? hc)
  obtain ⟨x, hx⟩ : ∃ x, st.1[d]? = some x := ⟨_, List.getElem?_eq_getElem (by rw [hi.len]; exact hd2)⟩
  rw [del_eq hc hd hx]
  have hSd : hasB S d = true := by
    unfold pickQ at hp
    rw [Bool.and_eq_true, hd, Int.toNat_natCast] at hp
    exact hp.1
  obtain ⟨_, _, _, _, h5⟩ := hand_cost f b x c.src c.kind c.value
  obtain ⟨⟨x', out⟩, hH⟩ : ∃ r, handleS f b x c.src c.kind c.value = r := ⟨_, rfl⟩
  rw [hH] at h5 ⊢
  simp only at h5 ⊢
  refine ⟨fun i hS => ?_, fun m hm => ?_⟩
  · have hne : d ≠ i := fun e => by rw [e] at hSd; rw [hSS i hSd] at hS; cases hS
    simp only
    rw [List.getElem?_set_ne hne]
    exact h.nod i hS
  · rcases fold_memQ bad n out _ m hm with h6 | ⟨o, h6, h7⟩
    · exact h.msg m (List.mem_of_mem_eraseIdx h6)
    · unfold allK at h7
      obtain ⟨i, h8, rfl⟩ := List.mem_map.1 h7
      unfold pickQ
      simp only
      rw [h5 o h6, hi.id d x hx]
      simp only [Int.toNat_natCast]
      rw [hasB_or, hSS d hSd, hSb d hSd]
      simp
/-- a side has run: its nodes have delivered its value -/
theorem side_run {f b : List (BitVec 16)} {n K : Nat} {bad S q : BitVec 16} {v : ByteArray} {st : StB} {k : Nat} (hn : n ≤ 8) (hK : InvB n K st) (hfr : ∀ (i : Nat) x, st.1[i]? = some x → hasB S i = true → x = casI i) (hno : ∀ m ∈ st.2, pickQ S bad m = false) (hk : hasB bad k = true) (hb : ∀ i, hasB bad i = true → i < n) (hSb : ∀ i, hasB S i = true → hasB bad i = false) (hSn : ∀ i, hasB S i = true → i < n) (hq : ∀ i, hasB q i = true → hasB S i = true ∨ hasB bad i = true) (hf : q ∈ f) :
    InvB n (K + 136) (sideS f b n bad (k : Int) (S, q, v) st) ∧ (∀ i, hasB S i = true → ∃ x, (sideS f b n bad (k : Int) (S, q, v) st).1[i]? = some x ∧ x.hasD = true ∧ x.delivered = v) ∧ ∀ (S' : BitVec 16), (∀ i, hasB S i = true → hasB S' i = false) → (∀ m ∈ st.2, pickQ S' bad m = false) → FarB bad S' st.1 (sideS f b n bad (k : Int) (S, q, v) st) := by
  have hI : InvB n (K + 136) (st.1, st.2 ++ saysS bad (k : Int) (S, q, v)) := add_inv hK (says_mem (s := (S, q, v)) (hb k hk) hSn hb) (says_len hn hSn hb)
  have h0 := say_start (f := f) (q := q) (v := v) hfr hno hk hSb
  unfold sideS
  have hI2 := goS_inv (f := f) (b := b) (bad := bad) (sn := S) (by omega) (muS (st.1, st.2 ++ saysS bad (k : Int) (S, q, v))) hI
  refine ⟨hI2, ?_, fun S' hSS hno' => ?_⟩
  · refine say_end hI2 (goS_ind (K := K + 136) (by omega) (P := SayB f bad S q v) (fun st k c hi h hc hp => say_step (by omega) hSb hSn hi h hc hp) _ _ hI h0) (goS_done (by omega) _ _ hI (Nat.le_refl _)) hq hf hSn
  · refine goS_ind (K := K + 136) (by omega) (P := FarB bad S' st.1) (fun st k c hi h hc hp => far_step hSb hSS hi h hc hp) _ _ hI ⟨fun _ _ => rfl, fun m hm => ?_⟩
    rcases List.mem_append.1 hm with hm | hm
    · exact hno' m hm
    · have h1 : ∀ kd src, m ∈ sayL S v kd src → pickQ S' bad m = false := fun kd src h => by
        obtain ⟨t, ht, rfl⟩ := List.mem_map.1 h
        unfold pickQ
        simp only
        rw [Int.toNat_natCast, hSS t (mem_memS.1 ht)]; rfl
      unfold saysS at hm
      rcases List.mem_append.1 hm with hm | hm
      · rcases List.mem_append.1 hm with hm | hm
        · exact h1 _ _ hm
        · obtain ⟨i, _, hm⟩ := List.mem_flatMap.1 hm
          exact h1 _ _ hm
      · obtain ⟨i, _, hm⟩ := List.mem_flatMap.1 hm
        exact h1 _ _ hm
/-- what is needed of the two sides of a split -/
structure SidesB (n : Nat) (f : List (BitVec 16)) (bad : BitVec 16) (a b : SideT) : Prop where
  fa : a.2.1 ∈ f
  fb : b.2.1 ∈ f
  qa : ∀ i, hasB a.2.1 i = true → hasB a.1 i = true ∨ hasB bad i = true
  qb : ∀ i, hasB b.2.1 i = true → hasB b.1 i = true ∨ hasB bad i = true
  na : ∃ i, hasB a.1 i = true
  nb : ∃ i, hasB b.1 i = true
  ba : ∀ i, hasB a.1 i = true → hasB bad i = false
  bb : ∀ i, hasB b.1 i = true → hasB bad i = false
  ab : ∀ i, hasB a.1 i = true → hasB b.1 i = false
  va : a.2.2 = firstV
  vb : b.2.2 = secondV
theorem ne_has {x : BitVec 16} (h : x ≠ 0#16) : ∃ i, hasB x i = true := by
  obtain ⟨k, _, _, h3, _⟩ := memS_step x h
  exact ⟨k, h3⟩
theorem not_has {x y : BitVec 16} {i : Nat} : hasB (x &&& ~~~y) i = true ↔ hasB x i = true ∧ hasB y i = false := by
  rw [hasB_and, Bool.and_eq_true]
  constructor
  · rintro ⟨h1, h2⟩
    rw [hasB_notQ _ _ (hasB_lt h1)] at h2
    exact ⟨h1, by simpa using h2⟩
  · rintro ⟨h1, h2⟩
    rw [hasB_notQ _ _ (hasB_lt h1), h2]
    exact ⟨h1, rfl⟩
theorem sides_of {f : List (BitVec 16)} {n : Nat} (hn : n ≤ 8) {q p bad : BitVec 16} (h : SplB n q p bad) (hq : q ∈ f) (hp : p ∈ f) : SidesB n f bad (sidesS n q p bad).1 (sidesS n q p bad).2 := by
  unfold sidesS
  split
  · rename_i hor
    have h2 := h.two hor
    obtain ⟨L, hL⟩ : ∃ L, memS ((bitS n - 1#16) &&& ~~~bad) = L := ⟨_, rfl⟩
    have hm : ∀ i, i ∈ L ↔ i < n ∧ hasB bad i = false := fun i => by rw [← hL]; exact rest_has hn bad
    have hnd : L.Nodup := by rw [← hL]; exact (memS_sorted _).imp fun h => Nat.ne_of_lt h
    rw [hL] at h2 ⊢
    match L, h2, hm, hnd with
    | x :: y :: l, _, hm, hnd =>
      have hx := (hm x).1 List.mem_cons_self
      have hy := (hm y).1 (List.mem_cons_of_mem _ List.mem_cons_self)
      have hxy : x ≠ y := fun e => by rw [List.nodup_cons] at hnd; exact hnd.1 (by rw [e]; exact List.mem_cons_self)
      have hbx : ∀ i, hasB (bitS x) i = true ↔ i = x := fun i => by rw [hasB_bit _ _ (by omega)]; simp
      have hby : ∀ i, hasB (bitS y) i = true ↔ i = y := fun i => by rw [hasB_bit _ _ (by omega)]; simp
      have hQf : (if q &&& ~~~bad = 0#16 then q else p) ∈ f := by split <;> assumption
      have hQb : ∀ i, hasB (if q &&& ~~~bad = 0#16 then q else p) i = true → hasB bad i = true := fun i hi => by
        have hz : (if q &&& ~~~bad = 0#16 then q else p) &&& ~~~bad = 0#16 := by
          split
          · rename_i h5; exact h5
          · rename_i h5
            rcases hor with h6 | h6
            · exact absurd h6 h5
            · exact h6
        cases hbi : hasB bad i
        · have := not_has.2 ⟨hi, hbi⟩
          rw [hz, hasB_zero] at this; cases this
        · rfl
      refine ⟨hQf, hQf, fun i hi => .inr (hQb i hi), fun i hi => .inr (hQb i hi), ⟨x, (hbx x).2 rfl⟩, ⟨y, (hby y).2 rfl⟩, fun i hi => ?_, fun i hi => ?_, fun i hi => ?_, rfl, rfl⟩
      · rw [(hbx i).1 hi]; exact hx.2
      · rw [(hby i).1 hi]; exact hy.2
      · rw [(hbx i).1 hi]
        show hasB (bitS y) x = false
        cases hc : hasB (bitS y) x
        · rfl
        · exact absurd ((hby x).1 hc) hxy
  · rename_i hor
    have h1 : q &&& ~~~bad ≠ 0#16 := fun e => hor (.inl e)
    have h2 : p &&& ~~~bad ≠ 0#16 := fun e => hor (.inr e)
    have hs : ∀ (z : BitVec 16) i, hasB z i = true → hasB (z &&& ~~~bad) i = true ∨ hasB bad i = true := fun z i hi => by
      cases hb : hasB bad i
      · exact .inl (not_has.2 ⟨hi, hb⟩)
      · exact .inr rfl
    refine ⟨hq, hp, hs q, hs p, ne_has h1, ne_has h2, fun i hi => (not_has.1 hi).2, fun i hi => (not_has.1 hi).2, fun i hi => ?_, rfl, rfl⟩
    obtain ⟨h3, h4⟩ := not_has.1 hi
    cases hc : hasB (p &&& ~~~bad) i
    · rfl
    · rw [h.in_ i h3 (not_has.1 hc).1] at h4; cases h4
/-- by the attack on a split, two values are delivered -/
theorem att_two {f b : List (BitVec 16)} {n : Nat} (hn : n ≤ 8) {q p bad : BitVec 16} (h : SplB n q p bad) (hq : q ∈ f) (hp : p ∈ f) : ∀ v, (v = firstV ∨ v = secondV) → ∃ x ∈ (attB f b n q p bad).1, hasB bad x.id.toNat = false ∧ x.hasD = true ∧ x.delivered = v := by
  have hS := sides_of hn h hq hp
  have hkb : hasB bad ((memS bad).headD 0) = true := by
    obtain ⟨k, _, _, h3, h4⟩ := memS_step bad h.ne
    rw [h4]; exact h3
  have hlA := sideK_lt hn h 0
  have hlB := sideK_lt hn h 1
  simp only [sideK, if_pos, if_neg (show ¬ (1 = 0) by decide)] at hlA hlB
  unfold attB
  obtain ⟨⟨SA, qA, vA⟩, hA⟩ : ∃ a, (sidesS n q p bad).1 = a := ⟨_, rfl⟩
  obtain ⟨⟨SB, qB, vB⟩, hB⟩ : ∃ a, (sidesS n q p bad).2 = a := ⟨_, rfl⟩
  rw [hA, hB] at hS ⊢
  rw [hA] at hlA
  rw [hB] at hlB
  obtain ⟨s1, s2, s3, s4, s5, s6, s7, s8, s9, rfl, rfl⟩ := hS
  simp only at s1 s2 s3 s4 s5 s6 s7 s8 s9 hlA hlB ⊢
  have hcas : ∀ (i : Nat) x, ((List.range n).map casI)[i]? = some x → x = casI i := fun i x hx => by
    rw [List.getElem?_map] at hx
    rcases hr : (List.range n)[i]? with _ | j
    · rw [hr] at hx; cases hx
    · rw [hr] at hx; cases hx
      obtain ⟨h1, h2⟩ := List.getElem?_eq_some_iff.1 hr
      rw [List.getElem_range] at h2
      rw [h2]
  obtain ⟨a1, a2, a3⟩ := side_run (f := f) (b := b) (v := firstV) (st := ((List.range n).map casI, [])) hn (init_inv n hn) (fun i x hx _ => hcas i x hx) (fun m hm => by cases hm) hkb h.bl s7 hlA s3 s1
  have a4 := a3 SB s9 (fun m hm => by cases hm)
  obtain ⟨st, hst⟩ : ∃ st, sideS f b n bad (((memS bad).headD 0 : Nat) : Int) (SA, qA, firstV) ((List.range n).map casI, []) = st := ⟨_, rfl⟩
  rw [hst] at a1 a2 a4 ⊢
  obtain ⟨b1, b2, b3⟩ := side_run (f := f) (b := b) (v := secondV) (st := st) hn a1 (fun i x hx hi => hcas i x (by rw [← a4.nod i hi]; exact hx)) a4.msg hkb h.bl s8 hlB s4 s2
  have hgo : ∀ i, hasB SA i = true → ∀ (sd : SideT), ∀ t st', InvB n (208 + 136 + 136) st' → (∀ i, hasB SA i = true → st'.1[i]? = st.1[i]?) → (goS f b n bad SB t st').1[i]? = st.1[i]? := fun i hi sd t st' hI hfr => by
    refine goS_ind (K := 208 + 136 + 136) (n := n) (by omega) (P := fun st' => ∀ i, hasB SA i = true → st'.1[i]? = st.1[i]?) (fun st' k c hI h hc hp i hi => ?_) t st' hI hfr i hi
    obtain ⟨s, d, hs, hd, hs2, hd2⟩ := hI.msg c (List.mem_of_getElem? hc)
    obtain ⟨x, hx⟩ : ∃ x, st'.1[d]? = some x := ⟨_, List.getElem?_eq_getElem (by rw [hI.len]; exact hd2)⟩
    rw [del_eq hc hd hx]
    have hSd : hasB SB d = true := by
      unfold pickQ at hp
      rw [Bool.and_eq_true, hd, Int.toNat_natCast] at hp
      exact hp.1
    have hne : d ≠ i := fun e => by rw [e] at hSd; rw [s9 i hi] at hSd; cases hSd
    simp only
    rw [List.getElem?_set_ne hne]
    exact h i hi
  have hid := b1.id
  rintro v (rfl | rfl)
  · obtain ⟨i, hi⟩ := s5
    obtain ⟨x, h1, h2, h3⟩ := a2 i hi
    have h4 : (sideS f b n bad (((memS bad).headD 0 : Nat) : Int) (SB, qB, secondV) st).1[i]? = st.1[i]? := by
      unfold sideS
      exact hgo i hi (SB, qB, secondV) _ _ (add_inv a1 (says_mem (s := (SB, qB, secondV)) (h.bl _ hkb) hlB h.bl) (says_len hn hlB h.bl)) (fun _ _ => rfl)
    rw [← h4] at h1
    exact ⟨x, List.mem_of_getElem? h1, by rw [hid i x h1, Int.toNat_natCast]; exact s7 i hi, h2, h3⟩
  · obtain ⟨i, hi⟩ := s6
    obtain ⟨x, h1, h2, h3⟩ := b2 i hi
    exact ⟨x, List.mem_of_getElem? h1, by rw [hid i x h1, Int.toNat_natCast]; exact s8 i hi, h2, h3⟩
theorem att_law {f b : List (BitVec 16)} {n : Nat} (hn : n ≤ 8) {q p bad : BitVec 16} (h : SplB n q p bad) (hq : q ∈ f) (hp : p ∈ f) : conS (dlvX bad (attB f b n q p bad).1) = false ∧ 2 ≤ (dlvX bad (attB f b n q p bad).1).length := by
  have hm : ∀ v, (v = firstV ∨ v = secondV) → v ∈ dlvX bad (attB f b n q p bad).1 := fun v hv => by
    obtain ⟨x, h1, h2, h3, h4⟩ := att_two (f := f) (b := b) hn h hq hp v hv
    unfold dlvX
    exact List.mem_map.2 ⟨x, List.mem_filter.2 ⟨List.mem_filter.2 ⟨h1, by rw [h2]; rfl⟩, h3⟩, h4⟩
  have hne : firstV.toList ≠ secondV.toList := by decide +kernel
  have h1 := hm firstV (.inl rfl)
  have h2 := hm secondV (.inr rfl)
  generalize dlvX bad (attB f b n q p bad).1 = L at h1 h2
  match L, h1, h2 with
  | [a], h1, h2 =>
    rw [List.mem_singleton] at h1 h2
    exact absurd (by rw [h1, h2]) hne
  | a :: c :: l, h1, h2 =>
    refine ⟨?_, by simp⟩
    unfold conS
    rw [Bool.not_eq_false', List.any_eq_true]
    by_cases ha : firstV.toList = a.toList
    · refine ⟨secondV, h2, ?_⟩
      unfold othB
      rw [Bool.not_eq_true', beq_eq_false_iff_ne]
      exact fun e => hne (ha.trans e.symm)
    · refine ⟨firstV, h1, ?_⟩
      unfold othB
      rw [Bool.not_eq_true', beq_eq_false_iff_ne]
      exact ha
end Go.Proofs.YtmjgdnpfgkpaoaaGreatDoor
namespace Go.Proofs.YtmjgdnpfgkpaoaaGreatDoor
open Go.RowKit Go.Shelf

/-- a violation: two sets whose common part may be Byzantine -/
def disB (b : List (BitVec 16)) (q p : BitVec 16) : Bool := b.any fun d => q &&& p &&& ~~~d == 0#16
def disA (b : List (BitVec 16)) (q : BitVec 16) (l : List (BitVec 16)) : Bool := l.any (disB b q)
def disF (b : List (BitVec 16)) : List (BitVec 16) → Bool
  | [] => false
  | q :: l => disA b q (q :: l) || disF b l
theorem anyD_step {α : Type} {p : α → Bool} {l : List α} {k : Nat} {x : α} (h : l[k]? = some x) (hp : p x = false) : (l.drop k).any p = (l.drop (k + 1)).any p := by
  rw [drop_at h, List.any_cons, hp, Bool.false_or]
theorem anyD_hit {α : Type} {p : α → Bool} {l : List α} {k : Nat} {x : α} (h : l[k]? = some x) (hp : p x = true) : (l.drop k).any p = true := by
  rw [drop_at h, List.any_cons, hp, Bool.true_or]
theorem disF_step {b g : List (BitVec 16)} {q : BitVec 16} {k : Nat} (h : g[k]? = some q) (hd : disA b q (g.drop k) = false) : disF b (g.drop k) = disF b (g.drop (k + 1)) := by
  rw [drop_at h] at hd ⊢; rw [disF, hd, Bool.false_or]
theorem disF_hit {b g : List (BitVec 16)} {q : BitVec 16} {k : Nat} (h : g[k]? = some q) (hd : disA b q (g.drop k) = true) : disF b (g.drop k) = true := by
  rw [drop_at h] at hd ⊢; rw [disF, hd, Bool.true_or]

def BadR (b f : List (BitVec 16)) (e : Ending) : Prop := ∃ v1 v2 v3 : Value, e = .returned (.tuple #[v1, v2, v3, .int .i64 (if disF b f = true then 0 else 13)])
set_option maxRecDepth 100000 in
set_option maxHeartbeats 4000000 in
theorem badDis_c (f b : List (BitVec 16)) (a : Option Addr) (n c : Nat) (a2 : Option Addr) (n2 c2 : Nat) (w : World) (h : Rd w a n c (f.map setV2)) (h2 : Rd w a2 n2 c2 (b.map setV2)) :
    Calls Tryz.prog 40 #[.slice a n c, .slice a2 n2 c2] w fun e w' => BadR b f e ∧ Below w.heap.size w w' := by
  have hnl : f.length = n := by have := h.len; simp at this; omega
  have hnl2 : b.length = n2 := by have := h2.len; simp at this; omega
  have hm := h.max
  have hle := h.le
  have hm2 := h2.max
  have hle2 := h2.le
  unfold maxLen at hm hm2
  have HR := Lib.hid h
  have HR2 := Lib.hid h2
  have HN := Lib.hid hnl
  have HN2 := Lib.hid hnl2
  clear h h2 hnl hnl2
  go_enter Tryz.func40, Tryz.ntmps40
  go_wp2_with fail
  go_loopw [16] (fun i wr => ∃ k : Nat, k ≤ n ∧ i = .int .i64 k ∧ Hid (disF b f = disF b (f.drop k)) ∧ Below w.heap.size w wr) (fun i _ => n - (intOf i).toNat)
  case atStart => exact ⟨0, Nat.zero_le _, rfl, rfl, Below.refl _ _⟩
  case round =>
    obtain ⟨k, hk, rfl, hE, hb⟩ := hrel
    by_cases hlt : k < n
    · obtain ⟨q, hq⟩ : ∃ q, f[k]? = some q := ⟨_, List.getElem?_eq_getElem (by have := HN.out; omega)⟩
      obtain ⟨B, o, ha, hcell⟩ := (HR.out.below hb).at' (by omega)
      have hc := hcell k (setV2 q) (by rw [List.getElem?_map, hq]; rfl)
      unfold setV2 at hc
      have HQ := Lib.hid hq
      subst ha
      clear hcell hq
      go_wp2_with fail
      go_loopw [25] (fun i wr => ∃ j : Nat, k + j ≤ n ∧ i = .int .i64 j ∧ Hid (disA b q (f.drop k) = disA b q (f.drop (k + j))) ∧ Below w.heap.size w wr) (fun i _ => n - (intOf i).toNat)
      case atStart => exact ⟨0, by omega, rfl, rfl, hb⟩
      case round =>
        clear hb hc
        obtain ⟨j, hj, rfl, hA, hb⟩ := hrel
        by_cases hlt2 : k + j < n
        · obtain ⟨p, hp⟩ : ∃ p, f[k + j]? = some p := ⟨_, List.getElem?_eq_getElem (by have := HN.out; omega)⟩
          obtain ⟨B', o', ha, hcell⟩ := (HR.out.below hb).at' (by omega)
          have hc := hcell (k + j) (setV2 p) (by rw [List.getElem?_map, hp]; rfl)
          unfold setV2 at hc
          rw [← Nat.add_assoc] at hc
          cases ha
          have HP := Lib.hid hp
          have hjj : j < n - k := by omega
          clear hcell hp
          go_wp2_with fail
          go_loopw [31] (fun i wr => ∃ u : Nat, u ≤ n2 ∧ i = .int .i64 u ∧ Hid (disB b q p = (b.drop u).any fun d => q &&& p &&& ~~~d == 0#16) ∧ Below w.heap.size w wr) (fun i _ => n2 - (intOf i).toNat)
          case atStart => exact ⟨0, by omega, rfl, rfl, hb⟩
          case round =>
            clear hb hc
            obtain ⟨u, hu, rfl, hD, hb⟩ := hrel
            by_cases hlt3 : u < n2
            · obtain ⟨d, hd⟩ : ∃ d, b[u]? = some d := ⟨_, List.getElem?_eq_getElem (by have := HN2.out; omega)⟩
              obtain ⟨B2, o2, ha, hcell⟩ := (HR2.out.below hb).at' (by omega)
              have hc := hcell u (setV2 d) (by rw [List.getElem?_map, hd]; rfl)
              unfold setV2 at hc
              subst ha
              have HDD := Lib.hid hd
              clear hcell hd
              have hand := bv16_and q p
              cases h1 : (q &&& p &&& ~~~d == 0#16)
              · have hN : Hid (disB b q p = (b.drop (u + 1)).any fun d => q &&& p &&& ~~~d == 0#16) := Lib.hid (by rw [hD.out]; exact anyD_step HDD.out h1)
                go_wp2_with fail
                go_roundw
                case rel => exact ⟨u + 1, by omega, by go_num, hN, hb⟩
                case measure => simp [intOf]; omega
              · have hY : Hid (disF b f = true) := Lib.hid (by
                  rw [hE.out]
                  refine disF_hit HQ.out ?_
                  rw [hA.out]
                  refine anyD_hit HP.out ?_
                  rw [hD.out]
                  exact anyD_hit HDD.out h1)
                go_wp2_with fail
                exact bodyPost_ret (v := .tuple #[.int .u16 (U q), .int .u16 (U p), .int .u16 (U d), .int .i64 0]) (by simp [results, Tryz.results40, go_sem]) rfl ⟨⟨_, _, _, by rw [hY.out]; rfl⟩, hb⟩
            · have hX : Hid (disB b q p = false) := Lib.hid (by rw [hD.out, List.drop_eq_nil_of_le (by have := HN2.out; omega)]; rfl)
              have hN : Hid (disA b q (f.drop k) = disA b q (f.drop (k + (j + 1)))) := Lib.hid (by rw [hA.out]; exact anyD_step HP.out hX.out)
              clear hD hX
              go_wp2_with fail
              go_roundw
              case rel => exact ⟨j + 1, by omega, by go_num, hN, hb⟩
              case measure => simp [intOf]; omega
        · have hX : Hid (disA b q (f.drop k) = false) := Lib.hid (by rw [hA.out, List.drop_eq_nil_of_le (by have := HN.out; omega)]; rfl)
          have hN : Hid (disF b f = disF b (f.drop (k + 1))) := Lib.hid (by rw [hE.out]; exact disF_step HQ.out hX.out)
          clear hA hX
          have hjj : ¬ j < n - k := by omega
          go_wp2_with fail
          go_roundw
          case rel => exact ⟨k + 1, by omega, by go_num, hN, hb⟩
          case measure => simp [intOf]; omega
    · have hX : Hid (disF b f = false) := Lib.hid (by rw [hE.out, List.drop_eq_nil_of_le (by have := HN.out; omega)]; rfl)
      clear hE
      go_wp2_with fail
      exact bodyPost_ret (v := .tuple #[.int .u16 0, .int .u16 0, .int .u16 0, .int .i64 13]) (by simp [results, Tryz.results40, go_sem]) rfl ⟨⟨_, _, _, by rw [hX.out]; rfl⟩, hb⟩
set_option maxRecDepth 100000 in
set_option maxHeartbeats 1000000 in
theorem dissem_c (f b : List (BitVec 16)) (a : Option Addr) (n c : Nat) (a2 : Option Addr) (n2 c2 : Nat) (w : World) (h : Rd w a n c (f.map setV2)) (h2 : Rd w a2 n2 c2 (b.map setV2)) :
    Calls Tryz.prog 10 #[.slice a n c, .slice a2 n2 c2] w fun e w' => e = .returned (.bool (!disF b f)) ∧ Below w.heap.size w w' := by
  have HC := Lib.hid (badDis_c f b a n c a2 n2 c2 w h h2)
  clear h h2
  cases hd : disF b f
  all_goals
    unfold BadR at HC
    rw [hd] at HC
    clear hd
    go_enter Tryz.func10, Tryz.ntmps10
    go_wp2_with fail
    refine HC.out.mono ?_
    rintro e w1 ⟨⟨v1, v2, v3, rfl⟩, b1⟩
    go_wp2_with fail
    go_ret
    exact ⟨rfl, b1⟩
theorem dis_none {b : List (BitVec 16)} (n : Int) : ∀ {f : List (BitVec 16)}, disF b f = false → spF n b f = none
  | [], _ => rfl
  | q :: l, h => by
    rw [disF, Bool.or_eq_false_iff] at h
    have hA : spA n b q (q :: l) = none := by
      cases hs : spA n b q (q :: l) with
      | none => rfl
      | some r =>
        obtain ⟨p, hp, d, hd, hs2, _⟩ := spA_spec hs
        unfold spD at hs2
        simp only [Bool.and_eq_true, Bool.not_eq_true', Bool.or_eq_false_iff, beq_eq_false_iff_ne, Bool.and_eq_false_iff, bne_eq_false_iff_eq, decide_eq_false_iff_not] at hs2
        have : disA b q (q :: l) = true := List.any_eq_true.2 ⟨p, hp, List.any_eq_true.2 ⟨d, hd, beq_iff_eq.2 hs2.1.2⟩⟩
        rw [h.1] at this; cases this
    rw [spF, hA]
    exact dis_none n h.2
end Go.Proofs.YtmjgdnpfgkpaoaaGreatDoor
namespace Go.Proofs.YtmjgdnpfgkpaoaaGreatDoor
open Go.RowKit Go.Shelf

set_option maxRecDepth 100000 in
set_option maxHeartbeats 4000000 in
theorem topSplit_w (v : Value) (F B : List (BitVec 16)) (nn sz : Int) (w : World) (ht : HasTab w) (w0 : IsC39 w v F B nn sz) :
    Calls Tryz.prog 3 #[v] w fun e w' => e = .returned (.bool true) ∧ Below w.heap.size w w' := by
  obtain ⟨⟨so, bz, a, n, c, a2, n2, c2, rfl, hF, hB, hso, hbz⟩, hnn, hsz⟩ := w0
  obtain ⟨W, hW⟩ : ∃ W, W = w.alloc (.cells #[.int .u8 nn, .int .u8 sz, .int .u8 so, .slice a n c, .slice a2 n2 c2, .int .u8 bz] 24) := ⟨_, rfl⟩
  have hbW : Below w.heap.size w W := by rw [hW]; exact (Below.refl _ w).alloc (Nat.le_refl _) _
  have hX : W.heap[w.heap.size]? = some (.cells #[.int .u8 nn, .int .u8 sz, .int .u8 so, .slice a n c, .slice a2 n2 c2, .int .u8 bz] 24 (0, 0)) := by rw [hW]; exact heap_alloc_new _ _
  have HMD := Lib.hid (made39_c _ F B nn sz W ⟨⟨so, bz, a, n, c, a2, n2, c2, rfl, hF.below hbW, hB.below hbW, hso, hbz⟩, hnn, hsz⟩)
  have x0 := cell_of_row _ _ 0 _ _ _ hX
  have x1 := cell_of_row _ _ 1 _ _ _ hX
  have x2 := cell_of_row _ _ 2 _ _ _ hX
  have x3 := cell_of_row _ _ 3 _ _ _ hX
  have x4 := cell_of_row _ _ 4 _ _ _ hX
  have x5 := cell_of_row _ _ 5 _ _ _ hX
  have HBW := Lib.hid hbW
  have HT1 := Lib.hid (ht.below hbW)
  have HA := Lib.hid (fun w h => awake39_c w h)
  clear ht hF hB hso hbz hnn hsz hbW hX
  go_enter Tryz.func3, Tryz.ntmps3
  go_upto_region 1 with fail
  rw [← hW]
  clear hW
  go_wp2_with fail
  refine HMD.out.mono ?_
  rintro e w1 ⟨m, f, b, af, cf, ab, cb, v4, v5, hm2, hm5, hch, hfl, hbl, rfl, rf, rb, c1⟩
  have c2 := Below.next HBW.out c1
  have R1 := Lib.hid rf
  have R2 := Lib.hid rb
  have HTa := Lib.hid (HT1.out.below c1)
  obtain ⟨nf, hnf⟩ : ∃ nf, f.length = nf := ⟨_, rfl⟩
  obtain ⟨nb, hnb⟩ : ∃ nb, b.length = nb := ⟨_, rfl⟩
  rw [hnf] at R1 hfl ⊢
  rw [hnb] at R2 hbl ⊢
  have HCS := Lib.hid (fun l a n c w h hb => clones_c l a n c w h hb)
  have HDS := Lib.hid (fun a n c a2 n2 c2 w h h2 => dissem_c f b a n c a2 n2 c2 w h h2)
  clear rf rb c1 HMD HBW HT1 x0 x1 x2 x3 x4 x5 hnf hnb
  cases hsp : spF m b f with
  | none =>
    have HAT := Lib.hid (fun a n c a2 n2 c2 w h h2 => attack_none f b m a n c a2 n2 c2 w h h2 (by omega) (by omega) hch hsp)
    unfold zCasting at HAT
    obtain ⟨dd, hdd⟩ : ∃ dd, (!disF b f) = dd := ⟨_, rfl⟩
    rw [hdd] at HDS
    clear hdd hsp hch
    cases dd
    all_goals
      go_wp2_with fail
      refine (HA.out w1 HTa.out).mono ?_
      rintro e wva1 ⟨rfl, ha1⟩
      have bva1 := Below.next c2 ha1
      have R1_a1 := Lib.hid (R1.out.below ha1)
      have R2_a1 := Lib.hid (R2.out.below ha1)
      clear ha1
      go_wp2_with fail
      refine (HCS.out f af nf cf wva1 R1_a1.out (by omega)).mono ?_
      rintro e wva2 ⟨a5, e5, rfl, rR5, ha2⟩
      have bva2 := Below.next bva1 ha2
      have R1_a2 := Lib.hid (R1_a1.out.below ha2)
      have R2_a2 := Lib.hid (R2_a1.out.below ha2)
      have R5 := Lib.hid rR5
      clear rR5 ha2
      go_wp2_with fail
      refine (HCS.out b ab nb cb wva2 R2_a2.out (by omega)).mono ?_
      rintro e wva3 ⟨a6, e6, rfl, rR6, ha3⟩
      have bva3 := Below.next bva2 ha3
      have R1_a3 := Lib.hid (R1_a2.out.below ha3)
      have R2_a3 := Lib.hid (R2_a2.out.below ha3)
      have R5_a3 := Lib.hid (R5.out.below ha3)
      have R6 := Lib.hid rR6
      clear rR6 ha3
      go_wp2_with fail
      refine (HAT.out a5 nf e5 a6 nb e6 wva3 R5_a3.out R6.out).mono ?_
      rintro e wva4 ⟨rfl, ha4⟩
      have bva4 := Below.next bva3 ha4
      have R1_a4 := Lib.hid (R1_a3.out.below ha4)
      have R2_a4 := Lib.hid (R2_a3.out.below ha4)
      clear ha4
      obtain ⟨wS, hwS⟩ : ∃ wS, wS = (wva4).alloc (.cells #[.int .i64 0, .int .u16 0, .int .i64 0, .slice none 0 0, .slice none 0 0] 34) := ⟨_, rfl⟩
      have hbS : Below (wva4).heap.size wva4 wS := by rw [hwS]; exact (Below.refl _ _).alloc (Nat.le_refl _) _
      have RS1 := Lib.hid (R1_a4.out.below hbS)
      have RS2 := Lib.hid (R2_a4.out.below hbS)
      have BS := Below.next bva4 hbS
      go_upto_region 5 with fail
      rw [← hwS]
      clear hwS hbS
      go_wp2_with fail
      refine (HCS.out f af nf cf wS RS1.out (by omega)).mono ?_
      rintro e wvb1 ⟨a7, e7, rfl, rR7, hb1⟩
      have bvb1 := Below.next BS hb1
      have RS2_b1 := Lib.hid (RS2.out.below hb1)
      have R7 := Lib.hid rR7
      clear rR7 hb1
      go_wp2_with fail
      refine (HCS.out b ab nb cb wvb1 RS2_b1.out (by omega)).mono ?_
      rintro e wvb2 ⟨a8, e8, rfl, rR8, hb2⟩
      have bvb2 := Below.next bvb1 hb2
      have R7_b2 := Lib.hid (R7.out.below hb2)
      have R8 := Lib.hid rR8
      clear rR8 hb2
      go_wp2_with fail
      refine (HDS.out a7 nf e7 a8 nb e8 wvb2 R7_b2.out R8.out).mono ?_
      rintro e wvb3 ⟨rfl, hb3⟩
      have bvb3 := Below.next bvb2 hb3
      clear hb3
      go_wp2_with fail
      go_ret
      exact ⟨rfl, bvb3⟩
  | some r =>
    obtain ⟨q, p, bad⟩ := r
    have hd : disF b f = true := by
      cases hd : disF b f
      · rw [dis_none (m : Int) hd] at hsp; cases hsp
      · rfl
    rw [hd] at HDS
    have hspl := spl_of (by omega) hch hsp
    obtain ⟨q', hq, p', hp, d, _, _, e0⟩ := spF_spec hsp
    cases e0
    have hlaw := att_law (f := f) (b := b) (by omega) hspl hq hp
    have HAT := Lib.hid (fun a n c a2 n2 c2 w ht h h2 => attack_some f b m a n c a2 n2 c2 w ht h h2 (by omega) (by omega) hch q p bad hsp)
    have HIN := Lib.hid (att_inv f b (m := m) (by omega) hspl)
    obtain ⟨X, hX⟩ : ∃ X, (attB f b m q p bad).1 = X := ⟨_, rfl⟩
    unfold AttPost at HAT
    rw [hX] at HAT hlaw
    have HXE := Lib.hid hX
    have HLAW := Lib.hid hlaw
    clear hd hspl hq hp hlaw hsp hch hX
    go_wp2_with fail
    refine (HA.out w1 HTa.out).mono ?_
    rintro e wva1 ⟨rfl, ha1⟩
    have bva1 := Below.next c2 ha1
    have R1_a1 := Lib.hid (R1.out.below ha1)
    have R2_a1 := Lib.hid (R2.out.below ha1)
    have HTa_a1 := Lib.hid (HTa.out.below ha1)
    clear ha1
    go_wp2_with fail
    refine (HCS.out f af nf cf wva1 R1_a1.out (by omega)).mono ?_
    rintro e wva2 ⟨a5, e5, rfl, rR5, ha2⟩
    have bva2 := Below.next bva1 ha2
    have R1_a2 := Lib.hid (R1_a1.out.below ha2)
    have R2_a2 := Lib.hid (R2_a1.out.below ha2)
    have HTa_a2 := Lib.hid (HTa_a1.out.below ha2)
    have R5 := Lib.hid rR5
    clear rR5 ha2
    go_wp2_with fail
    refine (HCS.out b ab nb cb wva2 R2_a2.out (by omega)).mono ?_
    rintro e wva3 ⟨a6, e6, rfl, rR6, ha3⟩
    have bva3 := Below.next bva2 ha3
    have R1_a3 := Lib.hid (R1_a2.out.below ha3)
    have R2_a3 := Lib.hid (R2_a2.out.below ha3)
    have HTa_a3 := Lib.hid (HTa_a2.out.below ha3)
    have R5_a3 := Lib.hid (R5.out.below ha3)
    have R6 := Lib.hid rR6
    clear rR6 ha3
    go_wp2_with fail
    refine (HAT.out a5 nf e5 a6 nb e6 wva3 HTa_a3.out R5_a3.out R6.out).mono ?_
    rintro e wA ⟨vN, vF, ns, rfl, b16, hrow, hns, fa, fn, fc, rfl⟩
    have b17 := Below.next bva3 b16
    have RA1 := Lib.hid (R1_a3.out.below b16)
    have RA2 := Lib.hid (R2_a3.out.below b16)
    obtain ⟨aN, cN, rfl, hrdN⟩ := rdK_of_row hrow
    have hids := init_ids (hns.trans HXE.out.symm) HIN.out.id HIN.out.len (by omega)
    have hlen : ns.length ≤ 1000 := by have := congrArg List.length (hns.trans HXE.out.symm); rw [List.length_map, HIN.out.len] at this; omega
    have hcon : conS (dlvS bad ns) = false := by rw [dlvS_eq, hns]; exact HLAW.out.1
    have hdl : 2 ≤ (dlvS bad ns).length := by rw [dlvS_eq, hns]; exact HLAW.out.2
    obtain ⟨hd, hhd⟩ : ∃ hd : Int, (((memS bad).headD 0 : Nat) : Int) = hd := ⟨_, rfl⟩
    obtain ⟨ln, hln⟩ : ∃ ln, ns.length = ln := ⟨_, rfl⟩
    rw [hhd]
    rw [hln] at hrdN hlen ⊢
    obtain ⟨wB, hwB⟩ : ∃ wB, wB = wA.alloc (.cells #[.int .i64 m, .int .u16 (U bad), .int .i64 hd, .slice aN ln cN, .slice fa fn fc] 34) := ⟨_, rfl⟩
    have bAB : Below wA.heap.size wA wB := by rw [hwB]; exact (Below.refl _ _).alloc (Nat.le_refl _) _
    have gB : wB.heap[wA.heap.size]? = some (.cells #[.int .i64 m, .int .u16 (U bad), .int .i64 hd, .slice aN ln cN, .slice fa fn fc] 34 (0, 0)) := by rw [hwB]; exact heap_alloc_new _ _
    have GB := Lib.hid gB
    have BB := Below.next b17 bAB
    have RB1 := Lib.hid (RA1.out.below bAB)
    have RB2 := Lib.hid (RA2.out.below bAB)
    have RN := Lib.hid (hrdN.below bAB)
    have HIDS := Lib.hid hids
    have HCON := Lib.hid hcon
    clear b16 hrow hns hrdN hids hcon hhd hln b17 bAB gB
    go_upto_region 5 with fail
    rw [← hwB]
    clear hwB
    have bz0 := Below.refl wB.heap.size wB
    go_wp2_with fail
    refine (HCS.out f af nf cf wB RB1.out (by omega)).mono ?_
    rintro e wvb1 ⟨a7, e7, rfl, rR7, hb1⟩
    have bvb1 := Below.next bz0 hb1
    have RB2_b1 := Lib.hid (RB2.out.below hb1)
    have RN_b1 := Lib.hid (RN.out.below hb1)
    have R7 := Lib.hid rR7
    clear rR7 hb1
    go_wp2_with fail
    refine (HCS.out b ab nb cb wvb1 RB2_b1.out (by omega)).mono ?_
    rintro e wvb2 ⟨a8, e8, rfl, rR8, hb2⟩
    have bvb2 := Below.next bvb1 hb2
    have RN_b2 := Lib.hid (RN_b1.out.below hb2)
    have R7_b2 := Lib.hid (R7.out.below hb2)
    have R8 := Lib.hid rR8
    clear rR8 hb2
    go_wp2_with fail
    refine (HDS.out a7 nf e7 a8 nb e8 wvb2 R7_b2.out R8.out).mono ?_
    rintro e wvb3 ⟨rfl, hb3⟩
    have bvb3 := Below.next bvb2 hb3
    have RN_b3 := Lib.hid (RN_b2.out.below hb3)
    clear hb3
    obtain ⟨wC, hwC⟩ : ∃ wC, wvb3 = wC := ⟨_, rfl⟩
    have bC := bvb3
    have RNC := Lib.hid (RN_b3.out)
    rw [hwC] at bC RNC ⊢
    clear hwC
    have GC := Lib.hid (heap_below bC GB.out)
    have BC := Lib.hid (Below.next BB bC)
    have HCN := Lib.hid (consistent_c bad (m : Int) hd aN ln cN (.slice fa fn fc) ⟨_, _, _, rfl⟩ ns HIDS.out wC RNC.out hlen)
    rw [HCON.out] at HCN
    have x0 := cell_of_row _ _ 0 _ _ _ GC.out
    have x1 := cell_of_row _ _ 1 _ _ _ GC.out
    have x2 := cell_of_row _ _ 2 _ _ _ GC.out
    have x3 := cell_of_row _ _ 3 _ _ _ GC.out
    have x4 := cell_of_row _ _ 4 _ _ _ GC.out
    clear bC BB
    go_wp2_with fail
    refine HCN.out.mono ?_
    rintro e wD ⟨rfl, bD⟩
    have GD := Lib.hid (heap_below bD GC.out)
    have BD := Lib.hid (Below.next BC.out bD)
    have HDL := Lib.hid (delivered_c bad (m : Int) hd aN ln cN (.slice fa fn fc) ⟨_, _, _, rfl⟩ ns HIDS.out wD (RNC.out.below bD) hlen)
    obtain ⟨nL, hnL⟩ : ∃ nL, (dlvS bad ns).length = nL := ⟨_, rfl⟩
    rw [hnL] at HDL hdl
    have hnL2 : (2 : Int) ≤ (nL : Int) := by omega
    clear x0 x1 x2 x3 x4 bD GC BC HCN hnL
    have x0 := cell_of_row _ _ 0 _ _ _ GD.out
    have x1 := cell_of_row _ _ 1 _ _ _ GD.out
    have x2 := cell_of_row _ _ 2 _ _ _ GD.out
    have x3 := cell_of_row _ _ 3 _ _ _ GD.out
    have x4 := cell_of_row _ _ 4 _ _ _ GD.out
    go_wp2_with fail
    refine HDL.out.mono ?_
    rintro e wE ⟨v, rfl, hrow, bE⟩
    obtain ⟨aL, cL, rfl, _⟩ := rd_of_row hrow
    have BE := Lib.hid (Below.next BD.out bE)
    clear x0 x1 x2 x3 x4 hrow bE
    go_wp2_with fail
    go_ret
    exact ⟨rfl, BE.out⟩
end Go.Proofs.YtmjgdnpfgkpaoaaGreatDoor
