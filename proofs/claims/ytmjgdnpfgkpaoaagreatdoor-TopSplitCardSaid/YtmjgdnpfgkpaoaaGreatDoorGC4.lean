/- Texts laid together. Package broadcast: contains, within, inside, check, members, split. broadcast.split. Package broadcast: what was heard: IndexFunc, ContainsFunc, Clone of Heard; add, heard. Package broadcast: add, heard. Package broadcast: the state of a node; send and ready inside Handle. -/
import Derived.Test.YtmjgdnpfgkpaoaaGreatDoorGC2
import Derived.Test.YtmjgdnpfgkpaoaaGreatDoorGC3
import Derived.Deep.AppendLies
import Derived.Deep.RegionLaw
namespace Go.Proofs.YtmjgdnpfgkpaoaaGreatDoor
open Go.RowKit Go.Shelf

theorem bcon1_at (w : World) (B : Nat) (s : BitVec 16) (hc : w.cell? ⟨B, 0, none⟩ = some (.int .u16 (U s))) :
    PredAt Tryz.prog 135 #[.pointer (some ⟨B, 0, none⟩)] setV2 (fun x => subB s x) w := fun W x hb => by
  have hc' : W.cell? ⟨B, 0, none⟩ = some (.int .u16 (U s)) := (hb.cell (p := ⟨B, 0, none⟩) (cell_lt hc)).trans hc
  unfold FnGives setV2 subB
  clear hb hc
  go_enter Tryz.func135, Tryz.ntmps135
  go_wp2_with fail
  go_ret
  exact ⟨rfl, 0, rfl⟩
set_option maxRecDepth 100000 in
set_option maxHeartbeats 1000000 in
theorem bcon_c (l : List (BitVec 16)) (s : BitVec 16) (a : Option Addr) (n c : Nat) (w : World) (h : Rd w a n c (l.map setV2)) :
    Calls Tryz.prog 105 #[.int .u16 (U s), .slice a n c] w fun e w' => e = .returned (.bool (accS l s)) ∧ Below w.heap.size w w' := by
  have hb0 : Below w.heap.size w (w.alloc (.cells #[.int .u16 (U s)] 27)) := (Below.refl _ w).alloc (Nat.le_refl _) _
  have HC := Lib.hid (containsF_c 135 #[.pointer (some ⟨w.heap.size, 0, none⟩)] (enters_of Tryz.func135 (by kernel_rfl) rfl) (fun x => subB s x) l a n c _ (h.below hb0) (bcon1_at _ w.heap.size s (cell_new _ _ _ 0 _ rfl)))
  have HB := Lib.hid hb0
  clear h hb0
  go_enter Tryz.func105, Tryz.ntmps105
  go_wp2_with fail
  refine HC.out.mono ?_
  rintro e w1 ⟨rfl, hb⟩
  go_wp2_with fail
  go_ret
  exact ⟨rfl, Below.next HB.out hb⟩

/-- a set lies in one of a list -/
def witS (b : List (BitVec 16)) (s : BitVec 16) : Bool := b.any fun t => subB t s
theorem bwit1_at (w : World) (B : Nat) (s : BitVec 16) (hc : w.cell? ⟨B, 0, none⟩ = some (.int .u16 (U s))) :
    PredAt Tryz.prog 136 #[.pointer (some ⟨B, 0, none⟩)] setV2 (fun x => subB x s) w := fun W x hb => by
  have hc' : W.cell? ⟨B, 0, none⟩ = some (.int .u16 (U s)) := (hb.cell (p := ⟨B, 0, none⟩) (cell_lt hc)).trans hc
  unfold FnGives setV2 subB
  clear hb hc
  go_enter Tryz.func136, Tryz.ntmps136
  go_wp2_with fail
  go_ret
  exact ⟨rfl, 0, rfl⟩
set_option maxRecDepth 100000 in
set_option maxHeartbeats 1000000 in
theorem bwit_c (l : List (BitVec 16)) (s : BitVec 16) (a : Option Addr) (n c : Nat) (w : World) (h : Rd w a n c (l.map setV2)) :
    Calls Tryz.prog 107 #[.int .u16 (U s), .slice a n c] w fun e w' => e = .returned (.bool (witS l s)) ∧ Below w.heap.size w w' := by
  have hb0 : Below w.heap.size w (w.alloc (.cells #[.int .u16 (U s)] 27)) := (Below.refl _ w).alloc (Nat.le_refl _) _
  have HC := Lib.hid (containsF_c 136 #[.pointer (some ⟨w.heap.size, 0, none⟩)] (enters_of Tryz.func136 (by kernel_rfl) rfl) (fun x => subB x s) l a n c _ (h.below hb0) (bwit1_at _ w.heap.size s (cell_new _ _ _ 0 _ rfl)))
  have HB := Lib.hid hb0
  clear h hb0
  go_enter Tryz.func107, Tryz.ntmps107
  go_wp2_with fail
  refine HC.out.mono ?_
  rintro e w1 ⟨rfl, hb⟩
  go_wp2_with fail
  go_ret
  exact ⟨rfl, Below.next HB.out hb⟩

/-- all sets hold nodes below n alone -/
def insQ (l : List (BitVec 16)) (n : Nat) : Bool := !l.any fun x => shrS x n != 0#16
theorem shrS_min (x : BitVec 16) (n : Nat) : shrS x (min n 16) = shrS x n := by
  by_cases h : n ≤ 16
  · rw [Nat.min_eq_left h]
  · rw [Nat.min_eq_right (by omega)]
    unfold shrS
    apply BitVec.eq_of_getLsbD_eq
    intro i hi
    rw [BitVec.getLsbD_ushiftRight, BitVec.getLsbD_ushiftRight, BitVec.getLsbD_of_ge _ _ (by omega), BitVec.getLsbD_of_ge _ _ (by omega)]
theorem bins1_at (w : World) (B : Nat) (n : Nat) (hc : w.cell? ⟨B, 0, none⟩ = some (.int .i64 n)) :
    PredAt Tryz.prog 100 #[.pointer (some ⟨B, 0, none⟩)] setV2 (fun x => shrS x n != 0#16) w := fun W x hb => by
  have hc' : W.cell? ⟨B, 0, none⟩ = some (.int .i64 n) := (hb.cell (p := ⟨B, 0, none⟩) (cell_lt hc)).trans hc
  unfold FnGives setV2
  clear hb hc
  go_enter Tryz.func100, Tryz.ntmps100
  go_wp2_with fail
  go_ret
  exact ⟨ret_bool (by rw [shrS_min]), 0, rfl⟩
set_option maxRecDepth 100000 in
set_option maxHeartbeats 1000000 in
theorem bins_c (l : List (BitVec 16)) (m : Nat) (a : Option Addr) (n c : Nat) (w : World) (h : Rd w a n c (l.map setV2)) :
    Calls Tryz.prog 71 #[.slice a n c, .int .i64 m] w fun e w' => e = .returned (.bool (insQ l m)) ∧ Below w.heap.size w w' := by
  have hb0 : Below w.heap.size w (w.alloc (.cells #[.int .i64 (m : Int)] 3)) := (Below.refl _ w).alloc (Nat.le_refl _) _
  have HC := Lib.hid (containsF_c 100 #[.pointer (some ⟨w.heap.size, 0, none⟩)] (enters_of Tryz.func100 (by kernel_rfl) rfl) (fun x => shrS x m != 0#16) l a n c _ (h.below hb0) (bins1_at _ w.heap.size m (cell_new _ _ _ 0 _ rfl)))
  have HB := Lib.hid hb0
  clear h hb0
  go_enter Tryz.func71, Tryz.ntmps71
  go_wp2_with fail
  refine HC.out.mono ?_
  rintro e w1 ⟨rfl, hb⟩
  go_wp2_with fail
  go_ret
  exact ⟨rfl, Below.next HB.out hb⟩

/-- the error of quorums and sets of Byzantine nodes -/
def bchS (f b : List (BitVec 16)) (n : Nat) : Int := if valS f ≠ 0 then valS f else if insQ f n = false then 7 else if insQ b n = false then 7 else 0
set_option maxRecDepth 100000 in
set_option maxHeartbeats 1000000 in
theorem bcheck_c (f b : List (BitVec 16)) (m : Nat) (a : Option Addr) (n c : Nat) (a2 : Option Addr) (n2 c2 : Nat) (w : World) (h : Rd w a n c (f.map setV2)) (h2 : Rd w a2 n2 c2 (b.map setV2)) :
    Calls Tryz.prog 31 #[.slice a n c, .slice a2 n2 c2, .int .i64 m] w fun e w' => e = .returned (.int .i64 (bchS f b m)) ∧ Below w.heap.size w w' := by
  have HV := Lib.hid (valid_c f a n c w h)
  have HR := Lib.hid h
  have HR2 := Lib.hid h2
  clear h h2
  by_cases hv : valS f = 0
  · rw [hv] at HV
    have HX := Lib.hid hv
    clear hv
    cases hf : insQ f m
    · have hE : Hid (bchS f b m = 7) := Lib.hid (by unfold bchS; rw [if_neg (by simpa using HX.out), if_pos hf])
      have HF := Lib.hid hf
      clear hf
      go_enter Tryz.func31, Tryz.ntmps31
      go_wp2_with fail
      refine HV.out.mono ?_
      rintro e w1 ⟨rfl, b1⟩
      clear HV
      go_wp2_with (go_at_call 71; refine (bins_c f m a n c _ (HR.out.below b1)).mono ?_; rw [HF.out]; rintro e w2 ⟨rfl, b2⟩)
      go_ret
      exact ⟨ret_int hE.out.symm, Below.next b1 b2⟩
    · have HF := Lib.hid hf
      clear hf
      cases hg : insQ b m
      · have hE : Hid (bchS f b m = 7) := Lib.hid (by unfold bchS; rw [if_neg (by simpa using HX.out), if_neg (by rw [HF.out]; decide), if_pos hg])
        have HG := Lib.hid hg
        clear hg
        go_enter Tryz.func31, Tryz.ntmps31
        go_wp2_with fail
        refine HV.out.mono ?_
        rintro e w1 ⟨rfl, b1⟩
        clear HV
        go_wp2_with fail
        refine (bins_c f m a n c _ (HR.out.below b1)).mono ?_
        rw [HF.out]
        rintro e w2 ⟨rfl, b2⟩
        have b12 := Below.next b1 b2
        clear b1 b2
        go_wp2_with fail
        refine (bins_c b m a2 n2 c2 _ (HR2.out.below b12)).mono ?_
        rw [HG.out]
        rintro e w3 ⟨rfl, b3⟩
        have b13 := Below.next b12 b3
        clear b12 b3
        go_wp2_with fail
        go_ret
        exact ⟨ret_int hE.out.symm, b13⟩
      · have hE : Hid (bchS f b m = 0) := Lib.hid (by unfold bchS; rw [if_neg (by simpa using HX.out), if_neg (by rw [HF.out]; decide), if_neg (by rw [hg]; decide)])
        have HG := Lib.hid hg
        clear hg
        go_enter Tryz.func31, Tryz.ntmps31
        go_wp2_with fail
        refine HV.out.mono ?_
        rintro e w1 ⟨rfl, b1⟩
        clear HV
        go_wp2_with fail
        refine (bins_c f m a n c _ (HR.out.below b1)).mono ?_
        rw [HF.out]
        rintro e w2 ⟨rfl, b2⟩
        have b12 := Below.next b1 b2
        clear b1 b2
        go_wp2_with fail
        refine (bins_c b m a2 n2 c2 _ (HR2.out.below b12)).mono ?_
        rw [HG.out]
        rintro e w3 ⟨rfl, b3⟩
        have b13 := Below.next b12 b3
        clear b12 b3
        go_wp2_with fail
        go_ret
        exact ⟨ret_int hE.out.symm, b13⟩
  · have hE : Hid (bchS f b m = valS f) := Lib.hid (by unfold bchS; rw [if_pos hv])
    obtain ⟨v, hvv⟩ : ∃ v, valS f = v := ⟨_, rfl⟩
    rw [hvv] at HV hE hv
    clear hvv
    go_enter Tryz.func31, Tryz.ntmps31
    go_wp2_with fail
    refine HV.out.mono ?_
    rintro e w1 ⟨rfl, b1⟩
    go_wp2_with fail
    go_ret
    exact ⟨ret_int hE.out.symm, b1⟩

set_option maxRecDepth 100000 in
set_option maxHeartbeats 1000000 in
theorem bmembers_c (x0 : BitVec 16) (s : Int) (w : World) (hs : s = U x0) (ht : HasTab w) :
    Calls Tryz.prog 33 #[.int .u16 s] w fun e w' => ∃ v, e = .returned v ∧ Own w w' 3 v ((memS x0).map intV) ∧ Below w.heap.size w w' := by
  subst hs
  go_enter Tryz.func33, Tryz.ntmps33
  go_wp2
  go_loopw [0, 3] (fun s v wr => ∃ (x : BitVec 16) (l : List Nat), s = .int .u16 (U x) ∧ wr.ownsRow w.heap.size 3 1 v l.length (l.map intV) ∧ Below w.heap.size w wr ∧ Hid (memS x0 = l ++ memS x)) (fun s _ _ => cnt (BitVec.ofInt 16 (intOf s)))
  case atStart => exact ⟨x0, [], rfl, World.ownsRow_nil _ _ _ _, Below.refl _ _, rfl⟩
  case round =>
    obtain ⟨x, l, rfl, hown, hb, hm⟩ := hrel
    have hlen : l.length ≤ 16 := by have := cnt_le x0; unfold cnt at this; rw [hm.out, List.length_append] at this; omega
    by_cases h0 : x = 0#16
    · subst h0
      go_wp2
      go_ret
      exact ⟨_, rfl, by unfold Own; rw [hm.out, memS_zero, List.append_nil, List.length_map]; exact hown, hb⟩
    · have hx : (x != 0#16) = true := by simpa using h0
      have hx' : (x == 0#16) = false := by simpa using h0
      have h0' := Lib.hid h0
      clear h0
      obtain ⟨k, hk, he, hbit, hstep⟩ := memS_step x h0'.out
      have hc := Lib.hid (cnt_step x h0'.out)
      have HT := Lib.hid (ht.below hb)
      have HE := Lib.hid he
      have HS := Lib.hid hstep
      clear he hbit hstep
      go_wp2_with (first | (go_at_call 35; refine (tz_k k hk x _ hx' HE.out HT.out).mono ?_; rintro e w' ⟨rfl, rfl⟩) | (at_builtin; go_must (refine wpList_app _ _ 77 8 (.int .i64 0) (intV k) _ Tryz.underlying77 Tryz.infoInt rfl hown hb (Nat.le_refl _) rfl rfl rfl rfl rfl (by unfold maxLen; omega) (by omega) ?_)))
      intro v' w1 hown1 hb1 _ _
      clear hown hb HT
      go_wp2
      go_roundw
      case rel => exact ⟨_, l ++ [k], rfl, by simpa using hown1, hb1, by rw [Hid, hm.out, HS.out]; simp⟩
      case measure => show cnt (BitVec.ofInt 16 (U (x &&& (x - 1#16)))) < cnt (BitVec.ofInt 16 (U x)); rw [U_ofInt, U_ofInt, hc.out]; omega
end Go.Proofs.YtmjgdnpfgkpaoaaGreatDoor
namespace Go.Proofs.YtmjgdnpfgkpaoaaGreatDoor
open Go.RowKit Go.Shelf

/-- this is a split -/
def spD (n : Int) (q p d : BitVec 16) : Bool := !(d == 0#16 || (q &&& p &&& ~~~d != 0#16)) && !((q &&& ~~~d == 0#16 || p &&& ~~~d == 0#16) && decide (n - cnt d < 2))
abbrev Spl := BitVec 16 × BitVec 16 × BitVec 16
def spB (n : Int) (q p : BitVec 16) : List (BitVec 16) → Option Spl
  | [] => none
  | d :: l => if spD n q p d = true then some (q, p, d) else spB n q p l
def spA (n : Int) (b : List (BitVec 16)) (q : BitVec 16) : List (BitVec 16) → Option Spl
  | [] => none
  | p :: l => match spB n q p b with
    | some r => some r
    | none => spA n b q l
def spF (n : Int) (b : List (BitVec 16)) : List (BitVec 16) → Option Spl
  | [] => none
  | q :: l => match spA n b q (q :: l) with
    | some r => some r
    | none => spF n b l
def spV : Option Spl → Value
  | none => .tuple #[.int .u16 0, .int .u16 0, .int .u16 0, .bool false]
  | some (q, p, d) => .tuple #[.int .u16 (U q), .int .u16 (U p), .int .u16 (U d), .bool true]
theorem drop_at {α : Type} {l : List α} {k : Nat} {x : α} (h : l[k]? = some x) : l.drop k = x :: l.drop (k + 1) := by
  obtain ⟨hk, rfl⟩ := List.getElem?_eq_some_iff.1 h
  exact List.drop_eq_getElem_cons hk
theorem spB_step {n : Int} {q p d : BitVec 16} {b : List (BitVec 16)} {k : Nat} (h : b[k]? = some d) (hd : spD n q p d = false) : spB n q p (b.drop k) = spB n q p (b.drop (k + 1)) := by
  rw [drop_at h, spB, if_neg (by rw [hd]; decide)]
theorem spB_hit {n : Int} {q p d : BitVec 16} {b : List (BitVec 16)} {k : Nat} (h : b[k]? = some d) (hd : spD n q p d = true) : spB n q p (b.drop k) = some (q, p, d) := by
  rw [drop_at h, spB, if_pos hd]
theorem spA_step {n : Int} {b g : List (BitVec 16)} {q p : BitVec 16} {k : Nat} (h : g[k]? = some p) (hd : spB n q p b = none) : spA n b q (g.drop k) = spA n b q (g.drop (k + 1)) := by
  rw [drop_at h, spA, hd]
theorem spA_hit {n : Int} {b g : List (BitVec 16)} {q p : BitVec 16} {k : Nat} {r : Spl} (h : g[k]? = some p) (hd : spB n q p b = some r) : spA n b q (g.drop k) = some r := by
  rw [drop_at h, spA, hd]
theorem spF_step {n : Int} {b g : List (BitVec 16)} {q : BitVec 16} {k : Nat} (h : g[k]? = some q) (hd : spA n b q (g.drop k) = none) : spF n b (g.drop k) = spF n b (g.drop (k + 1)) := by
  rw [drop_at h] at hd ⊢; rw [spF, hd]
theorem spF_hit {n : Int} {b g : List (BitVec 16)} {q : BitVec 16} {k : Nat} {r : Spl} (h : g[k]? = some q) (hd : spA n b q (g.drop k) = some r) : spF n b (g.drop k) = some r := by
  rw [drop_at h] at hd ⊢; rw [spF, hd]

set_option maxRecDepth 100000 in
set_option maxHeartbeats 4000000 in
theorem split_c (f b : List (BitVec 16)) (m : Nat) (a : Option Addr) (n c : Nat) (a2 : Option Addr) (n2 c2 : Nat) (w : World) (h : Rd w a n c (f.map setV2)) (h2 : Rd w a2 n2 c2 (b.map setV2)) (hm8 : m ≤ 16) :
    Calls Tryz.prog 32 #[.slice a n c, .slice a2 n2 c2, .int .i64 m] w fun e w' => e = .returned (spV (spF m b f)) ∧ Below w.heap.size w w' := by
  have hnl : f.length = n := by have := h.len; simp at this; omega
  have hnl2 : b.length = n2 := by have := h2.len; simp at this; omega
  have hm := h.max
  have hle := h.le
  have hm2 := h2.max
  have hle2 := h2.le
  unfold maxLen at hm hm2
  have HR := Lib.hid h
  have HR2 := Lib.hid h2
  have HN := Lib.hid hnl
  have HN2 := Lib.hid hnl2
  clear h h2 hnl hnl2
  go_enter Tryz.func32, Tryz.ntmps32
  go_wp2_with fail
  go_loopw [18] (fun i wr => ∃ k : Nat, k ≤ n ∧ i = .int .i64 k ∧ Hid (spF m b f = spF m b (f.drop k)) ∧ Below w.heap.size w wr) (fun i _ => n - (intOf i).toNat)
  case atStart => exact ⟨0, Nat.zero_le _, rfl, rfl, Below.refl _ _⟩
  case round =>
    obtain ⟨k, hk, rfl, hE, hb⟩ := hrel
    by_cases hlt : k < n
    · obtain ⟨q, hq⟩ : ∃ q, f[k]? = some q := ⟨_, List.getElem?_eq_getElem (by have := HN.out; omega)⟩
      obtain ⟨B, o, ha, hcell⟩ := (HR.out.below hb).at' (by omega)
      have hc := hcell k (setV2 q) (by rw [List.getElem?_map, hq]; rfl)
      unfold setV2 at hc
      have HQ := Lib.hid hq
      have HC := Lib.hid hcell
      subst ha
      clear hcell hq
      go_wp2_with fail
      go_loopw [27] (fun i wr => ∃ j : Nat, k + j ≤ n ∧ i = .int .i64 j ∧ Hid (spA m b q (f.drop k) = spA m b q (f.drop (k + j))) ∧ Below w.heap.size w wr) (fun i _ => n - (intOf i).toNat)
      case atStart => exact ⟨0, by omega, rfl, rfl, hb⟩
      case round =>
        clear hb hc HC
        obtain ⟨j, hj, rfl, hA, hb⟩ := hrel
        by_cases hlt2 : k + j < n
        · obtain ⟨p, hp⟩ : ∃ p, f[k + j]? = some p := ⟨_, List.getElem?_eq_getElem (by have := HN.out; omega)⟩
          obtain ⟨B', o', ha, hcell⟩ := (HR.out.below hb).at' (by omega)
          have hc := hcell (k + j) (setV2 p) (by rw [List.getElem?_map, hp]; rfl)
          unfold setV2 at hc
          rw [← Nat.add_assoc] at hc
          cases ha
          have HP := Lib.hid hp
          have hjj : j < n - k := by omega
          clear hcell hp
          go_wp2_with fail
          go_loopw [33] (fun i wr => ∃ u : Nat, u ≤ n2 ∧ i = .int .i64 u ∧ Hid (spB m q p b = spB m q p (b.drop u)) ∧ Below w.heap.size w wr) (fun i _ => n2 - (intOf i).toNat)
          case atStart => exact ⟨0, by omega, rfl, rfl, hb⟩
          case round =>
            clear hb hc
            obtain ⟨u, hu, rfl, hD, hb⟩ := hrel
            by_cases hlt3 : u < n2
            · obtain ⟨d, hd⟩ : ∃ d, b[u]? = some d := ⟨_, List.getElem?_eq_getElem (by have := HN2.out; omega)⟩
              obtain ⟨B2, o2, ha, hcell⟩ := (HR2.out.below hb).at' (by omega)
              have hc := hcell u (setV2 d) (by rw [List.getElem?_map, hd]; rfl)
              unfold setV2 at hc
              subst ha
              have HDD := Lib.hid hd
              clear hcell hd
              have hno : spD m q p d = false → Hid (spB m q p b = spB m q p (b.drop (u + 1))) := fun hx => Lib.hid (by rw [hD.out]; exact spB_step HDD.out hx)
              have hcn := cnt_le d
              cases h1 : (d == 0#16)
              · cases h2 : (q &&& p &&& ~~~d != 0#16)
                · by_cases h3 : (q &&& ~~~d == 0#16 || p &&& ~~~d == 0#16) = true
                  · by_cases h4 : (m : Int) - cnt d < 2
                    · have hN := hno (by unfold spD; rw [h1, h2, h3, decide_eq_true h4]; rfl)
                      clear hno
                      cases h5 : (q &&& ~~~d == 0#16)
                      · rw [h5, Bool.false_or] at h3
                        go_wp2_with (go_at_call 72; refine (ones_c d _ _ rfl).mono ?_; rintro e w' ⟨rfl, qq, rfl⟩)
                        go_roundw
                        case rel => exact ⟨u + 1, by omega, by go_num, hN, below_drewN hb⟩
                        case measure => simp [intOf]; omega
                      · go_wp2_with (go_at_call 72; refine (ones_c d _ _ rfl).mono ?_; rintro e w' ⟨rfl, qq, rfl⟩)
                        go_roundw
                        case rel => exact ⟨u + 1, by omega, by go_num, hN, below_drewN hb⟩
                        case measure => simp [intOf]; omega
                    · have hY : Hid (spF m b f = some (q, p, d)) := Lib.hid (by
                        rw [hE.out]; exact spF_hit HQ.out (by rw [hA.out]; exact spA_hit HP.out (by rw [hD.out]; exact spB_hit HDD.out (by unfold spD; rw [h1, h2, h3, decide_eq_false h4]; rfl))))
                      clear hno
                      cases h5 : (q &&& ~~~d == 0#16)
                      · rw [h5, Bool.false_or] at h3
                        go_wp2_with (go_at_call 72; refine (ones_c d _ _ rfl).mono ?_; rintro e w' ⟨rfl, qq, rfl⟩)
                        exact bodyPost_ret (v := spV (some (q, p, d))) (by simp [results, Tryz.results32, go_sem, spV]) rfl ⟨by rw [hY.out], below_drewN hb⟩
                      · go_wp2_with (go_at_call 72; refine (ones_c d _ _ rfl).mono ?_; rintro e w' ⟨rfl, qq, rfl⟩)
                        exact bodyPost_ret (v := spV (some (q, p, d))) (by simp [results, Tryz.results32, go_sem, spV]) rfl ⟨by rw [hY.out], below_drewN hb⟩
                  · have hY : Hid (spF m b f = some (q, p, d)) := Lib.hid (by
                      rw [hE.out]; exact spF_hit HQ.out (by rw [hA.out]; exact spA_hit HP.out (by rw [hD.out]; exact spB_hit HDD.out (by unfold spD; rw [h1, h2, eq_false_of_ne_true h3]; rfl))))
                    have h5 := (Bool.or_eq_false_iff.1 (eq_false_of_ne_true h3)).1
                    have h6 := (Bool.or_eq_false_iff.1 (eq_false_of_ne_true h3)).2
                    clear hno h3
                    go_wp2_with fail
                    exact bodyPost_ret (v := spV (some (q, p, d))) (by simp [results, Tryz.results32, go_sem, spV]) rfl ⟨by rw [hY.out], hb⟩
                · have hN := hno (by unfold spD; rw [h1, h2]; rfl)
                  clear hno
                  go_wp2_with fail
                  go_roundw
                  case rel => exact ⟨u + 1, by omega, by go_num, hN, hb⟩
                  case measure => simp [intOf]; omega
              · have hN := hno (by unfold spD; rw [h1]; rfl)
                clear hno
                go_wp2_with fail
                go_roundw
                case rel => exact ⟨u + 1, by omega, by go_num, hN, hb⟩
                case measure => simp [intOf]; omega
            · have hX : Hid (spB m q p b = none) := Lib.hid (by rw [hD.out, List.drop_eq_nil_of_le (by have := HN2.out; omega)]; rfl)
              have hN : Hid (spA m b q (f.drop k) = spA m b q (f.drop (k + (j + 1)))) := Lib.hid (by rw [hA.out]; exact spA_step HP.out hX.out)
              clear hD hX
              go_wp2_with fail
              go_roundw
              case rel => exact ⟨j + 1, by omega, by go_num, hN, hb⟩
              case measure => simp [intOf]; omega
        · have hX : Hid (spA m b q (f.drop k) = none) := Lib.hid (by rw [hA.out, List.drop_eq_nil_of_le (by have := HN.out; omega)]; rfl)
          have hN : Hid (spF m b f = spF m b (f.drop (k + 1))) := Lib.hid (by rw [hE.out]; exact spF_step HQ.out hX.out)
          clear hA hX
          have hjj : ¬ j < n - k := by omega
          go_wp2_with fail
          go_roundw
          case rel => exact ⟨k + 1, by omega, by go_num, hN, hb⟩
          case measure => simp [intOf]; omega
    · have hX : Hid (spF m b f = none) := Lib.hid (by rw [hE.out, List.drop_eq_nil_of_le (by have := HN.out; omega)]; rfl)
      clear hE
      go_wp2_with fail
      exact bodyPost_ret (v := spV none) (by simp [results, Tryz.results32, go_sem, spV]) rfl ⟨by rw [hX.out], hb⟩
end Go.Proofs.YtmjgdnpfgkpaoaaGreatDoor
namespace Go.Proofs.YtmjgdnpfgkpaoaaGreatDoor
open Go.RowKit Go.Shelf

abbrev Hea := ByteArray × BitVec 16
def heaC (h : Hea) : List Value := [.string h.1, .int .u16 (U h.2)]
def heaV (h : Hea) : Value := .agg #[.string h.1, .int .u16 (U h.2)]
theorem heaC_len (h : Hea) : (heaC h).length = 2 := rfl
theorem hea_one (l : List Hea) : ∀ u ∈ l.flatMap heaC, u.oneCell' = true := by
  intro u hu
  obtain ⟨p, _, hp⟩ := List.mem_flatMap.1 hu
  simp only [heaC, List.mem_cons, List.not_mem_nil, or_false] at hp
  rcases hp with rfl | rfl <;> rfl
/-- a closure on elements that writes nothing old -/
def PrB {α : Type} (P : Program) (g : Nat) (lb : Array Value) (enc : α → Value) (p : α → Bool) (w : World) : Prop :=
  ∀ W x, Below w.heap.size w W → Calls P g (#[enc x] ++ lb) W fun e w' => e = .returned (.bool (p x)) ∧ Below W.heap.size W w'
def idxG {α : Type} (p : α → Bool) (l : List α) : Int := if l.any p then (l.findIdx p : Int) else -1
theorem idxG_hit {α : Type} {p : α → Bool} {l : List α} {k : Nat} {x : α} (hk : l[k]? = some x) (h : ∀ (j : Nat) y, j < k → l[j]? = some y → p y = false) (hp : p x = true) : idxG p l = k := by
  unfold idxG
  obtain ⟨hl, he⟩ := List.getElem?_eq_some_iff.1 hk
  rw [if_pos (List.any_eq_true.2 ⟨x, List.mem_of_getElem? hk, hp⟩)]
  have : l.findIdx p = k := by
    rw [List.findIdx_eq hl]
    exact ⟨by rw [he]; exact hp, fun j hj => h j _ hj (List.getElem?_eq_getElem (by omega))⟩
  rw [this]
theorem idxG_none {α : Type} {p : α → Bool} {l : List α} (h : ∀ (j : Nat) y, l[j]? = some y → p y = false) : idxG p l = -1 := by
  unfold idxG
  rw [if_neg]
  rw [Bool.not_eq_true, List.any_eq_false]
  intro x hx
  obtain ⟨j, hj⟩ := List.mem_iff_getElem?.1 hx
  rw [h j x hj]; decide
theorem idxG_ge {α : Type} (p : α → Bool) (l : List α) : decide (0 ≤ idxG p l) = l.any p := by
  unfold idxG
  cases l.any p <;> simp

set_option maxRecDepth 100000 in
set_option maxHeartbeats 1000000 in
theorem idxHea_c (g : Nat) (lb : Array Value) (eg : ∀ args w, (callFunc g args).run Tryz.prog w = .ok (.enter g args) w) (p : Hea → Bool) (l : List Hea) (a : Option Addr) (n c : Nat) (w : World)
    (h : RdK 2 w a n c (l.flatMap heaC)) (hp : PrB Tryz.prog g lb heaV p w) :
    Calls Tryz.prog 133 #[.slice a n c, .func (.func g) #[] lb] w fun e w' => e = .returned (.int .i64 (idxG p l)) ∧ Below w.heap.size w w' := by
  have hnl : l.length = n := by have := h.len; rw [flat_len 2 heaC heaC_len] at this; omega
  have hm := h.max
  have hle := h.le
  unfold maxLen at hm
  have HP := Lib.hid hp
  have HR := Lib.hid h
  have HN := Lib.hid hnl
  clear hp h hnl
  go_enter Tryz.func133, Tryz.ntmps133
  go_wp2_with fail
  go_loopw [8] (fun i wr => ∃ k : Nat, k ≤ n ∧ i = .int .i64 k ∧ Hid (∀ (j : Nat) y, j < k → l[j]? = some y → p y = false) ∧ Below w.heap.size w wr) (fun i _ => n - (intOf i).toNat)
  case atStart => exact ⟨0, Nat.zero_le _, rfl, Lib.hid (fun j y hj => by omega), Below.refl _ _⟩
  case round =>
    obtain ⟨k, hk, rfl, hno, hb⟩ := hrel
    by_cases hlt : k < n
    · obtain ⟨b, o, ha, hcell⟩ := RdK.cells (HR.out.below hb) heaC_len (by omega)
      obtain ⟨x, hx⟩ : ∃ x, l[k]? = some x := ⟨_, List.getElem?_eq_getElem (by have := HN.out; omega)⟩
      have hc0 : wr.cell? ⟨b, o + k * 2, none⟩ = some (.string x.1) := hcell k x hx 0 (by omega)
      have hc1 : wr.cell? ⟨b, o + k * 2 + 1, none⟩ = some (.int .u16 (U x.2)) := hcell k x hx 1 (by omega)
      subst ha
      have HF : Hid (Calls Tryz.prog g (#[.agg #[.string x.1, .int .u16 (U x.2)]] ++ lb) wr fun e w' => e = .returned (.bool (p x)) ∧ Below wr.heap.size wr w') := HP.out wr x hb
      have HX := Lib.hid hx
      clear hcell hx
      cases hq : p x
      · have hno' : Hid (∀ (j : Nat) y, j < k + 1 → l[j]? = some y → p y = false) := Lib.hid (fun j y hj hy => by
          by_cases h1 : j < k
          · exact hno.out j y h1 hy
          · obtain rfl : j = k := by omega
            rw [HX.out] at hy; cases hy; exact hq)
        rw [hq] at HF
        clear hq hno
        go_wp2_with (go_at_fn g; refine HF.out.mono ?_; rintro e w' ⟨rfl, hbw⟩)
        go_roundw
        case rel => exact ⟨k + 1, by omega, by go_num, hno', Below.next hb hbw⟩
        case measure => simp [intOf]; omega
      · have hI : Hid (idxG p l = k) := idxG_hit HX.out hno.out hq
        rw [hq] at HF
        clear hq hno
        go_wp2_with (go_at_fn g; refine HF.out.mono ?_; rintro e w' ⟨rfl, hbw⟩)
        go_ret
        exact ⟨ret_int hI.out.symm, Below.next hb hbw⟩
    · have hI : Hid (idxG p l = -1) := idxG_none (fun j y hy => hno.out j y (by have := (List.getElem?_eq_some_iff.1 hy).1; have := HN.out; omega) hy)
      clear hno
      go_wp2_with fail
      go_ret
      exact ⟨ret_int hI.out.symm, hb⟩

set_option maxRecDepth 100000 in
set_option maxHeartbeats 1000000 in
theorem conHea_c (g : Nat) (lb : Array Value) (eg : ∀ args w, (callFunc g args).run Tryz.prog w = .ok (.enter g args) w) (p : Hea → Bool) (l : List Hea) (a : Option Addr) (n c : Nat) (w : World)
    (h : RdK 2 w a n c (l.flatMap heaC)) (hp : PrB Tryz.prog g lb heaV p w) :
    Calls Tryz.prog 131 #[.slice a n c, .func (.func g) #[] lb] w fun e w' => e = .returned (.bool (l.any p)) ∧ Below w.heap.size w w' := by
  have HC := Lib.hid (idxHea_c g lb eg p l a n c w h hp)
  have hi := idxG_ge p l
  clear h hp eg
  obtain ⟨i, hi2⟩ : ∃ i, idxG p l = i := ⟨_, rfl⟩
  rw [hi2] at HC hi
  have HI := Lib.hid hi
  clear hi hi2
  go_enter Tryz.func131, Tryz.ntmps131
  go_wp2_with fail
  refine HC.out.mono ?_
  rintro e w1 ⟨rfl, hb⟩
  go_wp2_with fail
  go_ret
  exact ⟨ret_bool HI.out, hb⟩

theorem Tryz.infoHea : (Tryz.prog.info? 163).map (fun i => (i.zero, i.size, i.bytes)) = some (some (.agg #[.string ⟨#[]⟩, .int .u16 0]), 2, 24) := by kernel_rfl
set_option maxRecDepth 100000 in
set_option maxHeartbeats 1000000 in
theorem cloneHea_c (l : List Hea) (a : Option Addr) (n c : Nat) (w : World) (h : RdK 2 w a n c (l.flatMap heaC)) (hb : n ≤ 1000000) :
    Calls Tryz.prog 101 #[.slice a n c] w fun e w' => ∃ v, e = .returned v ∧ w'.ownsRow w.heap.size 163 2 v n (l.flatMap heaC) ∧ Below w.heap.size w w' := by
  cases a with
  | none =>
    have hc := h.nil rfl
    have hn : n = 0 := by have := h.le; omega
    subst hc hn
    have hl : l.flatMap heaC = [] := List.eq_nil_of_length_eq_zero (by rw [← h.len])
    rw [hl]
    clear h hb hl
    have q : ∀ (w : World) (a : Option Addr) (n c n' c' : Nat), (binOp .eql 95 (.slice a n c) (.slice none n' c')).run Tryz.prog w = .ok (.bool a.isNone) w := fun w a n c n' c' => Lib.run_eql_slice_nil w _ _ a n c n' c' Tryz.underlying95
    go_enter Tryz.func101, Tryz.ntmps101
    go_wp2
    go_ret
    exact ⟨_, rfl, World.ownsRow_nil _ _ _ _, Below.refl _ _⟩
  | some ad =>
    have hh := Lib.hid h
    clear h
    have q : ∀ (w : World) (a : Option Addr) (n c n' c' : Nat), (binOp .eql 95 (.slice a n c) (.slice none n' c')).run Tryz.prog w = .ok (.bool a.isNone) w := fun w a n c n' c' => Lib.run_eql_slice_nil w _ _ a n c n' c' Tryz.underlying95
    go_enter Tryz.func101, Tryz.ntmps101
    go_wp2_with (at_builtin; go_must (refine wpList_appsK 2 _ _ 95 24 (.agg #[.string ⟨#[]⟩, .int .u16 0]) _ _ _ (l.flatMap heaC) Tryz.underlying95 Tryz.infoHea rfl (by decide) (World.ownsRow_made w #[] 0 (Nat.le_refl _) (Nat.zero_le _) rfl) ((Below.refl _ w).alloc (Nat.le_refl _) _) (Nat.le_refl _) (hh.out.below ((Below.refl _ w).alloc (Nat.le_refl _) _)) (hea_one l) rfl rfl rfl rfl (by unfold maxLen; simp; omega) (by simp; omega) ?_))
    intro v' w1 hown1 hb1 _
    have hown2 : w1.ownsRow w.heap.size 163 2 v' n (l.flatMap heaC) := by simpa using hown1
    clear hb hown1
    go_wp2
    go_ret
    exact ⟨_, rfl, hown2, hb1⟩

/-- the server has been heard -/
def hadB (i : Nat) (h : Hea) : Bool := hasB h.2 i
theorem add1_at (w : World) (B : Nat) (i : Nat) (hc : w.cell? ⟨B, 0, none⟩ = some (.int .i64 i)) (hi : i < 12) :
    PrB Tryz.prog 132 #[.pointer (some ⟨B, 0, none⟩)] heaV (hadB i) w := fun W x hb => by
  have hc' : W.cell? ⟨B, 0, none⟩ = some (.int .i64 i) := (hb.cell (p := ⟨B, 0, none⟩) (cell_lt hc)).trans hc
  have hc2 : (W.alloc (.cells #[.string x.1, .int .u16 (U x.2)] 163)).cell? ⟨B, 0, none⟩ = some (.int .i64 i) := (((Below.refl _ W).alloc (Nat.le_refl _) _).cell (p := ⟨B, 0, none⟩) (cell_lt hc')).trans hc'
  unfold heaV hadB
  clear hb hc
  go_enter Tryz.func132, Tryz.ntmps132
  go_wp2_with fail
  go_ret
  exact ⟨rfl, (Below.refl _ _).alloc (Nat.le_refl _) _⟩
/-- the value has been heard -/
def sayB (s : ByteArray) (h : Hea) : Bool := h.1.toList == s.toList
theorem add2_at (w : World) (B : Nat) (s : ByteArray) (hc : w.cell? ⟨B, 0, none⟩ = some (.string s)) :
    PrB Tryz.prog 134 #[.pointer (some ⟨B, 0, none⟩)] heaV (sayB s) w := fun W x hb => by
  have hc' : W.cell? ⟨B, 0, none⟩ = some (.string s) := (hb.cell (p := ⟨B, 0, none⟩) (cell_lt hc)).trans hc
  have hc2 : (W.alloc (.cells #[.string x.1, .int .u16 (U x.2)] 163)).cell? ⟨B, 0, none⟩ = some (.string s) := (((Below.refl _ W).alloc (Nat.le_refl _) _).cell (p := ⟨B, 0, none⟩) (cell_lt hc')).trans hc'
  unfold heaV sayB
  clear hb hc
  go_enter Tryz.func134, Tryz.ntmps134
  go_wp2_with fail
  go_ret
  exact ⟨rfl, (Below.refl _ _).alloc (Nat.le_refl _) _⟩
end Go.Proofs.YtmjgdnpfgkpaoaaGreatDoor
namespace Go.Proofs.YtmjgdnpfgkpaoaaGreatDoor
open Go.RowKit Go.Shelf

theorem frozenB {w : World} {B : Nat} {cs : Array Value} {t : TypeId} (h : w.heap[B]? = some (.cells cs t (0, 0))) (i : Nat) : w.frozen? ⟨B, i, none⟩ = false := by simp [World.frozen?, h]
/-- one cell of a row turned -/
theorem RdK.set {k : Nat} {w : World} {g n c : Nat} {l : List Value} {cs : Array Value} {t : TypeId} {f : Nat × Nat} (h : RdK k w (some ⟨g, 0, none⟩) n c l) (hb : w.heap[g]? = some (.cells cs t f)) (i : Nat) (u : Value) :
    RdK k (w.setCell ⟨g, i, none⟩ u) (some ⟨g, 0, none⟩) n c (l.set i u) := by
  refine ⟨by rw [List.length_set]; exact h.len, h.le, h.max, h.nil, fun hn => ⟨g, 0, rfl, fun j v hv => ?_⟩⟩
  obtain ⟨b, o, ha, hc⟩ := h.at' hn
  cases ha
  rw [cell_of_row _ g (0 + j) _ _ _ (heap_set_at hb i u)]
  rw [List.getElem?_set] at hv
  rw [Nat.zero_add, Array.getElem?_setIfInBounds]
  have hj : ∀ v', l[j]? = some v' → cs[j]? = some v' := fun v' hv' => by
    have := hc j v' hv'
    rw [cell_of_row _ g (0 + j) _ _ _ hb, Nat.zero_add] at this; exact this
  split at hv
  · rename_i e
    subst e
    split at hv
    · rename_i hil
      cases hv
      have h1 := hj _ (List.getElem?_eq_getElem hil)
      have h2 := (Array.getElem?_eq_some_iff.1 h1).1
      rw [if_pos rfl, if_pos h2]
    · cases hv
  · rename_i e
    rw [if_neg e]; exact hj v hv
theorem hea_set : ∀ (l : List Hea) (k : Nat) (x : Hea) (s : BitVec 16), l[k]? = some x → (l.set k (x.1, s)).flatMap heaC = (l.flatMap heaC).set (k * 2 + 1) (.int .u16 (U s))
  | [], k, x, s, h => by simp at h
  | y :: l, 0, x, s, h => by
    simp at h; subst h
    simp [heaC]
  | y :: l, k + 1, x, s, h => by
    have h' : l[k]? = some x := by simpa using h
    rw [List.set_cons_succ, List.flatMap_cons, hea_set l k x s h', List.flatMap_cons]
    rw [show (k + 1) * 2 + 1 = (k * 2 + 1) + 2 by omega]
    rfl
/-- a value heard from a server: the lists behind it, and whether it is new -/
def addH (l : List Hea) (i : Nat) (v : ByteArray) : List Hea × Bool :=
  if l.any (hadB i) then (l, false) else if l.any (sayB v) then (l.modify (l.findIdx (sayB v)) fun h => (h.1, h.2 ||| bitS i), true) else (l ++ [(v, bitS i)], true)
theorem addH_set {l : List Hea} {k : Nat} {x : Hea} (h : l[k]? = some x) (s : BitVec 16) : l.modify k (fun h => (h.1, h.2 ||| s)) = l.set k (x.1, x.2 ||| s) := by
  apply List.ext_getElem?
  intro j
  obtain ⟨hk, he⟩ := List.getElem?_eq_some_iff.1 h
  rw [List.getElem?_modify, List.getElem?_set]
  by_cases hj : k = j
  · subst hj
    rw [if_pos rfl, if_pos hk, h]; simp
  · rw [if_neg hj]; simp [hj]
theorem addH_len (l : List Hea) (i : Nat) (v : ByteArray) : (addH l i v).1.length ≤ l.length + 1 := by
  unfold addH
  split
  · exact Nat.le_succ _
  · split <;> simp

set_option maxRecDepth 100000 in
set_option maxHeartbeats 4000000 in
theorem badd_c (l : List Hea) (i : Nat) (v : ByteArray) (hi : i < 12) (a : Option Addr) (n c : Nat) (w : World) (h : RdK 2 w a n c (l.flatMap heaC)) (hn : n ≤ 1000) :
    Calls Tryz.prog 104 #[.slice a n c, .int .i64 i, .string v] w fun e w' => ∃ a' n' c', e = .returned (.tuple #[.slice a' n' c', .bool (addH l i v).2]) ∧ RdK 2 w' a' n' c' ((addH l i v).1.flatMap heaC) ∧ Below w.heap.size w w' ∧ (a' = a ∨ ∀ b o, a' = some ⟨b, o, none⟩ → w.heap.size ≤ b) := by
  have hnl : l.length = n := by have := h.len; rw [flat_len 2 heaC heaC_len] at this; omega
  obtain ⟨W, hW⟩ : ∃ W, W = (w.alloc (.cells #[.int .i64 (i : Int)] 3)).alloc (.cells #[.string v] 9) := ⟨_, rfl⟩
  have hbW : Below w.heap.size w W := by rw [hW]; exact ((Below.refl _ w).alloc (Nat.le_refl _) _).alloc (by simp) _
  have hc0 : W.cell? ⟨w.heap.size, 0, none⟩ = some (.int .i64 i) := by rw [hW]; exact cell_of_row _ _ 0 _ _ _ (heap_alloc_at (heap_alloc_new _ _) _)
  have hc1 : W.cell? ⟨w.heap.size + 1, 0, none⟩ = some (.string v) := by rw [hW]; exact cell_new' _ _ _ 0 _ rfl (by simp)
  have HC := Lib.hid (conHea_c 132 #[.pointer (some ⟨w.heap.size, 0, none⟩)] (enters_of Tryz.func132 (by kernel_rfl) rfl) (hadB i) l a n c W (h.below hbW) (add1_at W w.heap.size i hc0 hi))
  have HR := Lib.hid h
  have HN := Lib.hid hnl
  have HBW := Lib.hid hbW
  have HC0 := Lib.hid hc0
  have HC1 := Lib.hid hc1
  clear h hnl hbW hc0 hc1
  cases hany : l.any (hadB i)
  · rw [hany] at HC
    have HANY := Lib.hid hany
    clear hany
    go_enter Tryz.func104, Tryz.ntmps104
    go_wp2_with fail
    rw [← hW]
    refine HC.out.mono ?_
    rintro e w1 ⟨rfl, b1⟩
    have b2 : Below w.heap.size w w1 := Below.next HBW.out b1
    have hd0 : w1.cell? ⟨w.heap.size, 0, none⟩ = some (.int .i64 i) := (b1.cell (p := ⟨w.heap.size, 0, none⟩) (cell_lt HC0.out)).trans HC0.out
    have hd1 : w1.cell? ⟨w.heap.size + 1, 0, none⟩ = some (.string v) := (b1.cell (p := ⟨w.heap.size + 1, 0, none⟩) (cell_lt HC1.out)).trans HC1.out
    have HD0 := Lib.hid hd0
    have HD1 := Lib.hid hd1
    clear HC b1 hd0 hd1 HC0 HC1
    go_wp2_with fail
    refine (cloneHea_c l a n c w1 (HR.out.below b2) (by omega)).mono ?_
    rintro e w2 ⟨vv, rfl, hown, b3⟩
    obtain ⟨a', c', rfl, hr⟩ := rdK_of_row hown
    have hd0 : w2.cell? ⟨w.heap.size, 0, none⟩ = some (.int .i64 i) := (b3.cell (p := ⟨w.heap.size, 0, none⟩) (cell_lt HD0.out)).trans HD0.out
    have hd1 : w2.cell? ⟨w.heap.size + 1, 0, none⟩ = some (.string v) := (b3.cell (p := ⟨w.heap.size + 1, 0, none⟩) (cell_lt HD1.out)).trans HD1.out
    have HX := Lib.hid (idxHea_c 134 #[.pointer (some ⟨w.heap.size + 1, 0, none⟩)] (enters_of Tryz.func134 (by kernel_rfl) rfl) (sayB v) l a' n c' w2 hr (add2_at w2 (w.heap.size + 1) v hd1))
    have b4 := Below.next b2 b3
    have HS1 := Lib.hid b3.size
    have HB2s := Lib.hid b2.size
    have HR2 := Lib.hid hr
    have HOWN := Lib.hid hown
    have HE0 := Lib.hid hd0
    have HE1 := Lib.hid hd1
    clear b2 b3 hd0 hd1 hr hown HD0 HD1
    cases hsay : l.any (sayB v)
    · have hI : idxG (sayB v) l = -1 := by unfold idxG; rw [hsay]; rfl
      have hA : Hid (addH l i v = (l ++ [(v, bitS i)], true)) := Lib.hid (by unfold addH; rw [HANY.out, hsay]; rfl)
      rw [hI] at HX
      clear hI hsay
      go_wp2_with fail
      refine HX.out.mono ?_
      rintro e w3 ⟨rfl, b5⟩
      have b6 := Below.next b4 b5
      have HO3 := Lib.hid (rowK_below HOWN.out b5)
      have f0 : w3.drew.cell? ⟨w.heap.size, 0, none⟩ = some (.int .i64 i) := (b5.cell (p := ⟨w.heap.size, 0, none⟩) (cell_lt HE0.out)).trans HE0.out
      have f1 : w3.drew.cell? ⟨w.heap.size + 1, 0, none⟩ = some (.string v) := (b5.cell (p := ⟨w.heap.size + 1, 0, none⟩) (cell_lt HE1.out)).trans HE1.out
      have HB6 := Lib.hid b6
      have HB5s := Lib.hid b5.size
      obtain ⟨i0, hi0, hz0, hz1, hz2⟩ := info_parts Tryz.infoHea
      clear HX HE0 HE1 b4 b5 b6
      go_wp2_with fail
      go_region_law (first
        | (refine step_append_lies _ (by rfl) _ _ _ (by rfl) w1.heap.size 163 i0 _ 2 24 Tryz.underlying95 hi0 hz0 hz1 hz2 rfl (by omega) (.slice a' n c') n _ (by rfl) ((HO3.out.alloc _).drew) ⟨w3.heap.size, 0, none⟩ 1 1 [.string v, .int .u16 (U (bitS i))] (by rfl) (by rfl) (World.news_of_block (cs := #[.string v, .int .u16 (U (bitS i))]) (t := 163) (fr := (0, 0)) (heap_alloc_new w3 _)) (by simp [Value.oneCell']) (by omega) (by unfold maxLen; omega) (by omega) (by simp; have := HB5s.out; have := HS1.out; omega) (w3.heap.size + 1) (by simp) ?_; intro gg cap wA hownA hgrow hat hlt; have HOA := Lib.hid hownA; have HGA := Lib.hid hgrow; clear hownA hgrow))
      all_goals
        go_wp2_with fail
        go_ret2
        obtain ⟨aa, cc, ee, hrr⟩ := rdK_of_row HOA.out
        cases ee
        refine ⟨some ⟨gg, 0, none⟩, n + 1, cap, by rw [hA.out]; rfl, ?_, ?_, .inr (fun b o hb => by cases hb; exact Nat.le_trans HB2s.out (HOA.out.lt gg rfl).1)⟩
        · rw [hA.out]
          have e9 : (l ++ [(v, bitS i)]).flatMap heaC = l.flatMap heaC ++ [.string v, .int .u16 (U (bitS i))] := by rw [List.flatMap_append]; rfl
          rw [e9]
          exact ⟨hrr.len, hrr.le, hrr.max, hrr.nil, hrr.at'⟩
        · exact (below_drew (HB6.out.alloc HB6.out.size (.cells #[.string v, .int .u16 (U (bitS i))] 163))).grown HGA.out (by simp; have := HB6.out.size; omega) (fun k hk => by have := (HO3.out.lt k hk).1; have := HB2s.out; omega)
    · obtain ⟨k, hkl⟩ : ∃ k, l.findIdx (sayB v) = k := ⟨_, rfl⟩
      have hkn : k < l.length := by rw [← hkl]; exact List.findIdx_lt_length_of_exists (by simpa using hsay)
      obtain ⟨x, hx⟩ : ∃ x, l[k]? = some x := ⟨_, List.getElem?_eq_getElem hkn⟩
      have hI : idxG (sayB v) l = k := by unfold idxG; rw [hsay, hkl]; rfl
      have hA : Hid (addH l i v = (l.set k (x.1, x.2 ||| bitS i), true)) := Lib.hid (by unfold addH; rw [HANY.out, hsay, hkl]; simp only [if_true, Bool.false_eq_true, if_false]; rw [addH_set hx])
      have hset := hea_set l k x (x.2 ||| bitS i) hx
      have HSET := Lib.hid hset
      rw [hI] at HX
      have hkn2 : k < n := by have := HN.out; omega
      rcases HOWN.out.2 with ⟨e0, e1⟩ | ⟨g, cap, cur, e0, hgb, hblk, hle2, hmx, hsz, htk⟩
      · omega
      cases e0
      have HGB := Lib.hid hgb
      have HBLK := Lib.hid hblk
      have HX2 := Lib.hid hx
      clear hI hsay hkl hx hset hgb hblk htk hsz HOWN
      go_wp2_with fail
      refine HX.out.mono ?_
      rintro e w3 ⟨rfl, b5⟩
      have b6 := Below.next b4 b5
      have hr3 := HR2.out.below b5
      have hblk3 := heap_below b5 HBLK.out
      have HBLK3 := Lib.hid hblk3
      have f0 : w3.drew.cell? ⟨w.heap.size, 0, none⟩ = some (.int .i64 i) := (b5.cell (p := ⟨w.heap.size, 0, none⟩) (cell_lt HE0.out)).trans HE0.out
      obtain ⟨bq, oq, eq1, hcell⟩ := RdK.cells hr3 heaC_len (by omega)
      cases eq1
      have g1 : w3.drew.cell? ⟨g, 0 + k * 2 + 1, none⟩ = some (.int .u16 (U x.2)) := hcell k x HX2.out 1 (by omega)
      rw [Nat.zero_add] at g1
      have fz : w3.drew.frozen? ⟨g, k * 2 + 1, none⟩ = false := frozenB hblk3 _
      have HR3 := Lib.hid hr3
      have HB6 := Lib.hid b6
      clear HX HE0 HE1 b4 b5 b6 hr3 hcell hblk3
      go_wp2_with fail
      go_region
      all_goals
        go_wp2_with fail
        go_ret2
        have hs9 := HR3.out.set HBLK3.out (k * 2 + 1) (.int .u16 (U (x.2 ||| bitS i)))
        refine ⟨some ⟨g, 0, none⟩, n, c', by rw [hA.out]; rfl, ?_, below_drew (HB6.out.setCell (p := ⟨g, k * 2 + 1, none⟩) (Nat.le_trans HB2s.out HGB.out) _), .inr (fun b o hb => by cases hb; exact Nat.le_trans HB2s.out HGB.out)⟩
        rw [hA.out, HSET.out]
        exact ⟨hs9.len, hs9.le, hs9.max, hs9.nil, hs9.at'⟩
  · rw [hany] at HC
    have hA : Hid (addH l i v = (l, false)) := Lib.hid (by unfold addH; rw [hany]; rfl)
    clear hany
    go_enter Tryz.func104, Tryz.ntmps104
    go_wp2_with fail
    rw [← hW]
    refine HC.out.mono ?_
    rintro e w1 ⟨rfl, b1⟩
    go_wp2_with fail
    go_ret2
    have hb2 := Below.next HBW.out b1
    exact ⟨a, n, c, by rw [hA.out]; rfl, by rw [hA.out]; exact HR.out.below hb2, hb2, .inl rfl⟩

/-- the set of a value -/
def heaS (l : List Hea) (v : ByteArray) : BitVec 16 := match l.find? (sayB v) with
  | some h => h.2
  | none => 0#16
theorem heaS_hit {l : List Hea} {v : ByteArray} {k : Nat} {x : Hea} (hx : l[k]? = some x) (h : ∀ (j : Nat) y, j < k → l[j]? = some y → sayB v y = false) (hp : sayB v x = true) : heaS l v = x.2 := by
  have : l.find? (sayB v) = some x := by
    rw [List.find?_eq_some_iff_getElem]
    obtain ⟨hk, he⟩ := List.getElem?_eq_some_iff.1 hx
    refine ⟨hp, k, hk, he, fun j hj => ?_⟩
    have := h j _ hj (List.getElem?_eq_getElem (by omega))
    simpa using this
  unfold heaS; rw [this]
theorem heaS_none {l : List Hea} {v : ByteArray} (h : ∀ (j : Nat) y, l[j]? = some y → sayB v y = false) : heaS l v = 0#16 := by
  have : l.find? (sayB v) = none := by
    rw [List.find?_eq_none]
    intro x hx
    obtain ⟨j, hj⟩ := List.mem_iff_getElem?.1 hx
    rw [h j x hj]; decide
  unfold heaS; rw [this]

set_option maxRecDepth 100000 in
set_option maxHeartbeats 1000000 in
theorem heard_c (l : List Hea) (v : ByteArray) (a : Option Addr) (n c : Nat) (w : World) (h : RdK 2 w a n c (l.flatMap heaC)) :
    Calls Tryz.prog 106 #[.slice a n c, .string v] w fun e w' => e = .returned (.int .u16 (U (heaS l v))) ∧ Below w.heap.size w w' := by
  have hnl : l.length = n := by have := h.len; rw [flat_len 2 heaC heaC_len] at this; omega
  have hm := h.max
  have hle := h.le
  unfold maxLen at hm
  have HR := Lib.hid h
  have HN := Lib.hid hnl
  clear h hnl
  go_enter Tryz.func106, Tryz.ntmps106
  go_wp2_with fail
  go_loopw [9] (fun i wr => ∃ k : Nat, k ≤ n ∧ i = .int .i64 k ∧ Hid (∀ (j : Nat) y, j < k → l[j]? = some y → sayB v y = false) ∧ Below w.heap.size w wr) (fun i _ => n - (intOf i).toNat)
  case atStart => exact ⟨0, Nat.zero_le _, rfl, Lib.hid (fun j y hj => by omega), Below.refl _ _⟩
  case round =>
    obtain ⟨k, hk, rfl, hno, hb⟩ := hrel
    by_cases hlt : k < n
    · obtain ⟨b, o, ha, hcell⟩ := RdK.cells (HR.out.below hb) heaC_len (by omega)
      obtain ⟨x, hx⟩ : ∃ x, l[k]? = some x := ⟨_, List.getElem?_eq_getElem (by have := HN.out; omega)⟩
      have hc0 : wr.cell? ⟨b, o + k * 2, none⟩ = some (.string x.1) := hcell k x hx 0 (by omega)
      have hc1 : wr.cell? ⟨b, o + k * 2 + 1, none⟩ = some (.int .u16 (U x.2)) := hcell k x hx 1 (by omega)
      subst ha
      have HX := Lib.hid hx
      clear hcell hx
      cases hq : sayB v x
      · have hno' : Hid (∀ (j : Nat) y, j < k + 1 → l[j]? = some y → sayB v y = false) := Lib.hid (fun j y hj hy => by
          by_cases h1 : j < k
          · exact hno.out j y h1 hy
          · obtain rfl : j = k := by omega
            rw [HX.out] at hy; cases hy; exact hq)
        unfold sayB at hq
        clear hno
        go_wp2_with fail
        go_roundw
        case rel => exact ⟨k + 1, by omega, by go_num, hno', hb.alloc hb.size _⟩
        case measure => simp [intOf]; omega
      · have hI : Hid (heaS l v = x.2) := heaS_hit HX.out hno.out hq
        unfold sayB at hq
        clear hno
        go_wp2_with fail
        go_ret
        exact ⟨by rw [hI.out]; rfl, hb.alloc hb.size _⟩
    · have hI : Hid (heaS l v = 0#16) := heaS_none (fun j y hy => hno.out j y (by have := (List.getElem?_eq_some_iff.1 hy).1; have := HN.out; omega) hy)
      clear hno
      go_wp2_with fail
      go_ret
      exact ⟨by rw [hI.out]; rfl, hb⟩
end Go.Proofs.YtmjgdnpfgkpaoaaGreatDoor
namespace Go.Proofs.YtmjgdnpfgkpaoaaGreatDoor
open Go.RowKit Go.Shelf

/-- a node -/
structure CasT where
  id : Int
  echoed : ByteArray
  hasE : Bool
  readied : ByteArray
  hasR : Bool
  delivered : ByteArray
  hasD : Bool
  echoes : List Hea
  readies : List Hea
/-- a message -/
structure MsgT where
  kind : Int
  src : Int
  dst : Int
  value : ByteArray
def msgC (m : MsgT) : List Value := [.int .i64 m.kind, .int .i64 m.src, .int .i64 m.dst, .string m.value]
theorem msgC_len (m : MsgT) : (msgC m).length = 4 := rfl
theorem msg_one (l : List MsgT) : ∀ u ∈ l.flatMap msgC, u.oneCell' = true := by
  intro u hu
  obtain ⟨p, _, hp⟩ := List.mem_flatMap.1 hu
  simp only [msgC, List.mem_cons, List.not_mem_nil, or_false] at hp
  rcases hp with rfl | rfl | rfl | rfl <;> rfl
def casA (x : CasT) (ve vr : Value) : Array Value := #[.int .i64 x.id, .string x.echoed, .bool x.hasE, .string x.readied, .bool x.hasR, .string x.delivered, .bool x.hasD, ve, vr]
def readyS (is : Bool) (x : CasT) (v : ByteArray) : CasT × List MsgT := if is && !x.hasR then ({ x with hasR := true, readied := v }, [⟨3, x.id, -1, v⟩]) else (x, [])
def lastS (f : List (BitVec 16)) (s : BitVec 16) (x : CasT) (v : ByteArray) : CasT := if !x.hasD && accS f s then { x with hasD := true, delivered := v } else x
def handleS (f b : List (BitVec 16)) (x : CasT) (src kind : Int) (v : ByteArray) : CasT × List MsgT :=
  if src < 0 ∨ 12 ≤ src then (x, [])
  else if kind = 1 then (if x.hasE then (x, []) else ({ x with hasE := true, echoed := v }, [⟨2, x.id, -1, v⟩]))
  else if kind = 2 then
    (if (addH x.echoes src.toNat v).2 then readyS (accS f (heaS (addH x.echoes src.toNat v).1 v)) { x with echoes := (addH x.echoes src.toNat v).1 } v
     else ({ x with echoes := (addH x.echoes src.toNat v).1 }, []))
  else if kind = 3 then
    (if (addH x.readies src.toNat v).2 then
       (lastS f (heaS (addH x.readies src.toNat v).1 v) (readyS (!witS b (heaS (addH x.readies src.toNat v).1 v)) { x with readies := (addH x.readies src.toNat v).1 } v).1 v,
        (readyS (!witS b (heaS (addH x.readies src.toNat v).1 v)) { x with readies := (addH x.readies src.toNat v).1 } v).2)
     else ({ x with readies := (addH x.readies src.toNat v).1 }, []))
  else (x, [])

theorem Tryz.infoMsg : (Tryz.prog.info? 85).map (fun i => (i.zero, i.size, i.bytes)) = some (some (.agg #[.int .i64 0, .int .i64 0, .int .i64 0, .string ⟨#[]⟩]), 4, 40) := by kernel_rfl

set_option maxRecDepth 100000 in
set_option maxHeartbeats 2000000 in
theorem send_c (x : CasT) (ve vr : Value) (v : ByteArray) (k : Int) (A B O : Nat) (w : World)
    (hA : w.heap[A]? = some (.cells (casA x ve vr) 97 (0, 0))) (hB : w.heap[B]? = some (.cells #[.string v] 9 (0, 0))) (hO : w.heap[O]? = some (.cells #[.slice none 0 0] 32 (0, 0))) :
    Calls Tryz.prog 102 #[.int .i64 k, .pointer (some ⟨O, 0, none⟩), .pointer (some ⟨A, 0, none⟩), .pointer (some ⟨B, 0, none⟩)] w fun e w' => e = .returned (.tuple #[]) ∧ w.grownBy w' (some O) ∧ ∃ vo, w'.heap[O]? = some (.cells #[vo] 32 (0, 0)) ∧ w'.ownsRow w.heap.size 85 4 vo 1 (msgC ⟨k, x.id, -1, v⟩) := by
  have a0 : w.cell? ⟨A, 0, none⟩ = some (.int .i64 x.id) := cell_of_row _ _ 0 _ _ _ hA
  have b0 : w.cell? ⟨B, 0, none⟩ = some (.string v) := cell_of_row _ _ 0 _ _ _ hB
  have o0 : w.cell? ⟨O, 0, none⟩ = some (.slice none 0 0) := cell_of_row _ _ 0 _ _ _ hO
  have HO := Lib.hid hO
  have hOs := (Array.getElem?_eq_some_iff.1 hO).1
  clear hA hB hO
  go_enter Tryz.func102, Tryz.ntmps102
  go_wp2_with (at_builtin; go_must (refine wpList_appK 4 _ _ 32 40 (.agg #[.int .i64 0, .int .i64 0, .int .i64 0, .string ⟨#[]⟩]) [.int .i64 k, .int .i64 x.id, .int .i64 (-1), .string v] _ Tryz.underlying32 Tryz.infoMsg rfl (by decide) (World.ownsRow_nil w w.heap.size 85 4) (Below.refl _ w) (Nat.le_refl _) rfl rfl rfl rfl rfl (by simp [Value.oneCell']) (by unfold maxLen; omega) (by omega) ?_))
  intro v' w1 hown hb1 _ _
  rcases hown.2 with ⟨_, e1⟩ | ⟨g, cap, cur, rfl, hgb, hblk, hle, hmx, hsz, htk⟩
  · omega
  have hO1 := heap_below hb1 HO.out
  have HO1 := Lib.hid hO1
  have HBK := Lib.hid hblk
  have HR := Lib.hid (show w.heap.size ≤ g ∧ 1 ≤ cap ∧ cap ≤ maxLen ∧ cur.size = cap * 4 ∧ cur.toList.take (1 * 4) = [.int .i64 k, .int .i64 x.id, .int .i64 (-1), .string v] from ⟨hgb, hle, hmx, hsz, htk⟩)
  have HB1 := Lib.hid hb1
  have z0 := frozenB hO1 0
  have c0 := cell_of_row _ _ 0 _ _ _ hO1
  clear hown hgb hblk hle hmx hsz htk hO1 hb1
  go_wp2_with fail
  refine bodyPost_end (v := .tuple #[]) (results_none Tryz.results102 _ _ _) rfl ⟨rfl, ?_, ?_⟩
  · obtain ⟨q1, q2, q3, q4, q5⟩ := HB1.out
    refine ⟨q1, q2, q3, by simpa using q4, fun k hk hne => ?_⟩
    exact (Below.heap_setCell _ _ _ _ (by intro e; exact hne (by rw [e]))).trans (q5 k hk)
  · obtain ⟨r1, r2, r3, r4, r5⟩ := HR.out
    exact ⟨.slice (some ⟨g, 0, none⟩) 1 cap, by rw [heap_set_at HO1.out]; rfl, rfl, .inr ⟨g, cap, cur, rfl, r1, heap_set_other (by omega) _ _ HBK.out, r2, r3, r4, r5⟩⟩

/-- two blocks alone may have turned -/
structure Keep2 (w w' : World) (A O : Nat) : Prop where
  os : w'.os = w.os
  tape : w'.tape = w.tape
  output : w'.output = w.output
  size : w.heap.size ≤ w'.heap.size
  block : ∀ k, k < w.heap.size → k ≠ A → k ≠ O → w'.heap[k]? = w.heap[k]?

set_option maxRecDepth 100000 in
set_option maxHeartbeats 2000000 in
theorem ready_c (is : Bool) (x : CasT) (ve vr : Value) (v : ByteArray) (A B O S : Nat) (w : World)
    (hA : w.heap[A]? = some (.cells (casA x ve vr) 97 (0, 0))) (hB : w.heap[B]? = some (.cells #[.string v] 9 (0, 0))) (hO : w.heap[O]? = some (.cells #[.slice none 0 0] 32 (0, 0)))
    (hS : w.heap[S]? = some (.cells #[.func (.func 102) #[] #[.pointer (some ⟨O, 0, none⟩), .pointer (some ⟨A, 0, none⟩), .pointer (some ⟨B, 0, none⟩)]] 89 (0, 0))) :
    Calls Tryz.prog 103 #[.bool is, .pointer (some ⟨A, 0, none⟩), .pointer (some ⟨B, 0, none⟩), .pointer (some ⟨S, 0, none⟩)] w fun e w' => e = .returned (.tuple #[]) ∧ Keep2 w w' A O ∧ w'.heap[A]? = some (.cells (casA (readyS is x v).1 ve vr) 97 (0, 0)) ∧ ∃ vo, w'.heap[O]? = some (.cells #[vo] 32 (0, 0)) ∧ w'.ownsRow w.heap.size 85 4 vo (readyS is x v).2.length ((readyS is x v).2.flatMap msgC) := by
  have hAB : A ≠ B := by rintro rfl; rw [hA] at hB; injection hB with e; injection e with _ e2; exact absurd e2 (by decide)
  have hAO : A ≠ O := by rintro rfl; rw [hA] at hO; injection hO with e; injection e with _ e2; exact absurd e2 (by decide)
  have hAS : A ≠ S := by rintro rfl; rw [hA] at hS; injection hS with e; injection e with _ e2; exact absurd e2 (by decide)
  have a4 : w.cell? ⟨A, 4, none⟩ = some (.bool x.hasR) := cell_of_row _ _ 4 _ _ _ hA
  have b0 : w.cell? ⟨B, 0, none⟩ = some (.string v) := cell_of_row _ _ 0 _ _ _ hB
  have b0d : w.drew.cell? ⟨B, 0, none⟩ = some (.string v) := b0
  have HA := Lib.hid hA
  have HB := Lib.hid hB
  have HO := Lib.hid hO
  have HS := Lib.hid hS
  have z3 : w.drew.frozen? ⟨A, 3, none⟩ = false := frozenB hA 3
  have z4 : w.drew.frozen? ⟨A, 4, none⟩ = false := frozenB hA 4
  have z3' : w.frozen? ⟨A, 3, none⟩ = false := frozenB hA 3
  have z4' : w.frozen? ⟨A, 4, none⟩ = false := frozenB hA 4
  have a3 : w.cell? ⟨A, 3, none⟩ = some (.string x.readied) := cell_of_row _ _ 3 _ _ _ hA
  have a3d : w.drew.cell? ⟨A, 3, none⟩ = some (.string x.readied) := cell_of_row _ _ 3 _ _ _ hA
  have a4d : w.drew.cell? ⟨A, 4, none⟩ = some (.bool x.hasR) := cell_of_row _ _ 4 _ _ _ hA
  have s0 : w.cell? ⟨S, 0, none⟩ = some (.func (.func 102) #[] #[.pointer (some ⟨O, 0, none⟩), .pointer (some ⟨A, 0, none⟩), .pointer (some ⟨B, 0, none⟩)]) := cell_of_row _ _ 0 _ _ _ hS
  clear hA hB hO hS
  by_cases hgo : (is && !x.hasR) = true
  · have hE : Hid (readyS is x v = ({ x with hasR := true, readied := v }, [⟨3, x.id, -1, v⟩])) := Lib.hid (by unfold readyS; rw [if_pos hgo])
    obtain ⟨rfl, hr⟩ : is = true ∧ x.hasR = false := by simpa using hgo
    rw [hr] at a4 a4d
    clear hgo
    go_enter Tryz.func103, Tryz.ntmps103
    go_wp2_with fail
    go_region
    all_goals
      have hA2 : (((w.setCell ⟨A, 4, none⟩ (.bool true)).setCell ⟨A, 3, none⟩ (.string v)).drew).heap[A]? = some (.cells (casA { x with hasR := true, readied := v } ve vr) 97 (0, 0)) := by
        show ((w.setCell ⟨A, 4, none⟩ (.bool true)).setCell ⟨A, 3, none⟩ (.string v)).heap[A]? = _
        rw [heap_set_at (heap_set_at HA.out 4 _) 3 _]; rfl
      have ko : ∀ (k : Nat), k ≠ A → (((w.setCell ⟨A, 4, none⟩ (.bool true)).setCell ⟨A, 3, none⟩ (.string v)).drew).heap[k]? = w.heap[k]? := fun k hk => by
        show ((w.setCell ⟨A, 4, none⟩ (.bool true)).setCell ⟨A, 3, none⟩ (.string v)).heap[k]? = _
        rw [Below.heap_setCell _ _ _ _ (by intro e; exact hk (by rw [e])), Below.heap_setCell _ _ _ _ (by intro e; exact hk (by rw [e]))]
      have HSC := Lib.hid (send_c { x with hasR := true, readied := v } ve vr v 3 A B O _ hA2 ((ko B hAB.symm).trans HB.out) ((ko O hAO.symm).trans HO.out))
      have HA2 := Lib.hid hA2
      have HKO := Lib.hid ko
      clear hA2 ko
      go_wp2_with fail
      refine HSC.out.mono ?_
      rintro e w1 ⟨rfl, hgr, vo, ho1, hown⟩
      have HG := Lib.hid hgr
      have HO1 := Lib.hid ho1
      have HOWN := Lib.hid hown
      clear hgr ho1 hown HSC
      go_wp2_with fail
      have hsz : (((w.setCell ⟨A, 4, none⟩ (.bool true)).setCell ⟨A, 3, none⟩ (.string v)).drew).heap.size = w.heap.size := by simp
      have hAs := (Array.getElem?_eq_some_iff.1 HA.out).1
      obtain ⟨q1, q2, q3, q4, q5⟩ := HG.out
      rw [hsz] at q4 q5
      have hown2 := HOWN.out
      rw [hsz] at hown2
      refine bodyPost_end (v := .tuple #[]) (results_none Tryz.results103 _ _ _) rfl ⟨rfl, ⟨q1, q2, q3, q4, fun k hk h1 h2 => (q5 k hk (by simpa using h2)).trans (HKO.out k h1)⟩, ?_, vo, HO1.out, ?_⟩
      · rw [hE.out, q5 A hAs (by simpa using hAO)]; exact HA2.out
      · rw [hE.out]; exact hown2
  · have hE : Hid (readyS is x v = (x, [])) := Lib.hid (by unfold readyS; rw [if_neg hgo])
    cases is
    · clear hgo
      go_enter Tryz.func103, Tryz.ntmps103
      go_wp2_with fail
      refine bodyPost_end (v := .tuple #[]) (results_none Tryz.results103 _ _ _) rfl ⟨rfl, ⟨rfl, rfl, rfl, Nat.le_refl _, fun _ _ _ _ => rfl⟩, by rw [hE.out]; exact HA.out, _, HO.out, by rw [hE.out]; exact World.ownsRow_nil _ _ _ _⟩
    · have hr : x.hasR = true := by simpa using hgo
      rw [hr] at a4 a4d
      clear hgo
      go_enter Tryz.func103, Tryz.ntmps103
      go_wp2_with fail
      refine bodyPost_end (v := .tuple #[]) (results_none Tryz.results103 _ _ _) rfl ⟨rfl, ⟨rfl, rfl, rfl, Nat.le_refl _, fun _ _ _ _ => rfl⟩, by rw [hE.out]; exact HA.out, _, HO.out, by rw [hE.out]; exact World.ownsRow_nil _ _ _ _⟩
end Go.Proofs.YtmjgdnpfgkpaoaaGreatDoor
