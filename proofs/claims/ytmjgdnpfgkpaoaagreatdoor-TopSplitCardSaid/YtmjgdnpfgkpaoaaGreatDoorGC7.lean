/- Texts laid together. Package broadcast: what a side of an attack says. Package broadcast: which messages a side of an attack delivers. Package broadcast, plain: an attack's deliveries come to an end. Package broadcast, plain: what a split is. Package broadcast: Attack. Package broadcast: Attack where there is no split. -/
import Derived.Test.YtmjgdnpfgkpaoaaGreatDoorGC1
import Derived.Test.YtmjgdnpfgkpaoaaGreatDoorGC6
import Derived.Deep.RegionHeld3
import Derived.Deep.LoopGhost
namespace Go.Proofs.YtmjgdnpfgkpaoaaGreatDoor
open Go.RowKit Go.Shelf

theorem memS_len (x : BitVec 16) : (memS x).length ≤ 16 := by
  unfold memS
  exact Nat.le_trans (List.length_filter_le _ (List.range 16)) (by rw [List.length_range]; exact Nat.le_refl _)
/-- what is said to some nodes -/
def sayL (sn : BitVec 16) (v : ByteArray) (kind src : Int) : List MsgT := (memS sn).map fun (t : Nat) => ⟨kind, src, (t : Int), v⟩

set_option maxRecDepth 100000 in
set_option maxHeartbeats 2000000 in
theorem say_c (kind from_ : Int) (sn sq : BitVec 16) (v : ByteArray) (S RB : Nat) (w0 : World) (R : Nat) (vf vb : Value) (n : Nat) (byz : BitVec 16) (src : Int) (xs : List CasT) (fs : List MsgT) (w : World) (hfs : fs.length ≤ 100000) (ht : HasTab w)
    (hS : w.heap[S]? = some (.cells #[.int .u16 (U sn), .int .u16 (U sq), .string v] 75 (0, 0))) (hRB : w.heap[RB]? = some (.cells #[.pointer (some ⟨R, 0, none⟩)] 79 (0, 0)))
    (h : RunM w0 R vf vb n byz src xs fs w) :
    Calls Tryz.prog 36 #[.int .i64 kind, .int .i64 from_, .pointer (some ⟨S, 0, none⟩), .pointer (some ⟨RB, 0, none⟩)] w fun e w' => e = .returned (.tuple #[]) ∧ RunM w0 R vf vb n byz src xs (fs ++ sayL sn v kind from_) w' ∧ FrameT w w' := by
  obtain ⟨vN, vF, ns, h, hns⟩ := h
  have HMB := Lib.hid (bmembers_c sn (U sn) w rfl ht)
  have c0 := cell_of_row _ _ 0 _ _ _ hS
  have HS := Lib.hid hS
  have HRB := Lib.hid hRB
  have HV := Lib.hid h
  have HNS := Lib.hid hns
  obtain ⟨i0, hi0, hz0, hz1, hz2⟩ := info_parts Tryz.infoMsg
  clear hS hRB h hns ht
  go_enter Tryz.func36, Tryz.ntmps36
  go_wp2_with fail
  refine HMB.out.mono ?_
  rintro e w1 ⟨vr, rfl, hrow, hb1⟩
  obtain ⟨ar, cr, rfl, hrr⟩ := hrow.rdn (memS sn).length (by simp)
  obtain ⟨nr, hnr⟩ : ∃ nr, (memS sn).length = nr := ⟨_, rfl⟩
  rw [hnr] at hrr
  have hnr16 : nr ≤ 16 := by rw [← hnr]; exact memS_len sn
  have hcr := hrr.le
  have hcm := hrr.max
  unfold maxLen at hcm
  have HV1 := Lib.hid (HV.out.below hb1)
  have HS1 := Lib.hid (heap_below hb1 HS.out)
  have HRB1 := Lib.hid (heap_below hb1 HRB.out)
  have HROW := Lib.hid hrow
  have HB1 := Lib.hid hb1
  have HNR := Lib.hid hnr
  have HRw := Lib.hid HV.out.lt
  have HFl : Hid (∀ g, vF.ownBlock = some g → g < w.heap.size) := Lib.hid (fun g hg => (HV.out.flt.lt g hg).2)
  have HRR := Lib.hid hrr
  clear hrow hb1 hrr HMB c0
  rw [hnr]
  go_wp2_with fail
  go_loopw [12] (fun i wr => ∃ k : Nat, k ≤ nr ∧ i = .int .i64 k ∧ Hid (∃ vF', RunV w0 R vf vb n byz src vN vF' ns (fs ++ (sayL sn v kind from_).take k) wr ∧ KeepF R vF vF' w1 wr)) (fun i _ => nr - (intOf i).toNat)
  case atStart => exact ⟨0, Nat.zero_le _, rfl, Lib.hid ⟨vF, by simpa using HV1.out, KeepF.refl _ _ _⟩⟩
  case round =>
    obtain ⟨k, hk, rfl, hin⟩ := hrel
    obtain ⟨vF', hV, hK⟩ := hin.out
    clear hin
    by_cases hlt : k < nr
    · obtain ⟨x, hx⟩ : ∃ x, (memS sn)[k]? = some x := ⟨_, List.getElem?_eq_getElem (by rw [HNR.out]; exact hlt)⟩
      have hstep : (sayL sn v kind from_).take (k + 1) = (sayL sn v kind from_).take k ++ [⟨kind, from_, (x : Int), v⟩] := by
        rw [List.take_add_one]; unfold sayL; rw [List.getElem?_map, hx]; rfl
      obtain ⟨gr, og, ea, hcl⟩ := HRR.out.at' (by omega)
      subst ea
      have hgl := HROW.out.lt gr rfl
      have hgrk : wr.heap[gr]? = w1.heap[gr]? := hK.keep gr hgl.2 (by have := HRw.out; omega) (fun e => by have := HFl.out gr e; omega)
      have hxr : wr.cell? ⟨gr, og + k, none⟩ = some (.int .i64 x) := (World.cell?_of_block (a := ⟨gr, og + k, none⟩) hgrk).trans (hcl k (intV x) (by rw [List.getElem?_map, hx]; rfl))
      have hRS : R ≠ S := fun e => by subst e; have h1 := HV1.out.box; rw [HS1.out] at h1; injection h1 with h1; injection h1 with _ h1; exact absurd h1 (by decide)
      have hRB : R ≠ RB := fun e => by subst e; have h1 := HV1.out.box; rw [HRB1.out] at h1; injection h1 with h1; injection h1 with _ h1; exact absurd h1 (by decide)
      have hS := (hK.keep S (Array.getElem?_eq_some_iff.1 HS1.out).1 (Ne.symm hRS) (own_ne HV1.out.flt HS1.out (by decide))).trans HS1.out
      have hB := (hK.keep RB (Array.getElem?_eq_some_iff.1 HRB1.out).1 (Ne.symm hRB) (own_ne HV1.out.flt HRB1.out (by decide))).trans HRB1.out
      have s2 := cell_of_row _ _ 2 _ _ _ hS
      have r0 := cell_of_row _ _ 0 _ _ _ hB
      obtain ⟨av, cv, rfl, _⟩ := rdK_of_row hV.flt
      obtain ⟨m, hm⟩ : ∃ m, (fs ++ (sayL sn v kind from_).take k).length = m := ⟨_, rfl⟩
      have hm2 : m ≤ 100016 := by rw [← hm, List.length_append, List.length_take]; omega
      obtain ⟨⟨b0, b1, b2, b3, b4, b5, b6⟩, y5, y6⟩ := open7Q hV.box
      have hrow := hV.flt
      rw [hm] at b6 hrow
      have s2b : ∀ ob, (wr.alloc ob).cell? ⟨S, 2, none⟩ = some (.string v) := fun ob => cell_of_row _ _ 2 _ _ _ (heap_alloc_at hS ob)
      have r0b : ∀ ob, (wr.alloc ob).cell? ⟨RB, 0, none⟩ = some (.pointer (some ⟨R, 0, none⟩)) := fun ob => cell_of_row _ _ 0 _ _ _ (heap_alloc_at hB ob)
      have b6b : ∀ ob, (wr.alloc ob).cell? ⟨R, 6, none⟩ = some (.slice av m cv) := fun ob => by have := cell_of_row _ _ 6 _ _ _ (heap_alloc_at hV.box ob); rw [hm] at this; exact this
      have hbs : w0.heap.size ≤ wr.heap.size := hV.old.size
      have hRs : R < wr.heap.size := hV.lt
      have HROW1 := Lib.hid hrow
      have HV2 := Lib.hid hV
      have HK2 := Lib.hid hK
      have HST := Lib.hid hstep
      have HM := Lib.hid hm
      have HfR := Lib.hid hV.fR
      have HBX := Lib.hid hV.box
      have KA : Hid (∀ x y : World, x.grownBy y (Value.slice av m cv).ownBlock → x.heap[R]? = wr.heap[R]? → wr.heap.size ≤ x.heap.size → y.heap[R]? = some (.cells #[vf, vb, .int .i64 n, .int .u16 (U byz), .int .i64 src, vN, .slice av m cv] 83 (0, 0))) := Lib.hid (fun x y hg hx hsx => by
        rw [hg.block R (by omega) (fun e => HfR.out (by rw [← hm] at e; exact e.symm)), hx, ← hm]
        exact HBX.out)
      have HBB := Lib.hid hB
      have hRBs : RB < wr.heap.size := (Array.getElem?_eq_some_iff.1 hB).1
      have HfB := Lib.hid (own_ne hV.flt hB (by decide))
      have KB : Hid (∀ x y : World, x.grownBy y (Value.slice av m cv).ownBlock → x.heap[RB]? = wr.heap[RB]? → wr.heap.size ≤ x.heap.size → y.cell? ⟨RB, 0, none⟩ = some (.pointer (some ⟨R, 0, none⟩))) := Lib.hid (fun x y hg hx hsx => by
        have h9 := (hg.block RB (by omega) (fun e => HfB.out (by rw [← hm] at e; exact e.symm))).trans (hx.trans HBB.out)
        exact cell_of_row _ _ 0 _ _ _ h9)
      clear hV hK hstep hm hrow hS hB hgrk hcl hx hRS hRB
      go_upto_region 3 with fail
      go_wp2_with fail
      go_region_law (first
        | (refine step_append_lies _ (by rfl) _ _ _ (by rfl) w0.heap.size 85 i0 _ 4 40 Tryz.underlying32 hi0 hz0 hz1 hz2 rfl (by omega) (.slice av m cv) m _ (by simp [Act.eval]) ((HROW1.out.alloc _).drew) ⟨wr.heap.size, 0, none⟩ 1 1 [.int .i64 kind, .int .i64 from_, .int .i64 x, .string v] (by simp [Act.eval]) (by rfl) (World.news_of_block (cs := #[.int .i64 kind, .int .i64 from_, .int .i64 x, .string v]) (t := 85) (fr := (0, 0)) (heap_alloc_new wr _)) (by simp [Value.oneCell']) (by omega) (by unfold maxLen; omega) (by omega) (by simp; omega) (wr.heap.size + 1) (by simp) ?_; intro gg cap wA hownA hgrow hat hlt2; have hA := KA.out _ _ hgrow (Below.heap_alloc wr _ R (by omega)) (by simp); have rA := KB.out _ _ hgrow (Below.heap_alloc wr _ RB (by omega)) (by simp); have pA := cell_of_row _ _ 6 _ _ _ hA; have zA := frozenB hA 6; have HA := Lib.hid hA; have HOA := Lib.hid hownA; have HGA := Lib.hid hgrow; have HAT := Lib.hid hat; clear hA hownA hgrow hat))
      all_goals
        go_wp2_with fail
        go_roundw
        case rel =>
          have hp := HV2.out.pushed (m := ⟨kind, from_, (x : Int), v⟩) (by rw [HM.out]; exact HGA.out) HM.out HOA.out (by rw [HM.out]; exact HAT.out.imp_right fun h1 => by omega)
          refine ⟨k + 1, by omega, by go_num, Lib.hid ⟨.slice (some ⟨gg, 0, none⟩) (m + 1) cap, ?_, ?_⟩⟩
          · rw [HST.out, ← List.append_assoc]; exact hp.1
          · exact HK2.out.trans hp.2
        case measure => simp [intOf]; omega
    · obtain rfl : k = nr := by omega
      have HV2 := Lib.hid hV
      have HK2 := Lib.hid hK
      clear hV hK
      go_wp2_with fail
      have h9 := HV2.out
      rw [List.take_of_length_le (by unfold sayL; rw [List.length_map, HNR.out]; exact Nat.le_refl _)] at h9
      refine bodyPost_end (v := .tuple #[]) (results_none Tryz.results36 _ _ _) rfl ⟨rfl, ⟨_, _, _, h9, HNS.out⟩, (FrameT.below HB1.out).trans (KeepF.frame HV1.out HK2.out)⟩
end Go.Proofs.YtmjgdnpfgkpaoaaGreatDoor
namespace Go.Proofs.YtmjgdnpfgkpaoaaGreatDoor
open Go.RowKit Go.Shelf

/-- delivered by a side: to a node of the side, from such a node or a Byzantine one -/
def pickQ (sn bad : BitVec 16) (m : MsgT) : Bool := hasB sn m.dst.toNat && hasB (sn ||| bad) m.src.toNat
set_option maxRecDepth 100000 in
set_option maxHeartbeats 1000000 in
theorem pick_at (w : World) (S B : Nat) (sn sq bad : BitVec 16) (v : ByteArray) (l : List MsgT) (hS : w.heap[S]? = some (.cells #[.int .u16 (U sn), .int .u16 (U sq), .string v] 75 (0, 0))) (hB : w.cell? ⟨B, 0, none⟩ = some (.int .u16 (U bad)))
    (hl : ∀ m ∈ l, ∃ s d : Nat, m.src = s ∧ m.dst = d ∧ s < 12 ∧ d < 12) :
    PrL Tryz.prog 38 #[.pointer (some ⟨S, 0, none⟩), .pointer (some ⟨B, 0, none⟩)] msgV (pickQ sn bad) l w := fun W m hm hb => by
  obtain ⟨m0, m1, m2, m3⟩ := m
  obtain ⟨s, d, h1, h2, hs, hd⟩ := hl _ hm
  simp only at h1 h2
  subst h1 h2
  unfold msgV pickQ
  have hS1 := heap_below hb hS
  have c0 : ∀ ob, (W.alloc ob).cell? ⟨S, 0, none⟩ = some (.int .u16 (U sn)) := fun ob => cell_of_row _ _ 0 _ _ _ (heap_alloc_at hS1 ob)
  have hB1 : W.cell? ⟨B, 0, none⟩ = some (.int .u16 (U bad)) := (hb.cell (p := ⟨B, 0, none⟩) (cell_lt hB)).trans hB
  have c1 : ∀ ob, (W.alloc ob).cell? ⟨B, 0, none⟩ = some (.int .u16 (U bad)) := fun ob => ((Below.refl _ W).alloc (Nat.le_refl _) ob |>.cell (p := ⟨B, 0, none⟩) (cell_lt hB1)).trans hB1
  simp only [Int.toNat_natCast]
  clear hb hB hS hS1 hB1 hl hm
  cases hq : hasB sn d
  all_goals
    go_enter Tryz.func38, Tryz.ntmps38
    go_wp2_with fail
    go_ret
    exact ⟨rfl, (Below.refl _ _).alloc (Nat.le_refl _) _⟩
end Go.Proofs.YtmjgdnpfgkpaoaaGreatDoor
namespace Go.Proofs.YtmjgdnpfgkpaoaaGreatDoor
open Go.RowKit Go.Shelf

abbrev StB := List CasT × List MsgT
/-- what a node may still send -/
def costC (x : CasT) : Nat := (if x.hasE then 0 else 13) + (if x.hasR then 0 else 13)
def costL (l : List CasT) : Nat := (l.map costC).sum
/-- deliveries that are left at most -/
def muS (st : StB) : Nat := st.2.length + costL st.1
structure InvB (n K : Nat) (st : StB) : Prop where
  len : st.1.length = n
  id : ∀ (i : Nat) (x : CasT), st.1[i]? = some x → x.id = i
  msg : ∀ m ∈ st.2, ∃ s d : Nat, m.src = s ∧ m.dst = d ∧ s < n ∧ d < n
  bd : ∀ x ∈ st.1, x.echoes.length + muS st ≤ K ∧ x.readies.length + muS st ≤ K

theorem ready_cost (is : Bool) (x : CasT) (v : ByteArray) : costC (readyS is x v).1 + 13 * (readyS is x v).2.length ≤ costC x ∧ (readyS is x v).1.id = x.id ∧ (readyS is x v).1.echoes = x.echoes ∧ (readyS is x v).1.readies = x.readies ∧ ∀ m ∈ (readyS is x v).2, m.src = x.id := by
  unfold readyS
  split
  · rename_i h
    obtain ⟨_, h2⟩ : is = true ∧ x.hasR = false := by simpa using h
    refine ⟨?_, rfl, rfl, rfl, fun m hm => ?_⟩
    · unfold costC; simp only [h2]; simp
    · simp only [List.mem_singleton] at hm; rw [hm]
  · exact ⟨by simp, rfl, rfl, rfl, fun m hm => by simp at hm⟩
theorem last_cost (f : List (BitVec 16)) (s : BitVec 16) (x : CasT) (v : ByteArray) : costC (lastS f s x v) = costC x ∧ (lastS f s x v).id = x.id ∧ (lastS f s x v).echoes = x.echoes ∧ (lastS f s x v).readies = x.readies := by
  unfold lastS; split <;> exact ⟨rfl, rfl, rfl, rfl⟩
theorem hand_cost (f b : List (BitVec 16)) (x : CasT) (src kind : Int) (v : ByteArray) :
    costC (handleS f b x src kind v).1 + 13 * (handleS f b x src kind v).2.length ≤ costC x ∧ (handleS f b x src kind v).1.id = x.id ∧ (handleS f b x src kind v).1.echoes.length ≤ x.echoes.length + 1 ∧ (handleS f b x src kind v).1.readies.length ≤ x.readies.length + 1 ∧ ∀ m ∈ (handleS f b x src kind v).2, m.src = x.id := by
  unfold handleS
  split
  · exact ⟨by simp, rfl, by simp, by simp, fun m hm => by simp at hm⟩
  · split
    · split
      · exact ⟨by simp, rfl, by simp, by simp, fun m hm => by simp at hm⟩
      · rename_i h
        have h2 : x.hasE = false := by simpa using h
        refine ⟨?_, rfl, by simp, by simp, fun m hm => ?_⟩
        · unfold costC; simp only [h2]; simp; omega
        · simp only [List.mem_singleton] at hm; rw [hm]
    · split
      · have hl := addH_len x.echoes src.toNat v
        split
        · obtain ⟨h1, h2, h3, h4, h5⟩ := ready_cost (accS f (heaS (addH x.echoes src.toNat v).1 v)) { x with echoes := (addH x.echoes src.toNat v).1 } v
          exact ⟨h1, h2, by rw [h3]; exact hl, by rw [h4]; simp, h5⟩
        · exact ⟨by simp [costC], rfl, hl, by simp, fun m hm => by simp at hm⟩
      · split
        · have hl := addH_len x.readies src.toNat v
          split
          · obtain ⟨h1, h2, h3, h4, h5⟩ := ready_cost (!witS b (heaS (addH x.readies src.toNat v).1 v)) { x with readies := (addH x.readies src.toNat v).1 } v
            obtain ⟨g1, g2, g3, g4⟩ := last_cost f (heaS (addH x.readies src.toNat v).1 v) (readyS (!witS b (heaS (addH x.readies src.toNat v).1 v)) { x with readies := (addH x.readies src.toNat v).1 } v).1 v
            exact ⟨by rw [g1]; exact h1, g2.trans h2, by rw [g3, h3]; simp, by rw [g4, h4]; exact hl, h5⟩
          · exact ⟨by simp [costC], rfl, by simp, hl, fun m hm => by simp at hm⟩
        · exact ⟨by simp, rfl, by simp, by simp, fun m hm => by simp at hm⟩

theorem costL_set : ∀ (l : List CasT) (d : Nat) (x y : CasT), l[d]? = some x → costL (l.set d y) + costC x = costL l + costC y
  | [], d, x, y, h => by simp at h
  | z :: l, 0, x, y, h => by
    simp at h; subst h
    simp [costL]; omega
  | z :: l, d + 1, x, y, h => by
    have h' : l[d]? = some x := by simpa using h
    have := costL_set l d x y h'
    simp only [costL, List.set_cons_succ, List.map_cons, List.sum_cons] at this ⊢
    omega
theorem fold_memQ (byz : BitVec 16) (n : Nat) : ∀ (out fs : List MsgT) (m : MsgT), m ∈ out.foldl (fun l m => l ++ allK byz m n) fs → m ∈ fs ∨ ∃ o ∈ out, m ∈ allK byz o n
  | [], fs, m, h => .inl h
  | o :: out, fs, m, h => by
    rw [List.foldl_cons] at h
    rcases fold_memQ byz n out _ m h with h1 | ⟨o', h1, h2⟩
    · rcases List.mem_append.1 h1 with h1 | h1
      · exact .inl h1
      · exact .inr ⟨o, List.mem_cons_self, h1⟩
    · exact .inr ⟨o', List.mem_cons_of_mem _ h1, h2⟩
theorem del_eq {f b : List (BitVec 16)} {n : Nat} {byz : BitVec 16} {xs : List CasT} {fs : List MsgT} {k d : Nat} {c : MsgT} {x : CasT} (hc : fs[k]? = some c) (hd : c.dst = d) (hx : xs[d]? = some x) :
    delS f b n byz xs fs k = (xs.set d (handleS f b x c.src c.kind c.value).1, (handleS f b x c.src c.kind c.value).2.foldl (fun l m => l ++ allK byz m n) (fs.eraseIdx k)) := by
  unfold delS
  rw [hc]
  simp only [hd, Int.toNat_natCast, hx]
/-- a delivery: the end comes nearer -/
theorem del_inv {f b : List (BitVec 16)} {n K : Nat} {byz : BitVec 16} {st : StB} {k : Nat} {c : MsgT} (hn : n ≤ 12) (h : InvB n K st) (hc : st.2[k]? = some c) : InvB n K (delS f b n byz st.1 st.2 k) ∧ muS (delS f b n byz st.1 st.2 k) + 1 ≤ muS st := by
  obtain ⟨s, d, hs, hd, hs2, hd2⟩ := h.msg c (List.mem_of_getElem? hc)
  obtain ⟨x, hx⟩ : ∃ x, st.1[d]? = some x := ⟨_, List.getElem?_eq_getElem (by rw [h.len]; exact hd2)⟩
  obtain ⟨h1, h2, h3, h4, h5⟩ := hand_cost f b x c.src c.kind c.value
  rw [del_eq hc hd hx]
  obtain ⟨⟨x', out⟩, hH⟩ : ∃ r, handleS f b x c.src c.kind c.value = r := ⟨_, rfl⟩
  rw [hH] at h1 h2 h3 h4 h5 ⊢
  simp only at h1 h2 h3 h4 h5 ⊢
  have hkl : k < st.2.length := (List.getElem?_eq_some_iff.1 hc).1
  have he : (st.2.eraseIdx k).length + 1 = st.2.length := by rw [List.length_eraseIdx, if_pos hkl]; omega
  have hf := fold_len byz n out (st.2.eraseIdx k)
  have hm : out.length * n ≤ 13 * out.length := by
    rw [Nat.mul_comm]; exact Nat.mul_le_mul_right _ (by omega)
  have hcs := costL_set st.1 d x x' hx
  have hmu : muS (st.1.set d x', out.foldl (fun l m => l ++ allK byz m n) (st.2.eraseIdx k)) + 1 ≤ muS st := by
    unfold muS
    simp only
    omega
  refine ⟨⟨by rw [List.length_set]; exact h.len, fun i y hi => ?_, fun m hm => ?_, fun y hy => ?_⟩, hmu⟩
  · rw [List.getElem?_set] at hi
    split at hi
    · rename_i e
      subst e
      split at hi
      · cases hi; rw [h2]; exact h.id d x hx
      · cases hi
    · exact h.id i y hi
  · rcases fold_memQ byz n out _ m hm with h6 | ⟨o, h6, h7⟩
    · exact h.msg m (List.mem_of_mem_eraseIdx h6)
    · unfold allK at h7
      obtain ⟨i, h8, rfl⟩ := List.mem_map.1 h7
      refine ⟨d, i, ?_, rfl, hd2, List.mem_range.1 (List.mem_filter.1 h8).1⟩
      show o.src = d
      rw [h5 o h6]; exact h.id d x hx
  · rcases List.mem_or_eq_of_mem_set hy with hy | rfl
    · have := h.bd y hy; omega
    · have := h.bd x (List.mem_of_getElem? hx); omega

/-- messages delivered while some are for the side -/
def goS (f b : List (BitVec 16)) (n : Nat) (bad sn : BitVec 16) : Nat → StB → StB
  | 0, st => st
  | t + 1, st => if idxG (pickQ sn bad) st.2 < 0 then st else goS f b n bad sn t (delS f b n bad st.1 st.2 (idxG (pickQ sn bad) st.2).toNat)
theorem goS_stop {f b : List (BitVec 16)} {n : Nat} {bad sn : BitVec 16} {st : StB} (h : idxG (pickQ sn bad) st.2 < 0) : ∀ t, goS f b n bad sn t st = st
  | 0 => rfl
  | t + 1 => by rw [goS, if_pos h]
theorem goS_step {f b : List (BitVec 16)} {n : Nat} {bad sn : BitVec 16} {st : StB} {k : Nat} (h : idxG (pickQ sn bad) st.2 = k) (t : Nat) : goS f b n bad sn (t + 1) st = goS f b n bad sn t (delS f b n bad st.1 st.2 k) := by
  rw [goS, if_neg (by omega), h]; rfl
theorem idxG_lt {α : Type} {p : α → Bool} {l : List α} (h : ¬ idxG p l < 0) : ∃ k : Nat, idxG p l = k ∧ k < l.length ∧ ∃ x, l[k]? = some x ∧ p x = true := by
  unfold idxG at h ⊢
  cases ha : l.any p
  · rw [ha] at h; simp at h
  · have hlt : l.findIdx p < l.length := List.findIdx_lt_length_of_exists (by simpa using ha)
    refine ⟨l.findIdx p, by simp, hlt, l[l.findIdx p], List.getElem?_eq_getElem hlt, List.findIdx_getElem⟩
/-- a side of an attack: its nodes, its quorum, its value -/
abbrev SideT := BitVec 16 × BitVec 16 × ByteArray
def saysS (bad : BitVec 16) (src : Int) (s : SideT) : List MsgT := sayL s.1 s.2.2 1 src ++ (memS (s.2.1 &&& bad)).flatMap (fun (i : Nat) => sayL s.1 s.2.2 2 i) ++ (memS (s.2.1 &&& bad)).flatMap (fun (i : Nat) => sayL s.1 s.2.2 3 i)
def sideS (f b : List (BitVec 16)) (n : Nat) (bad : BitVec 16) (src : Int) (s : SideT) (st : StB) : StB := goS f b n bad s.1 (muS (st.1, st.2 ++ saysS bad src s)) (st.1, st.2 ++ saysS bad src s)
def firstV : ByteArray := ⟨#[120]⟩
def secondV : ByteArray := ⟨#[121]⟩
/-- the sides of an attack on a split -/
def sidesS (n : Nat) (q p bad : BitVec 16) : SideT × SideT :=
  if q &&& ~~~bad = 0#16 ∨ p &&& ~~~bad = 0#16 then
    ((bitS ((memS ((bitS n - 1#16) &&& ~~~bad)).getD 0 0), if q &&& ~~~bad = 0#16 then q else p, firstV), (bitS ((memS ((bitS n - 1#16) &&& ~~~bad)).getD 1 0), if q &&& ~~~bad = 0#16 then q else p, secondV))
  else ((q &&& ~~~bad, q, firstV), (p &&& ~~~bad, p, secondV))
/-- the run of an attack on a split -/
def attB (f b : List (BitVec 16)) (n : Nat) (q p bad : BitVec 16) : StB :=
  sideS f b n bad ((memS bad).headD 0) (sidesS n q p bad).2 (sideS f b n bad ((memS bad).headD 0) (sidesS n q p bad).1 ((List.range n).map casI, []))
theorem goS_inv {f b : List (BitVec 16)} {n K : Nat} {bad sn : BitVec 16} (hn : n ≤ 12) : ∀ (t : Nat) {st : StB}, InvB n K st → InvB n K (goS f b n bad sn t st)
  | 0, _, h => h
  | t + 1, st, h => by
    rw [goS]
    split
    · exact h
    · rename_i h1
      obtain ⟨k, hk, hl, x, hx, _⟩ := idxG_lt h1
      rw [hk, Int.toNat_natCast]
      exact goS_inv hn t (del_inv hn h hx).1
theorem add_inv {n K A : Nat} {st : StB} {L : List MsgT} (h : InvB n K st) (hm : ∀ m ∈ L, ∃ s d : Nat, m.src = s ∧ m.dst = d ∧ s < n ∧ d < n) (hl : L.length ≤ A) : InvB n (K + A) (st.1, st.2 ++ L) := by
  have hmu : muS (st.1, st.2 ++ L) ≤ muS st + A := by unfold muS; simp only [List.length_append]; omega
  refine ⟨h.len, h.id, fun m h1 => ?_, fun x hx => ?_⟩
  · rcases List.mem_append.1 h1 with h1 | h1
    · exact h.msg m h1
    · exact hm m h1
  · have := h.bd x hx; omega
theorem memS_lt_len {x : BitVec 16} {n : Nat} (hn : n ≤ 16) (hx : ∀ i, hasB x i = true → i < n) : (memS x).length ≤ n := by
  have h2 : memS x = (List.range n).filter (hasB x) := by
    have e : List.range 16 = List.range n ++ (List.range (16 - n)).map (n + ·) := by rw [← List.range_add]; congr 1; omega
    unfold memS
    rw [e, List.filter_append, show ((List.range (16 - n)).map (n + ·)).filter (hasB x) = [] from ?_, List.append_nil]
    rw [List.filter_eq_nil_iff]
    intro i hi hbi
    obtain ⟨j, hj, rfl⟩ := List.mem_map.1 hi
    have := hx _ hbi
    omega
  rw [h2]
  exact Nat.le_trans (List.length_filter_le _ (List.range n)) (by rw [List.length_range]; exact Nat.le_refl _)
theorem mem_has {x : BitVec 16} {i : Nat} (h : i ∈ memS x) : hasB x i = true := (List.mem_filter.1 h).2
theorem sayL_mem {sn : BitVec 16} {v : ByteArray} {kind : Int} {s n : Nat} (hs : s < n) (hsn : ∀ i, hasB sn i = true → i < n) : ∀ m ∈ sayL sn v kind s, ∃ s d : Nat, m.src = s ∧ m.dst = d ∧ s < n ∧ d < n := by
  intro m hm
  unfold sayL at hm
  obtain ⟨t, ht, rfl⟩ := List.mem_map.1 hm
  exact ⟨s, t, rfl, rfl, hs, hsn t (mem_has ht)⟩
theorem says_mem {bad : BitVec 16} {s : SideT} {k n : Nat} (hk : k < n) (hsn : ∀ i, hasB s.1 i = true → i < n) (hq : ∀ i, hasB bad i = true → i < n) : ∀ m ∈ saysS bad k s, ∃ s d : Nat, m.src = s ∧ m.dst = d ∧ s < n ∧ d < n := by
  intro m hm
  have hb : ∀ i ∈ memS (s.2.1 &&& bad), i < n := fun i hi => hq i (by have := mem_has hi; unfold hasB at this ⊢; rw [BitVec.getLsbD_and] at this; simp only [Bool.and_eq_true] at this; exact this.2)
  unfold saysS at hm
  rcases List.mem_append.1 hm with hm | hm
  · rcases List.mem_append.1 hm with hm | hm
    · exact sayL_mem hk hsn m hm
    · obtain ⟨i, hi, hm⟩ := List.mem_flatMap.1 hm
      exact sayL_mem (hb i hi) hsn m hm
  · obtain ⟨i, hi, hm⟩ := List.mem_flatMap.1 hm
    exact sayL_mem (hb i hi) hsn m hm
theorem flat_len_le {α β : Type} (g : α → List β) (a : Nat) : ∀ (l : List α), (∀ x ∈ l, (g x).length ≤ a) → (l.flatMap g).length ≤ l.length * a
  | [], _ => by simp
  | x :: l, h => by
    rw [List.flatMap_cons, List.length_append, List.length_cons, Nat.succ_mul]
    have h1 := h x List.mem_cons_self
    have h2 := flat_len_le g a l (fun y hy => h y (List.mem_cons_of_mem _ hy))
    omega
theorem says_len {bad : BitVec 16} {s : SideT} {k n : Nat} (hn : n ≤ 8) (hsn : ∀ i, hasB s.1 i = true → i < n) (hq : ∀ i, hasB bad i = true → i < n) : (saysS bad k s).length ≤ 136 := by
  have h1 : ∀ kd j, (sayL s.1 s.2.2 kd j).length ≤ 8 := fun kd j => by unfold sayL; rw [List.length_map]; exact Nat.le_trans (memS_lt_len (by omega) hsn) hn
  have h2 : (memS (s.2.1 &&& bad)).length ≤ 8 := Nat.le_trans (memS_lt_len (n := n) (by omega) (fun i hi => hq i (by unfold hasB at hi ⊢; rw [BitVec.getLsbD_and] at hi; simp only [Bool.and_eq_true] at hi; exact hi.2))) hn
  have h3 := flat_len_le (fun (i : Nat) => sayL s.1 s.2.2 2 i) 8 (memS (s.2.1 &&& bad)) (fun i _ => h1 2 i)
  have h4 := flat_len_le (fun (i : Nat) => sayL s.1 s.2.2 3 i) 8 (memS (s.2.1 &&& bad)) (fun i _ => h1 3 i)
  have h5 := h1 1 (k : Int)
  unfold saysS
  simp only [List.length_append]
  omega
theorem costL_init : ∀ (l : List Nat), costL (l.map casI) = 26 * l.length
  | [] => rfl
  | x :: l => by
    have := costL_init l
    simp only [costL, List.map_cons, List.sum_cons, List.length_cons] at this ⊢
    rw [this, show costC (casI x) = 26 from rfl]; omega
theorem init_inv (n : Nat) (hn : n ≤ 8) : InvB n 208 ((List.range n).map casI, []) := by
  refine ⟨by simp, fun i x hx => ?_, fun m hm => by simp at hm, fun x hx => ?_⟩
  · rw [List.getElem?_map] at hx
    rcases hr : (List.range n)[i]? with _ | j
    · rw [hr] at hx; cases hx
    · rw [hr] at hx; cases hx
      have := List.getElem?_eq_some_iff.1 hr
      obtain ⟨h1, h2⟩ := this
      rw [List.getElem_range] at h2
      rw [← h2]; rfl
  · obtain ⟨i, _, rfl⟩ := List.mem_map.1 hx
    unfold muS
    rw [costL_init]
    simp [casI]; omega
set_option maxHeartbeats 1000000 in
theorem deliver_m (f b : List (BitVec 16)) (w0 : World) (R : Nat) (af : Option Addr) (nf cf : Nat) (ab : Option Addr) (nb cb : Nat) (hf : Rd w0 af nf cf (f.map setV2)) (hb : Rd w0 ab nb cb (b.map setV2)) (n K : Nat) (byz : BitVec 16) (src : Int) (st : StB) (k : Nat) (c : MsgT) (hn : n ≤ 12) (hK : K ≤ 1000)
    (hi : InvB n K st) (hc : st.2[k]? = some c) (w : World) (h : RunM w0 R (.slice af nf cf) (.slice ab nb cb) n byz src st.1 st.2 w) :
    Calls Tryz.prog 39 #[.pointer (some ⟨R, 0, none⟩), .int .i64 k] w fun e w' => e = .returned (.tuple #[]) ∧ RunM w0 R (.slice af nf cf) (.slice ab nb cb) n byz src (delS f b n byz st.1 st.2 k).1 (delS f b n byz st.1 st.2 k).2 w' ∧ FrameT w w' := by
  obtain ⟨vN, vF, ns, h, hns⟩ := h
  obtain ⟨s, d, hs, hd, hs2, hd2⟩ := hi.msg c (List.mem_of_getElem? hc)
  have hl : ns.length = n := by have := congrArg List.length hns; rw [List.length_map, hi.len] at this; exact this
  obtain ⟨p, hp⟩ : ∃ p, ns[d]? = some p := ⟨_, List.getElem?_eq_getElem (by omega)⟩
  have hpx : p.1 ∈ st.1 := by rw [← hns]; exact List.mem_map.2 ⟨p, List.mem_of_getElem? hp, rfl⟩
  have hbd := hi.bd p.1 hpx
  have hmu : st.2.length ≤ muS st := by unfold muS; omega
  have := deliver_c f b w0 R af nf cf ab nb cb hf hb n byz src vN vF ns st.2 k d c p hn (by omega) hc hd hp (by omega) (by omega) w h
  rw [hns] at this
  exact this
end Go.Proofs.YtmjgdnpfgkpaoaaGreatDoor
namespace Go.Proofs.YtmjgdnpfgkpaoaaGreatDoor
open Go.RowKit Go.Shelf

theorem hasB_notQ (x : BitVec 16) (p : Nat) (hp : p < 16) : hasB (~~~x) p = !hasB x p := by simp [hasB, hp]
theorem spB_spec {n : Int} {q p : BitVec 16} : ∀ {b : List (BitVec 16)} {r : Spl}, spB n q p b = some r → ∃ d ∈ b, spD n q p d = true ∧ r = (q, p, d)
  | [], r, h => by cases h
  | d :: b, r, h => by
    unfold spB at h
    split at h
    · rename_i hd
      cases h
      exact ⟨d, List.mem_cons_self, hd, rfl⟩
    · obtain ⟨d', h1, h2, h3⟩ := spB_spec h
      exact ⟨d', List.mem_cons_of_mem _ h1, h2, h3⟩
theorem spA_spec {n : Int} {b : List (BitVec 16)} {q : BitVec 16} : ∀ {l : List (BitVec 16)} {r : Spl}, spA n b q l = some r → ∃ p ∈ l, ∃ d ∈ b, spD n q p d = true ∧ r = (q, p, d)
  | [], r, h => by cases h
  | p :: l, r, h => by
    unfold spA at h
    split at h
    · rename_i r' hr
      cases h
      obtain ⟨d, h1, h2, h3⟩ := spB_spec hr
      exact ⟨p, List.mem_cons_self, d, h1, h2, h3⟩
    · obtain ⟨p', h1, h2⟩ := spA_spec h
      exact ⟨p', List.mem_cons_of_mem _ h1, h2⟩
theorem spF_spec {n : Int} {b : List (BitVec 16)} : ∀ {l : List (BitVec 16)} {r : Spl}, spF n b l = some r → ∃ q ∈ l, ∃ p ∈ l, ∃ d ∈ b, spD n q p d = true ∧ r = (q, p, d)
  | [], r, h => by cases h
  | q :: l, r, h => by
    unfold spF at h
    split at h
    · rename_i r' hr
      cases h
      obtain ⟨p, h1, h2⟩ := spA_spec hr
      exact ⟨q, List.mem_cons_self, p, h1, h2⟩
    · obtain ⟨q', h1, p', h2, h3⟩ := spF_spec h
      exact ⟨q', List.mem_cons_of_mem _ h1, p', List.mem_cons_of_mem _ h2, h3⟩
theorem bch_ok {f b : List (BitVec 16)} {n : Nat} (h : bchS f b n = 0) : valS f = 0 ∧ insQ f n = true ∧ insQ b n = true := by
  unfold bchS at h
  split at h
  · contradiction
  · rename_i h1
    split at h
    · cases h
    · rename_i h2
      split at h
      · cases h
      · rename_i h3
        exact ⟨by omega, by simpa using h2, by simpa using h3⟩
theorem ins_lt {l : List (BitVec 16)} {n : Nat} (h : insQ l n = true) {x : BitVec 16} (hx : x ∈ l) {i : Nat} (hi : hasB x i = true) : i < n := by
  unfold insQ at h
  have h1 : shrS x n = 0#16 := by
    have h2 := h
    simp only [Bool.not_eq_true', List.any_eq_false, bne_iff_ne, ne_eq, Decidable.not_not] at h2
    exact h2 x hx
  apply Nat.lt_of_not_le
  intro hle
  have h3 : hasB (shrS x n) (i - n) = true := by
    unfold hasB shrS at *
    rw [BitVec.getLsbD_ushiftRight, show n + (i - n) = i by omega]; exact hi
  rw [h1, hasB_zero] at h3
  cases h3
theorem full_has : ∀ n, n ≤ 8 → ∀ i, i < 16 → hasB (bitS n - 1#16) i = decide (i < n) := by decide
/-- the ones that are no Byzantine servers -/
theorem rest_has {n : Nat} (hn : n ≤ 8) (bad : BitVec 16) {i : Nat} : i ∈ memS ((bitS n - 1#16) &&& ~~~bad) ↔ i < n ∧ hasB bad i = false := by
  rw [mem_memS, hasB_and, Bool.and_eq_true]
  constructor
  · rintro ⟨h1, h2⟩
    have h16 := hasB_lt h1
    rw [full_has n hn i h16] at h1
    rw [hasB_notQ bad i h16] at h2
    exact ⟨by simpa using h1, by simpa using h2⟩
  · rintro ⟨h1, h2⟩
    rw [full_has n hn i (by omega), hasB_notQ bad i (by omega), h2]
    simp [h1]
theorem filter_both (p : Nat → Bool) (l : List Nat) : (l.filter p).length + (l.filter fun i => !p i).length = l.length := by
  induction l with
  | nil => rfl
  | cons x l ih =>
    rw [List.filter_cons, List.filter_cons]
    cases p x <;> simp <;> omega
theorem rest_len {n : Nat} (hn : n ≤ 8) {bad : BitVec 16} (hb : ∀ i, hasB bad i = true → i < n) : (memS ((bitS n - 1#16) &&& ~~~bad)).length + cnt bad = n := by
  have h1 : memS ((bitS n - 1#16) &&& ~~~bad) = (List.range n).filter fun i => !hasB bad i := by
    have e : List.range 16 = List.range n ++ (List.range (16 - n)).map (n + ·) := by rw [← List.range_add]; congr 1; omega
    unfold memS
    rw [e, List.filter_append, show ((List.range (16 - n)).map (n + ·)).filter (hasB ((bitS n - 1#16) &&& ~~~bad)) = [] from ?_, List.append_nil]
    · apply List.filter_congr
      intro i hi
      rw [List.mem_range] at hi
      rw [hasB_and, full_has n hn i (by omega), hasB_notQ bad i (by omega)]
      simp [hi]
    · rw [List.filter_eq_nil_iff]
      intro i hi
      obtain ⟨j, hj, rfl⟩ := List.mem_map.1 hi
      rw [List.mem_range] at hj
      rw [hasB_and, full_has n hn _ (by omega), show decide (n + j < n) = false by simp]
      simp
  have h2 : memS bad = (List.range n).filter (hasB bad) := by
    have e : List.range 16 = List.range n ++ (List.range (16 - n)).map (n + ·) := by rw [← List.range_add]; congr 1; omega
    unfold memS
    rw [e, List.filter_append, show ((List.range (16 - n)).map (n + ·)).filter (hasB bad) = [] from ?_, List.append_nil]
    rw [List.filter_eq_nil_iff]
    intro i hi hbi
    obtain ⟨j, hj, rfl⟩ := List.mem_map.1 hi
    have := hb _ hbi
    omega
  unfold cnt
  rw [h1, h2]
  have := filter_both (hasB bad) (List.range n)
  rw [List.length_range] at this
  omega
/-- what is known of a split -/
structure SplB (n : Nat) (q p bad : BitVec 16) : Prop where
  ql : ∀ i, hasB q i = true → i < n
  pl : ∀ i, hasB p i = true → i < n
  bl : ∀ i, hasB bad i = true → i < n
  ne : bad ≠ 0#16
  in_ : ∀ i, hasB q i = true → hasB p i = true → hasB bad i = true
  two : (q &&& ~~~bad = 0#16 ∨ p &&& ~~~bad = 0#16) → 2 ≤ (memS ((bitS n - 1#16) &&& ~~~bad)).length
theorem spl_of {f b : List (BitVec 16)} {n : Nat} (hn : n ≤ 8) (hc : bchS f b n = 0) {q p bad : BitVec 16} (h : spF n b f = some (q, p, bad)) : SplB n q p bad := by
  obtain ⟨h1, h2, h3⟩ := bch_ok hc
  obtain ⟨q', hq, p', hp, d, hd, hs, e⟩ := spF_spec h
  cases e
  unfold spD at hs
  simp only [Bool.and_eq_true, Bool.not_eq_true', Bool.or_eq_false_iff, beq_eq_false_iff_ne, Bool.and_eq_false_iff, bne_eq_false_iff_eq, decide_eq_false_iff_not] at hs
  have hb := fun i hi => ins_lt h3 hd (i := i) hi
  refine ⟨fun i hi => ins_lt h2 hq hi, fun i hi => ins_lt h2 hp hi, hb, hs.1.1, fun i h4 h5 => ?_, fun h4 => ?_⟩
  · have h6 := congrArg (hasB · i) hs.1.2
    simp only [hasB_and, hasB_zero, h4, h5, Bool.true_and] at h6
    rw [hasB_notQ bad i (hasB_lt h4)] at h6
    simpa using h6
  · have h6 := rest_len hn hb
    rcases hs.2 with h7 | h7
    · rcases h4 with h4 | h4
      · exact absurd h4 (by simpa using h7.1)
      · exact absurd h4 (by simpa using h7.2)
    · omega
end Go.Proofs.YtmjgdnpfgkpaoaaGreatDoor
namespace Go.Proofs.YtmjgdnpfgkpaoaaGreatDoor
open Go.RowKit Go.Shelf

theorem RunV.base {w1 w0 : World} {R : Nat} {vf vb : Value} {n : Nat} {byz : BitVec 16} {src : Int} {vN vF : Value} {ns : List NodQ} {fs : List MsgT} {w : World} (h : RunV w1 R vf vb n byz src vN vF ns fs w) (hb : Below w0.heap.size w0 w1) : RunV w0 R vf vb n byz src vN vF ns fs w :=
  ⟨Below.next hb h.old, Nat.le_trans hb.size h.lo, h.box, rowK_mono h.nod hb.size, rowK_mono h.flt hb.size, h.hea⟩
def zCasting : Array Value := #[.int .i64 0, .int .u16 0, .int .i64 0, .slice none 0 0, .slice none 0 0]
def sideV (s : SideT × SideT) : Array Value := #[.int .u16 (U s.1.1), .int .u16 (U s.1.2.1), .string s.1.2.2, .int .u16 (U s.2.1), .int .u16 (U s.2.2.1), .string s.2.2.2]
/-- the sides stand in memory -/
def SidB (s : SideT × SideT) (W : World) (v : Value) (wx : World) : Prop :=
  ∃ g, v = .slice (some ⟨g, 0, none⟩) 2 2 ∧ Below W.heap.size W wx ∧ wx.heap[g]? = some (.cells (sideV s) 75 (0, 0))

/-- the box of a run -/
theorem run_box {W z1 : World} {RB R : Nat} {vf vb vN v0 : Value} {m : Nat} {bad : BitVec 16} {src : Int} (hV : RunV W R vf vb m bad src vN (.slice none 0 0) ((List.range m).map nodI) [] z1) (hg : z1.heap[RB]? = some (.cells #[v0] 79 (0, 0))) (hlo : W.heap.size ≤ RB) :
    Below W.heap.size W (z1.setCell ⟨RB, 0, none⟩ (.pointer (some ⟨R, 0, none⟩))) ∧ (z1.setCell ⟨RB, 0, none⟩ (.pointer (some ⟨R, 0, none⟩))).heap[RB]? = some (.cells #[.pointer (some ⟨R, 0, none⟩)] 79 (0, 0)) ∧ RunV W R vf vb m bad src vN (.slice none 0 0) ((List.range m).map nodI) [] (z1.setCell ⟨RB, 0, none⟩ (.pointer (some ⟨R, 0, none⟩))) := by
  refine ⟨hV.old.setCell (p := ⟨RB, 0, none⟩) hlo _, by rw [heap_set_at hg]; rfl, hV.other (fun e => ?_) hlo (own_ne hV.nod hg (by decide)) (fun e => nomatch e) (fun p hp => ?_) 0 _⟩
  · subst e
    have := hV.box
    rw [hg] at this; injection this with this; injection this with _ this; exact absurd this (by decide)
  · obtain ⟨i, _, rfl⟩ := List.mem_map.1 hp
    exact ⟨fun h => absurd h (Nat.lt_irrefl 0), fun h => absurd h (Nat.lt_irrefl 0)⟩
/-- the run behind some sides -/
def stK (f b : List (BitVec 16)) (m : Nat) (q p bad : BitVec 16) (k : Nat) : StB := ([(sidesS m q p bad).1, (sidesS m q p bad).2].take k).foldl (fun st s => sideS f b m bad ((memS bad).headD 0) s st) ((List.range m).map casI, [])
def sideK (m : Nat) (q p bad : BitVec 16) (k : Nat) : SideT := if k = 0 then (sidesS m q p bad).1 else (sidesS m q p bad).2
theorem stK_succ (f b : List (BitVec 16)) (m : Nat) (q p bad : BitVec 16) (k : Nat) (hk : k < 2) : stK f b m q p bad (k + 1) = sideS f b m bad ((memS bad).headD 0) (sideK m q p bad k) (stK f b m q p bad k) := by
  obtain rfl | rfl : k = 0 ∨ k = 1 := by omega
  · rfl
  · rfl
theorem sideK_lt {m : Nat} (hm : m ≤ 8) {q p bad : BitVec 16} (h : SplB m q p bad) (k : Nat) : ∀ i, hasB (sideK m q p bad k).1 i = true → i < m := by
  have hL : ∀ r, r < 2 → ∀ i, (q &&& ~~~bad = 0#16 ∨ p &&& ~~~bad = 0#16) → hasB (bitS ((memS ((bitS m - 1#16) &&& ~~~bad)).getD r 0)) i = true → i < m := fun r hr i hor hi => by
    have h2 := h.two hor
    have h3 := List.getElem_mem (l := memS ((bitS m - 1#16) &&& ~~~bad)) (n := r) (by omega)
    have h4 := (rest_has hm bad).1 h3
    rw [List.getD_eq_getElem?_getD, List.getElem?_eq_getElem (by omega), Option.getD_some, hasB_bit _ _ (by omega)] at hi
    have := of_decide_eq_true hi
    omega
  intro i hi
  unfold sideK sidesS at hi
  split at hi
  · split at hi
    · rename_i hor; exact hL 0 (by omega) i hor hi
    · exact h.ql i (by rw [hasB_and, Bool.and_eq_true] at hi; exact hi.1)
  · split at hi
    · rename_i hor; exact hL 1 (by omega) i hor hi
    · exact h.pl i (by rw [hasB_and, Bool.and_eq_true] at hi; exact hi.1)
theorem head_lt {x : BitVec 16} {n : Nat} (hx : x ≠ 0#16) (h : ∀ i, hasB x i = true → i < n) : (memS x).headD 0 < n := by
  obtain ⟨k, _, _, hk, hm⟩ := memS_step x hx
  rw [hm]; exact h k hk
theorem RunM.below {w0 : World} {R : Nat} {vf vb : Value} {n : Nat} {byz : BitVec 16} {src : Int} {xs : List CasT} {fs : List MsgT} {w w' : World} (h : RunM w0 R vf vb n byz src xs fs w) (hb : Below w.heap.size w w') : RunM w0 R vf vb n byz src xs fs w' := by
  obtain ⟨vN, vF, ns, h, hns⟩ := h
  exact ⟨vN, vF, ns, h.below hb, hns⟩
theorem RunM.tab {w0 : World} {R : Nat} {vf vb : Value} {n : Nat} {byz : BitVec 16} {src : Int} {xs : List CasT} {fs : List MsgT} {w : World} (h : RunM w0 R vf vb n byz src xs fs w) (ht : HasTab w0) : HasTab w := by
  obtain ⟨vN, vF, ns, h, hns⟩ := h
  exact ht.below h.old
theorem RunM.src {w0 : World} {R : Nat} {vf vb : Value} {n : Nat} {byz : BitVec 16} {src : Int} {xs : List CasT} {fs : List MsgT} {w : World} (h : RunM w0 R vf vb n byz src xs fs w) : w.cell? ⟨R, 4, none⟩ = some (.int .i64 src) := by
  obtain ⟨vN, vF, ns, h, hns⟩ := h
  exact cell_of_row _ _ 4 _ _ _ h.box
/-- what was said of kinds -/
def kindL (bad : BitVec 16) (s : SideT) (j : Nat) : List MsgT := (([2, 3] : List Int).take j).flatMap fun kd => (memS (s.2.1 &&& bad)).flatMap fun (i : Nat) => sayL s.1 s.2.2 kd i
theorem kindL_all (bad : BitVec 16) (src : Int) (s : SideT) : sayL s.1 s.2.2 1 src ++ kindL bad s 2 = saysS bad src s := by
  unfold kindL saysS
  simp
theorem kindL_succ (bad : BitVec 16) (s : SideT) (j : Nat) (hj : j < 2) : kindL bad s (j + 1) = kindL bad s j ++ (memS (s.2.1 &&& bad)).flatMap fun (i : Nat) => sayL s.1 s.2.2 (2 + (j : Int)) i := by
  obtain rfl | rfl : j = 0 ∨ j = 1 := by omega
  · unfold kindL; simp
  · unfold kindL; simp

theorem kind_len (bad : BitVec 16) (s : SideT) (j : Nat) : (kindL bad s j).length ≤ 512 := by
  have h1 : ∀ kd i, (sayL s.1 s.2.2 kd i).length ≤ 16 := fun kd i => by unfold sayL; rw [List.length_map]; exact memS_len _
  have h2 := flat_len_le (fun kd => (memS (s.2.1 &&& bad)).flatMap fun (i : Nat) => sayL s.1 s.2.2 kd i) 256 (([2, 3] : List Int).take j) (fun kd _ => by
    have := flat_len_le (fun (i : Nat) => sayL s.1 s.2.2 kd i) 16 (memS (s.2.1 &&& bad)) (fun i _ => h1 kd i)
    have h3 := memS_len (s.2.1 &&& bad)
    have := Nat.le_trans this (Nat.mul_le_mul_right 16 h3)
    exact this)
  have h3 : (([2, 3] : List Int).take j).length ≤ 2 := by rw [List.length_take]; simp; omega
  unfold kindL
  have := Nat.le_trans h2 (Nat.mul_le_mul_right 256 h3)
  exact this
theorem say_len (sn : BitVec 16) (v : ByteArray) (kd i : Int) : (sayL sn v kd i).length ≤ 16 := by unfold sayL; rw [List.length_map]; exact memS_len _
theorem part_len (sn x : BitVec 16) (v : ByteArray) (kd : Int) (l : Nat) : (((memS x).take l).flatMap fun (i : Nat) => sayL sn v kd i).length ≤ 256 := by
  have := flat_len_le (fun (i : Nat) => sayL sn v kd i) 16 ((memS x).take l) (fun i _ => say_len sn v kd i)
  have h3 : ((memS x).take l).length ≤ 16 := Nat.le_trans (by rw [List.length_take]; omega) (memS_len x)
  exact Nat.le_trans this (Nat.mul_le_mul_right 16 h3)

/-- what an attack on a split returns -/
def AttPost (f b : List (BitVec 16)) (m : Nat) (q p bad : BitVec 16) (w : World) (e : Ending) (w' : World) : Prop :=
  ∃ (vN vF : Value) (ns : List NodQ), e = .returned (.tuple #[.agg #[.int .i64 m, .int .u16 (U bad), .int .i64 (((memS bad).headD 0 : Nat) : Int), vN, vF], .int .i64 0]) ∧ Below w.heap.size w w' ∧ w'.ownsRow w.heap.size 97 9 vN ns.length (ns.flatMap nodQ) ∧ ns.map (·.1) = (attB f b m q p bad).1 ∧ ∃ a n c, vF = .slice a n c

theorem att_end {P2 : Ending → World → Prop} {wf : World} {X : Nat} {er : Int} {a : Act} {v0 v1 v2 v3 v4 : Value} (ha : a.defers = []) (h6 : a.tmps.getD 6 undef = .pointer (some ⟨X, 0, none⟩)) (h7 : a.tmps.getD 7 undef = .int .i64 er) (hz : wf.heap[X]? = some (.cells #[v0, v1, v2, v3, v4] 34 (0, 0)))
    (hQ : P2 (.returned (.tuple #[.agg #[v0, v1, v2, v3, v4], .int .i64 er])) wf) : bodyPost Tryz.prog Tryz.f8 P2 .ret a wf := by
  have s0 := cell_of_row _ _ 0 _ _ _ hz
  have s1 := cell_of_row _ _ 1 _ _ _ hz
  have s2 := cell_of_row _ _ 2 _ _ _ hz
  have s3 := cell_of_row _ _ 3 _ _ _ hz
  have s4 := cell_of_row _ _ 4 _ _ _ hz
  rw [Array.getD_eq_getD_getElem?] at h6 h7
  refine bodyPost_ret (v := .tuple #[.agg #[v0, v1, v2, v3, v4], .int .i64 er]) ?_ ha hQ
  simp [results, Tryz.results8, go_sem, h6, h7, s0, s1, s2, s3, s4]
def set5 (u : World) (B : Nat) (v0 v1 v2 v3 v4 : Value) : World := ((((u.setCell ⟨B, 0, none⟩ v0).setCell ⟨B, 1, none⟩ v1).setCell ⟨B, 2, none⟩ v2).setCell ⟨B, 3, none⟩ v3).setCell ⟨B, 4, none⟩ v4
theorem set5_heap {u : World} {B : Nat} {t : TypeId} {c0 c1 c2 c3 c4 : Value} (h : u.heap[B]? = some (.cells #[c0, c1, c2, c3, c4] t (0, 0))) (v0 v1 v2 v3 v4 : Value) : (set5 u B v0 v1 v2 v3 v4).heap[B]? = some (.cells #[v0, v1, v2, v3, v4] t (0, 0)) := by
  unfold set5
  rw [heap_setA, heap_setA, heap_setA, heap_setA, heap_setA, h]
  simp only [Option.map_some, List.setIfInBounds_toArray, List.set_cons_zero, List.set_cons_succ]
theorem set5_other {u : World} {B g : Nat} (h : g ≠ B) (v0 v1 v2 v3 v4 : Value) : (set5 u B v0 v1 v2 v3 v4).heap[g]? = u.heap[g]? := by
  unfold set5
  iterate 5 rw [Below.heap_setCell _ _ _ _ (by intro e; exact h (by rw [e]))]
theorem set5_below {u w : World} {n B : Nat} (h : Below n w u) (hB : n ≤ B) (v0 v1 v2 v3 v4 : Value) : Below n w (set5 u B v0 v1 v2 v3 v4) := by
  unfold set5
  exact ((((h.setCell (p := ⟨B, 0, none⟩) hB _).setCell (p := ⟨B, 1, none⟩) hB _).setCell (p := ⟨B, 2, none⟩) hB _).setCell (p := ⟨B, 3, none⟩) hB _).setCell (p := ⟨B, 4, none⟩) hB _

set_option maxRecDepth 100000 in
set_option maxHeartbeats 4000000 in
theorem attack_some (f b : List (BitVec 16)) (m : Nat) (a : Option Addr) (n c : Nat) (a2 : Option Addr) (n2 c2 : Nat) (w : World) (ht : HasTab w) (h : Rd w a n c (f.map setV2)) (h2 : Rd w a2 n2 c2 (b.map setV2)) (hm1 : 1 ≤ m) (hm8 : m ≤ 8) (hch : bchS f b m = 0) (q p bad : BitVec 16) (hsp : spF m b f = some (q, p, bad)) :
    Calls Tryz.prog 8 #[.slice a n c, .slice a2 n2 c2, .int .i64 m] w (AttPost f b m q p bad w) := by
  have hspl := spl_of hm8 hch hsp
  have n1 : ¬ (m : Int) < 1 := by omega
  have n8 : ¬ (8 : Int) < m := by omega
  obtain ⟨W0, hW0⟩ : ∃ W0, W0 = w.alloc (.cells zCasting 34) := ⟨_, rfl⟩
  have hb0 : Below w.heap.size w W0 := by rw [hW0]; exact (Below.refl _ w).alloc (Nat.le_refl _) _
  have hX0 : W0.heap[w.heap.size]? = some (.cells zCasting 34 (0, 0)) := by rw [hW0]; exact heap_alloc_new _ _
  have HCH := Lib.hid (bcheck_c f b m a n c a2 n2 c2 W0 (h.below hb0) (h2.below hb0))
  rw [hch] at HCH
  have HF := Lib.hid h
  have HG := Lib.hid h2
  have HT := Lib.hid ht
  have HSPL := Lib.hid hspl
  have HB0 := Lib.hid hb0
  have HX0 := Lib.hid hX0
  unfold zCasting at hW0
  clear h h2 ht hspl hb0 hX0 hch
  go_enter Tryz.func8, Tryz.ntmps8
  go_upto_region 1 with fail
  rw [← hW0]
  clear hW0
  go_wp2_with fail
  refine HCH.out.mono ?_
  rintro e w1 ⟨rfl, b1⟩
  have HB1 := Lib.hid (Below.next HB0.out b1)
  have HSC := Lib.hid (split_c f b m a n c a2 n2 c2 w1 (HF.out.below HB1.out) (HG.out.below HB1.out) (by omega))
  rw [hsp] at HSC
  unfold spV at HSC
  have HX1 := Lib.hid (heap_below b1 HX0.out)
  clear HCH b1
  go_wp2_with fail
  refine HSC.out.mono ?_
  rintro e w2 ⟨rfl, b2⟩
  have HB2 := Lib.hid (Below.next HB1.out b2)
  have HX2 := Lib.hid (heap_below b2 HX1.out)
  clear HSC b2 HX0 HX1
  obtain ⟨W3, hW3⟩ : ∃ W3, W3 = w2.alloc (.cells #[.int .u16 (U bad)] 27) := ⟨_, rfl⟩
  have hb3 : Below w2.heap.size w2 W3 := by rw [hW3]; exact (Below.refl _ w2).alloc (Nat.le_refl _) _
  have HBD3 : Hid (W3.heap[w2.heap.size]? = some (.cells #[.int .u16 (U bad)] 27 (0, 0))) := Lib.hid (by rw [hW3]; exact heap_alloc_new _ _)
  have HB3 := Lib.hid (Below.next HB2.out hb3)
  have HX3 := Lib.hid (heap_below hb3 HX2.out)
  clear hb3
  go_upto_region 9 with fail
  rw [← hW3]
  clear hW3
  have b0 := cell_of_row _ _ 0 _ _ _ HBD3.out
  obtain ⟨W4, hW4⟩ : ∃ W4, W4 = W3.alloc (.cells #[.int .u16 (U (q &&& ~~~bad)), .int .u16 (U q), .string ⟨#[120]⟩, .int .u16 (U (p &&& ~~~bad)), .int .u16 (U p), .string ⟨#[121]⟩] 75) := ⟨_, rfl⟩
  have hb4 : Below W3.heap.size W3 W4 := by rw [hW4]; exact (Below.refl _ W3).alloc (Nat.le_refl _) _
  have HSD4 : Hid (W4.heap[W3.heap.size]? = some (.cells #[.int .u16 (U (q &&& ~~~bad)), .int .u16 (U q), .string ⟨#[120]⟩, .int .u16 (U (p &&& ~~~bad)), .int .u16 (U p), .string ⟨#[121]⟩] 75 (0, 0))) := Lib.hid (by rw [hW4]; exact heap_alloc_new _ _)
  have HBD4 := Lib.hid (heap_below hb4 HBD3.out)
  have HB4 := Lib.hid (Below.next HB3.out hb4)
  have HX4 := Lib.hid (heap_below hb4 HX3.out)
  clear hb4
  go_upto_region 10 with fail
  rw [← hW4]
  clear hW4 b0 HBD3 HX3 HX2
  have b0 := cell_of_row _ _ 0 _ _ _ HBD4.out
  go_cut [72] from 63 to 71 (fun v wx => v = .bool (q &&& ~~~bad == 0#16 || p &&& ~~~bad == 0#16) ∧ W4 = wx)
  case first =>
    cases hq : (q &&& ~~~bad == 0#16)
    all_goals
      go_wp2_with fail
      go_meet
      exact ⟨by rw [hq]; rfl, rfl⟩
  case rest =>
    obtain ⟨rfl, rfl⟩ := hcut
    go_upto_if 72 with fail
    go_cut [13] from 72 to 97 (fun v wx => SidB (sidesS m q p bad) W4 v wx)
    case first =>
      cases hor : (q &&& ~~~bad == 0#16 || p &&& ~~~bad == 0#16)
      · have hne : ¬ (q &&& ~~~bad = 0#16 ∨ p &&& ~~~bad = 0#16) := by simpa using hor
        have HS9 : Hid (sidesS m q p bad = ((q &&& ~~~bad, q, firstV), (p &&& ~~~bad, p, secondV))) := Lib.hid (by unfold sidesS; rw [if_neg hne])
        clear hne
        go_wp2_with fail
        go_meet
        exact ⟨W3.heap.size, rfl, Below.refl _ _, by rw [HS9.out]; exact HSD4.out⟩
      · have hor' : q &&& ~~~bad = 0#16 ∨ p &&& ~~~bad = 0#16 := by simpa using hor
        obtain ⟨L, hL⟩ : ∃ L, memS ((bitS m - 1#16) &&& ~~~bad) = L := ⟨_, rfl⟩
        have hL2 := HSPL.out.two hor'
        have hLm : ∀ i ∈ L, i < m := fun i hi => ((rest_has hm8 bad).1 (by rw [hL]; exact hi)).1
        rw [hL] at hL2
        obtain ⟨r0, r1, L', rfl⟩ : ∃ r0 r1 L', L = r0 :: r1 :: L' := by
          match L, hL2 with
          | r0 :: r1 :: L', _ => exact ⟨r0, r1, L', rfl⟩
        have hr0 : r0 < 12 := by have := hLm r0 List.mem_cons_self; omega
        have hr1 : r1 < 12 := by have := hLm r1 (List.mem_cons_of_mem _ List.mem_cons_self); omega
        have HS9 : Hid (sidesS m q p bad = ((bitS r0, if q &&& ~~~bad = 0#16 then q else p, firstV), (bitS r1, if q &&& ~~~bad = 0#16 then q else p, secondV))) := Lib.hid (by unfold sidesS; rw [if_pos hor', hL]; rfl)
        have HMB : Hid (∀ u, Below W4.heap.size W4 u → Calls Tryz.prog 33 #[.int .u16 (U ((bitS m - 1#16) &&& ~~~bad))] u fun e w' => ∃ v, e = .returned v ∧ Own u w' 3 v ((r0 :: r1 :: L').map intV) ∧ Below u.heap.size u w') := Lib.hid (fun u hu => by
          have := bmembers_c ((bitS m - 1#16) &&& ~~~bad) _ u rfl (HT.out.below (Below.next HB4.out hu))
          rw [hL] at this; exact this)
        have HBW : Hid (Below W4.heap.size W4 W4.drew) := Lib.hid (below_drew (Below.refl _ _))
        have HLN : Hid (L'.length ≤ 14) := Lib.hid (by have := memS_len ((bitS m - 1#16) &&& ~~~bad); rw [hL] at this; simpa using this)
        have hm16 : m < 16 := by omega
        obtain ⟨nr, hnr⟩ : ∃ nr, L'.length + 2 = nr := ⟨_, rfl⟩
        have HNR : Hid (((r0 :: r1 :: L').map intV).length = nr ∧ 2 ≤ nr) := Lib.hid ⟨by simpa using hnr, by omega⟩
        clear hL hL2 hLm hor' hnr
        cases hq : (q &&& ~~~bad == 0#16)
        all_goals
          have hG : Hid ((if q &&& ~~~bad = 0#16 then q else p) = (if (q &&& ~~~bad == 0#16) = true then q else p)) := Lib.hid (by by_cases h9 : q &&& ~~~bad = 0#16 <;> simp [h9])
          rw [hq] at hG
          go_upto_region 14 with fail
          go_region_with (go_at_call 33; with_reducible refine (HMB.out _ HBW.out).mono ?_; rintro e w5 ⟨v, rfl, hrow, hb5⟩; obtain ⟨ar, cr, rfl, hrr⟩ := hrow.rdn nr HNR.out.1; have HRR := Lib.hid hrr; have HB5 := Lib.hid hb5; clear hrow hb5 hrr)
          all_goals
            have l2 := HNR.out.2
            obtain ⟨gr, og, ea, hcl⟩ := HRR.out.at' (by omega)
            subst ea
            have x0 : w5.cell? ⟨gr, og, none⟩ = some (.int .i64 r0) := hcl 0 (intV r0) rfl
            have x1 : w5.cell? ⟨gr, og + 1, none⟩ = some (.int .i64 r1) := hcl 1 (intV r1) rfl
            have hcm := HRR.out.max
            have hcr := HRR.out.le
            unfold maxLen at hcm
            have HB5' : Hid (Below W4.heap.size W4 w5) := Lib.hid (Below.next HBW.out HB5.out)
            have l1 : (1 : Int) < (nr : Int) := by omega
            have k0 : 0 < nr := by omega
            have k1 : 1 < nr := by omega
            have l0 : (0 : Int) < (nr : Int) := by omega
            clear hcl HRR HMB b0
            go_upto_region 15 with fail
            go_region
            all_goals
              go_wp2_with fail
              go_meet
              refine ⟨w5.heap.size, rfl, below_drew (HB5'.out.alloc HB5'.out.size _), ?_⟩
              rw [HS9.out, hG.out]
              exact heap_alloc_new _ _
    case rest =>
      obtain ⟨gS, rfl, hb5, hS5⟩ := hcut
      have HB5 := Lib.hid (Below.next HB4.out hb5)
      have HS5 := Lib.hid hS5
      have HBD5 := Lib.hid (heap_below hb5 HBD4.out)
      have HX5 := Lib.hid (heap_below hb5 HX4.out)
      obtain ⟨k0, hk16, hbk, hhk, hms⟩ := memS_step bad HSPL.out.ne
      have hhd : (memS bad).headD 0 = k0 := by rw [hms]; rfl
      have HHD := Lib.hid hhd
      have hbz : (bad == 0#16) = false := by simpa using HSPL.out.ne
      have HTZ : Hid (∀ u, Below wc.heap.size wc u → Calls Tryz.prog 35 #[.int .u16 (U bad)] u fun e w' => e = .returned (.int .i64 k0) ∧ u = w') := Lib.hid (fun u hu => tz_k k0 hk16 bad u hbz hbk (HT.out.below (Below.next HB5.out hu)))
      have HNW : Hid (∀ u, Calls Tryz.prog 34 #[.slice a n c, .slice a2 n2 c2, .int .i64 m, .int .u16 (U bad), .int .i64 k0] u fun e w' => e = .returned (.pointer (some ⟨u.heap.size, 0, none⟩)) ∧ ∃ vN, RunV u u.heap.size (.slice a n c) (.slice a2 n2 c2) m bad k0 vN (.slice none 0 0) ((List.range m).map nodI) [] w') := Lib.hid (fun u => newRun_c (.slice a n c) (.slice a2 n2 c2) ⟨_, _, _, rfl⟩ ⟨_, _, _, rfl⟩ m bad k0 (by omega) u)
      clear hb5 hS5 hbk hhk hms hhd hbz
      go_upto_region 16 with fail
      go_cut [16] from 98 to 104 (fun v wx => ∃ RB R vN, v = .pointer (some ⟨RB, 0, none⟩) ∧ Below wc.heap.size wc wx ∧ wx.heap[RB]? = some (.cells #[.pointer (some ⟨R, 0, none⟩)] 79 (0, 0)) ∧ RunV wc R (.slice a n c) (.slice a2 n2 c2) m bad k0 vN (.slice none 0 0) ((List.range m).map nodI) [] wx)
      case first =>
        rename_i k0' h0' j0' k1' h1' h2'
        clear h0'
        have HKS := Lib.hid (fun (u : World) (hu : Below wc.heap.size wc u) => (cell_keepB hu (cell_of_row _ _ 0 _ _ _ HBD5.out) : u.cell? ⟨w2.heap.size, 0, none⟩ = some (.int .u16 (U bad))))
        refine wp_region_noPanic ?_
        refine wp_region_takes (fun u => Below wc.heap.size wc u) [0, 1, 2, 3, 4] 4 (by kernel_rfl) (by kernel_rfl) (by kernel_rfl) (fun _ _ _ _ _ h => h) (below_drew (Below.refl _ _)) ?_
        repeat (refine wpTk_cons rfl (fun K hK => ?_); go_simp; apply Exists.intro; refine ⟨fun u hu => ?_, hK _ ?_⟩; (first | exact rfl | (have c0 := HKS.out u hu; go_simp; done) | (have c0 := HKS.out u hu; go_simp; exact rfl)); clear hK K)
        refine wpTk_nil ?_
        have HZ0 : Hid (Below wc.heap.size wc wc.drew) := Lib.hid (below_drew (Below.refl _ _))
        generalize wc.drew = z0 at HZ0 ⊢
        clear HKS
        refine held_ready (rs := [5, 7]) (by kernel_rfl) (by simp) ?_
        refine (AllReadyH.cons rfl (fun K hK => ?_) (AllReadyH.cons rfl (fun K hK => ?_) AllReadyH.nil))
        · skip
          go_simp
          with_reducible refine (HTZ.out z0 HZ0.out).mono ?_
          rintro e z9 ⟨rfl, rfl⟩
          go_simp
          refine hK.out _ _ HZ0.out (fun hh => ?_)
          clear hh hK K; try simp only [Act.put, List.setIfInBounds_toArray, List.set_cons_zero, List.set_cons_succ]
          refine held_ready (rs := [6, 7]) (by kernel_rfl) (by simp) ?_
          refine (AllReadyH.cons rfl (fun K hK => ?_) (AllReadyH.cons rfl (fun K hK => ?_) AllReadyH.nil))
          · skip
            go_simp
            with_reducible refine (HNW.out z0).mono ?_
            rintro e z1 ⟨rfl, vN, hV1⟩
            have HY1 : Hid (Below wc.heap.size wc z1) := Lib.hid (Below.next HZ0.out hV1.old)
            have HV1 := Lib.hid (hV1.base HZ0.out)
            clear hV1
            go_simp
            refine hK.out _ _ HY1.out (fun hh => ?_)
            clear hh hK K; try simp only [Act.put, List.setIfInBounds_toArray, List.set_cons_zero, List.set_cons_succ]
            refine held_ready (rs := [7]) (by kernel_rfl) (by simp) ?_
            refine (AllReadyH.cons rfl (fun K hK => ?_) AllReadyH.nil)
            go_simp
            have HGB := Lib.hid (heap_alloc_new z1 (.cells #[.pointer none] 79))
            have HV2 := Lib.hid (HV1.out.below ((Below.refl _ z1).alloc (Nat.le_refl _) (.cells #[.pointer none] 79)))
            have HY2 := Lib.hid (HY1.out.alloc HY1.out.size (.cells #[.pointer none] 79))
            have HSZ := Lib.hid HY1.out.size
            refine hK.out _ _ HY2.out (fun hh => ?_)
            clear hh hK K; try simp only [Act.put, List.setIfInBounds_toArray, List.set_cons_zero, List.set_cons_succ]
            generalize z1.heap.size = RB at HGB HSZ ⊢
            generalize z1.alloc _ = z2 at HGB HV2 HY2 ⊢
            refine held_ready (rs := [8]) (by kernel_rfl) (by simp) ?_
            refine (AllReadyH.cons rfl (fun K hK => ?_) AllReadyH.nil)
            have zc0 := cell_of_row _ _ 0 _ _ _ HGB.out
            have zf0 := frozenB HGB.out 0
            go_simp
            clear zc0 zf0
            have hrb := run_box HV2.out HGB.out HSZ.out
            refine hK.out _ _ hrb.1 (fun hh => ?_)
            clear hh hK K; try simp only [Act.put, List.setIfInBounds_toArray, List.set_cons_zero, List.set_cons_succ]
            refine wpAnyH_done (by kernel_rfl) (NoPanic.normal ?_) _
            refine h2' _ _ ?_
            go_meet
            exact ⟨RB, _, vN, rfl, hrb.1, hrb.2.1, hrb.2.2⟩
          · skip
            go_simp
            have HGA := Lib.hid (heap_alloc_new z0 (.cells #[.pointer none] 79))
            have HYA := Lib.hid (HZ0.out.alloc HZ0.out.size (.cells #[.pointer none] 79))
            have HSZ := Lib.hid HZ0.out.size
            refine hK.out _ _ HYA.out (fun hh => ?_)
            clear hh hK K; try simp only [Act.put, List.setIfInBounds_toArray, List.set_cons_zero, List.set_cons_succ]
            generalize z0.heap.size = RB at HGA HSZ ⊢
            generalize z0.alloc _ = za at HGA HYA ⊢
            refine held_ready (rs := [6]) (by kernel_rfl) (by simp) ?_
            refine (AllReadyH.cons rfl (fun K hK => ?_) AllReadyH.nil)
            go_simp
            with_reducible refine (HNW.out za).mono ?_
            rintro e z1 ⟨rfl, vN, hV1⟩
            have HY1 : Hid (Below wc.heap.size wc z1) := Lib.hid (Below.next HYA.out hV1.old)
            have HV1 := Lib.hid (hV1.base HYA.out)
            have HGB := Lib.hid (heap_below hV1.old HGA.out)
            clear hV1
            go_simp
            refine hK.out _ _ HY1.out (fun hh => ?_)
            clear hh hK K; try simp only [Act.put, List.setIfInBounds_toArray, List.set_cons_zero, List.set_cons_succ]
            refine held_ready (rs := [8]) (by kernel_rfl) (by simp) ?_
            refine (AllReadyH.cons rfl (fun K hK => ?_) AllReadyH.nil)
            have zc0 := cell_of_row _ _ 0 _ _ _ HGB.out
            have zf0 := frozenB HGB.out 0
            go_simp
            clear zc0 zf0
            have hrb := run_box HV1.out HGB.out HSZ.out
            refine hK.out _ _ hrb.1 (fun hh => ?_)
            clear hh hK K; try simp only [Act.put, List.setIfInBounds_toArray, List.set_cons_zero, List.set_cons_succ]
            refine wpAnyH_done (by kernel_rfl) (NoPanic.normal ?_) _
            refine h2' _ _ ?_
            go_meet
            exact ⟨RB, _, vN, rfl, hrb.1, hrb.2.1, hrb.2.2⟩
        · skip
          go_simp
          have HGA := Lib.hid (heap_alloc_new z0 (.cells #[.pointer none] 79))
          have HYA := Lib.hid (HZ0.out.alloc HZ0.out.size (.cells #[.pointer none] 79))
          have HSZ := Lib.hid HZ0.out.size
          refine hK.out _ _ HYA.out (fun hh => ?_)
          clear hh hK K; try simp only [Act.put, List.setIfInBounds_toArray, List.set_cons_zero, List.set_cons_succ]
          generalize z0.heap.size = RB at HGA HSZ ⊢
          generalize z0.alloc _ = za at HGA HYA ⊢
          refine held_ready (rs := [5]) (by kernel_rfl) (by simp) ?_
          refine (AllReadyH.cons rfl (fun K hK => ?_) AllReadyH.nil)
          go_simp
          with_reducible refine (HTZ.out za HYA.out).mono ?_
          rintro e z9 ⟨rfl, rfl⟩
          go_simp
          refine hK.out _ _ HYA.out (fun hh => ?_)
          clear hh hK K; try simp only [Act.put, List.setIfInBounds_toArray, List.set_cons_zero, List.set_cons_succ]
          refine held_ready (rs := [6]) (by kernel_rfl) (by simp) ?_
          refine (AllReadyH.cons rfl (fun K hK => ?_) AllReadyH.nil)
          go_simp
          with_reducible refine (HNW.out za).mono ?_
          rintro e z1 ⟨rfl, vN, hV1⟩
          have HY1 : Hid (Below wc.heap.size wc z1) := Lib.hid (Below.next HYA.out hV1.old)
          have HV1 := Lib.hid (hV1.base HYA.out)
          have HGB := Lib.hid (heap_below hV1.old HGA.out)
          clear hV1
          go_simp
          refine hK.out _ _ HY1.out (fun hh => ?_)
          clear hh hK K; try simp only [Act.put, List.setIfInBounds_toArray, List.set_cons_zero, List.set_cons_succ]
          refine held_ready (rs := [8]) (by kernel_rfl) (by simp) ?_
          refine (AllReadyH.cons rfl (fun K hK => ?_) AllReadyH.nil)
          have zc0 := cell_of_row _ _ 0 _ _ _ HGB.out
          have zf0 := frozenB HGB.out 0
          go_simp
          clear zc0 zf0
          have hrb := run_box HV1.out HGB.out HSZ.out
          refine hK.out _ _ hrb.1 (fun hh => ?_)
          clear hh hK K; try simp only [Act.put, List.setIfInBounds_toArray, List.set_cons_zero, List.set_cons_succ]
          refine wpAnyH_done (by kernel_rfl) (NoPanic.normal ?_) _
          refine h2' _ _ ?_
          go_meet
          exact ⟨RB, _, vN, rfl, hrb.1, hrb.2.1, hrb.2.2⟩
      case rest =>
        obtain ⟨RB, R, vN, rfl, hb6, hRB6, hV6⟩ := hcut
        have HM6 : Hid (RunM w R (.slice a n c) (.slice a2 n2 c2) m bad k0 (stK f b m q p bad 0).1 (stK f b m q p bad 0).2 wc) := Lib.hid ⟨vN, _, _, hV6.base HB5.out, by rw [List.map_map]; rfl⟩
        have HS6 := Lib.hid (heap_below hb6 HS5.out)
        have HBD6 := Lib.hid (heap_below hb6 HBD5.out)
        have HX6 := Lib.hid (heap_below hb6 HX5.out)
        have HRB6 := Lib.hid hRB6
        have HB6 := Lib.hid (Below.next HB5.out hb6)
        have HSL := Lib.hid (sideK_lt hm8 HSPL.out)
        have hk0m : k0 < m := by rw [← HHD.out]; exact head_lt HSPL.out.ne HSPL.out.bl
        obtain ⟨W6, hW6⟩ : ∃ W6, W6 = wc := ⟨_, rfl⟩
        rw [← hW6] at HM6 HS6 HBD6 HX6 HRB6 HB6
        rw [← hW6]
        clear hW6 hb6 hRB6 hV6 HS5 HBD5 HX5 HNW HTZ HSD4 HBD4 HX4 HB5
        go_upto_region 17 with fail
        go_wp2_with fail
        go_loopw [107] (fun i wr => ∃ k : Nat, k ≤ 2 ∧ i = .int .i64 k ∧ Hid (RunM w R (.slice a n c) (.slice a2 n2 c2) m bad k0 (stK f b m q p bad k).1 (stK f b m q p bad k).2 wr ∧ FrameT W6 wr ∧ InvB m (208 + 136 * k) (stK f b m q p bad k))) (fun i _ => 2 - (intOf i).toNat)
        case atStart => exact ⟨0, Nat.zero_le _, rfl, Lib.hid ⟨HM6.out, FrameT.refl _, init_inv m hm8⟩⟩
        case round =>
          obtain ⟨k, hk, rfl, hin⟩ := hrel
          by_cases hlt : k < 2
          · have hSr := (hin.out.2.1.keep gS _ _ _ HS6.out (by decide) (by decide) (by decide)).trans HS6.out
            have hRBr := (hin.out.2.1.keep RB _ _ _ HRB6.out (by decide) (by decide) (by decide)).trans HRB6.out
            have hBDr := (hin.out.2.1.keep _ _ _ _ HBD6.out (by decide) (by decide) (by decide)).trans HBD6.out
            have HSU := Lib.hid (stK_succ f b m q p bad k hlt)
            have HSK := Lib.hid (HSL.out k)
            obtain ⟨⟨sn, sq, v⟩, hsk⟩ : ∃ s, sideK m q p bad k = s := ⟨_, rfl⟩
            have c0 : wr.cell? ⟨gS, k * 3, none⟩ = some (.int .u16 (U sn)) := by
              obtain rfl | rfl : k = 0 ∨ k = 1 := by omega
              · rw [show sn = (sidesS m q p bad).1.1 from (congrArg (·.1) hsk).symm]; exact cell_of_row _ _ 0 _ _ _ hSr
              · rw [show sn = (sidesS m q p bad).2.1 from (congrArg (·.1) hsk).symm]; exact cell_of_row _ _ 3 _ _ _ hSr
            have c1 : wr.cell? ⟨gS, k * 3 + 1, none⟩ = some (.int .u16 (U sq)) := by
              obtain rfl | rfl : k = 0 ∨ k = 1 := by omega
              · rw [show sq = (sidesS m q p bad).1.2.1 from (congrArg (·.2.1) hsk).symm]; exact cell_of_row _ _ 1 _ _ _ hSr
              · rw [show sq = (sidesS m q p bad).2.2.1 from (congrArg (·.2.1) hsk).symm]; exact cell_of_row _ _ 4 _ _ _ hSr
            have c2' : wr.cell? ⟨gS, k * 3 + 2, none⟩ = some (.string v) := by
              obtain rfl | rfl : k = 0 ∨ k = 1 := by omega
              · rw [show v = (sidesS m q p bad).1.2.2 from (congrArg (·.2.2) hsk).symm]; exact cell_of_row _ _ 2 _ _ _ hSr
              · rw [show v = (sidesS m q p bad).2.2.2 from (congrArg (·.2.2) hsk).symm]; exact cell_of_row _ _ 5 _ _ _ hSr
            rw [hsk] at HSU HSK
            simp only at HSK
            rw [HHD.out] at HSU
            obtain ⟨W7, hW7⟩ : ∃ W7, W7 = wr.alloc (.cells #[.int .u16 (U sn), .int .u16 (U sq), .string v] 75) := ⟨_, rfl⟩
            have hb7 : Below wr.heap.size wr W7 := by rw [hW7]; exact (Below.refl _ wr).alloc (Nat.le_refl _) _
            have HSB7 : Hid (W7.heap[wr.heap.size]? = some (.cells #[.int .u16 (U sn), .int .u16 (U sq), .string v] 75 (0, 0))) := Lib.hid (by rw [hW7]; exact heap_alloc_new _ _)
            have HRB7 := Lib.hid (heap_below hb7 hRBr)
            have HBD7 := Lib.hid (heap_below hb7 hBDr)
            have HM7 := Lib.hid (hin.out.1.below hb7)
            have HF7 := Lib.hid (hin.out.2.1.trans (FrameT.below hb7))
            have HI7 := Lib.hid hin.out.2.2
            obtain ⟨S, hS⟩ : ∃ S, wr.heap.size = S := ⟨_, rfl⟩
            rw [hS] at HSB7
            have HFL : Hid ((stK f b m q p bad k).2.length ≤ 1000) := Lib.hid (by
              have h1 := HI7.out.bd
              have h2 : muS (stK f b m q p bad k) ≤ 208 + 136 * k := by
                obtain ⟨x, hx⟩ : ∃ x, x ∈ (stK f b m q p bad k).1 := ⟨_, List.getElem_mem (n := 0) (by rw [HI7.out.len]; omega)⟩
                have := h1 x hx; omega
              unfold muS at h2; omega)
            have HS1 := Lib.hid (say_c 1 k0 sn sq v S RB w R (.slice a n c) (.slice a2 n2 c2) m bad k0 _ _ W7 (by have := HFL.out; omega) (HM7.out.tab HT.out) HSB7.out HRB7.out HM7.out)
            clear hSr hRBr hBDr hin hb7 hsk
            go_upto_region 20 with fail
            rw [← hW7]
            clear hW7 hS c0 c1 c2'
            have r0 := cell_of_row _ _ 0 _ _ _ HRB7.out
            have r4 := HM7.out.src
            go_wp2_with fail
            refine HS1.out.mono ?_
            rintro e w8 ⟨rfl, hM8, hF8⟩
            have HM8 := Lib.hid hM8
            have HF8 := Lib.hid hF8
            clear hM8 hF8 HS1 r0 r4
            obtain ⟨W9, hW9⟩ : ∃ W9, W9 = w8.alloc (.cells #[.int .i64 2, .int .i64 3] 3) := ⟨_, rfl⟩
            have hb9 : Below w8.heap.size w8 W9 := by rw [hW9]; exact (Below.refl _ w8).alloc (Nat.le_refl _) _
            have HKD9 : Hid (W9.heap[w8.heap.size]? = some (.cells #[.int .i64 2, .int .i64 3] 3 (0, 0))) := Lib.hid (by rw [hW9]; exact heap_alloc_new _ _)
            have HM9 : Hid (RunM w R (.slice a n c) (.slice a2 n2 c2) m bad k0 (stK f b m q p bad k).1 ((stK f b m q p bad k).2 ++ sayL sn v 1 k0 ++ kindL bad (sn, sq, v) 0) W9) := Lib.hid (by have := HM8.out.below hb9; unfold kindL; simpa using this)
            have HF9 := Lib.hid (HF8.out.trans (FrameT.below hb9))
            have HW9 := Lib.hid hW9
            clear hW9 hb9
            go_wp2_with fail
            go_loopw [121] (fun i wr => ∃ j : Nat, j ≤ 2 ∧ i = .int .i64 j ∧ Hid (RunM w R (.slice a n c) (.slice a2 n2 c2) m bad k0 (stK f b m q p bad k).1 ((stK f b m q p bad k).2 ++ sayL sn v 1 k0 ++ kindL bad (sn, sq, v) j) wr ∧ FrameT W9 wr)) (fun i _ => 2 - (intOf i).toNat)
            case atStart =>
              refine ⟨0, Nat.zero_le _, rfl, ?_⟩
              rw [← HW9.out]
              exact Lib.hid ⟨HM9.out, FrameT.refl _⟩
            case round =>
              obtain ⟨j, hj, rfl, hin⟩ := hrel
              have HMj := Lib.hid hin.out.1
              have HFj := Lib.hid hin.out.2
              have HF7j := Lib.hid (HF9.out.trans HFj.out)
              have HSBj := Lib.hid ((HF7j.out.keep S _ _ _ HSB7.out (by decide) (by decide) (by decide)).trans HSB7.out)
              have HBDj := Lib.hid ((HF7j.out.keep _ _ _ _ HBD7.out (by decide) (by decide) (by decide)).trans HBD7.out)
              have HRBj := Lib.hid ((HF7j.out.keep RB _ _ _ HRB7.out (by decide) (by decide) (by decide)).trans HRB7.out)
              clear hin
              by_cases hlj : j < 2
              · have hKj := (HFj.out.keep _ _ _ _ HKD9.out (by decide) (by decide) (by decide)).trans HKD9.out
                have k2 : wr.cell? ⟨w8.heap.size, j, none⟩ = some (.int .i64 (2 + (j : Int))) := by
                  obtain rfl | rfl : j = 0 ∨ j = 1 := by omega
                  · exact cell_of_row _ _ 0 _ _ _ hKj
                  · exact cell_of_row _ _ 1 _ _ _ hKj
                have s1 := cell_of_row _ _ 1 _ _ _ HSBj.out
                have d0 := cell_of_row _ _ 0 _ _ _ HBDj.out
                have HMB := Lib.hid (bmembers_c (sq &&& bad) _ wr rfl (HMj.out.tab HT.out))
                have HKS := Lib.hid (kindL_succ bad (sn, sq, v) j hlj)
                clear hKj
                go_wp2_with fail
                refine HMB.out.mono ?_
                rintro e w10 ⟨vm, rfl, hrow, hb10⟩
                obtain ⟨nM, hnM⟩ : ∃ nM, (memS (sq &&& bad)).length = nM := ⟨_, rfl⟩
                obtain ⟨am, cm, rfl, hrr⟩ := hrow.rdn nM (by rw [List.length_map]; exact hnM)
                have HNM := Lib.hid hnM
                have hnM16 : nM ≤ 16 := by rw [← hnM]; exact memS_len _
                have hcr := hrr.le
                have hcm := hrr.max
                unfold maxLen at hcm
                have HRR := Lib.hid hrr
                have HROW := Lib.hid hrow
                have HM10 := Lib.hid (HMj.out.below hb10)
                have HF10 := Lib.hid (HFj.out.trans (FrameT.below hb10))
                have HSB10 := Lib.hid (heap_below hb10 HSBj.out)
                have HRB10 := Lib.hid (heap_below hb10 HRBj.out)
                clear hrow hrr hb10 HMB hnM k2 s1 d0
                go_wp2_with fail
                go_loopw [131] (fun i wr => ∃ l : Nat, l ≤ nM ∧ i = .int .i64 l ∧ Hid (RunM w R (.slice a n c) (.slice a2 n2 c2) m bad k0 (stK f b m q p bad k).1 ((stK f b m q p bad k).2 ++ sayL sn v 1 k0 ++ kindL bad (sn, sq, v) j ++ ((memS (sq &&& bad)).take l).flatMap fun (i : Nat) => sayL sn v (2 + (j : Int)) i) wr ∧ FrameT w10 wr)) (fun i _ => nM - (intOf i).toNat)
                case atStart => exact ⟨0, Nat.zero_le _, rfl, Lib.hid ⟨by simpa using HM10.out, FrameT.refl _⟩⟩
                case round =>
                  obtain ⟨l, hl, rfl, hin⟩ := hrel
                  have HMl := Lib.hid hin.out.1
                  have HFl := Lib.hid hin.out.2
                  clear hin
                  by_cases hll : l < nM
                  · obtain ⟨x, hx⟩ : ∃ x, (memS (sq &&& bad))[l]? = some x := ⟨_, List.getElem?_eq_getElem (by rw [HNM.out]; exact hll)⟩
                    obtain ⟨gm, og, ea, hcl⟩ := HRR.out.at' (by omega)
                    subst ea
                    obtain ⟨cs, hgm⟩ := own_type HROW.out (g := gm) rfl
                    have hgmr := HFl.out.keep gm _ _ _ hgm (by decide) (by decide) (by decide)
                    have hxr : wr.cell? ⟨gm, og + l, none⟩ = some (.int .i64 x) := (World.cell?_of_block (a := ⟨gm, og + l, none⟩) hgmr).trans (hcl l (intV x) (by rw [List.getElem?_map, hx]; rfl))
                    have hSBl := (HFl.out.keep S _ _ _ HSB10.out (by decide) (by decide) (by decide)).trans HSB10.out
                    have hRBl := (HFl.out.keep RB _ _ _ HRB10.out (by decide) (by decide) (by decide)).trans HRB10.out
                    have hst : ((memS (sq &&& bad)).take (l + 1)).flatMap (fun (i : Nat) => sayL sn v (2 + (j : Int)) i) = ((memS (sq &&& bad)).take l).flatMap (fun (i : Nat) => sayL sn v (2 + (j : Int)) i) ++ sayL sn v (2 + (j : Int)) x := by
                      rw [List.take_add_one, hx, List.flatMap_append]; simp
                    have HST := Lib.hid hst
                    have HS3 := Lib.hid (say_c (2 + (j : Int)) x sn sq v S RB w R (.slice a n c) (.slice a2 n2 c2) m bad k0 _ _ wr (by
                      have h1 := HFL.out
                      have h2 := kind_len bad (sn, sq, v) j
                      have h3 := say_len sn v 1 k0
                      have h4 := part_len sn (sq &&& bad) v (2 + (j : Int)) l
                      simp only [List.length_append]; omega) (HMl.out.tab HT.out) hSBl hRBl HMl.out)
                    clear hcl hgm hgmr hSBl hRBl hst hx
                    go_wp2_with fail
                    refine HS3.out.mono ?_
                    rintro e w11 ⟨rfl, hM11, hF11⟩
                    have HM11 := Lib.hid hM11
                    have HF11 := Lib.hid (HFl.out.trans hF11)
                    clear hM11 hF11 HS3
                    go_wp2_with fail
                    go_roundw
                    case rel => exact ⟨l + 1, by omega, by go_num, Lib.hid ⟨by rw [HST.out, ← List.append_assoc]; exact HM11.out, HF11.out⟩⟩
                    case measure => simp [intOf]; omega
                  · have hM11 := HMl.out
                    rw [List.take_of_length_le (by rw [HNM.out]; omega), List.append_assoc, ← HKS.out] at hM11
                    have HM11 := Lib.hid hM11
                    have HF11 := Lib.hid (HF10.out.trans HFl.out)
                    clear hM11
                    go_wp2_with fail
                    go_roundw
                    case rel => exact ⟨j + 1, by omega, by go_num, Lib.hid ⟨HM11.out, HF11.out⟩⟩
                    case measure => simp [intOf]; omega
              · obtain rfl : j = 2 := by omega
                have hM12 := HMj.out
                rw [List.append_assoc, kindL_all bad k0 (sn, sq, v)] at hM12
                have HM12 := Lib.hid hM12
                have HI12 : Hid (InvB m (208 + 136 * k + 136) ((stK f b m q p bad k).1, (stK f b m q p bad k).2 ++ saysS bad k0 (sn, sq, v))) := Lib.hid (add_inv HI7.out (says_mem hk0m HSK.out HSPL.out.bl) (says_len hm8 HSK.out HSPL.out.bl))
                obtain ⟨st, hst⟩ : ∃ st, ((stK f b m q p bad k).1, (stK f b m q p bad k).2 ++ saysS bad k0 (sn, sq, v)) = st := ⟨_, rfl⟩
                have hSU2 : stK f b m q p bad (k + 1) = goS f b m bad sn (muS st) st := by rw [HSU.out, ← hst]; rfl
                have HSU2 := Lib.hid hSU2
                have e1 : st.1 = (stK f b m q p bad k).1 := by rw [← hst]
                have e2 : st.2 = (stK f b m q p bad k).2 ++ saysS bad k0 (sn, sq, v) := by rw [← hst]
                rw [← e1, ← e2] at HM12
                rw [hst] at HI12
                clear hM12 hSU2 e1 e2 hst
                obtain ⟨WL, hWL⟩ : ∃ WL, WL = wr := ⟨_, rfl⟩
                rw [← hWL] at HM12 HSBj HBDj HRBj HF7j
                have HWL := Lib.hid hWL
                go_wp2_with fail
                go_loopg [24] (muS st) (fun g _ wr => Hid (∃ cur, goS f b m bad sn (muS st) st = goS f b m bad sn g cur ∧ muS cur ≤ g ∧ InvB m (208 + 136 * k + 136) cur ∧ RunM w R (.slice a n c) (.slice a2 n2 c2) m bad k0 cur.1 cur.2 wr ∧ FrameT WL wr))
                case atStart => exact Lib.hid ⟨st, rfl, Nat.le_refl _, HI12.out, by rw [← HWL.out]; exact HM12.out, by rw [← HWL.out]; exact FrameT.refl _⟩
                case round =>
                  obtain ⟨cur, hgo, hmu, hinv, hM, hFr⟩ := hrel.out
                  have hS4 := (hFr.keep S _ _ _ HSBj.out (by decide) (by decide) (by decide)).trans HSBj.out
                  have hB4 := (hFr.keep _ _ _ _ HBDj.out (by decide) (by decide) (by decide)).trans HBDj.out
                  have hRB4 := (hFr.keep RB _ _ _ HRBj.out (by decide) (by decide) (by decide)).trans HRBj.out
                  have HM4 := Lib.hid hM
                  obtain ⟨vN4, vF4, ns4, hV4, hns4⟩ := hM
                  obtain ⟨a4, c4, rfl, hrd4⟩ := rdK_of_row hV4.flt
                  obtain ⟨nl, hnl⟩ : ∃ nl, cur.2.length = nl := ⟨_, rfl⟩
                  have r0 := cell_of_row _ _ 0 _ _ _ hRB4
                  obtain ⟨⟨t0, t1, t2, t3, t4, t5, t6⟩, _⟩ := open7Q hV4.box
                  rw [hnl] at hrd4 t6
                  have HIX := Lib.hid (idxMsg_c 38 #[.pointer (some ⟨S, 0, none⟩), .pointer (some ⟨w2.heap.size, 0, none⟩)] (enters_of Tryz.func38 (by kernel_rfl) rfl) (pickQ sn bad) cur.2 a4 nl c4 wr hrd4 (pick_at wr S w2.heap.size sn sq bad v cur.2 hS4 (cell_of_row _ _ 0 _ _ _ hB4) (fun x hx => by obtain ⟨s, d, h1, h2, h3, h4⟩ := hinv.msg x hx; exact ⟨s, d, h1, h2, by omega, by omega⟩)))
                  have HGO := Lib.hid hgo
                  have HMU := Lib.hid hmu
                  have HINV := Lib.hid hinv
                  have HFR := Lib.hid hFr
                  have HRB4 := Lib.hid hRB4
                  have HNL := Lib.hid hnl
                  clear hgo hmu hinv hFr hS4 hB4 hRB4 hV4 hrd4 hnl hrel t0 t1 t2 t3 t4 t5
                  by_cases hneg : idxG (pickQ sn bad) cur.2 < 0
                  · have HNG := Lib.hid hneg
                    obtain ⟨ix, hix⟩ : ∃ ix, idxG (pickQ sn bad) cur.2 = ix := ⟨_, rfl⟩
                    rw [hix] at HIX hneg
                    clear hix
                    go_wp2_with fail
                    refine HIX.out.mono ?_
                    rintro e w13 ⟨rfl, hb13⟩
                    have HB13 := Lib.hid hb13
                    clear hb13 HIX r0 t6
                    go_wp2_with fail
                    go_roundw
                    case rel =>
                      have hcur : stK f b m q p bad (k + 1) = cur := by rw [HSU2.out, HGO.out]; exact goS_stop HNG.out _
                      refine ⟨k + 1, by omega, by go_num, Lib.hid ?_⟩
                      rw [hcur]
                      exact ⟨HM4.out.below HB13.out, HF7.out.trans (HF7j.out.trans (HFR.out.trans (FrameT.below HB13.out))), HINV.out⟩
                    case measure => simp [intOf]; omega
                  · obtain ⟨k9, hk9, hl9, c9, hc9, _⟩ := idxG_lt hneg
                    have HK9 := Lib.hid hk9
                    rw [hk9] at HIX
                    obtain ⟨g', rfl⟩ : ∃ g', gk = g' + 1 := ⟨gk - 1, by have := HMU.out; have h9 : cur.2.length ≤ muS cur := by unfold muS; omega
                                                                        omega⟩
                    have hdi := del_inv (f := f) (b := b) (byz := bad) (by omega) HINV.out hc9
                    have HDI := Lib.hid hdi
                    have HDV : Hid (∀ u, Below wr.heap.size wr u → Calls Tryz.prog 39 #[.pointer (some ⟨R, 0, none⟩), .int .i64 k9] u fun e w' => e = .returned (.tuple #[]) ∧ RunM w R (.slice a n c) (.slice a2 n2 c2) m bad k0 (delS f b m bad cur.1 cur.2 k9).1 (delS f b m bad cur.1 cur.2 k9).2 w' ∧ FrameT u w') :=
                      Lib.hid (fun u hu => deliver_m f b w R a n c a2 n2 c2 HF.out HG.out m (208 + 136 * k + 136) bad k0 cur k9 c9 (by omega) (by omega) HINV.out hc9 u (HM4.out.below hu))
                    have hnk : ¬ (k9 : Int) < 0 := by omega
                    clear hneg hk9 hc9 hdi
                    go_wp2_with fail
                    refine HIX.out.mono ?_
                    rintro e w13 ⟨rfl, hb13⟩
                    have HB13 := Lib.hid hb13
                    have r0' := cell_of_row _ _ 0 _ _ _ (heap_below hb13 HRB4.out)
                    clear hb13 HIX r0 t6
                    go_wp2_with fail
                    refine (HDV.out w13 HB13.out).mono ?_
                    rintro e w14 ⟨rfl, hM14, hF14⟩
                    have HM14 := Lib.hid hM14
                    have HF14 := Lib.hid hF14
                    clear hM14 hF14 HDV r0'
                    go_wp2_with fail
                    go_roundg g'
                    case measure => omega
                    case rel =>
                      refine Lib.hid ⟨delS f b m bad cur.1 cur.2 k9, ?_, by have := HDI.out.2; have := HMU.out; omega, HDI.out.1, HM14.out, HFR.out.trans ((FrameT.below HB13.out).trans HF14.out)⟩
                      rw [HGO.out]; exact goS_step HK9.out g'
          · obtain rfl : k = 2 := by omega
            have hX9 := (hin.out.2.1.keep _ _ _ _ HX6.out (by decide) (by decide) (by decide)).trans HX6.out
            have hRB9 := (hin.out.2.1.keep RB _ _ _ HRB6.out (by decide) (by decide) (by decide)).trans HRB6.out
            obtain ⟨vN9, vF9, ns9, hV9, hns9⟩ := hin.out.1
            obtain ⟨aN, cN, rfl, _⟩ := rdK_of_row hV9.nod
            obtain ⟨aF, cF, rfl, _⟩ := rdK_of_row hV9.flt
            have r0 := cell_of_row _ _ 0 _ _ _ hRB9
            obtain ⟨⟨t0, t1, t2, t3, t4, t5, t6⟩, _⟩ := open7Q hV9.box
            unfold zCasting at hX9
            have z0 := cell_of_row _ _ 0 _ _ _ hX9
            have z1 := cell_of_row _ _ 1 _ _ _ hX9
            have z2 := cell_of_row _ _ 2 _ _ _ hX9
            have z3 := cell_of_row _ _ 3 _ _ _ hX9
            have z4 := cell_of_row _ _ 4 _ _ _ hX9
            have y0 := frozenB hX9 0
            have y1 := frozenB hX9 1
            have y2 := frozenB hX9 2
            have y3 := frozenB hX9 3
            have y4 := frozenB hX9 4
            have HX9 := Lib.hid hX9
            have HV9 := Lib.hid hV9
            have HN9 := Lib.hid hns9
            clear hX9 hRB9 hV9 hns9 hin
            go_wp2_with fail
            refine att_end (wf := set5 wr w.heap.size (.int .i64 m) (.int .u16 (U bad)) (.int .i64 k0) (.slice aN ns9.length cN) (.slice aF (stK f b m q p bad 2).2.length cF)) rfl rfl rfl (set5_heap HX9.out _ _ _ _ _) ?_
            refine ⟨.slice aN ns9.length cN, .slice aF (stK f b m q p bad 2).2.length cF, ns9, by rw [HHD.out], set5_below HV9.out.old (Nat.le_refl _) _ _ _ _ _, ?_, by rw [HN9.out]; rfl, ⟨_, _, _, rfl⟩⟩
            exact own_at HV9.out.nod fun g hg => set5_other (fun e => own_ne HV9.out.nod HX9.out (by decide) (by rw [hg, e])) _ _ _ _ _
end Go.Proofs.YtmjgdnpfgkpaoaaGreatDoor
namespace Go.Proofs.YtmjgdnpfgkpaoaaGreatDoor
open Go.RowKit Go.Shelf

set_option maxRecDepth 100000 in
set_option maxHeartbeats 1000000 in
theorem attack_none (f b : List (BitVec 16)) (m : Nat) (a : Option Addr) (n c : Nat) (a2 : Option Addr) (n2 c2 : Nat) (w : World) (h : Rd w a n c (f.map setV2)) (h2 : Rd w a2 n2 c2 (b.map setV2)) (hm1 : 1 ≤ m) (hm8 : m ≤ 8) (hch : bchS f b m = 0) (hsp : spF m b f = none) :
    Calls Tryz.prog 8 #[.slice a n c, .slice a2 n2 c2, .int .i64 m] w fun e w' => e = .returned (.tuple #[.agg zCasting, .int .i64 13]) ∧ Below w.heap.size w w' := by
  have n1 : ¬ (m : Int) < 1 := by omega
  have n8 : ¬ (8 : Int) < m := by omega
  obtain ⟨W0, hW0⟩ : ∃ W0, W0 = w.alloc (.cells zCasting 34) := ⟨_, rfl⟩
  have hb0 : Below w.heap.size w W0 := by rw [hW0]; exact (Below.refl _ w).alloc (Nat.le_refl _) _
  have hX0 : W0.heap[w.heap.size]? = some (.cells zCasting 34 (0, 0)) := by rw [hW0]; exact heap_alloc_new _ _
  have HCH := Lib.hid (bcheck_c f b m a n c a2 n2 c2 W0 (h.below hb0) (h2.below hb0))
  rw [hch] at HCH
  have HF := Lib.hid h
  have HG := Lib.hid h2
  have HB0 := Lib.hid hb0
  have HX0 := Lib.hid hX0
  unfold zCasting at hW0
  clear h h2 hb0 hX0 hch
  go_enter Tryz.func8, Tryz.ntmps8
  go_upto_region 1 with fail
  rw [← hW0]
  clear hW0
  go_wp2_with fail
  refine HCH.out.mono ?_
  rintro e w1 ⟨rfl, b1⟩
  have HB1 := Lib.hid (Below.next HB0.out b1)
  have HSC := Lib.hid (split_c f b m a n c a2 n2 c2 w1 (HF.out.below HB1.out) (HG.out.below HB1.out) (by omega))
  rw [hsp] at HSC
  unfold spV at HSC
  have HX1 := Lib.hid (heap_below b1 HX0.out)
  clear HCH b1
  go_wp2_with fail
  refine HSC.out.mono ?_
  rintro e w2 ⟨rfl, b2⟩
  have HB2 := Lib.hid (Below.next HB1.out b2)
  have hX2 := heap_below b2 HX1.out
  obtain ⟨W3, hW3⟩ : ∃ W3, W3 = w2.alloc (.cells #[.int .u16 0] 27) := ⟨_, rfl⟩
  have hb3 : Below w2.heap.size w2 W3 := by rw [hW3]; exact (Below.refl _ w2).alloc (Nat.le_refl _) _
  have hX3 := heap_below hb3 hX2
  have HB3 := Lib.hid (Below.next HB2.out hb3)
  have HX3 := Lib.hid hX3
  unfold zCasting at hX3
  have z0 := cell_of_row _ _ 0 _ _ _ hX3
  have z1 := cell_of_row _ _ 1 _ _ _ hX3
  have z2 := cell_of_row _ _ 2 _ _ _ hX3
  have z3 := cell_of_row _ _ 3 _ _ _ hX3
  have z4 := cell_of_row _ _ 4 _ _ _ hX3
  have y0 := frozenB hX3 0
  have y1 := frozenB hX3 1
  have y2 := frozenB hX3 2
  have y3 := frozenB hX3 3
  have y4 := frozenB hX3 4
  clear HSC b2 HX0 HX1 hX2 hX3 hb3
  go_upto_region 7 with fail
  rw [← hW3]
  clear hW3
  go_wp2_with fail
  exact att_end (wf := set5 W3 w.heap.size (.int .i64 0) (.int .u16 0) (.int .i64 0) (.slice none 0 0) (.slice none 0 0)) (by rfl) (by rfl) (by rfl) (set5_heap HX3.out _ _ _ _ _) ⟨rfl, set5_below HB3.out (Nat.le_refl _) _ _ _ _ _⟩
end Go.Proofs.YtmjgdnpfgkpaoaaGreatDoor
