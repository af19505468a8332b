/- Texts laid together. The reference's grow: the nodes of a tree in postorder, in a row that is handed on. ref10.sizes: the sizes of all nodes' trees, cut at 1000. The reference's Substitute, Tidy. Rows of expressions under way; the law of Substitute, its sets. Plain lemmas, no program. A list of drafts among a law's arguments, as its frame opens it. Layer 10: the law Substitute, walked. -/
import Derived.Test.YtcojmmhclklpoaaGreatDoorGC2
import Derived.Test.YtcojmmhclklpoaaGreatDoorGC4
import Derived.Test.YtcojmmhclklpoaaGreatDoorGC5
import Derived.Test.YtcojmmhclklpoaaGreatDoorGC6
import Derived.Test.YtcojmmhclklpoaaGreatDoorGC7
import Derived.Test.YtcojmmhclklpoaaGreatDoorGC10
import Derived.Test.YtcojmmhclklpoaaGreatDoorGExprSubstitute1
import Derived.RangeFuncBox
namespace Go.Proofs.YtcojmmhclklpoaaGreatDoor
open Go.RowKit Go.Shelf

theorem kid_set {l r : List Int} {k : Nat} {y : Int} (z : Int) (hl : l.length = k) (h : r[k]? = some y) : (l ++ r.drop k)[k]? = some y ∧ (l ++ r.drop k).set k z = (l ++ [z]) ++ r.drop (k + 1) := by
  have hk := (List.getElem?_eq_some_iff.1 h).1
  rw [List.drop_eq_getElem_cons hk]
  refine ⟨?_, ?_⟩
  · rw [List.getElem?_append_right (by omega), hl, Nat.sub_self, List.getElem?_cons_zero, ← h, List.getElem?_eq_getElem hk]
  · rw [List.set_append_right _ _ (by omega), hl, Nat.sub_self, List.set_cons_zero, List.append_assoc]; rfl

/-- three blocks are the same -/
def Eq3 (w u : World) (a b c : Nat) : Prop := u.heap[a]? = w.heap[a]? ∧ u.heap[b]? = w.heap[b]? ∧ u.heap[c]? = w.heap[c]?

def GrC (x : Xpr) (ys : List Xpr) (w0 : World) (f : Nat) : Prop :=
  ∀ (a : Option Addr) (n c : Nat) (la : Option Addr) (ln lc : Nat), XM w0 a n c x.nodes → LM w0 la ln lc ys → ∀ (i : Nat), i < f → i < x.nodes.length → ∀ (w : World) (S : Nat → Prop) (v : Value) (nodes : List Nod), GrI w0 w0.heap.size S v nodes w → nodes.length + (treF x.nodes (subL ys) f i).sz ≤ 1000 →
    Calls Tryz.prog 60 #[v, .agg #[.slice a n c, .int .i64 x.root], .int .i64 i, .slice la ln lc] w fun e w' => GrO w0.heap.size S v nodes ((treF x.nodes (subL ys) f i).post nodes.length) w e w'

set_option maxRecDepth 100000 in
set_option maxHeartbeats 8000000 in
theorem grow_step (x : Xpr) (hx : xprE x = 0) (ys : List Xpr) (hys : ∀ y ∈ ys, xprE y = 0) (w0 : World) (hrec : ∀ y ∈ ys, GrC y [] w0 (y.root.toNat + 1)) (f : Nat) (ih : GrC x ys w0 f) : GrC x ys w0 (f + 1) := by
  intro a n c la ln lc h1 h2 i hif hil w S v nodes hI hsz
  obtain ⟨nd, hnd⟩ : ∃ nd, x.nodes[i]? = some nd := ⟨_, List.getElem?_eq_getElem hil⟩
  have ok := (xprE_ok hx).node i nd hnd
  have hl := h1.len
  obtain ⟨b, o, ha, hat⟩ := h1.at' (by omega)
  have hM := hat i nd hnd
  obtain ⟨aw, nw, cw, m3, rw3⟩ := hM.ws
  obtain ⟨ak, nk, ck, m4, rk4⟩ := hM.ks
  have m0 := cell_keep hI.bel hM.c0
  have m1 := cell_keep hI.bel hM.c1
  have m2 := cell_keep hI.bel hM.c2
  have m3 := cell_keep hI.bel m3
  have m4 := cell_keep hI.bel m4
  have hbl : b < w.heap.size := cell_lt m0
  have m0 : ∀ ob, (w.alloc ob).cell? ⟨b, o + i * 5, none⟩ = some (.int .i64 nd.kind) := fun ob => (World.cell?_alloc_lt _ _ _ hbl).trans m0
  have m1 : ∀ ob, (w.alloc ob).cell? ⟨b, o + i * 5 + 1, none⟩ = some (.int .i64 nd.server) := fun ob => (World.cell?_alloc_lt _ _ _ hbl).trans m1
  have m2 : ∀ ob, (w.alloc ob).cell? ⟨b, o + i * 5 + 2, none⟩ = some (.int .i64 nd.need) := fun ob => (World.cell?_alloc_lt _ _ _ hbl).trans m2
  have m3 : ∀ ob, (w.alloc ob).cell? ⟨b, o + i * 5 + 3, none⟩ = some (.slice aw nw cw) := fun ob => (World.cell?_alloc_lt _ _ _ hbl).trans m3
  have m4 : ∀ ob, (w.alloc ob).cell? ⟨b, o + i * 5 + 4, none⟩ = some (.slice ak nk ck) := fun ob => (World.cell?_alloc_lt _ _ _ hbl).trans m4
  have hH1 := Lib.hid h1
  have hH2 := Lib.hid h2
  have HI := Lib.hid hI
  have hln := h2.len
  have hwl := rw3.len
  have hkl := rk4.len
  rw [List.length_map] at hwl hkl
  have hBw : w0.heap.size ≤ w.heap.size := hI.bel.size
  have hbi : decide ((i : Int) < (n : Int)) = true := decide_eq_true (by omega)
  have hin : i < n := by omega
  by_cases hsub : nd.kind = 1 ∧ nd.server < (ln : Int)
  · obtain ⟨hk1, hsv⟩ := hsub
    obtain ⟨-, hwn, hkn⟩ := ok.leaf hk1
    rw [hwn] at hwl
    rw [hkn] at hkl
    have HCP := Lib.hid (fun u (hu : Below w.heap.size w u) => copied_c nd.kind nd.server nd.need nd.weights nd.kids aw nw cw ak nk ck u ((rw3.below hI.bel).below hu) ((rk4.below hI.bel).below hu) (by simp at hwl; omega) (by simp at hkl; omega))
    obtain ⟨sn, hsn⟩ := Int.eq_ofNat_of_zero_le ok.server.1
    obtain ⟨y, hy⟩ : ∃ y, ys[sn]? = some y := ⟨_, List.getElem?_eq_getElem (by omega)⟩
    have hym := List.mem_of_getElem? hy
    have yok := xprE_ok (hys y hym)
    have hT : treF x.nodes (subL ys) (f + 1) i = treX y := treF_sub _ f i nd hnd hk1 (by rw [hsn, Int.toNat_natCast]; unfold subL; rw [hy]; rfl)
    obtain ⟨b2, o2, ha2, hc2⟩ := h2.at' (by omega)
    obtain ⟨a3, n3, c3, y0, hxm, y1⟩ := hc2 sn y hy
    have y0 := cell_keep hI.bel y0
    have y1 := cell_keep hI.bel y1
    rw [hT] at hsz ⊢
    obtain ⟨kind, server, need, ws, ks⟩ := nd
    simp only at m0 m1 m2 m3 rw3 m4 rk4 hwl hkl hk1 hsv hsn HCP
    subst hk1 hsn
    have hroot := yok.root
    have hr0 : ((y.root.toNat : Nat) : Int) = y.root := Int.toNat_of_nonneg hroot.1
    have HR : Hid (∀ W2 : World, Below w.heap.size w W2 → Calls Tryz.prog 60 #[v, .agg #[.slice a3 n3 c3, .int .i64 y.root], .int .i64 y.root, .slice none 0 0] W2 fun e w' => GrO w0.heap.size S v nodes ((treX y).post nodes.length) W2 e w') := Lib.hid (fun W2 hb => by
      have := hrec y hym a3 n3 c3 none 0 0 hxm (LM.none_ _) y.root.toNat (Nat.lt_succ_self _) (by omega) W2 S v nodes (hI.below hb hI.bel.size) hsz
      rw [hr0] at this
      exact this)
    have HVL : Hid (∀ g, v.ownBlock = some g → g < w.heap.size) := Lib.hid (fun g hg => (hI.xb.lt_own g hg).2)
    have hb2B : b2 < w0.heap.size := cell_lt (hc2 sn y hy).choose_spec.choose_spec.choose_spec.1
    subst ha ha2
    have e2 : decide ((sn : Int) < (ln : Int)) = true := decide_eq_true hsv
    have hsln : sn < ln := by omega
    clear hwl hkl hln hl rw3 rk4 ok hM hat hnd h1 h2 hI hrec hys hym yok hc2 hxm hroot hr0 hT hsz ih hy hsv HI hH1 hH2
    go_enter Tryz.func60, Tryz.ntmps60
    go_wp2_with fail
    generalize hW1 : w.alloc _ = W1
    have hb1 : Below w.heap.size w W1 := by rw [← hW1]; exact (Below.refl _ _).alloc (Nat.le_refl _) _
    have HB1 := Lib.hid hb1
    have hs1 : W1.heap.size = w.heap.size + 1 := by rw [← hW1]; simp
    clear hW1 m0 m1 m2 m3 m4
    with_reducible refine (HCP.out W1 hb1).mono ?_
    rintro e w3 ⟨wv, kv, rfl, hrw, hrk, hdj, hb3⟩
    have hs3 := hb3.size
    have HB3 := Lib.hid (hb1.trans (hb3.mono (by omega)))
    obtain ⟨aw2, cw2, rfl, _⟩ := rd_of_row hrw
    obtain ⟨ak2, ck2, rfl, _⟩ := rd_of_row hrk
    clear hrw hrk hdj hb3 hb1 HCP
    go_upto_region 3 with fail
    generalize hW4 : w3.alloc _ = W4
    have gN : W4.heap[w3.heap.size]? = some (.cells #[.int .i64 1, .int .i64 (sn : Int), .int .i64 need, .slice aw2 nw cw2, .slice ak2 nk ck2] 71 (0, 0)) := by rw [← hW4]; exact heap_alloc_new _ _
    have hb4 : Below w.heap.size w W4 := by rw [← hW4]; exact HB3.out.alloc (by omega) _
    have hs4 : W4.heap.size = w3.heap.size + 1 := by rw [← hW4]; simp
    have k1 := cell_of_row _ _ 1 _ _ _ gN
    have k2 := cell_keep hb4 y0
    have k3 := cell_keep hb4 y1
    have HB4 := Lib.hid hb4
    clear hW4 gN hb4 y0 y1
    refine wp_region_noPanic ?_
    refine wp_region_takes (fun u => u.cell? ⟨w3.heap.size, 1, none⟩ = some (.int .i64 (sn : Int)) ∧ u.cell? ⟨b2, o2 + sn * 2, none⟩ = some (.slice a3 n3 c3) ∧ u.cell? ⟨b2, o2 + sn * 2 + 1, none⟩ = some (.int .i64 y.root)) [0, 1, 2, 3, 4, 5, 6, 7, 8, 9, 10, 11] 2 (by kernel_rfl) (by kernel_rfl) (by kernel_rfl) (fun _ _ _ _ _ h => h) ⟨k1, k2, k3⟩ ?_
    repeat (refine wpTk_cons rfl (fun K hK => ?_); go_simp; apply Exists.intro; refine ⟨fun u q1 q2 q3 => ?_, hK _ ?_⟩; (first | exact rfl | (go_simp; done) | (go_simp; exact rfl)); clear hK K)
    refine wpTk_nil ?_
    refine held_ready (rs := [12]) (by kernel_rfl) (by simp) ?_
    refine AllReadyH.cons rfl (fun K hK => ?_) AllReadyH.nil
    go_simp
    with_reducible refine (HR.out _ (below_drew HB4.out)).mono ?_
    rintro e w5 hO
    obtain ⟨v', S', rfl, hxb, hkb, hS1, hS2⟩ := id hO
    have HO := Lib.hid (hO.pre hBw (below_drew HB4.out))
    have j1 : w5.cell? ⟨w3.heap.size, 1, none⟩ = some (.int .i64 (sn : Int)) := by
      rw [World.cell?_of_block (w := W4) (w' := w5) (a := ⟨w3.heap.size, 1, none⟩) (hkb.blk _ (by show w3.heap.size < W4.heap.size; omega) (fun e => by have := HVL.out _ e; simp at this; omega))]
      exact k1
    have j2 : w5.cell? ⟨b2, o2 + sn * 2, none⟩ = some (.slice a3 n3 c3) := by
      rw [World.cell?_of_block (w := W4) (w' := w5) (a := ⟨b2, o2 + sn * 2, none⟩) (hkb.bel.block _ hb2B)]; exact k2
    have j3 : w5.cell? ⟨b2, o2 + sn * 2 + 1, none⟩ = some (.int .i64 y.root) := by
      rw [World.cell?_of_block (w := W4) (w' := w5) (a := ⟨b2, o2 + sn * 2 + 1, none⟩) (hkb.bel.block _ hb2B)]; exact k3
    clear hO hkb hxb hS1 hS2
    go_simp
    refine hK.out _ _ ⟨j1, j2, j3⟩ (fun hh => ?_)
    clear hh hK K k1 k2 k3
    try simp only [Act.put, List.setIfInBounds_toArray, List.set_cons_zero, List.set_cons_succ]
    refine held_takes (f := 0) (by kernel_rfl) (fun _ _ _ _ _ h => h) ⟨j1, j2, j3⟩ [13] _ _ (by kernel_rfl) ?_
    clear j1 j2 j3
    repeat (refine wpTk_cons rfl (fun K hK => ?_); go_simp; apply Exists.intro; refine ⟨fun u q1 q2 q3 => ?_, hK _ ?_⟩; (first | exact rfl | (go_simp; done) | (go_simp; exact rfl)); clear hK K)
    refine wpTk_nil ?_
    refine wpAnyH_done (by kernel_rfl) (NoPanic.normal ?_) _
    go_wp2_with fail
    go_ret
    exact HO.out
  · have hnone : nd.kind = 1 → subL ys nd.server.toNat = none := fun hk => by
      have h5 : ¬ nd.server < (ln : Int) := fun h => hsub ⟨hk, h⟩
      have := ok.server
      unfold subL
      rw [List.getElem?_eq_none (by omega)]; rfl
    have hplain := treF_plain hx (subL ys) f i nd hnd hnone nodes.length
    obtain ⟨kind, server, need, ws, ks⟩ := nd
    simp only at m0 m1 m2 m3 rw3 m4 rk4 hwl hkl hsub hplain
    obtain ⟨KT, hKT⟩ : ∃ KT, KT = kidT x.nodes (subL ys) f ks := ⟨_, rfl⟩
    have hKl : KT.length = nk := by rw [hKT, kidT_len]; exact hkl.symm
    have hKz := ETs.sz_ge KT
    rw [← hKT] at hplain
    rw [hplain.2] at hsz
    have hnw : nw ≤ 1000 := by rcases ok.arity with h5 | h5 <;> simp only at h5
                               · rw [h5] at hwl; simp at hwl; omega
                               · omega
    have hsel : ((kind == 1) = true ∧ decide (server < (ln : Int)) = false) ∨ (kind == 1) = false := by
      by_cases hk : kind = 1
      · exact .inl ⟨by simp [hk], decide_eq_false fun h => hsub ⟨hk, h⟩⟩
      · exact .inr (by simpa using hk)
    have HPL := Lib.hid hplain
    have hnk : nk ≤ 1000 := by omega
    have HCP := Lib.hid (fun u (hu : Below w.heap.size w u) => copied_c kind server need ws ks aw nw cw ak nk ck u ((rw3.below hI.bel).below hu) ((rk4.below hI.bel).below hu) (by omega) (by omega))
    have HWL := Lib.hid hwl
    have HKL := Lib.hid hkl
    have HLN := Lib.hid hln
    have HHL := Lib.hid hl
    have HKT := Lib.hid hKT
    subst ha
    have hkr : ∀ z ∈ ks, 0 ≤ z ∧ z < (i : Int) := ok.kids
    have HKR := Lib.hid hkr
    have HKs := Lib.hid hKl
    have HSZ := Lib.hid hsz
    clear hkr hKl hsz hKz hwl hkl hln hl hplain hKT rw3 rk4 ok hM hat hnd h1 h2 hI hrec hys
    rcases hsel with ⟨e1, e2⟩ | e1
    all_goals
      go_enter Tryz.func60, Tryz.ntmps60
      go_wp2_with fail
      generalize hW1 : w.alloc _ = W1
      have gX : W1.heap[w.heap.size]? = some (.cells #[.slice (some ⟨b, o, none⟩) n c, .int .i64 x.root] 32 (0, 0)) := by rw [← hW1]; exact heap_alloc_new _ _
      have hb1 : Below w.heap.size w W1 := by rw [← hW1]; exact (Below.refl _ _).alloc (Nat.le_refl _) _
      have hs1 : W1.heap.size = w.heap.size + 1 := by rw [← hW1]; simp
      clear hW1 m0 m1 m2 m3 m4
      with_reducible refine (HCP.out W1 hb1).mono ?_
      rintro e w3 ⟨wv, kv, rfl, hrw, hrk, hdj, hb3⟩
      obtain ⟨W4, hW4⟩ : ∃ W4, W4 = w3.alloc (.cells #[.int .i64 kind, .int .i64 server, .int .i64 need, wv, kv] 71) := ⟨_, rfl⟩
      have gN : W4.heap[w3.heap.size]? = some (.cells #[.int .i64 kind, .int .i64 server, .int .i64 need, wv, kv] 71 (0, 0)) := by rw [hW4]; exact heap_alloc_new _ _
      have hb4 : Below w3.heap.size w3 W4 := by rw [hW4]; exact (Below.refl _ _).alloc (Nat.le_refl _) _
      have hs3 := hb3.size
      have hs4 : W4.heap.size = w3.heap.size + 1 := by rw [hW4]; simp
      obtain ⟨aw2, cw2, rfl, _⟩ := rd_of_row hrw
      obtain ⟨ak2, ck2, rfl, _⟩ := rd_of_row hrk
      have hrw4 : W4.ownsRow (w.heap.size + 1) 3 1 (.slice aw2 nw cw2) ws.length (ws.map (Value.int .i64)) := by
        rw [← hs1, ← HWL.out]
        exact rowK_at hrw fun g hg => hb4.block g (hrw.lt g hg).2
      have hrk4 : W4.ownsRow (w.heap.size + 1) 3 1 (.slice ak2 nk ck2) ks.length (ks.map (Value.int .i64)) := by
        rw [← hs1, ← HKL.out]
        exact rowK_at hrk fun g hg => hb4.block g (hrk.lt g hg).2
      have hL0 := GrL.start (W2 := W1) (N := w3.heap.size) (s := w.heap.size + 1) (ids := ks) HI.out hBw (hb1.trans ((hb3.mono (by omega)).trans (hb4.mono (by omega)))) gN (fun g g1 g2 => by rw [hb4.block g (by omega)]; exact hb3.block g (by omega)) ⟨by omega, by omega⟩ hrw4 hrk4 hdj (fun e => by have := (hrw.lt _ e).2; omega) (fun e => by have := (hrk.lt _ e).2; omega)
      have HL0 := Lib.hid hL0
      have GX := Lib.hid gX
      have hs5 : w.heap.size + 1 ≤ W4.heap.size := by omega
      have hs6 : w3.heap.size < W4.heap.size := by omega
      have hs7 : w.heap.size + 1 ≤ w3.heap.size := by omega
      clear gX gN hb4 hb3 hb1 hrw hrk hdj hrw4 hrk4 hL0 HCP hs1 hs3 hs4
      go_wp2_with fail
      rw [← hW4]
      clear hW4
      go_loopw [0, 10] (fun vq q wr => ∃ vv k S', vv = vq ∧ k ≤ nk ∧ q = .int .i64 ((k : Nat) : Int) ∧ GrL w0 w W1 w0.heap.size w3.heap.size (w.heap.size + 1) S (fun g => (Value.slice aw2 nw cw2).ownBlock = some g) v nodes (.int .i64 kind) (.int .i64 server) (.int .i64 need) (.slice aw2 nw cw2) ws vv (.slice ak2 nk ck2) S' (ETs.post (KT.take k) nodes.length) (ETs.idx (KT.take k) nodes.length ++ ks.drop k) wr ∧ w3.heap.size < wr.heap.size) (fun _ q _ => nk - (intOf q).toNat)
      case atStart => exact ⟨v, 0, S, rfl, Nat.zero_le _, rfl, HL0.out, hs6⟩
      case round =>
        obtain ⟨vv, k, S', rfl, hk, rfl, hL, hsr⟩ := hrel
        have hidl : (ETs.idx (KT.take k) nodes.length).length = k := by rw [ETs.idx_len, List.length_take]; have := HKs.out; omega
        by_cases hlt : k < nk
        · obtain ⟨z, hz⟩ : ∃ z, ks[k]? = some z := ⟨_, List.getElem?_eq_getElem (by have := HKL.out; omega)⟩
          have hzr := HKR.out z (List.mem_of_getElem? hz)
          obtain ⟨zn, hzn⟩ := Int.eq_ofNat_of_zero_le hzr.1
          subst hzn
          have hrk := hL.rk
          have hcl : (ETs.idx (KT.take k) nodes.length ++ ks.drop k).length = nk := by rw [List.length_append, List.length_drop, hidl]; have := HKL.out; omega
          rw [hcl] at hrk
          obtain ⟨mk, hmk⟩ : ∃ mk, nk = mk + 1 := ⟨nk - 1, by omega⟩
          have hrk2 := hrk
          rw [hmk] at hrk2
          obtain ⟨gk, capk, hvk⟩ := ownsRow_succ hrk2
          have hak : ak2 = some ⟨gk, 0, none⟩ := by injection hvk
          have hx0 : (wr.ownsRow (w.heap.size + 1) 3 1 (.slice (some ⟨gk, 0, none⟩) nk ck2) nk ((ETs.idx (KT.take k) nodes.length ++ ks.drop k).map (Value.int .i64))) := by rw [← hak]; exact hrk
          have hcell : ∀ u : World, u.heap[gk]? = wr.heap[gk]? → u.cell? ⟨gk, k, none⟩ = some (.int .i64 zn) := fun u hu => by
            rw [World.cell?_of_block (w := wr) (w' := u) (a := ⟨gk, k, none⟩) hu]
            rw [World.ownsRow.cellAt hx0 k (by omega), List.getElem?_map, (kid_set (y := zn) 0 hidl hz).1]; rfl
          have hgk : w.heap.size + 1 ≤ gk ∧ gk < wr.heap.size := hx0.lt gk rfl
          have hvk2 := (hL.dk gk (by rw [hak]; rfl)).2
          have hT := kidT_take x.nodes (subL ys) f ks k zn hz
          rw [← HKT.out, Int.toNat_natCast] at hT
          have hstep := post_step (KT.take k) (treF x.nodes (subL ys) f zn) nodes.length
          rw [← hT] at hstep
          have hszk := sz_take KT (k + 1)
          have hlen : (nodes ++ ETs.post (KT.take k) nodes.length).length = nodes.length + ETs.sz (KT.take k) := by rw [List.length_append, ETs.post_len]
          have hCall := fun u (hu : Below wr.heap.size wr u) => ih (some ⟨b, o, none⟩) n c la ln lc hH1.out hH2.out zn (by omega) (by have := HHL.out; omega) u S' vv (nodes ++ ETs.post (KT.take k) nodes.length) ((hL.toI HI.out (Nat.le_refl _)).below hu (by have := hL.kb.bel.size; omega)) (by have := HSZ.out; omega)
          rw [hlen] at hCall
          have gx := (hL.loc w.heap.size (Nat.le_refl _) (by omega)).trans GX.out
          have hob := hL.nb
          have p4 := cell_of_row _ _ 4 _ _ _ hob
          subst hak
          have KS : Hid (∀ u : World, Eq3 wr u w.heap.size w3.heap.size gk → u.cell? ⟨w.heap.size, 0, none⟩ = some (.slice (some ⟨b, o, none⟩) n c) ∧ u.cell? ⟨w.heap.size, 1, none⟩ = some (.int .i64 x.root) ∧ u.cell? ⟨w3.heap.size, 4, none⟩ = some (.slice (some ⟨gk, 0, none⟩) nk ck2) ∧ u.cell? ⟨gk, k, none⟩ = some (.int .i64 zn)) := Lib.hid (fun u hu => ⟨cell_of_row _ _ 0 _ _ _ (hu.1.trans gx), cell_of_row _ _ 1 _ _ _ (hu.1.trans gx), cell_of_row _ _ 4 _ _ _ (hu.2.1.trans hob), hcell u hu.2.2⟩)
          have HCALL := Lib.hid hCall
          have HSTEP := Lib.hid hstep
          have HL := Lib.hid hL
          have hvn := hL.vn
          have hvw : vv.ownBlock ≠ some w.heap.size := fun e => by
            rcases hL.own _ e with h6 | h6
            · have := (HI.out.xb.lt_own _ h6).2; omega
            · omega
          clear hCall hstep hL hT hszk hlen hzr hrk hrk2 hx0 hcell gx hob hmk hvk
          go_upto_region 7 with fail
          clear p4
          refine wp_region_noPanic ?_
          refine wp_region_takes (fun u => Eq3 wr u w.heap.size w3.heap.size gk) [0, 1, 2, 3, 4, 5, 6, 7] 2 (by kernel_rfl) (by kernel_rfl) (by kernel_rfl) (fun _ _ _ _ _ h => h) ⟨rfl, rfl, rfl⟩ ?_
          repeat (refine wpTk_cons rfl (fun K hK => ?_); go_simp; apply Exists.intro; refine ⟨fun u u1 => ?_, hK _ ?_⟩; (first | exact rfl | (obtain ⟨q1, q2, q3, q4⟩ := KS.out u u1; go_simp; done) | (obtain ⟨q1, q2, q3, q4⟩ := KS.out u u1; go_simp; exact rfl)); clear hK K)
          refine wpTk_nil ?_
          refine held_ready (rs := [8]) (by kernel_rfl) (by simp) ?_
          refine AllReadyH.cons rfl (fun K hK => ?_) AllReadyH.nil
          go_simp
          with_reducible refine (HCALL.out _ (below_drew (Below.refl _ _))).mono ?_
          rintro e w5 hO
          have hP := hO.pre (by have := HL.out.kb.bel.size; omega) (below_drew (Below.refl _ _))
          have hkb : ∀ g, g < wr.heap.size → vv.ownBlock ≠ some g → w5.heap[g]? = wr.heap[g]? := by
            obtain ⟨_, _, _, _, h9, _⟩ := id hP
            exact h9.blk
          obtain ⟨v5, S5, rfl, hL5, hs5⟩ := HL.out.call HI.out hP
          have hq : Eq3 wr w5 w.heap.size w3.heap.size gk := ⟨hkb _ (by omega) hvw, hkb _ hsr hvn, hkb _ hgk.2 hvk2⟩
          obtain ⟨h51, h52, h53⟩ := HSTEP.out
          rw [← h51] at hL5
          have hRp := (treF x.nodes (subL ys) f zn).sz_pos
          have hl5 : (nodes ++ ETs.post (KT.take (k + 1)) nodes.length).length = (nodes.length + ETs.sz (KT.take k) + (treF x.nodes (subL ys) f zn).sz - 1) + 1 := by rw [List.length_append, ETs.post_len, h53]; omega
          have hszk := sz_take KT (k + 1)
          have hR1 : nodes.length + ETs.sz (KT.take k) + (treF x.nodes (subL ys) f zn).sz - 1 ≤ 1000 := by have := HSZ.out; omega
          generalize (nodes.length + ETs.sz (KT.take k) + (treF x.nodes (subL ys) f zn).sz - 1 : Nat) = R at hl5 h52 hR1
          obtain ⟨a5, c5, hv5, _⟩ := hL5.xb.shape
          rw [hl5] at hv5
          subst hv5
          have hrk5 := hL5.rk
          have hcl : (ETs.idx (KT.take k) nodes.length ++ ks.drop k).length = nk := by rw [List.length_append, List.length_drop, hidl]; have := HKL.out; omega
          rw [hcl] at hrk5
          have t0 : w5.cell? ⟨gk, k, none⟩ = some (.int .i64 zn) := by
            rw [World.ownsRow.cellAt hrk5 k (by omega), List.getElem?_map, (kid_set (y := zn) 0 hidl hz).1]; rfl
          have t1 := World.ownsRow.frozenAt hrk5 k
          have p4 := cell_of_row _ _ 4 _ _ _ hL5.nb
          have HK := Lib.hid (hL5.kid hBw (z := (R : Int)) (k := k) (g0 := gk) rfl)
          rw [(kid_set (y := zn) (R : Int) hidl hz).2, ← h52] at HK
          have hs6 : w3.heap.size < w5.heap.size := by omega
          go_simp
          refine hK.out _ _ hq (fun hh => ?_)
          clear hh hK K
          try simp only [Act.put, List.setIfInBounds_toArray, List.set_cons_zero, List.set_cons_succ]
          refine held_takes (f := 0) (by kernel_rfl) (fun _ _ _ _ _ h => h) hq [9] _ _ (by kernel_rfl) ?_
          clear hq hO hP hkb hL5 h51 h52 h53 hRp hl5 hszk hrk5 hcl HSTEP HCALL HL KS
          repeat (refine wpTk_cons rfl (fun K hK => ?_); go_simp; apply Exists.intro; refine ⟨fun u u1 => ?_, hK _ ?_⟩; (first | exact rfl | (go_simp; done) | (go_simp; exact rfl)); clear hK K)
          refine wpTk_nil ?_
          refine wpAnyH_done (by kernel_rfl) (NoPanic.normal ?_) _
          go_wp2_with fail
          go_roundw
          case rel => exact ⟨_, k + 1, S5, rfl, by omega, by go_num, HK.out, by simpa using hs6⟩
          case measure => simp [intOf] <;> omega
        · have hkn : k = nk := by omega
          subst hkn
          rw [List.take_of_length_le (by have := HKs.out; omega), List.drop_of_length_le (by have := HKL.out; omega), List.append_nil] at hL
          obtain ⟨V, hV1, hV2, hV3⟩ := hL.xb.row
          have hlen : (nodes ++ ETs.post KT nodes.length).length = nodes.length + ETs.sz KT := by rw [List.length_append, ETs.post_len]
          have hn1 : (nodes ++ ETs.post KT nodes.length).length ≤ 1000 := by have := HSZ.out; omega
          obtain ⟨NN, hNN⟩ : ∃ NN, NN = (nodes ++ ETs.post KT nodes.length).length := ⟨_, rfl⟩
          rw [← hNN] at hV2 hn1
          obtain ⟨av, cv, rfl, _⟩ := rdK_of_row hV2
          have HN := Lib.hid hNN
          have HL := Lib.hid hL
          have HV1 := Lib.hid hV1
          have HV3 := Lib.hid hV3
          have n0 := cell_of_row _ _ 0 _ _ _ hL.nb
          have n1 := cell_of_row _ _ 1 _ _ _ hL.nb
          have n2 := cell_of_row _ _ 2 _ _ _ hL.nb
          have n3 := cell_of_row _ _ 3 _ _ _ hL.nb
          have n4 := cell_of_row _ _ 4 _ _ _ hL.nb
          have hBr : w0.heap.size ≤ wr.heap.size := by have := hL.kb.bel.size; omega
          clear hL hV1 hV3 hlen hidl hNN
          go_wp2_with (at_builtin; go_must (refine wpList_appK2 5 _ _ 30 72 (.agg #[.int .i64 0, .int .i64 0, .int .i64 0, .slice none 0 0, .slice none 0 0]) (nodVC ⟨kind, server, need, .slice aw2 nw cw2, .slice ak2 k ck2⟩) _ Tryz.underlying30 Tryz.infoNod rfl (by decide) hV2 (Below.refl w0.heap.size wr) hBr rfl rfl rfl rfl rfl (by intro u hu; unfold nodVC at hu; simp at hu; rcases hu with rfl | rfl | rfl | rfl | rfl <;> rfl) (by unfold maxLen; omega) (by omega) ?_))
          intro v6 w6 hown6 hb6 hg6 hs6 hv6
          go_wp2_with fail
          go_ret
          rw [HPL.out.1]
          exact HL.out.fin HV1.out HV3.out HI.out hBw (by omega) (Below.refl _ _) hg6 (by rw [← HN.out]; exact hown6) hv6 (by omega) rfl
theorem grow_top (x : Xpr) (hx : xprE x = 0) (ys : List Xpr) (hys : ∀ y ∈ ys, xprE y = 0) (w0 : World) (hrec : ∀ y ∈ ys, GrC y [] w0 (y.root.toNat + 1)) : ∀ f, GrC x ys w0 f
  | 0 => fun a n c la ln lc h1 h2 i hi => by omega
  | f + 1 => grow_step x hx ys hys w0 hrec f (grow_top x hx ys hys w0 hrec f)
theorem grow_c (x : Xpr) (hx : xprE x = 0) (ys : List Xpr) (hys : ∀ y ∈ ys, xprE y = 0) (w0 : World) (f : Nat) : GrC x ys w0 f :=
  grow_top x hx ys hys w0 (fun y hy => grow_top y (hys y hy) [] (fun _ h => by cases h) w0 (fun _ h => by cases h) _) f
end Go.Proofs.YtcojmmhclklpoaaGreatDoor
namespace Go.Proofs.YtcojmmhclklpoaaGreatDoor
open Go.RowKit Go.Shelf

/-- m places for numbers, the first ones filled -/
def inN (m : Nat) (l : List Nat) : Array Value := ((l ++ List.replicate (m - l.length) 0).map fun k => Value.int .i64 ((k : Nat) : Int)).toArray
theorem inN_at {m : Nat} {l : List Nat} (h : l.length ≤ m) {i : Nat} (hi : i < m) : (inN m l)[i]? = some (.int .i64 ((l.getD i 0 : Nat) : Int)) := by
  unfold inN
  rw [List.getElem?_toArray, List.getElem?_map, List.getD_eq_getElem?_getD]
  by_cases h1 : i < l.length
  · rw [List.getElem?_append_left h1, List.getElem?_eq_getElem h1]; rfl
  · rw [List.getElem?_append_right (by omega), List.getElem?_replicate, if_pos (by omega), List.getElem?_eq_none (by omega)]; rfl
theorem inN_set {m : Nat} {l : List Nat} (h : l.length < m) (v : Nat) : (inN m l).setIfInBounds l.length (.int .i64 (v : Int)) = inN m (l ++ [v]) := by
  unfold inN
  rw [List.setIfInBounds_toArray]
  congr 1
  have e : m - l.length = (m - (l ++ [v]).length) + 1 := by simp; omega
  rw [e, List.replicate_succ, List.map_append, List.map_append, List.map_append, List.map_cons, List.set_append_right _ _ (by simp)]
  simp
theorem inN_reset {m : Nat} {l : List Nat} (u v : Nat) : (inN m (l ++ [u])).setIfInBounds l.length (.int .i64 (v : Int)) = inN m (l ++ [v]) := by
  unfold inN
  rw [List.setIfInBounds_toArray]
  congr 1
  rw [List.append_assoc, List.append_assoc, List.map_append, List.map_append, List.set_append_right _ _ (by simp)]
  simp
theorem inN_old {m : Nat} {l : List Nat} (u : Nat) {i : Nat} (h : l.length < m) (hi : i < l.length) : (inN m (l ++ [u]))[i]? = some (.int .i64 ((l.getD i 0 : Nat) : Int)) := by
  rw [inN_at (by simp; omega) (by omega), List.getD_eq_getElem?_getD, List.getElem?_append_left hi, ← List.getD_eq_getElem?_getD]
theorem inN_new {m : Nat} {l : List Nat} (u : Nat) (h : l.length < m) : (inN m (l ++ [u]))[l.length]? = some (.int .i64 (u : Int)) := by
  rw [inN_at (by simp; omega) h, List.getD_eq_getElem?_getD, List.getElem?_append_right (Nat.le_refl _), Nat.sub_self]; rfl
theorem inN_all (l : List Nat) : inN l.length l = (l.map fun k => Value.int .i64 ((k : Nat) : Int)).toArray := by
  unfold inN; simp
theorem make_ints (m : Nat) (hm : m ≤ 1000000) : ∀ w, (Instr.makeSlice 69 (.int .i64 m) (.int .i64 m)).run Tryz.prog w = .ok (.slice (some ⟨w.heap.size, 0, none⟩) m m) (w.alloc (.cells (madeCells #[.int .i64 0] m) 3)) :=
  fun w => run_make_row' 69 3 (.int .i64 0) 8 Tryz.underlying69 Tryz.infoInt rfl .i64 .i64 m (by omega) (by omega) w
theorem inN_made (m : Nat) : madeCells #[.int .i64 0] m = inN m [] := by
  apply Array.toList_inj.1
  rw [toList_madeCells_one]; unfold inN; simp

set_option maxRecDepth 100000 in
set_option maxHeartbeats 4000000 in
theorem rsizes_c (x : Xpr) (hx : xprE x = 0) (hf : XprFew x) (sub : Nat → Option ET) (ls : List Nat) (hsub : ∀ s, s < 12 → subZ 1000 sub s = if s < ls.length then ls.getD s 0 else 1) (a : Option Addr) (n c : Nat) (la : Option Addr) (ln lc : Nat) (w : World) (h : XM w a n c x.nodes) (hl : Rd w la ln lc (ls.map fun k => Value.int .i64 ((k : Nat) : Int))) :
    Calls Tryz.prog 59 #[.agg #[.slice a n c, .int .i64 x.root], .slice la ln lc] w fun e w' => ∃ a', e = .returned (.slice a' n n) ∧ Rd w' a' n n ((szl 1000 x.nodes sub n).map fun k => Value.int .i64 ((k : Nat) : Int)) ∧ Below w.heap.size w w' := by
  have ok := xprE_ok hx
  have hle := h.le
  have hm := h.max
  have hn60 : n ≤ 60 := by have h1 := ok.most; have h2 := h.len; omega
  have hn0 : 0 < n := by have h1 := ok.pos; have h2 := h.len; omega
  unfold maxLen at hm
  have HX := Lib.hid h
  have HO := Lib.hid ok
  have HXX := Lib.hid hx
  have HN := Lib.hid h.len
  have HLS := Lib.hid hl
  have HSB := Lib.hid hsub
  have HFW := Lib.hid hf
  obtain ⟨RT, hRT⟩ : ∃ RT, x.root = RT := ⟨_, rfl⟩
  rw [hRT]
  clear h hx ok hl hsub hf hRT
  have hmk := make_ints n (by omega)
  obtain ⟨b, o, rfl, _⟩ := HX.out.at' hn0
  go_enter Tryz.func59, Tryz.ntmps59
  go_wp2_with fail
  generalize hWS : (w.alloc _).alloc _ = WS
  rw [inN_made] at hWS
  obtain ⟨g0, g1, hbS, hS⟩ := box2' hWS
  have HS := Lib.hid hS
  have HBS := Lib.hid hbS
  have G0 := Lib.hid g0
  have G1 := Lib.hid g1
  clear hWS hS hbS g0 g1 hmk
  go_loopw [6] (fun i wr => ∃ k : Nat, k ≤ n ∧ i = .int .i64 k ∧ wr.heap[w.heap.size + 1]? = some (.cells (inN n (szl 1000 x.nodes sub k)) 3 (0, 0)) ∧ wr.heap[w.heap.size]? = some (.cells #[.slice (some ⟨b, o, none⟩) n c, .int .i64 RT] 32 (0, 0)) ∧ w.heap.size + 2 ≤ wr.heap.size ∧ Below w.heap.size w wr) (fun i _ => n - (intOf i).toNat)
  case atStart => exact ⟨0, Nat.zero_le _, rfl, G1.out, G0.out, by rw [HS.out]; exact Nat.le_refl _, HBS.out⟩
  case round =>
    obtain ⟨k, hk, rfl, e1, e0, hsz, hb⟩ := hrel
    by_cases hlt : k < n
    · obtain ⟨nd, hnd⟩ : ∃ nd, x.nodes[k]? = some nd := ⟨_, List.getElem?_eq_getElem (by have := HN.out; omega)⟩
      obtain ⟨b', o', ha, hat⟩ := HX.out.at' (by omega)
      cases ha
      have hM := hat k nd hnd
      obtain ⟨a3, n3, c3, m3, r3⟩ := hM.ws
      obtain ⟨a4, n4, c4, m4, r4⟩ := hM.ks
      have m0 := cell_keep hb hM.c0
      have m1 := cell_keep hb hM.c1
      have m2 := cell_keep hb hM.c2
      have m3 := cell_keep hb m3
      have m4 := cell_keep hb m4
      obtain ⟨x0, x1⟩ := (open2 e0).1
      have HOK := Lib.hid (HO.out.node k nd hnd)
      have HST := Lib.hid (szl_succ 1000 x.nodes sub k)
      have HL := Lib.hid (szl_len 1000 x.nodes sub k)
      have hkk := Lib.hid (fun j kd hj => sz_kid HXX.out 1000 sub k nd hnd j kd hj)
      have hIb := Lib.hid (fun i (hi : i < k) => show (szl 1000 x.nodes sub k).getD i 0 ≤ 1000 from by rw [szl_get _ _ _ _ _ hi]; omega)
      obtain ⟨I, hI⟩ : ∃ I, szl 1000 x.nodes sub k = I := ⟨_, rfl⟩
      have hleaf := Lib.hid (fun hk1 => sz_leaf (x := x) 1000 (by omega) sub k nd hnd hk1)
      have hnode := Lib.hid (fun hk1 => sz_node HXX.out 1000 sub k nd hnd hk1)
      rw [hI] at e1 HST HL hkk hIb
      obtain ⟨kind, server, need, ws, ks⟩ := nd
      simp only at m0 m1 m2 r3 r4 hleaf hnode hkk
      have R4 := Lib.hid r4
      have HB := Lib.hid hb
      have hlk : ks.length = n4 := by have := R4.out.len; simp at this; omega
      have HLK := Lib.hid hlk
      clear hM r3 r4 hat hnd hI hb hlk
      have ea := heap_alloc_at e1 (Obj.cells #[.int .i64 kind, .int .i64 server, .int .i64 need, .slice a3 n3 c3, .slice a4 n4 c4] 71)
      have ea0 := heap_alloc_at e0 (Obj.cells #[.int .i64 kind, .int .i64 server, .int .i64 need, .slice a3 n3 c3, .slice a4 n4 c4] 71)
      have en := heap_alloc_new wr (Obj.cells #[.int .i64 kind, .int .i64 server, .int .i64 need, .slice a3 n3 c3, .slice a4 n4 c4] 71)
      have hbn : Below wr.heap.size wr (wr.alloc (Obj.cells #[.int .i64 kind, .int .i64 server, .int .i64 need, .slice a3 n3 c3, .slice a4 n4 c4] 71)) := (Below.refl _ wr).alloc (Nat.le_refl _) _
      have za := frozen_row ea k
      have zb := (cell_of_row _ _ k _ _ _ ea).trans (inN_at (by have := HL.out; omega) hlt)
      have EA := Lib.hid ea
      have EA0 := Lib.hid ea0
      have EN := Lib.hid en
      have HBN := Lib.hid hbn
      clear ea ea0 en hbn e1 e0
      go_upto_region 7 with fail
      generalize hW5 : (wr.alloc _).setCell _ _ = W5
      have e5 : W5.heap[w.heap.size + 1]? = some (.cells (inN n (I ++ [1])) 3 (0, 0)) := by
        rw [← hW5, heap_set_at EA.out]
        have := inN_set (m := n) (l := I) (by have := HL.out; omega) 1
        rw [HL.out] at this
        rw [← this]; rfl
      have e50 : W5.heap[w.heap.size]? = some (.cells #[.slice (some ⟨b, o, none⟩) n c, .int .i64 RT] 32 (0, 0)) := by rw [← hW5]; exact heap_set_other (by omega) _ _ EA0.out
      have en5 : W5.heap[wr.heap.size]? = some (.cells #[.int .i64 kind, .int .i64 server, .int .i64 need, .slice a3 n3 c3, .slice a4 n4 c4] 71 (0, 0)) := by rw [← hW5]; exact heap_set_other (by omega) _ _ EN.out
      have hb5 : Below w.heap.size w W5 := by rw [← hW5]; exact (HB.out.trans (HBN.out.mono HB.out.size)).setCell (p := ⟨w.heap.size + 1, k, none⟩) (Nat.le_succ _) _
      have hs5 : wr.heap.size < W5.heap.size := (Array.getElem?_eq_some_iff.1 en5).1
      have E5 := Lib.hid e5
      have E50 := Lib.hid e50
      have EN5 := Lib.hid en5
      have HB5 := Lib.hid hb5
      clear hW5 e5 e50 en5 hb5 za zb m0 m1 m2 m3 m4 x0 x1 EA EA0 EN HBN
      obtain ⟨q0, q1, q2, q3, q4⟩ := open5 EN5.out
      by_cases hkind : kind = 1
      · subst hkind
        obtain ⟨sv, rfl⟩ := Int.eq_ofNat_of_zero_le HOK.out.server.1
        have hsv12 := HOK.out.server.2
        simp only at hsv12
        obtain ⟨hnd0, hws0, hks⟩ := HOK.out.leaf rfl
        simp only at hks hnd0 hws0
        subst hks hnd0 hws0
        have hn0 : n4 = 0 := HLK.out.symm
        subst hn0
        have hsb := HSB.out sv (by omega)
        have hln := HLS.out.len
        rw [List.length_map] at hln
        have hlf := hleaf.out rfl
        rw [Int.toNat_natCast, hsb] at hlf
        by_cases hsl : sv < ls.length
        · rw [if_pos hsl] at hlf
          obtain ⟨b7, o7, ha7, hc7⟩ := HLS.out.at' (by omega)
          have r7 := cell_keep HB5.out (hc7 sv (.int .i64 ((ls.getD sv 0 : Nat) : Int)) (by rw [List.getElem?_map, List.getD_eq_getElem?_getD, List.getElem?_eq_getElem hsl]; rfl))
          have za := frozen_row E5.out k
          have zb := (cell_of_row _ _ k _ _ _ E5.out).trans (inN_at (by simp; have := HL.out; omega) hlt)
          have d1 : decide (sv < ln) = true := decide_eq_true (by omega)
          have d2 : decide ((sv : Int) < (ln : Int)) = true := decide_eq_true (by omega)
          have hsn : sv < ln := by omega
          have HLF := Lib.hid hlf
          subst ha7
          clear hlf hc7 hsb hln
          obtain ⟨VV, hVV⟩ : ∃ VV, ls.getD sv 0 = VV := ⟨_, rfl⟩
          rw [hVV] at r7 HLF
          clear hVV hsl
          obtain ⟨W6, hW6⟩ : ∃ u, u = W5.setCell ⟨w.heap.size + 1, k, none⟩ (.int .i64 (VV : Int)) := ⟨_, rfl⟩
          have EZ : Hid (W6.heap[w.heap.size + 1]? = some (.cells (inN n (szl 1000 x.nodes sub (k + 1))) 3 (0, 0))) := Lib.hid (by
            rw [hW6, heap_set_at E5.out, HST.out, HLF.out]
            have := inN_reset (m := n) (l := I) 1 VV
            rw [HL.out] at this
            exact congrArg (fun q => some (Obj.cells q 3 (0, 0))) this)
          have EZ0 := Lib.hid (show W6.heap[w.heap.size]? = some (.cells #[.slice (some ⟨b, o, none⟩) n c, .int .i64 RT] 32 (0, 0)) by rw [hW6]; exact heap_set_other (by omega) _ _ E50.out)
          have hen6 : W6.heap[wr.heap.size]? = some (.cells #[.int .i64 1, .int .i64 (sv : Int), .int .i64 0, .slice a3 n3 c3, .slice a4 0 c4] 71 (0, 0)) := by rw [hW6]; exact heap_set_other (by omega) _ _ EN5.out
          have HBZ : Hid (Below w.heap.size w W6) := Lib.hid (by rw [hW6]; exact HB5.out.setCell (p := ⟨w.heap.size + 1, k, none⟩) (Nat.le_succ _) _)
          have hs6 : W6.heap.size = W5.heap.size := by rw [hW6]; simp
          have n46 := (open5 hen6).2.2.2.2
          have hsi : w.heap.size + 2 ≤ W6.heap.size := by omega
          have HW6 := Lib.hid hW6
          clear hen6 hs6 hW6
          go_wp2_with fail
          rw [← HW6.out]
          clear za zb r7
          go_loopw [8] (fun i wq => i = .int .i64 ((0 : Nat) : Int) ∧ wq = W6) (fun _ _ => 0)
          case atStart => exact ⟨rfl, rfl⟩
          case round =>
            obtain ⟨rfl, hwq⟩ := hrel
            subst hwq
            go_wp2_with fail
            go_roundw
            case rel => exact ⟨k + 1, by omega, by go_num, EZ.out, EZ0.out, by omega, HBZ.out⟩
            case measure => simp [intOf] <;> omega
        · rw [if_neg hsl] at hlf
          have d1 : decide (sv < ln) = false := decide_eq_false (by omega)
          have d2 : decide ((sv : Int) < (ln : Int)) = false := decide_eq_false (by omega)
          have HLF := Lib.hid hlf
          clear hlf hsb hln hsl
          have EZ : Hid (W5.heap[w.heap.size + 1]? = some (.cells (inN n (szl 1000 x.nodes sub (k + 1))) 3 (0, 0))) := Lib.hid (by rw [HST.out, HLF.out]; exact E5.out)
          have EZ0 := E50
          have HBZ := HB5
          go_wp2_with fail
          go_loopw [8] (fun i wq => i = .int .i64 ((0 : Nat) : Int) ∧ wq = W5) (fun _ _ => 0)
          case atStart => exact ⟨rfl, rfl⟩
          case round =>
            obtain ⟨rfl, hwq⟩ := hrel
            subst hwq
            go_wp2_with fail
            go_roundw
            case rel => exact ⟨k + 1, by omega, by go_num, EZ.out, EZ0.out, by omega, HBZ.out⟩
            case measure => simp [intOf] <;> omega
      · have hk2 : (kind == 1) = false := by simpa using hkind
        obtain ⟨KT, hKT⟩ : ∃ KT, KT = kidT x.nodes sub k ks := ⟨_, rfl⟩
        rw [← hKT] at hkk hnode
        have HKl := Lib.hid (show KT.length = n4 by rw [hKT, kidT_len, HLK.out])
        have hn4m : n4 ≤ 9223372036854775807 := by have h1 := R4.out.le; have h2 := R4.out.max; unfold maxLen at h2; omega
        clear hKT
        go_wp2_with fail
        clear q0 q1 q2 q3 q4
        obtain ⟨W0, hW0⟩ : ∃ W0, W0 = wr := ⟨_, rfl⟩
        subst hW0
        go_loopw [8] (fun i wq => ∃ j : Nat, j ≤ n4 ∧ i = .int .i64 ((j : Nat) : Int) ∧ wq.heap[w.heap.size + 1]? = some (.cells (inN n (I ++ [min 1000 (1 + ETs.sz (KT.take j))])) 3 (0, 0)) ∧ wq.heap[w.heap.size]? = some (.cells #[.slice (some ⟨b, o, none⟩) n c, .int .i64 RT] 32 (0, 0)) ∧ wq.heap[W0.heap.size]? = some (.cells #[.int .i64 kind, .int .i64 server, .int .i64 need, .slice a3 n3 c3, .slice a4 n4 c4] 71 (0, 0)) ∧ W0.heap.size < wq.heap.size ∧ Below w.heap.size w wq) (fun i _ => n4 - (intOf i).toNat)
        case atStart => exact ⟨0, Nat.zero_le _, rfl, by simp only [List.take_zero, ETs.sz]; exact E5.out, E50.out, EN5.out, hs5, HB5.out⟩
        case round =>
          obtain ⟨j, hj, rfl, q1, q0, qn, hsq, hbq⟩ := hrel
          by_cases hltj : j < n4
          · obtain ⟨z, hz⟩ : ∃ z, ks[j]? = some z := ⟨_, List.getElem?_eq_getElem (by have := HLK.out; omega)⟩
            have hzr := HOK.out.kids z (List.mem_of_getElem? hz)
            obtain ⟨kd, rfl⟩ := Int.eq_ofNat_of_zero_le hzr.1
            have hkd2 : kd < k := by omega
            have hkdn : kd < n := by omega
            obtain ⟨b4, o4, ha4, hcell4⟩ := (R4.out.below hbq).at' (by omega)
            have r4 := hcell4 j (.int .i64 kd) (by rw [List.getElem?_map, hz]; rfl)
            have HKK := Lib.hid (hkk.out j kd hz)
            subst ha4
            have hI61 : I.getD kd 0 ≤ 1000 := hIb.out kd hkd2
            obtain ⟨u, hu⟩ : ∃ u, min 1000 (1 + ETs.sz (KT.take j)) = u := ⟨_, rfl⟩
            rw [hu] at q1 HKK
            have hu61 : u ≤ 1000 := by omega
            obtain ⟨d, hd⟩ : ∃ d, I.getD kd 0 = d := ⟨_, rfl⟩
            rw [hd] at hI61 HKK
            have KS : Hid (∀ y : World, Below wr.heap.size wr y → y.heap[w.heap.size + 1]? = some (.cells (inN n (I ++ [u])) 3 (0, 0)) ∧ y.cell? ⟨w.heap.size + 1, k, none⟩ = some (.int .i64 (u : Int)) ∧ y.cell? ⟨w.heap.size + 1, kd, none⟩ = some (.int .i64 (d : Int)) ∧ y.frozen? ⟨w.heap.size + 1, k, none⟩ = false ∧ y.cell? ⟨W0.heap.size, 4, none⟩ = some (.slice (some ⟨b4, o4, none⟩) n4 c4) ∧ y.cell? ⟨b4, o4 + j, none⟩ = some (.int .i64 (kd : Int))) := Lib.hid (fun y hy => by
              have h1 := heap_below hy q1
              refine ⟨h1, (cell_of_row _ _ k _ _ _ h1).trans ?_, (cell_of_row _ _ kd _ _ _ h1).trans ?_, frozen_row h1 k, (open5 (heap_below hy qn)).2.2.2.2, cell_keep hy r4⟩
              · have := inN_new (m := n) (l := I) u (by have := HL.out; omega)
                rw [HL.out] at this; exact this
              · rw [inN_old u (by have := HL.out; omega) (by have := HL.out; omega), hd])
            have n4c := (open5 qn).2.2.2.2
            have Q0 := Lib.hid q0
            have QN := Lib.hid qn
            have HBQ := Lib.hid hbq
            clear hcell4 hz hzr q1 q0 qn hbq hu hd r4
            go_wp2_with fail
            clear n4c
            refine wp_region_store (fun y => Below wr.heap.size wr y) (fun z => ∃ y, Below wr.heap.size wr y ∧ z = y.setCell ⟨w.heap.size + 1, k, none⟩ (.int .i64 ((min 1000 (u + d) : Nat) : Int))) [] 17 (by kernel_rfl) (by kernel_rfl) (by kernel_rfl) (below_drew (Below.refl _ _)) ?_
            simp only [List.take_succ_cons, List.take_zero]
            iterate 14 (refine wpT_step (fun K hK => ?_); go_simp; apply Exists.intro; refine ⟨fun y hy => ?_, ?_, hK _ ?_⟩; (first | exact rfl | (obtain ⟨_, k1, k2, k3, k4, k5⟩ := KS.out y hy; go_simp; first | exact rfl | exact ⟨rfl, hy⟩ | exact hy | exact ⟨rfl, rfl⟩ | (rw [if_pos (by omega)]; exact ⟨rfl, rfl⟩))); (first | exact late_not rfl | (focus (intro _ z hz; go_simp; done))); clear hK K)
            refine wpT_step (fun K hK => ?_)
            go_simp
            refine ⟨.int .i64 ((u : Int) + (d : Int)), fun y hy => ?_, late_not rfl, hK _ ?_⟩
            · rw [show IntKind.i64.wrap ((u : Int) + (d : Int)) = (u : Int) + (d : Int) by unfold IntKind.wrap; simp [IntKind.bits, IntKind.signed]; omega]
            clear hK K
            refine wpT_step (fun K hK => ?_)
            go_simp
            refine ⟨.int .i64 ((min 1000 (u + d) : Nat) : Int), fun y hy => ?_, late_not rfl, hK _ ?_⟩
            · congr 1; omega
            clear hK K
            (refine wpT_step (fun K hK => ?_); go_simp; apply Exists.intro; refine ⟨fun y hy => ?_, ?_, hK _ ?_⟩; (first | exact rfl | (obtain ⟨_, k1, k2, k3, k4, k5⟩ := KS.out y hy; go_simp; first | exact rfl | exact ⟨rfl, hy⟩ | exact hy | exact ⟨rfl, rfl⟩ | (rw [if_pos (by omega)]; exact ⟨rfl, rfl⟩))); (first | exact late_not rfl | (focus (intro _ z hz; go_simp; done))); clear hK K)
            refine wpT_nil ?_
            refine ⟨_, rfl, by go_simp, fun y hy => ?_, ?_⟩
            · obtain ⟨_, k1, k2, k3, k4, k5⟩ := KS.out y hy
              refine ⟨_, ?_, y, hy, rfl⟩
              go_simp
            · rintro z ⟨y, hy, rfl⟩
              obtain ⟨h1, _, _, _, _, _⟩ := KS.out y hy
              generalize hz : y.setCell _ _ = z
              have ez : z.heap[w.heap.size + 1]? = some (.cells (inN n (I ++ [min 1000 (1 + ETs.sz (KT.take (j + 1)))])) 3 (0, 0)) := by
                rw [← hz, heap_set_at h1, HKK.out]
                have := inN_reset (m := n) (l := I) u (min 1000 (u + d))
                rw [HL.out] at this
                exact congrArg (fun q => some (Obj.cells q 3 (0, 0))) this
              have ez0 : z.heap[w.heap.size]? = some (.cells #[.slice (some ⟨b, o, none⟩) n c, .int .i64 RT] 32 (0, 0)) := by
                rw [← hz]; exact heap_set_other (by omega) _ _ (heap_below hy Q0.out)
              have ezn : z.heap[W0.heap.size]? = some (.cells #[.int .i64 kind, .int .i64 server, .int .i64 need, .slice a3 n3 c3, .slice (some ⟨b4, o4, none⟩) n4 c4] 71 (0, 0)) := by
                rw [← hz]; exact heap_set_other (by omega) _ _ (heap_below hy QN.out)
              have hsz2 : W0.heap.size < z.heap.size := by
                have := hy.size
                rw [← hz]; simp; omega
              have hbz : Below w.heap.size w z := by
                rw [← hz]; exact (HBQ.out.trans (hy.mono HBQ.out.size)).setCell (p := ⟨w.heap.size + 1, k, none⟩) (Nat.le_succ _) _
              have EZ := Lib.hid ez
              have EZ0 := Lib.hid ez0
              have EZN := Lib.hid ezn
              have HBZ := Lib.hid hbz
              clear hz ez ez0 ezn hbz h1 hy
              go_simp
              go_wp2_with fail
              go_roundw
              case rel => exact ⟨j + 1, by omega, by go_num, EZ.out, EZ0.out, EZN.out, hsz2, HBZ.out⟩
              case measure => simp [intOf] <;> omega
          · obtain rfl : j = n4 := by omega
            have ez : wr.heap[w.heap.size + 1]? = some (.cells (inN n (szl 1000 x.nodes sub (k + 1))) 3 (0, 0)) := by
              rw [List.take_of_length_le (by have := HKl.out; omega), Nat.add_comm 1] at q1
              rw [HST.out, hnode.out hkind]
              exact q1
            have n4c := (open5 qn).2.2.2.2
            have EZ := Lib.hid ez
            have Q0 := Lib.hid q0
            have HBQ := Lib.hid hbq
            clear ez q1 q0 qn hbq
            go_wp2_with fail
            go_roundw
            case rel => exact ⟨k + 1, by omega, by go_num, EZ.out, Q0.out, by omega, HBQ.out⟩
            case measure => simp [intOf] <;> omega
    · obtain rfl : k = n := by omega
      have HE1 := Lib.hid e1
      have HB := Lib.hid hb
      clear e1 e0 hb
      go_wp2_with fail
      go_ret
      refine ⟨some ⟨w.heap.size + 1, 0, none⟩, rfl, ⟨by rw [List.length_map, szl_len], Nat.le_refl _, by unfold maxLen; omega, fun h => (by cases h), fun _ => ⟨_, 0, rfl, fun i v hv => ?_⟩⟩, HB.out⟩
      have hi : i < k := by
        have := (List.getElem?_eq_some_iff.1 hv).1
        rw [List.length_map, szl_len] at this; exact this
      rw [Nat.zero_add]
      refine ((cell_of_row _ _ i _ _ _ HE1.out).trans (inN_at (by rw [szl_len]; exact Nat.le_refl _) hi)).trans ?_
      rw [← hv, List.getElem?_map, List.getD_eq_getElem?_getD, List.getElem?_eq_getElem (by rw [szl_len]; exact hi)]
      rfl
end Go.Proofs.YtcojmmhclklpoaaGreatDoor
namespace Go.Proofs.YtcojmmhclklpoaaGreatDoor
open Go.RowKit Go.Shelf

/-- how many nodes the tidy expressions have, cut at 1000 -/
def els (ys : List Xpr) : List Nat := ys.map fun y => min 1000 (treY y noSub).sz
theorem els_len (ys : List Xpr) : (els ys).length = ys.length := List.length_map _
theorem els_take {ys : List Xpr} {k : Nat} {y : Xpr} (h : ys[k]? = some y) : (els ys).take (k + 1) = (els ys).take k ++ [min 1000 (treY y noSub).sz] := by
  rw [List.take_add_one, show (els ys)[k]? = some (min 1000 (treY y noSub).sz) by unfold els; rw [List.getElem?_map, h]; rfl]; rfl
theorem els_sub (ys : List Xpr) : ∀ s, s < 12 → subZ 1000 (subL ys) s = if s < (els ys).length then (els ys).getD s 0 else 1 := fun s _ => by
  rw [els_len]
  by_cases h : s < ys.length
  · rw [if_pos h]
    have hy : ys[s]? = some ys[s] := List.getElem?_eq_getElem h
    unfold subZ subL els
    rw [hy, List.getD_eq_getElem?_getD, List.getElem?_map, hy]; rfl
  · rw [if_neg h]
    unfold subZ subL
    rw [List.getElem?_eq_none (by omega)]; rfl
theorem root_sz {x : Xpr} (hx : xprE x = 0) (sub : Nat → Option ET) : ((szl 1000 x.nodes sub x.nodes.length).map fun k => Value.int .i64 ((k : Nat) : Int))[x.root.toNat]? = some (.int .i64 ((min 1000 (treY x sub).sz : Nat) : Int)) := by
  have hr := (xprE_ok hx).root
  have hlt : x.root.toNat < x.nodes.length := by omega
  have h1 := szl_get 1000 x.nodes sub x.nodes.length x.root.toNat hlt
  rw [List.getElem?_map]
  have h2 : (szl 1000 x.nodes sub x.nodes.length)[x.root.toNat]? = some (min 1000 (treY x sub).sz) := by
    rw [List.getD_eq_getElem?_getD] at h1
    have h3 : x.root.toNat < (szl 1000 x.nodes sub x.nodes.length).length := by rw [szl_len]; exact hlt
    rw [List.getElem?_eq_getElem h3] at h1 ⊢
    simp only [Option.getD_some] at h1
    rw [h1]; rfl
  rw [h2]; rfl

set_option maxRecDepth 100000 in
set_option maxHeartbeats 8000000 in
theorem rsubst_c (x : Xpr) (ys : List Xpr) (hsx : XprSum x) (hsy : ∀ y ∈ ys, XprSum y) (hf : XprFew x) (hfs : ∀ y ∈ ys, XprFew y) (a : Option Addr) (n c : Nat) (la : Option Addr) (ln lc : Nat) (w : World) (h : XM w a n c x.nodes) (hl : LM w la ln lc ys) (hln : ln ≤ 100000) :
    Calls Tryz.prog 23 #[.agg #[.slice a n c, .int .i64 x.root], .slice la ln lc] w fun e w' => RetX (subS x ys).1 (subS x ys).2 w e w' := by
  have HX := Lib.hid h
  have HL := Lib.hid hl
  have HV := Lib.hid (fun (u : World) (hu : Below w.heap.size w u) => rvalid10_c x hsx a n c u (h.below hu))
  have HFS := Lib.hid hfs
  have HSY := Lib.hid hsy
  clear h hl hfs hsy
  by_cases hx : xprE x = 0
  · rw [hx] at HV
    have HXX := Lib.hid hx
    have HLN := Lib.hid HL.out.len
    have HSS : Hid (subS x ys = if xprsE ys ≠ 0 then (⟨[], 0⟩, xprsE ys) else if 60 < (treY x (subL ys)).sz then (⟨[], 0⟩, 3) else ((treY x (subL ys)).xpr, 0)) := Lib.hid (by unfold subS; rw [if_neg (by rw [hx]; simp)])
    clear hx
    go_enter Tryz.func23, Tryz.ntmps23
    go_wp2_with fail
    generalize hW3 : (w.alloc _).alloc _ = W3
    obtain ⟨gX, gR, hb3, hs3⟩ := box2' hW3
    have GX := Lib.hid gX
    have GR := Lib.hid gR
    have HB3 := Lib.hid hb3
    have HS3 := Lib.hid hs3
    clear hW3 gX gR hb3 hs3
    with_reducible refine (HV.out W3 HB3.out).mono ?_
    rintro e w4 ⟨rfl, hb4⟩
    have HB4 := Lib.hid (Below.next HB3.out hb4)
    have GX4 := Lib.hid (heap_below hb4 GX.out)
    have GR4 := Lib.hid (heap_below hb4 GR.out)
    have hs4 : w.heap.size + 2 ≤ w4.heap.size := by have := hb4.size; have := HS3.out; omega
    clear GX GR HB3 HS3 hb4
    go_wp2_with fail
    go_loopw [7, 8] (fun eq i wr => ∃ (ev : Value) (k : Nat), ev = eq ∧ k ≤ ln ∧ i = .int .i64 ((k : Nat) : Int) ∧ Hid (xprsE ys = xprsE (ys.drop k)) ∧ Below w4.heap.size w4 wr ∧ Hid (wr.ownsRow w4.heap.size 3 1 ev k (((els ys).take k).map fun k => Value.int .i64 ((k : Nat) : Int)))) (fun _ i _ => ln - (intOf i).toNat)
    case atStart => exact ⟨_, 0, rfl, Nat.zero_le _, rfl, Lib.hid (by simp), Below.refl _ _, Lib.hid (World.ownsRow_nil _ _ _ _)⟩
    case round =>
      obtain ⟨ev, k, rfl, hk, rfl, hno, hb, HROW⟩ := hrel
      by_cases hlt : k < ln
      · obtain ⟨y, hy⟩ : ∃ y, ys[k]? = some y := ⟨_, List.getElem?_eq_getElem (by have := HLN.out; omega)⟩
        obtain ⟨b2, o2, ha2, hc2⟩ := (HL.out.below (Below.next HB4.out hb)).at' (by omega)
        obtain ⟨a3, n3, c3, y0, hxm, y1⟩ := hc2 k y hy
        subst ha2
        have hdr := xprsE_drop hy
        have hym := List.mem_of_getElem? hy
        have HVY := Lib.hid (fun (u : World) (hu : Below wr.heap.size wr u) => rvalid10_c y (HSY.out y hym) a3 n3 c3 u (hxm.below hu))
        have HXY := Lib.hid hxm
        have HYY := Lib.hid hy
        obtain ⟨E, hE⟩ : ∃ E, xprE y = E := ⟨_, rfl⟩
        rw [hE] at HVY hdr
        have HE := Lib.hid hE
        have HDR := Lib.hid hdr
        have HB := Lib.hid hb
        have HY0 := Lib.hid y0
        have HY1 := Lib.hid y1
        have hsr := hb.size
        clear hdr hE hxm hc2 hy hb hym
        go_wp2_with fail
        with_reducible refine (HVY.out _ (Below.refl _ _)).mono ?_
        rintro e w6 ⟨rfl, hb6⟩
        have HB6 := Lib.hid (Below.next HB.out hb6)
        have HBS := Lib.hid hb6
        clear hb6 y0 y1
        by_cases hE0 : E = 0
        · subst hE0
          have hno2 : Hid (xprsE ys = xprsE (ys.drop (k + 1))) := Lib.hid (by rw [hno.out, HDR.out, if_neg (by simp)])
          have HR6 := Lib.hid (rowK_below HROW.out HBS.out)
          have HSZ := Lib.hid (fun (u : World) (hu : Below w6.heap.size w6 u) => rsizes_c y HE.out (HFS.out y (List.mem_of_getElem? HYY.out)) noSub [] (fun s _ => rfl) a3 n3 c3 none 0 0 u ((HXY.out.below HBS.out).below hu) (Rd.none_ _))
          have HRT := Lib.hid (root_sz HE.out noSub)
          have HTK := Lib.hid (els_take HYY.out)
          obtain ⟨b9, o9, hb9, hc9⟩ := HL.out.at' (by omega)
          obtain ⟨rfl, rfl⟩ : b9 = b2 ∧ o9 = o2 := by injection hb9 with h1; injection h1 with h2 h3; exact ⟨h2.symm, h3.symm⟩
          obtain ⟨a8, n8, c8, l0, _, l1⟩ := hc9 k y HYY.out
          have e8 : Value.slice a8 n8 c8 = Value.slice a3 n3 c3 := Option.some.inj ((cell_keep (HB4.out.trans (HB.out.mono (by omega))) l0).symm.trans HY0.out)
          rw [e8] at l0
          have HKS := Lib.hid (fun (u : World) (hu : Below w4.heap.size w4 u) => And.intro (cell_keep (HB4.out.trans (hu.mono (by omega))) l0) (cell_keep (HB4.out.trans (hu.mono (by omega))) l1))
          clear l0 l1 e8 hb9 hc9
          obtain ⟨RT, hRT⟩ := Int.eq_ofNat_of_zero_le (xprE_ok HE.out).root.1
          have hrn : RT < n3 := by have h1 := (xprE_ok HE.out).root; have h2 := HXY.out.len; omega
          have hzz : min 1000 (treY y noSub).sz ≤ 1000 := Nat.min_le_left _ _
          rw [hRT, Int.toNat_natCast] at HRT
          rw [hRT] at HSZ HKS
          have hyl : y.nodes.length = n3 := HXY.out.len
          rw [hyl] at HRT
          obtain ⟨Z, hZ⟩ : ∃ Z, min 1000 (treY y noSub).sz = Z := ⟨_, rfl⟩
          rw [hZ] at HRT HTK hzz
          obtain ⟨ae, ce, rfl, _⟩ := rd_of_row HR6.out
          have hs6 : w4.heap.size ≤ w6.heap.size := HB6.out.size
          obtain ⟨ii, hi0, hz0, hz1, hz2⟩ := info_parts Tryz.infoInt
          clear HDR HVY hZ HXY HY0 HY1 HBS
          go_upto_region 11 with fail
          refine wp_region_noPanic ?_
          refine wp_region_takes (fun u => Below w4.heap.size w4 u) [0, 1, 2, 3, 4, 6, 7, 8, 9, 10] 6 (by kernel_rfl) (by kernel_rfl) (by kernel_rfl) (fun _ _ _ _ _ h => h) (below_drew HB6.out) ?_
          repeat (refine wpTk_cons rfl (fun K hK => ?_); go_simp; apply Exists.intro; refine ⟨fun u hu => ?_, hK _ ?_⟩; (first | exact rfl | (obtain ⟨q1, q2⟩ := HKS.out u hu; go_simp; done) | (obtain ⟨q1, q2⟩ := HKS.out u hu; go_simp; exact rfl)); clear hK K)
          refine wpTk_nil ?_
          refine held_ready (rs := [5]) (by kernel_rfl) (by simp) ?_
          refine AllReadyH.cons rfl (fun K hK => ?_) AllReadyH.nil
          go_simp
          with_reducible refine (HSZ.out _ (below_drew (Below.refl _ _))).mono ?_
          rintro e w7 ⟨a7, rfl, r7, b7⟩
          have HB7 := Lib.hid (below_undrew b7)
          have HB47 := Lib.hid (HB6.out.trans (HB7.out.mono hs6))
          obtain ⟨c7, o7, ha7, hc7⟩ := r7.at' (by omega)
          have t7 := hc7 RT _ HRT.out
          subst ha7
          clear b7 r7 hc7
          go_simp
          refine hK.out _ _ HB47.out (fun hh => ?_)
          clear hh hK K; try simp only [Act.put, List.setIfInBounds_toArray, List.set_cons_zero, List.set_cons_succ]
          refine held_ready (rs := [11]) (by kernel_rfl) (by simp) ?_
          refine AllReadyH.cons rfl (fun K hK => ?_) AllReadyH.nil
          go_simp
          refine hK.out _ _ HB47.out (fun hh => ?_)
          clear hh hK K; try simp only [Act.put, List.setIfInBounds_toArray, List.set_cons_zero, List.set_cons_succ]
          refine held_ready (rs := [12]) (by kernel_rfl) (by simp) ?_
          refine AllReadyH.cons rfl (fun K hK => ?_) AllReadyH.nil
          go_simp
          refine hK.out _ _ HB47.out (fun hh => ?_)
          clear hh hK K; try simp only [Act.put, List.setIfInBounds_toArray, List.set_cons_zero, List.set_cons_succ]
          clear t7
          refine held_ready (rs := [13]) (by kernel_rfl) (by simp) ?_
          refine AllReadyH.cons rfl (fun K hK => ?_) AllReadyH.nil
          go_simp
          have hs7 := HB7.out.size
          have HB8 := Lib.hid (HB47.out.alloc (by omega) (.cells #[.int .i64 (Z : Int)] 3))
          refine hK.out _ _ HB8.out (fun hh => ?_)
          clear hh hK K; try simp only [Act.put, List.setIfInBounds_toArray, List.set_cons_zero, List.set_cons_succ]
          refine held_ready (rs := [14]) (by kernel_rfl) (by simp) ?_
          refine AllReadyH.cons rfl (fun K hK => ?_) AllReadyH.nil
          have HR7 := Lib.hid (rowK_below HR6.out HB7.out)
          refine step_append_lies _ (by rfl) _ _ _ (by rfl) w4.heap.size 3 ii _ 1 8 Tryz.underlying69 hi0 hz0 hz1 hz2 rfl (by omega) (.slice ae k ce) k _ (by rfl) (HR7.out.alloc _) ⟨w7.heap.size, 0, none⟩ 1 1 [.int .i64 (Z : Int)] (by rfl) (by rfl) (World.news_of_block (cs := #[.int .i64 (Z : Int)]) (t := 3) (fr := (0, 0)) (heap_alloc_new w7 _)) (by simp [Value.oneCell']) (by omega) (by unfold maxLen; omega) (by omega) (by simp; omega) (w7.heap.size + 1) (by simp) ?_
          intro gg cap wA hownA hgrow hat hlt2
          have hbA : Below w4.heap.size w4 wA := HB8.out.grown hgrow (by simp; omega) (fun g hg => (HR7.out.lt g hg).1)
          refine hK.out _ _ hbA (fun hh => ?_)
          clear hh hK K; try simp only [Act.put, List.setIfInBounds_toArray, List.set_cons_zero, List.set_cons_succ]
          refine held_ready (rs := [15]) (by kernel_rfl) (by simp) ?_
          refine AllReadyH.cons rfl (fun K hK => ?_) AllReadyH.nil
          go_simp
          refine hK.out _ _ hbA (fun hh => ?_)
          clear hh hK K; try simp only [Act.put, List.setIfInBounds_toArray, List.set_cons_zero, List.set_cons_succ]
          refine wpAnyH_done (by kernel_rfl) (NoPanic.normal ?_) _
          have HRA := Lib.hid (show wA.ownsRow w4.heap.size 3 1 (.slice (some ⟨gg, 0, none⟩) (k + 1) cap) (k + 1) (((els ys).take (k + 1)).map fun k => Value.int .i64 ((k : Nat) : Int)) by rw [HTK.out, List.map_append]; exact hownA)
          have HBA := Lib.hid hbA
          clear hownA hgrow hat hlt2 hbA
          go_wp2_with fail
          go_roundw
          case rel => exact ⟨_, k + 1, rfl, by omega, by go_num, hno2, HBA.out, HRA⟩
          case measure => simp [intOf] <;> omega
        · have hne : (E != 0) = true := by simpa using hE0
          have hS : subS x ys = (⟨[], 0⟩, E) := by
            rw [HSS.out, hno.out, HDR.out, if_pos hE0, if_pos hE0]
          have HRS := Lib.hid hS
          have g4 := heap_below HB6.out GR4.out
          have t0 := cell_of_row _ _ 0 _ _ _ g4
          have t1 := cell_of_row _ _ 1 _ _ _ g4
          have z0 := frozen_row g4 0
          have z1 := frozen_row g4 1
          have G4 := Lib.hid g4
          clear g4 hS hE0 HDR HVY HSS
          go_wp2_with fail
          clear t0 t1 z0 z1
          generalize hWF : (w6.setCell _ _).setCell _ _ = WF
          obtain ⟨e1, hbf⟩ := fin_box G4.out (by omega) (Below.next HB4.out HB6.out) hWF
          have HBF := Lib.hid hbf
          have f0 := cell_of_row _ _ 0 _ _ _ e1
          have f1 := cell_of_row _ _ 1 _ _ _ e1
          clear hWF e1 hbf
          refine bodyPost_ret (v := .tuple #[.agg #[.slice none 0 0, .int .i64 0], .int .i64 E]) ?_ rfl (by rw [HRS.out]; exact RetX.none_ rfl HBF.out)
          rw [results_cell_tmp rfl]
          go_simp
      · obtain rfl : k = ln := by omega
        have hys : xprsE ys = 0 := by rw [hno.out, List.drop_of_length_le (by have := HLN.out; omega)]; rfl
        have HYS := Lib.hid (fun y hy => xprsE_ok hys y hy)
        have hS2 : Hid (subS x ys = if 60 < (treY x (subL ys)).sz then (⟨[], 0⟩, 3) else ((treY x (subL ys)).xpr, 0)) := Lib.hid (by rw [HSS.out, hys, if_neg (by simp)])
        have hsr := hb.size
        have hrow := HROW.out
        rw [List.take_of_length_le (by rw [els_len]; have := HLN.out; omega)] at hrow
        obtain ⟨ae, ce, rfl, hrd⟩ := rd_of_row hrow
        have gX := heap_below hb GX4.out
        have gR := heap_below hb GR4.out
        have hbw := Below.next HB4.out hb
        have HSZ := Lib.hid (fun (u : World) (hu : Below wr.heap.size wr u) => rsizes_c x HXX.out hf (subL ys) (els ys) (els_sub ys) a n c ae k ce u (HX.out.below (Below.next hbw hu)) (hrd.below hu))
        have HKS := Lib.hid (fun (u : World) (hu : Below wr.heap.size wr u) => (open2 (heap_below hu gX)).1)
        have HRT := Lib.hid (root_sz HXX.out (subL ys))
        obtain ⟨RT, hRT⟩ := Int.eq_ofNat_of_zero_le (xprE_ok HXX.out).root.1
        have hrn : RT < n := by have h1 := (xprE_ok HXX.out).root; have h2 := HX.out.len; omega
        have HRQ := Lib.hid hRT
        rw [hRT, Int.toNat_natCast] at HRT
        have hyl : x.nodes.length = n := HX.out.len
        rw [hyl] at HRT
        rw [hRT] at HSZ HKS ⊢
        have GX5 := Lib.hid gX
        have GR5 := Lib.hid gR
        have HBW := Lib.hid hbw
        clear hno hys HSS hb gX gR hbw hrow hrd HROW GX4 GR4
        obtain ⟨MZ, hMZ⟩ : ∃ MZ, min 1000 (treY x (subL ys)).sz = MZ := ⟨_, rfl⟩
        have HMZ : Hid (60 < MZ ↔ 60 < (treY x (subL ys)).sz) := Lib.hid (by omega)
        rw [hMZ] at HRT
        go_upto_region 12 with fail
        refine wp_region_noPanic ?_
        refine wp_region_takes (fun u => Below wr.heap.size wr u) [0, 1, 3, 4] 4 (by kernel_rfl) (by kernel_rfl) (by kernel_rfl) (fun _ _ _ _ _ h => h) (below_drew (Below.refl _ _)) ?_
        repeat (refine wpTk_cons rfl (fun K hK => ?_); go_simp; apply Exists.intro; refine ⟨fun u hu => ?_, hK _ ?_⟩; (first | exact rfl | (obtain ⟨q1, q2⟩ := HKS.out u hu; go_simp; done) | (obtain ⟨q1, q2⟩ := HKS.out u hu; go_simp; exact rfl)); clear hK K)
        refine wpTk_nil ?_
        refine held_ready (rs := [2]) (by kernel_rfl) (by simp) ?_
        refine AllReadyH.cons rfl (fun K hK => ?_) AllReadyH.nil
        go_simp
        with_reducible refine (HSZ.out _ (below_drew (Below.refl _ _))).mono ?_
        rintro e w7 ⟨a7, rfl, r7, b7⟩
        have HB7 := Lib.hid (below_undrew b7)
        obtain ⟨c7, o7, ha7, hc7⟩ := r7.at' (by omega)
        have t7 := hc7 RT _ HRT.out
        subst ha7
        clear b7 r7 hc7
        go_simp
        refine hK.out _ _ HB7.out (fun hh => ?_)
        clear hh hK K; try simp only [Act.put, List.setIfInBounds_toArray, List.set_cons_zero, List.set_cons_succ]
        refine held_ready (rs := [5]) (by kernel_rfl) (by simp) ?_
        refine AllReadyH.cons rfl (fun K hK => ?_) AllReadyH.nil
        go_simp
        refine hK.out _ _ HB7.out (fun hh => ?_)
        clear hh hK K; try simp only [Act.put, List.setIfInBounds_toArray, List.set_cons_zero, List.set_cons_succ]
        refine held_ready (rs := [6]) (by kernel_rfl) (by simp) ?_
        refine AllReadyH.cons rfl (fun K hK => ?_) AllReadyH.nil
        go_simp
        refine hK.out _ _ HB7.out (fun hh => ?_)
        clear hh hK K; try simp only [Act.put, List.setIfInBounds_toArray, List.set_cons_zero, List.set_cons_succ]
        clear t7
        refine held_ready (rs := [7]) (by kernel_rfl) (by simp) ?_
        refine AllReadyH.cons rfl (fun K hK => ?_) AllReadyH.nil
        go_simp
        refine hK.out _ _ HB7.out (fun hh => ?_)
        clear hh hK K; try simp only [Act.put, List.setIfInBounds_toArray, List.set_cons_zero, List.set_cons_succ]
        refine wpAnyH_done (by kernel_rfl) (NoPanic.normal ?_) _
        have GX7 := Lib.hid (heap_below HB7.out GX5.out)
        have GR7 := Lib.hid (heap_below HB7.out GR5.out)
        have HBF7 := Lib.hid (Below.next HBW.out HB7.out)
        have hs7 : w.heap.size + 2 ≤ w7.heap.size := by have := HB7.out.size; omega
        clear HSZ HRT hMZ HKS GX5 GR5 HB7
        by_cases hbig : 60 < (treY x (subL ys)).sz
        · have hd : decide ((60 : Int) < (MZ : Int)) = true := decide_eq_true (by have := HMZ.out.2 hbig; omega)
          have h60 : 60 < MZ := HMZ.out.2 hbig
          have hS : subS x ys = (⟨[], 0⟩, 3) := by rw [hS2.out, if_pos hbig]
          have HRS := Lib.hid hS
          have t0 := cell_of_row _ _ 0 _ _ _ GR7.out
          have t1 := cell_of_row _ _ 1 _ _ _ GR7.out
          have z0 := frozen_row GR7.out 0
          have z1 := frozen_row GR7.out 1
          clear hS hS2 hbig
          go_wp2_with fail
          clear t0 t1 z0 z1
          generalize hWF : (w7.setCell _ _).setCell _ _ = WF
          obtain ⟨e1, hbf⟩ := fin_box GR7.out (by omega) HBF7.out hWF
          have HBF := Lib.hid hbf
          have f0 := cell_of_row _ _ 0 _ _ _ e1
          have f1 := cell_of_row _ _ 1 _ _ _ e1
          clear hWF e1 hbf
          refine bodyPost_ret (v := .tuple #[.agg #[.slice none 0 0, .int .i64 0], .int .i64 3]) ?_ rfl (by rw [HRS.out]; exact RetX.none_ rfl HBF.out)
          rw [results_cell_tmp rfl]
          go_simp
        · have hd : decide ((60 : Int) < (MZ : Int)) = false := decide_eq_false (by have := HMZ.out; omega)
          have h60 : MZ ≤ 60 := by have := HMZ.out; omega
          have hS : subS x ys = ((treY x (subL ys)).xpr, 0) := by rw [hS2.out, if_neg hbig]
          have HRS := Lib.hid hS
          have HBIG := Lib.hid hbig
          have x0 := cell_of_row _ _ 0 _ _ _ GX7.out
          have x1 := cell_of_row _ _ 1 _ _ _ GX7.out
          have hT : treF x.nodes (subL ys) (x.root.toNat + 1) x.root.toNat = treY x (subL ys) := rfl
          have hWr := grow_c x HXX.out ys HYS.out w7 (x.root.toNat + 1) a n c la k lc (HX.out.below HBF7.out) (HL.out.below HBF7.out) x.root.toNat (Nat.lt_succ_self _) (by omega) w7 (fun _ => False) (.slice none 0 0) [] ⟨Below.refl _ _, XB.nil _ _ _ _ (fun _ h => h.elim)⟩ (by rw [hT]; simp; omega)
          rw [hT, hRT, Int.toNat_natCast] at hWr
          rw [hRT] at x1
          have HWR := Lib.hid hWr
          clear hS hS2 hbig hT hWr
          go_wp2_with fail
          clear x0 x1
          with_reducible refine HWR.out.mono ?_
          rintro e w9 ⟨v', S', rfl, k2, k3, k4, k5⟩
          obtain ⟨a', c', rfl, _⟩ := k2.shape
          have gR9 := (k3.blk (w.heap.size + 1) (by omega) (fun e => by cases e)).trans GR7.out
          have t0 := cell_of_row _ _ 0 _ _ _ gR9
          have t1 := cell_of_row _ _ 1 _ _ _ gR9
          have z0 := frozen_row gR9 0
          have z1 := frozen_row gR9 1
          have GR9 := Lib.hid gR9
          have HK2 := Lib.hid k2
          have HK5 := Lib.hid k5
          have HB9 := Lib.hid (HBF7.out.trans (k3.bel.mono (by omega)))
          have hs9 := k3.bel.size
          have hlp := (treY x (subL ys)).sz_pos
          have hln9 : ([] ++ (treY x (subL ys)).post 0).length = ((treY x (subL ys)).sz - 1) + 1 := by rw [List.nil_append, ET.post_len]; omega
          have hsz9 : (treY x (subL ys)).sz - 1 ≤ 60 := by have := HBIG.out; omega
          obtain ⟨RR, hRR⟩ : ∃ RR, (treY x (subL ys)).sz - 1 = RR := ⟨_, rfl⟩
          rw [hRR] at hln9 hsz9
          have HRR := Lib.hid hRR
          have HLN9 := Lib.hid hln9
          simp only [List.length_nil] at *
          rw [hln9]
          clear k2 k3 k4 k5 gR9 HWR hRR hln9 hlp
          go_wp2_with fail
          clear t0 t1 z0 z1
          generalize hWF : (w9.setCell _ _).setCell _ _ = WF
          obtain ⟨e1, hbf⟩ := fin_box GR9.out (by omega) HB9.out hWF
          have hkeep : ∀ g, g ≠ w.heap.size + 1 → WF.heap[g]? = w9.heap[g]? := fun g hg => by
            rw [← hWF, Below.heap_setCell _ ⟨w.heap.size + 1, 1, none⟩ _ g hg, Below.heap_setCell _ ⟨w.heap.size + 1, 0, none⟩ _ g hg]
          have hsF : WF.heap.size = w9.heap.size := by rw [← hWF]; simp
          have hS8 : ∀ g, S' g → w7.heap.size ≤ g := fun g hg => by
            rcases HK5.out g hg with h | h
            · exact h.elim
            · exact h
          have hxb := HK2.out.move (w' := WF) (fun g hg => hkeep g (by have := hS8 g hg; omega)) (fun g hg => hkeep g (by have := (HK2.out.lt_own g hg).1; omega)) (by omega)
          obtain ⟨a2, c2, e2, hxmr⟩ := hxb.xmr (lo := w.heap.size) (fun g hg => by have := hS8 g hg; omega) (by omega)
          cases e2
          have f0 := cell_of_row _ _ 0 _ _ _ e1
          have f1 := cell_of_row _ _ 1 _ _ _ e1
          have HXM := Lib.hid hxmr
          have HBF := Lib.hid hbf
          clear hWF e1 hkeep hS8 hxb hxmr hbf
          refine bodyPost_ret (v := .tuple #[.agg #[.slice a' (RR + 1) c', .int .i64 (RR : Int)], .int .i64 0]) ?_ rfl ?_
          · rw [results_cell_tmp rfl]
            go_simp
          · rw [HRS.out]
            have hx1 := HXM.out
            rw [List.nil_append] at hx1
            have hl1 := HLN9.out
            rw [List.nil_append] at hl1
            refine ⟨a', c', ?_, hx1, HBF.out⟩
            show _ = Ending.returned (.tuple #[.agg #[.slice a' ((treY x (subL ys)).post 0).length c', .int .i64 (((treY x (subL ys)).sz - 1 : Nat) : Int)], .int .i64 0])
            rw [hl1, HRR.out]
  · have hR : subS x ys = (⟨[], 0⟩, xprE x) := by unfold subS; rw [if_pos hx]
    obtain ⟨E, hE⟩ : ∃ E, xprE x = E := ⟨_, rfl⟩
    rw [hR, hE]
    rw [hE] at HV hx
    have hne : (E != 0) = true := by simpa using hx
    clear hR hE hx
    go_enter Tryz.func23, Tryz.ntmps23
    go_wp2_with fail
    generalize hW3 : (w.alloc _).alloc _ = W3
    obtain ⟨gX, gR, hb3, hs3⟩ := box2' hW3
    have GR := Lib.hid gR
    have HB3 := Lib.hid hb3
    have HS3 := Lib.hid hs3
    clear hW3 gX gR hb3 hs3
    with_reducible refine (HV.out W3 HB3.out).mono ?_
    rintro e w4 ⟨rfl, hb4⟩
    have g4 := heap_below hb4 GR.out
    have t0 := cell_of_row _ _ 0 _ _ _ g4
    have t1 := cell_of_row _ _ 1 _ _ _ g4
    have z0 := frozen_row g4 0
    have z1 := frozen_row g4 1
    have G4 := Lib.hid g4
    have HB4 := Lib.hid (Below.next HB3.out hb4)
    clear g4 hb4 GR HB3 HS3
    go_wp2_with fail
    clear t0 t1 z0 z1
    generalize hWF : (w4.setCell _ _).setCell _ _ = WF
    obtain ⟨e1, hbf⟩ := fin_box G4.out (by omega) HB4.out hWF
    have HBF := Lib.hid hbf
    have f0 := cell_of_row _ _ 0 _ _ _ e1
    have f1 := cell_of_row _ _ 1 _ _ _ e1
    clear hWF e1 hbf
    refine bodyPost_ret (v := .tuple #[.agg #[.slice none 0 0, .int .i64 0], .int .i64 E]) ?_ rfl (RetX.none_ rfl HBF.out)
    rw [results_cell_tmp rfl]
    go_simp

set_option maxRecDepth 100000 in
set_option maxHeartbeats 4000000 in
theorem rtidy_c (x : Xpr) (hsx : XprSum x) (hf : XprFew x) (a : Option Addr) (n c : Nat) (w : World) (h : XM w a n c x.nodes) :
    Calls Tryz.prog 28 #[.agg #[.slice a n c, .int .i64 x.root]] w fun e w' => RetX (tidS x).1 (tidS x).2 w e w' := by
  have HX := Lib.hid h
  have HS := Lib.hid (fun (u : World) (hb : Below w.heap.size w u) => rsubst_c x [] hsx (fun _ h => by cases h) hf (fun _ h => by cases h) a n c none 0 0 u (h.below hb) (LM.none_ _) (by omega))
  clear h
  rw [subS_nil] at HS
  obtain ⟨⟨X, E⟩, hQ⟩ : ∃ Q, tidS x = Q := ⟨_, rfl⟩
  rw [hQ] at HS ⊢
  simp only at HS
  clear hQ
  go_enter Tryz.func28, Tryz.ntmps28
  go_wp2_with fail
  generalize hW2 : (w.alloc _).alloc _ = W2
  obtain ⟨gX, gR, hb2, hs2⟩ := box2' hW2
  have GR := Lib.hid gR
  have HB2 := Lib.hid hb2
  have hw2 : w.heap.size + 2 ≤ W2.heap.size := by omega
  clear hW2 gX gR hb2 hs2
  with_reducible refine (HS.out W2 HB2.out).mono ?_
  rintro e w3 ⟨a3, c3, rfl, hx3, b3⟩
  have GR3 := Lib.hid (heap_below b3 GR.out)
  have HB3 := Lib.hid (Below.next HB2.out b3)
  have HX3 := Lib.hid hx3
  have t0 := cell_of_row _ _ 0 _ _ _ GR3.out
  have t1 := cell_of_row _ _ 1 _ _ _ GR3.out
  have z0 := frozen_row GR3.out 0
  have z1 := frozen_row GR3.out 1
  clear b3 hx3 HS GR
  go_wp2_with fail
  clear t0 t1 z0 z1
  generalize hWF : (w3.setCell _ _).setCell _ _ = WF
  obtain ⟨e1, hbf⟩ := fin_box GR3.out (by omega) HB3.out hWF
  have HBF := Lib.hid hbf
  have HXF := Lib.hid (xmr_box HX3.out (by omega) hWF)
  have f0 := cell_of_row _ _ 0 _ _ _ e1
  have f1 := cell_of_row _ _ 1 _ _ _ e1
  clear hWF e1 hbf
  refine bodyPost_ret (v := .tuple #[.agg #[.slice a3 X.nodes.length c3, .int .i64 X.root], .int .i64 E]) ?_ rfl ?_
  · rw [results_cell_tmp rfl]
    go_simp
  · exact ⟨a3, c3, rfl, fun w2 hg => HXF.out w2 fun g h1 h2 => hg g (by omega) h2, HBF.out⟩
end Go.Proofs.YtcojmmhclklpoaaGreatDoor
namespace Go.Proofs.YtcojmmhclklpoaaGreatDoor
open Go.RowKit

structure ExV where
  v : Value
  r : Int
def exVC (p : ExV) : List Value := [p.v, .int .i64 p.r]
theorem exVC_len (p : ExV) : (exVC p).length = 2 := rfl
def ExR (w : World) (p : ExV) (y : Xpr) : Prop := ∃ a c, p.v = .slice a y.nodes.length c ∧ XM w a y.nodes.length c y.nodes ∧ p.r = y.root
abbrev EB (S : Nat → Prop) (B : Nat) (w : World) (v : Value) (ys : List Xpr) : Prop := GB 2 exVC ExR S B w v 32 ys
theorem EB.lm {S : Nat → Prop} {B : Nat} {w : World} {v : Value} {ys : List Xpr} (h : EB S B w v ys) : ∃ a c, v = .slice a ys.length c ∧ LM w a ys.length c ys := by
  obtain ⟨V, h1, h2, h3⟩ := h.row
  obtain ⟨a, c, e, r⟩ := rdK_of_row h2
  refine ⟨a, c, e, rfl, r.le, r.max, r.nil, fun hn => ?_⟩
  obtain ⟨b, o, ha, hc⟩ := RdK.cells r exVC_len hn
  refine ⟨b, o, ha, fun i y hy => ?_⟩
  obtain ⟨p, hp⟩ : ∃ p, V[i]? = some p := ⟨_, List.getElem?_eq_getElem (by rw [h1]; exact (List.getElem?_eq_some_iff.1 hy).1)⟩
  obtain ⟨a', c', e1, x1, e2⟩ := (h3 i p y hp hy).r
  have q0 : w.cell? ⟨b, o + i * 2 + 0, none⟩ = some p.v := hc i p hp 0 (by omega)
  have q1 : w.cell? ⟨b, o + i * 2 + 1, none⟩ = some (.int .i64 p.r) := hc i p hp 1 (by omega)
  rw [e1] at q0
  rw [e2] at q1
  exact ⟨a', _, c', q0, x1, q1⟩
/-- one more -/
theorem EB.push {S : Nat → Prop} {B lo : Nat} {w y : World} {v u : Value} {ys : List Xpr} {z : Xpr} {a : Option Addr} {c : Nat} {V : List ExV} (h : EB S B w v ys) (hV : V.length = ys.length) (h3 : ∀ (i : Nat) p nd, V[i]? = some p → ys[i]? = some nd → RS ExR S w p nd)
    (hx : XMR lo w.heap.size w a z.nodes.length c z.nodes) (hlo : ∀ g, v.ownBlock = some g → g < lo) (hg : w.grownBy y v.ownBlock) (ho : y.ownsRow B 32 2 u (ys.length + 1) (V.flatMap exVC ++ exVC ⟨.slice a z.nodes.length c, z.root⟩)) (hv : ∀ g, u.ownBlock = some g → v.ownBlock = some g ∨ w.heap.size ≤ g) :
    ∃ S', EB S' B y u (ys ++ [z]) := by
  refine ⟨_, GB.pushes (M := [z]) (U := [⟨.slice a z.nodes.length c, z.root⟩]) (SW := Rng lo w.heap.size) h hV h3 (Below.refl _ _) hg rfl ?_ hv (fun i p nd hp hn => ?_) (fun g hg' => ⟨hg'.2, fun e => by have := hlo g e; have := hg'.1; omega⟩)⟩
  · rw [List.flatMap_cons, List.flatMap_nil, List.append_nil]; exact ho
  · have hi : i = 0 := by have := (List.getElem?_eq_some_iff.1 hp).1; simpa using this
    subst hi
    cases hp; cases hn
    exact fun w2 ha => ⟨a, c, rfl, hx w2 fun g g1 g2 => ha g ⟨g1, g2⟩, rfl⟩

/-- the servers whose expressions a set satisfies, and the others in it -/
def trT (ys : List Xpr) (S : BitVec 16) : Nat → BitVec 16
  | 0 => S
  | k + 1 => if holdX (ys.getD k ⟨[], 0⟩) S = true then (trT ys S k &&& ~~~bitS k) ||| bitS k else trT ys S k &&& ~~~bitS k
theorem trT_has (ys : List Xpr) (S : BitVec 16) : ∀ k, k ≤ ys.length → k ≤ 12 → ∀ sv, sv < 12 → hasB (trT ys S k) sv = if sv < k then holdX (ys.getD sv ⟨[], 0⟩) S else hasB S sv
  | 0, _, _, sv, _ => by rw [if_neg (by omega)]; rfl
  | k + 1, h1, h2, sv, hsv => by
    have ih := trT_has ys S k (by omega) (by omega) sv hsv
    have hb : hasB (bitS k) sv = decide (sv = k) := hasB_bit k sv (by omega)
    have hn : hasB (~~~bitS k) sv = !decide (sv = k) := by rw [hasB_not _ _ (by omega), hb]
    have key : trT ys S (k + 1) = if holdX (ys.getD k ⟨[], 0⟩) S = true then (trT ys S k &&& ~~~bitS k) ||| bitS k else trT ys S k &&& ~~~bitS k := rfl
    by_cases e : sv = k
    · subst e
      have hr : (if sv < sv + 1 then holdX (ys.getD sv ⟨[], 0⟩) S else hasB S sv) = holdX (ys.getD sv ⟨[], 0⟩) S := if_pos (by omega)
      rw [hr, key]
      cases hh : holdX (ys.getD sv ⟨[], 0⟩) S
      · rw [if_neg (by simp), hasB_and, hn]; simp
      · rw [if_pos rfl, hasB_or, hb]; simp
    · have hr : (if sv < k + 1 then holdX (ys.getD sv ⟨[], 0⟩) S else hasB S sv) = if sv < k then holdX (ys.getD sv ⟨[], 0⟩) S else hasB S sv := by
        by_cases h : sv < k
        · rw [if_pos h, if_pos (by omega)]
        · rw [if_neg h, if_neg (by omega)]
      rw [hr, ← ih, key]
      cases hh : holdX (ys.getD k ⟨[], 0⟩) S
      · rw [if_neg (by simp), hasB_and, hn]; simp [e]
      · rw [if_pos rfl, hasB_or, hasB_and, hn, hb]; simp [e]
theorem trT_law {x : Xpr} (hx : xprE x = 0) (ys : List Xpr) (hys : ∀ y ∈ ys, XprOk y) (hl : ys.length ≤ 12) (S : BitVec 16) (hs : (treY x (subL ys)).sz ≤ 60) : holdX (treY x (subL ys)).xpr S = holdX x (trT ys S ys.length) := by
  refine subst_law hx ys hys S _ (fun sv hsv => ?_) hs
  rw [trT_has ys S ys.length (Nat.le_refl _) hl sv hsv]
  by_cases h : sv < ys.length
  · rw [if_pos h, List.getElem?_eq_getElem h, List.getD_eq_getElem?_getD, List.getElem?_eq_getElem h]; rfl
  · rw [if_neg h, List.getElem?_eq_none (by omega)]
mutual
theorem post_few (t : ET) : ∀ (b j : Nat) nd, (t.post b)[j]? = some nd → nd.kids.length ≤ t.sz := by
  cases t with
  | srv s =>
    intro b j nd h
    rw [ET.post] at h
    have hj : j = 0 := by have := (List.getElem?_eq_some_iff.1 h).1; simpa using this
    subst hj; cases h
    simp
  | thr n ws ks =>
    intro b j nd h
    rw [ET.post] at h
    rw [ET.sz]
    by_cases hj : j < (ETs.post ks b).length
    · rw [List.getElem?_append_left hj] at h
      have := posts_few ks b j nd h
      omega
    · rw [List.getElem?_append_right (by omega)] at h
      have h2 : j - (ETs.post ks b).length = 0 := by have := (List.getElem?_eq_some_iff.1 h).1; simpa using this
      rw [h2] at h
      cases h
      show (ETs.idx ks b).length ≤ _
      rw [ETs.idx_len]
      have := ETs.sz_ge ks
      omega
theorem posts_few (ts : List ET) : ∀ (b j : Nat) nd, (ETs.post ts b)[j]? = some nd → nd.kids.length ≤ ETs.sz ts := by
  cases ts with
  | nil => intro b j nd h; simp [ETs.post] at h
  | cons t ts =>
    intro b j nd h
    rw [ETs.post] at h
    rw [ETs.sz]
    by_cases hj : j < (t.post b).length
    · rw [List.getElem?_append_left hj] at h
      have := post_few t b j nd h
      omega
    · rw [List.getElem?_append_right (by omega)] at h
      have := posts_few ts _ _ nd h
      omega
end
theorem xpr_few {t : ET} (h : t.sz ≤ 1000) : XprFew t.xpr := fun k nd hk => by have := post_few t 0 k nd hk; omega
end Go.Proofs.YtcojmmhclklpoaaGreatDoor
namespace Go.Proofs.YtcojmmhclklpoaaGreatDoor
open Go.RowKit Go.ChangeShapes Go.WideShapes Go.Deep

structure IsDrafts (w : World) (a : Option Addr) (n c : Nat) (L : List (List Pce)) : Prop where
  len : L.length = n
  le : n ≤ c
  max : c ≤ maxLen
  at' : 0 < n → ∃ b o, a = some ⟨b, o, none⟩ ∧ ∀ i ps, L[i]? = some ps → ∃ a3 n3 c3, w.cell? ⟨b, o + i, none⟩ = some (.slice a3 n3 c3) ∧ PM w a3 n3 c3 ps
  ok : ∀ ps ∈ L, ∀ p ∈ ps, p.ok
theorem open_drafts {H : Type} {enc : TypeId × Value → H} {w : World} {base : Nat} {held : Bool} {fuel : Nat} {cs : List Value} {x : DataW H × List MemPlace} (h : DataW.trod enc Tryz.prog w base (fun _ => true) held fuel 43 cs = some x) :
    ∃ a n c L, cs = [.slice a n c] ∧ IsDrafts w a n c L := by
  rcases open_slice_fields Tryz.underlying43 Tryz.underlying24 (by kernel_rfl) (by kernel_rfl) h with ⟨hcs, _⟩ | ⟨a, len, cap, m, D, Pl, hcs, _, hl, hm, hmm, _, hi⟩
  · exact ⟨none, 0, 0, [], hcs, ⟨rfl, Nat.le_refl _, by unfold maxLen; omega, fun hn => absurd hn (by decide), fun r hr => by cases hr⟩⟩
  · have hlm : len ≤ m := by rw [hmm]; split <;> omega
    obtain ⟨L, hL1, hL2⟩ := list_of (α := List Pce) (Q := fun i r => (∃ a3 n3 c3, w.cell? (a.add (i * 1 + 0)) = some (.slice a3 n3 c3) ∧ PM w a3 n3 c3 r) ∧ ∀ p ∈ r, p.ok) len (fun i hil => by
      obtain ⟨ys, n, _, _, _, hf⟩ := hi i (by omega)
      obtain ⟨v0, y0, c0, _, t0⟩ := hf 0 _ rfl
      obtain ⟨a3, n3, c3, ps, e0, i0, i1⟩ := open_pieces t0
      cases e0
      exact ⟨ps, ⟨a3, n3, c3, c0, i0⟩, i1⟩)
    refine ⟨some a, len, cap, L, hcs, ⟨hL1, hl, hm, fun hn0 => ?_, fun r hr => ?_⟩⟩
    · obtain ⟨x0, hx0⟩ : ∃ x, L[0]? = some x := ⟨_, List.getElem?_eq_getElem (by omega)⟩
      obtain ⟨⟨_, _, _, h0, _⟩, _⟩ := hL2 0 x0 hx0
      rw [Nat.zero_mul, Nat.zero_add] at h0
      have ha := addr_plain h0
      refine ⟨a.block, a.off, by rw [← ha], fun i p hp => ?_⟩
      obtain ⟨⟨a3, n3, c3, d0, r0⟩, _⟩ := hL2 i p hp
      rw [ha, Addr.add_lit, Nat.mul_one, Nat.add_zero] at d0
      exact ⟨a3, n3, c3, d0, r0⟩
    · obtain ⟨i, hi⟩ := List.mem_iff_getElem?.1 hr
      exact (hL2 i r hi).2
end Go.Proofs.YtcojmmhclklpoaaGreatDoor
namespace Go.Proofs.YtcojmmhclklpoaaGreatDoor
open Go.RowKit Go.Shelf

theorem Tryz.infoXpr : (Tryz.prog.info? 32).map (fun i => (i.zero, i.size, i.bytes)) = some (some (.agg #[.slice none 0 0, .int .i64 0]), 2, 32) := by kernel_rfl
theorem xprsE_zero : ∀ {l : List Xpr}, (∀ y ∈ l, xprE y = 0) → xprsE l = 0
  | [], _ => rfl
  | y :: l, h => by
    unfold xprsE
    rw [if_neg (by rw [h y (List.mem_cons_self ..)]; simp)]
    exact xprsE_zero fun z hz => h z (List.mem_cons_of_mem _ hz)
theorem subS_val {x : Xpr} {ys : List Xpr} (hx : xprE x = 0) (hys : ∀ y ∈ ys, xprE y = 0) (h : (subS x ys).2 = 0) : (treY x (subL ys)).sz ≤ 60 ∧ (subS x ys).1 = (treY x (subL ys)).xpr := by
  unfold subS at h ⊢
  rw [if_neg (by rw [hx]; simp), if_neg (by rw [xprsE_zero hys]; simp)] at h ⊢
  split at h
  · cases h
  · rename_i h1
    rw [if_neg h1]
    exact ⟨by omega, rfl⟩
theorem take_snoc {α : Type} {l : List α} {k : Nat} {y : α} (h : l[k]? = some y) : l.take (k + 1) = l.take k ++ [y] := by rw [List.take_add_one, h]; rfl

set_option maxRecDepth 100000 in
set_option maxHeartbeats 8000000 in
theorem substs_w (v : Value) (xs : List Pce) (la : Option Addr) (ln lc : Nat) (zs : List (List Pce)) (b : Int) (w : World) (ht : HasTab w) (hp : HasPow w) (hr : HasRng w) (hy : HasSyn w) (w0 : IsDraft w v xs) (w1 : IsDrafts w la ln lc zs) (w2 : (Lit.int .u16 b).wf = true) :
    Calls Tryz.prog 5 #[v, .slice la ln lc, .int .u16 b] w fun e w' => e = .returned (.bool true) ∧ Below w.heap.size w w' := by
  have HA := Lib.hid (fun u (hb : Below w.heap.size w u) => awake10_c u (ht.below hb) (hp.below hb) (hr.below hb) (hy.below hb))
  obtain ⟨s, rfl⟩ := U_of_wf' w2
  obtain ⟨ax, nx, cx, rfl, hpx⟩ := w0.val
  have HMX := Lib.hid (fun u (hb : Below w.heap.size w u) => made_r xs w0.okx ax nx cx u (hpx.below hb))
  have HMK := Lib.hid (fun ps (h : ps ∈ zs) a n c u (hm : PM u a n c ps) => made_r ps (w1.ok ps h) a n c u hm)
  obtain ⟨hxo, _, _⟩ := madX_ok w0.okx
  have hxf := madX_few xs
  have hxs := madX_sum xs
  obtain ⟨YS, hYS⟩ : ∃ YS, zs.map madX = YS := ⟨_, rfl⟩
  have hyo : ∀ y ∈ YS, xprE y = 0 := fun y h => by
    rw [← hYS] at h
    obtain ⟨ps, hps, rfl⟩ := List.mem_map.1 h
    exact (madX_ok (w1.ok ps hps)).1
  have hyf : ∀ y ∈ YS, XprFew y := fun y h => by
    rw [← hYS] at h
    obtain ⟨ps, hps, rfl⟩ := List.mem_map.1 h
    exact madX_few ps
  have hys : ∀ y ∈ YS, XprSum y := fun y h => by
    rw [← hYS] at h
    obtain ⟨ps, hps, rfl⟩ := List.mem_map.1 h
    exact madX_sum ps
  have hyl : YS.length = ln := by rw [← hYS, List.length_map]; exact w1.len
  have HAT : Hid (∀ (k : Nat) ps, zs[k]? = some ps → YS[k]? = some (madX ps)) := Lib.hid (fun k ps h => by rw [← hYS, List.getElem?_map, h]; rfl)
  obtain ⟨X, hX⟩ : ∃ X, madX xs = X := ⟨_, rfl⟩
  rw [hX] at HMX hxo hxf hxs
  have hok := xprE_ok hxo
  have HSB := Lib.hid (fun a n c la ln lc u h hl => subst_c X YS a n c la ln lc u h hl)
  have HRS := Lib.hid (fun a n c la ln lc u h hl hn => rsubst_c X YS hxs hys hxf hyf a n c la ln lc u h hl hn)
  have hsv := subS_val hxo hyo
  obtain ⟨S, hS⟩ : ∃ S, s &&& 4095#16 = S := ⟨_, rfl⟩
  have HHX := Lib.hid (fun t a n c u h => rholds_c X hok hxf t a n c u h)
  have HHY := Lib.hid (fun y (hm : y ∈ YS) t a n c u h => rholds_c y (xprE_ok (hyo y hm)) (hyf y hm) t a n c u h)
  have HTL : Hid (YS.length ≤ 12 → (subS X YS).2 = 0 → XprOk (subS X YS).1 ∧ XprFew (subS X YS).1 ∧ holdX (subS X YS).1 S = holdX X (trT YS S YS.length)) := Lib.hid (fun hl h => by
    obtain ⟨h1, h2⟩ := hsv h
    have h3 : (treY X (subL YS)).ok := treR_ok hok YS (fun y hm => xprE_ok (hyo y hm))
    rw [h2]
    exact ⟨xprE_ok (xpr_ok h3 h1), xpr_few (by omega), trT_law hxo YS (fun y hm => xprE_ok (hyo y hm)) hl S h1⟩)
  obtain ⟨⟨Y, E⟩, hQ⟩ : ∃ Q, subS X YS = Q := ⟨_, rfl⟩
  rw [hQ] at HSB HRS HTL
  simp only at HSB HRS HTL
  have HSM := Lib.hid (fun a n c a2 n2 c2 u h h2 => same10_c Y a n c a2 n2 c2 u h h2)
  unfold RetX at HSB HRS
  have HHR := Lib.hid (fun (h1 : XprOk Y) (h2 : XprFew Y) t a n c u h => rholds_c Y h1 h2 t a n c u h)
  obtain ⟨N, hN⟩ : ∃ N, X.nodes.length = N := ⟨_, rfl⟩
  obtain ⟨RT, hRT⟩ : ∃ RT, X.root = RT := ⟨_, rfl⟩
  obtain ⟨NY, hNY⟩ : ∃ NY, Y.nodes.length = NY := ⟨_, rfl⟩
  obtain ⟨RY, hRY⟩ : ∃ RY, Y.root = RY := ⟨_, rfl⟩
  rw [hNY, hRY] at HSB HRS
  rw [hRT] at HSB HRS HHX
  rw [hRY] at HSM HHR
  rw [hN, hRT] at HMX
  have HHX := HHX
  have hbA : bits BinOp.and IntKind.u16 (U s) 4095 = U S := by rw [← hS]; exact bv16_and s 4095#16
  have HYL := Lib.hid hyl
  have HZL := Lib.hid w1.len
  have HAW := Lib.hid w1.at'
  have HNY := Lib.hid hNY
  have hlnm : ln ≤ 9223372036854775807 := by have h1 := w1.le; have h2 := w1.max; unfold maxLen at h2; omega
  have hee : (E == E) = true := by simp
  have hen : (E != E) = false := by rw [bne_eq_false_iff_eq]
  clear hX hxo hxf hxs hYS hyo hyf hys hyl hok hsv hS hQ hN hRT hNY hRY ht hp hr hy w0 w1 w2 hpx
  go_enter Tryz.func5, Tryz.ntmps5
  go_wp2_with fail
  obtain ⟨W0, hW0⟩ : ∃ W0, W0 = w.alloc (.cells #[.slice ax nx cx] 24) := ⟨_, rfl⟩
  rw [← hW0]
  have hb0 : Below w.heap.size w W0 := by rw [hW0]; exact (Below.refl _ _).alloc (Nat.le_refl _) _
  have g0 : W0.heap[w.heap.size]? = some (.cells #[.slice ax nx cx] 24 (0, 0)) := by rw [hW0]; exact heap_alloc_new _ _
  with_reducible refine (HA.out W0 hb0).mono ?_
  rintro e w1 ⟨rfl, b1⟩
  have HB1 := Lib.hid (Below.next hb0 b1)
  have r0 := cell_of_row _ _ 0 _ _ _ (heap_below b1 g0)
  clear b1 hb0 g0 hW0
  by_cases h4 : 4 < ln
  · have d4 : decide ((4 : Int) < (ln : Int)) = true := decide_eq_true (by omega)
    go_wp2_with fail
    with_reducible refine (HA.out w1 HB1.out).mono ?_
    rintro e w2 ⟨rfl, b2⟩
    have HB2 := Lib.hid (Below.next HB1.out b2)
    clear b2
    go_wp2_with fail
    go_ret
    exact ⟨rfl, HB2.out⟩
  have d4 : decide ((4 : Int) < (ln : Int)) = false := decide_eq_false (by omega)
  clear HA
  go_wp2_with fail
  clear r0
  with_reducible refine (HMX.out w1 HB1.out).mono ?_
  rintro e w2 ⟨a2, c2, rfl, hx2, b2⟩
  obtain ⟨W3, hW3⟩ : ∃ W3, W3 = w2.alloc (.cells #[.slice a2 N c2, .int .i64 RT] 32) := ⟨_, rfl⟩
  have hb3 : Below w2.heap.size w2 W3 := by rw [hW3]; exact (Below.refl _ _).alloc (Nat.le_refl _) _
  have HG3 := Lib.hid (show W3.heap[w2.heap.size]? = some (.cells #[.slice a2 N c2, .int .i64 RT] 32 (0, 0)) by rw [hW3]; exact heap_alloc_new _ _)
  have HX3 := Lib.hid (hx2.xm.below hb3)
  have HB3 := Lib.hid (Below.next HB1.out (Below.next b2 hb3))
  have HKX := Lib.hid (fun (u : World) (hu : Below W3.heap.size W3 u) => (open2 (heap_below hu HG3.out)).1)
  have hs3 : w2.heap.size < W3.heap.size := by rw [hW3]; simp
  clear hb3 hx2 b2 HMX HB1
  go_wp2_with fail
  rw [← hW3]
  clear hW3
  go_loopw [8, 30] (fun vq q wr => ∃ (vv : Value) (k : Nat) (T : Nat → Prop), vv = vq ∧ k ≤ ln ∧ q = .int .i64 ((k : Nat) : Int) ∧ Hid (EB T W3.heap.size wr vv (YS.take k)) ∧ Below W3.heap.size W3 wr) (fun _ q _ => ln - (intOf q).toNat)
  case atStart => exact ⟨_, 0, fun _ => False, rfl, Nat.zero_le _, rfl, Lib.hid (GB.nil _ _ _ _ (fun _ h => h.elim)), Below.refl _ _⟩
  case round =>
    obtain ⟨vv, k, T, rfl, hk, rfl, HEB, hb⟩ := hrel
    have hsr := hb.size
    have hbw := Below.next HB3.out hb
    by_cases hlt : k < ln
    · obtain ⟨ps, hps⟩ : ∃ ps, zs[k]? = some ps := ⟨_, List.getElem?_eq_getElem (by have := HZL.out; omega)⟩
      have hyk := HAT.out k ps hps
      have htk := take_snoc hyk
      obtain ⟨b4, o4, ha4, hc4⟩ := HAW.out (by omega)
      obtain ⟨a5, n5, c5, q0, hpm⟩ := hc4 k ps hps
      have q0 := cell_keep hbw q0
      subst ha4
      obtain ⟨WA, hWA⟩ : ∃ WA, WA = wr.alloc (.cells #[.slice a5 n5 c5] 24) := ⟨_, rfl⟩
      have hbA : Below wr.heap.size wr WA := by rw [hWA]; exact (Below.refl _ _).alloc (Nat.le_refl _) _
      have gA : WA.heap[wr.heap.size]? = some (.cells #[.slice a5 n5 c5] 24 (0, 0)) := by rw [hWA]; exact heap_alloc_new _ _
      have hsA : WA.heap.size = wr.heap.size + 1 := by rw [hWA]; simp
      have hM := HMK.out ps (List.mem_of_getElem? hps) a5 n5 c5 WA (hpm.below (Below.next hbw hbA))
      obtain ⟨Z, hZ⟩ : ∃ Z, madX ps = Z := ⟨_, rfl⟩
      rw [hZ] at hM htk
      have HM := Lib.hid hM
      have HTK := Lib.hid htk
      have HEA := Lib.hid (HEB.out.below hbA)
      have hlt0 := HEB.out.lt_own
      have HLO : Hid (∀ g, vv.ownBlock = some g → g < WA.heap.size) := Lib.hid (fun g hg => by have := (hlt0 g hg).2; omega)
      have HBA := Lib.hid (hb.trans (hbA.mono hsr))
      have z0 := cell_of_row _ _ 0 _ _ _ gA
      rw [hWA] at z0
      clear hM htk hyk hc4 hpm hb hbw hbA gA hlt0 hZ hps
      go_wp2_with fail
      rw [← hWA]
      clear z0 hWA q0
      with_reducible refine HM.out.mono ?_
      rintro e w8 ⟨a8, c8, rfl, hx8, b8⟩
      have hE8 := HEA.out.below b8
      have hl8 : (YS.take k).length = k := by rw [List.length_take]; have := HYL.out; omega
      obtain ⟨V, hV1, hV2, hV3⟩ := hE8.row
      rw [hl8] at hV2
      obtain ⟨av, cv, rfl, _⟩ := rdK_of_row hV2
      have HE8 := Lib.hid hE8
      have HV1 := Lib.hid hV1
      have HV3 := Lib.hid hV3
      have HX8 := Lib.hid hx8
      have HB8 := Lib.hid (HBA.out.trans (b8.mono (by omega)))
      have HL8 := Lib.hid hl8
      have hs8 : W3.heap.size ≤ w8.heap.size := by have := b8.size; omega
      obtain ⟨NZ, hNZ⟩ : ∃ NZ, Z.nodes.length = NZ := ⟨_, rfl⟩
      obtain ⟨RZ, hRZ⟩ : ∃ RZ, Z.root = RZ := ⟨_, rfl⟩
      have HNZ := Lib.hid hNZ
      have HRZ := Lib.hid hRZ
      rw [hNZ, hRZ]
      clear hE8 hV1 hV3 hx8 b8 hl8 hNZ hRZ HM HEA HBA
      go_wp2_with (at_builtin; go_must (refine wpList_appK2 2 _ _ 44 32 (.agg #[.slice none 0 0, .int .i64 0]) (exVC ⟨.slice a8 NZ c8, RZ⟩) _ Tryz.underlying44 Tryz.infoXpr rfl (by decide) hV2 (Below.refl W3.heap.size w8) hs8 rfl rfl rfl rfl rfl (by intro u hu; unfold exVC at hu; simp at hu; rcases hu with rfl | rfl <;> rfl) (by unfold maxLen; omega) (by omega) ?_))
      intro v9 w9 hown9 hb9 hg9 hs9 hv9
      have hP := EB.push (y := w9) (u := v9) (z := Z) HE8.out HV1.out HV3.out HX8.out (fun g hg => HLO.out g hg) hg9 (by rw [HL8.out, HNZ.out, HRZ.out]; exact hown9) hv9
      rw [← HTK.out] at hP
      obtain ⟨T9, hP⟩ := hP
      have HP := Lib.hid hP
      have HB9 := Lib.hid (HB8.out.trans hb9)
      clear hown9 hb9 hg9 hs9 hv9 hP
      go_wp2_with fail
      go_roundw
      case rel => exact ⟨_, k + 1, T9, rfl, by omega, by go_num, HP, HB9.out⟩
      case measure => simp [intOf] <;> omega
    · obtain rfl : k = ln := by omega
      have hE := HEB.out
      rw [List.take_of_length_le (by have := HYL.out; omega)] at hE
      obtain ⟨al, cl, rfl, hlm⟩ := hE.lm
      have hyl := HYL.out
      rw [hyl] at hlm ⊢
      have HBW := Lib.hid hbw
      have HLM := Lib.hid hlm
      have HKR := Lib.hid (fun (u : World) (hu : Below wr.heap.size wr u) => HKX.out u (hb.trans (hu.mono hsr)))
      have HXR := Lib.hid (HX3.out.below hb)
      obtain ⟨k0, k1⟩ := HKR.out wr (Below.refl _ _)
      clear hE hlm hbw hb HEB HX3 HKX HMK
      go_wp2_with fail
      clear k0 k1
      with_reducible refine (HSB.out a2 N c2 al k cl wr HXR.out HLM.out).mono ?_
      rintro e w5 ⟨a5, c5, rfl, x5, b5⟩
      obtain ⟨W6, hW6⟩ : ∃ W6, W6 = w5.alloc (.cells #[.slice a5 NY c5, .int .i64 RY] 32) := ⟨_, rfl⟩
      have b6 : Below w5.heap.size w5 W6 := by rw [hW6]; exact (Below.refl _ _).alloc (Nat.le_refl _) _
      have g6 : W6.heap[w5.heap.size]? = some (.cells #[.slice a5 NY c5, .int .i64 RY] 32 (0, 0)) := by rw [hW6]; exact heap_alloc_new _ _
      have b56 := Below.next b5 b6
      have HR6 := Lib.hid b56
      have HY6 := Lib.hid (x5.xm.below b6)
      have HKA := Lib.hid (fun (u : World) (hu : Below W6.heap.size W6 u) => (open2 (heap_below hu g6)).1)
      obtain ⟨k0, k1⟩ := HKR.out W6 b56
      rw [hW6] at k0 k1
      clear b5 b6 g6 x5 b56 HSB
      go_wp2_with fail
      rw [← hW6]
      clear hW6 k0 k1
      with_reducible refine (HRS.out a2 N c2 al k cl W6 (HXR.out.below HR6.out) (HLM.out.below HR6.out) (by omega)).mono ?_
      rintro e w7 ⟨a7, c7, rfl, x7, b7⟩
      obtain ⟨W8, hW8⟩ : ∃ W8, W8 = w7.alloc (.cells #[.slice a7 NY c7, .int .i64 RY] 32) := ⟨_, rfl⟩
      have b8 : Below w7.heap.size w7 W8 := by rw [hW8]; exact (Below.refl _ _).alloc (Nat.le_refl _) _
      have g8 : W8.heap[w7.heap.size]? = some (.cells #[.slice a7 NY c7, .int .i64 RY] 32 (0, 0)) := by rw [hW8]; exact heap_alloc_new _ _
      have b78 := Below.next b7 b8
      have HR8 := Lib.hid (Below.next HR6.out b78)
      have HYA := Lib.hid (HY6.out.below b78)
      have HYB := Lib.hid (x7.xm.below b8)
      have HK1 := Lib.hid (fun (u : World) (hu : Below W8.heap.size W8 u) => HKA.out u (Below.next b78 hu))
      have HK2 := Lib.hid (fun (u : World) (hu : Below W8.heap.size W8 u) => (open2 (heap_below hu g8)).1)
      have HS8 := Lib.hid (HSM.out a5 NY c5 a7 NY c7 W8 HYA.out HYB.out)
      obtain ⟨k0, k1⟩ := HK1.out W8 (Below.refl _ _)
      obtain ⟨l0, l1⟩ := HK2.out W8 (Below.refl _ _)
      rw [hW8] at k0 k1 l0 l1
      clear b7 b8 g8 x7 b78 HRS HKA HY6 HR6
      go_wp2_with fail
      rw [← hW8]
      clear hW8 k0 k1 l0 l1
      with_reducible refine HS8.out.mono ?_
      rintro e w9 ⟨rfl, b9⟩
      have HR9 := Lib.hid (Below.next HR8.out b9)
      have HQ9 := Lib.hid b9
      have HB9 := Lib.hid (Below.next HBW.out HR9.out)
      clear b9 HS8
      by_cases hE : E = 0
      · obtain ⟨hyok, hyfew, htl⟩ := HTL.out (by have := HYL.out; omega) hE
        subst hE
        have HHZ := Lib.hid (fun a n c u h => HHR.out hyok hyfew S a n c u h)
        rw [hyl] at htl
        have HTL2 := Lib.hid htl
        clear hyok hyfew htl HTL HHR hee hen HSM
        go_wp2_with fail
        go_loopw [15, 77] (fun t q wq => ∃ j : Nat, j ≤ k ∧ t = .int .u16 (U (trT YS S j)) ∧ q = .int .i64 ((j : Nat) : Int) ∧ Below w9.heap.size w9 wq) (fun _ q _ => k - (intOf q).toNat)
        case atStart => exact ⟨0, Nat.zero_le _, rfl, rfl, Below.refl _ _⟩
        case round =>
          obtain ⟨j, hj, rfl, rfl, hb⟩ := hrel
          have hrw := Below.next HR9.out hb
          by_cases hlt : j < k
          · obtain ⟨y, hy⟩ : ∃ y, YS[j]? = some y := ⟨_, List.getElem?_eq_getElem (by omega)⟩
            obtain ⟨b4, o4, ha4, hc4⟩ := (HLM.out.below hrw).at' (by omega)
            obtain ⟨a9, n9, c9, q0, hxm, q1⟩ := hc4 j y hy
            subst ha4
            have hstep : trT YS S (j + 1) = if holdX y S = true then (trT YS S j &&& ~~~bitS j) ||| bitS j else trT YS S j &&& ~~~bitS j := by
              show (if holdX (YS.getD j ⟨[], 0⟩) S = true then _ else _) = _
              rw [List.getD_eq_getElem?_getD, hy]; rfl
            obtain ⟨WA, hWA⟩ : ∃ WA, WA = wr.alloc (.cells #[.slice a9 n9 c9, .int .i64 y.root] 32) := ⟨_, rfl⟩
            have hbA : Below wr.heap.size wr WA := by rw [hWA]; exact (Below.refl _ _).alloc (Nat.le_refl _) _
            have gA : WA.heap[wr.heap.size]? = some (.cells #[.slice a9 n9 c9, .int .i64 y.root] 32 (0, 0)) := by rw [hWA]; exact heap_alloc_new _ _
            have HH := Lib.hid (HHY.out y (List.mem_of_getElem? hy) S a9 n9 c9 WA (hxm.below hbA))
            obtain ⟨BB, hBB⟩ : ∃ B, holdX y S = B := ⟨_, rfl⟩
            rw [hBB] at HH hstep
            have HST := Lib.hid hstep
            obtain ⟨TJ, hTJ⟩ : ∃ T, trT YS S j = T := ⟨_, rfl⟩
            rw [hTJ] at HST ⊢
            have HBA := Lib.hid (Below.next hb hbA)
            obtain ⟨⟨z0, z1⟩, _⟩ := open2 gA
            rw [hWA] at z0 z1
            have hjn : j < 16 := by omega
            clear hstep hBB hTJ hxm hc4 hy hbA gA hb hrw
            go_wp2_with fail
            rw [← hWA]
            clear z0 z1 q0 q1 hWA
            with_reducible refine HH.out.mono ?_
            rintro e w12 ⟨rfl, b12⟩
            have HB12 := Lib.hid (Below.next HBA.out b12)
            clear b12 HH HBA
            cases BB
            · have hT2 := HST.out
              rw [if_neg (by simp)] at hT2
              have HT2 := Lib.hid hT2
              clear hT2 HST
              go_wp2_with fail
              go_roundw
              case rel => exact ⟨j + 1, by omega, by rw [HT2.out], by go_num, HB12.out⟩
              case measure => simp [intOf] <;> omega
            · have hT2 := HST.out
              rw [if_pos rfl] at hT2
              have HT2 := Lib.hid hT2
              clear hT2 HST
              go_wp2_with fail
              go_roundw
              case rel => exact ⟨j + 1, by omega, by rw [HT2.out], by go_num, HB12.out⟩
              case measure => simp [intOf] <;> omega
          · obtain rfl : j = k := by omega
            have HBQ := Lib.hid (Below.next HQ9.out hb)
            have HRQ := Lib.hid hrw
            have HBF := Lib.hid (Below.next HB9.out hb)
            have KS := Lib.hid (fun (u : World) (hu : Below wr.heap.size wr u) => And.intro (HK1.out u (Below.next HBQ.out hu)) (HKR.out u (Below.next HRQ.out hu)))
            have HC1 := Lib.hid (fun (u : World) (hu : Below wr.heap.size wr u) => HHZ.out a5 NY c5 u (HYA.out.below (Below.next HBQ.out hu)))
            have HC2 := Lib.hid (fun (u : World) (hu : Below wr.heap.size wr u) => HHX.out (trT YS S j) a2 N c2 u (HXR.out.below (Below.next HRQ.out hu)))
            rw [HTL2.out] at HC1
            obtain ⟨BB, hBB⟩ : ∃ B, holdX X (trT YS S j) = B := ⟨_, rfl⟩
            rw [hBB] at HC1 HC2
            obtain ⟨TJ, hTJ⟩ : ∃ T, trT YS S j = T := ⟨_, rfl⟩
            rw [hTJ] at HC2 ⊢
            clear hb hrw hBB hTJ HHZ
            go_upto_region 22 with fail
            refine wp_region_quiet (C := fun y => Below wr.heap.size wr y) (by kernel_rfl) (by kernel_rfl) (below_drew (Below.refl _ _)) ?_
            repeat (refine wpQuiet_step (fun K hK => ?_); go_simp; (first | (refine hK _ ?_; clear hK K) | (apply Exists.intro; refine ⟨fun y hy => ?_, hK _ ?_⟩; (first | with_reducible exact rfl | with_reducible exact ⟨rfl, hy⟩ | with_reducible exact ⟨rfl, rfl⟩ | ((with_reducible refine (HC1.out y hy).mono ?_); (rintro e w3 ⟨rfl, h3⟩; exact ⟨rfl, Below.next hy h3⟩)) | ((with_reducible refine (HC2.out y hy).mono ?_); (rintro e w3 ⟨rfl, h3⟩; exact ⟨rfl, Below.next hy h3⟩)) | (obtain ⟨⟨q1, q2⟩, q3, q4⟩ := KS.out y hy; go_simp; first | with_reducible exact rfl | with_reducible exact ⟨rfl, hy⟩ | with_reducible exact hy | exact rfl | exact ⟨rfl, hy⟩ | exact hy)); clear hK K)))
            refine wpQuiet_nil ?_
            intro wz hwz
            have HBZ := Lib.hid (Below.next HBF.out hwz)
            clear hwz
            go_wp2_with fail
            go_ret
            exact ⟨congrArg (fun b => Ending.returned (.bool b)) (by cases BB <;> rfl), HBZ.out⟩
      · have hne : (E != 0) = true := by simpa using hE
        have HS9 := Lib.hid (HSM.out a5 NY c5 a7 NY c7 w9 (HYA.out.below HQ9.out) (HYB.out.below HQ9.out))
        obtain ⟨k0, k1⟩ := HK1.out w9 HQ9.out
        obtain ⟨l0, l1⟩ := HK2.out w9 HQ9.out
        go_wp2_with fail
        clear k0 k1 l0 l1
        with_reducible refine HS9.out.mono ?_
        rintro e w10 ⟨rfl, b10⟩
        have HB10 := Lib.hid (Below.next HB9.out b10)
        clear b10
        go_wp2_with fail
        go_ret
        exact ⟨rfl, HB10.out⟩
end Go.Proofs.YtcojmmhclklpoaaGreatDoor
