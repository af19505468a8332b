/- Texts laid together. Layer 37: a run in memory; run.value. Maps as functions from keys: stores in a statement whose order is open; an entry that is made first and filled later. Over any program. Layer 37: what a promise and an acceptance do to a run in memory. Layer 37: run.add, a promise. Layer 37: run.add, an acceptance. -/
import Derived.Test.YtgfjmplifmbmlaaDoorGSingleRun3
import Derived.Test.YtgfjmplifmbmlaaDoorGSingleRun4
import Derived.Deep.RegionHeld3
import Derived.StillTailTactics
import Derived.Deep.QuietTactic
import Derived.BigQuiet
import Derived.WideKeyEntry
import Derived.Deep.AppendLies
namespace Go.Proofs.YtgfjmplifmbmlaaDoor
open Go.RowKit Go.Maps

def keyI (b : Int) : Lit := .int .i64 b
def valL (st : St) : Lit → Option Value
  | .int _ b => (st.vals b).map Value.string
  | _ => none
/-- a run in memory: the acceptors at block B, the two maps behind it, the run behind these -/
structure StM (w : World) (B m cnt : Nat) (sl : Value) (st : St) (f : Lit → Option Value) : Prop where
  acc : w.heap[B]? = some (.cells (st.acc.flatMap accC).toArray 96 (0, 0))
  len : st.acc.length = m
  run : w.heap[B + 3]? = some (.cells #[sl, .slice (some ⟨B, 0, none⟩) m m, .map (some (B + 1)), .map (some (B + 2))] 94 (0, 0))
  reps : FM w Tryd.prog 3 (B + 1) cnt f
  vals : FM w Tryd.prog 3 (B + 2) cnt (valL st)
  rows : ∀ b, match f (keyI b) with
    | none => st.rep b = []
    | some v => w.ownsRow (B + 4) 33 3 v (st.rep b).length ((st.rep b).flatMap repC)
  apart : ∀ b b' v v', b ≠ b' → f (keyI b) = some v → f (keyI b') = some v' → ∀ g, v.ownBlock = some g → v'.ownBlock ≠ some g
  srv : ∀ b r, r ∈ st.rep b → 0 ≤ r.server ∧ r.server < 12

theorem StM.below {w w' : World} {B m cnt : Nat} {sl : Value} {st : St} {f : Lit → Option Value} (h : StM w B m cnt sl st f) (hb : Below w.heap.size w w') : StM w' B m cnt sl st f := by
  refine ⟨heap_below hb h.acc, h.len, heap_below hb h.run, h.reps.below hb, h.vals.below hb, fun b => ?_, h.apart, h.srv⟩
  have := h.rows b
  split
  · rename_i e; rw [e] at this; exact this
  · rename_i v e; rw [e] at this; exact rowK_below this hb
theorem kI : Keyed Tryd.prog 3 := int_keyed Tryd.underlying3
theorem zStr (w : World) : (zeroValue 9).run Tryd.prog w = .ok (.string ⟨#[]⟩) w := by kernel_rfl
theorem zSl (w : World) : (zeroValue 23).run Tryd.prog w = .ok (.slice none 0 0) w := by kernel_rfl
theorem kOf {b : Int} (hw : (Lit.int .i64 b).wf = true) : keyOf Tryd.prog 3 (.int .i64 b) = some (keyI b) := keyOf_int_mk Tryd.underlying3 hw
theorem StM.valLook {w : World} {B m cnt : Nat} {sl : Value} {st : St} {f : Lit → Option Value} (h : StM w B m cnt sl st f) {b : Int} (hw : (Lit.int .i64 b).wf = true) :
    (Instr.lookup 92 (.map (some (B + 2))) (.int .i64 b) true).run Tryd.prog w = .ok (.tuple #[((st.vals b).map Value.string).getD (.string ⟨#[]⟩), .bool (st.vals b).isSome]) w := by
  have := h.vals.look true kI Tryd.underlying92 (zStr w) (kOf hw)
  rw [this]
  unfold valL keyI
  simp
theorem fm_repLook {w : World} {B cnt : Nat} {f : Lit → Option Value} (h : FM w Tryd.prog 3 (B + 1) cnt f) {b : Int} (hw : (Lit.int .i64 b).wf = true) :
    (Instr.lookup 91 (.map (some (B + 1))) (.int .i64 b) false).run Tryd.prog w = .ok ((f (keyI b)).getD (.slice none 0 0)) w := by
  have := h.look false kI Tryd.underlying91 (zSl w) (kOf hw)
  rw [this]; rfl
/-- the reports of a ballot, read -/
theorem StM.repRd {w : World} {B m cnt : Nat} {sl : Value} {st : St} {f : Lit → Option Value} (h : StM w B m cnt sl st f) (b : Int) : ∃ a c, (f (keyI b)).getD (.slice none 0 0) = .slice a (st.rep b).length c ∧ RdK 3 w a (st.rep b).length c ((st.rep b).flatMap repC) := by
  have := h.rows b
  cases hf : f (keyI b) with
  | none => rw [hf] at this; have e : st.rep b = [] := this; rw [e]; exact ⟨none, 0, rfl, RdK.none_ _ _⟩
  | some v =>
    rw [hf] at this
    obtain ⟨a, c, rfl, hr⟩ := rdK_of_row this
    exact ⟨a, c, rfl, hr⟩
theorem open4 {w : World} {B : Nat} {x y z u : Value} {t : TypeId} (h : w.heap[B]? = some (.cells #[x, y, z, u] t (0, 0))) :
    w.cell? ⟨B, 0, none⟩ = some x ∧ w.cell? ⟨B, 1, none⟩ = some y ∧ w.cell? ⟨B, 2, none⟩ = some z ∧ w.cell? ⟨B, 3, none⟩ = some u :=
  ⟨cell_of_row _ _ 0 _ _ _ h, cell_of_row _ _ 1 _ _ _ h, cell_of_row _ _ 2 _ _ _ h, cell_of_row _ _ 3 _ _ _ h⟩

theorem Rd.drew {w : World} {a : Option Addr} {n c : Nat} {l : List Value} (h : Rd w a n c l) : Rd w.drew a n c l := ⟨h.len, h.le, h.max, h.nil, h.at'⟩
theorem blA (w : World) (o : Obj) : Below w.heap.size w (w.alloc o) := (Below.refl _ w).alloc (Nat.le_refl _) _
theorem fmA {w : World} {P : Program} {k : TypeId} {b n : Nat} {f : Lit → Option Value} {o : Obj} (h : FM w P k b n f) : FM (w.alloc o).drew P k b n f := (h.below (blA w o)).at rfl
theorem fmA1 {w : World} {P : Program} {k : TypeId} {b n : Nat} {f : Lit → Option Value} {o : Obj} (h : FM w P k b n f) : FM (w.alloc o) P k b n f := h.below (blA w o)
theorem fmS3 {w : World} {P : Program} {k : TypeId} {b n B' : Nat} {f : Lit → Option Value} {x y z : Value} (h : FM w P k b n f) (hne : b ≠ B') : FM (((w.setCell ⟨B', 0, none⟩ x).setCell ⟨B', 1, none⟩ y).setCell ⟨B', 2, none⟩ z) P k b n f :=
  h.at (by rw [Below.heap_setCell _ _ _ _ hne, Below.heap_setCell _ _ _ _ hne, Below.heap_setCell _ _ _ _ hne])
theorem RdK.drew {k : Nat} {w : World} {a : Option Addr} {n c : Nat} {l : List Value} (h : RdK k w a n c l) : RdK k w.drew a n c l := ⟨h.len, h.le, h.max, h.nil, h.at'⟩

set_option maxRecDepth 100000 in
set_option maxHeartbeats 2000000 in
theorem value_c (read : List (BitVec 16)) (a : Option Addr) (n c : Nat) (B m cnt : Nat) (st : St) (f : Lit → Option Value) (b : Int) (hw : (Lit.int .i64 b).wf = true) (w : World) (hr : Rd w a n c (read.map setV2)) (h : StM w B m cnt (.slice a n c) st f) :
    Calls Tryd.prog 59 #[.pointer (some ⟨B + 3, 0, none⟩), .int .i64 b] w fun e w' => e = .returned (.tuple #[.string (valP read st b).1, .bool (valP read st b).2.1, .bool (valP read st b).2.2]) ∧ Below w.heap.size w w' := by
  obtain ⟨h0, h1, h2, h3⟩ := open4 h.run
  have hl := h.valLook hw
  cases hv : st.vals b with
  | some v =>
    have hE : valP read st b = (v, false, true) := by unfold valP; rw [hv]
    rw [hE]
    rw [hv] at hl
    simp only [Option.map_some, Option.getD_some, Option.isSome_some] at hl
    clear hE hv h hr hw
    go_enter Tryd.func59, Tryd.ntmps59
    go_wp2_with fail
    go_ret3
    exact ⟨rfl, Below.refl _ _⟩
  | none =>
    have hE : valP read st b = ((bestR (st.rep b)).2, (bestR (st.rep b)).1 == 0, accS read (seenR (st.rep b))) := by unfold valP; rw [hv]
    rw [hE]
    rw [hv] at hl
    simp only [Option.map_none, Option.getD_none, Option.isSome_none] at hl
    obtain ⟨ar, cr, hrv, hrr⟩ := h.repRd b
    have hl2 := fm_repLook h.reps hw
    rw [hrv] at hl2
    have HP := Lib.hid (fun w h1 h2 => pick_c read (st.rep b) a n c ar (st.rep b).length cr w h1 h2 (fun r hr => h.srv b r hr))
    obtain ⟨⟨bb, bv⟩, hbb⟩ : ∃ p, bestR (st.rep b) = p := ⟨_, rfl⟩
    obtain ⟨ac, hac⟩ : ∃ p, accS read (seenR (st.rep b)) = p := ⟨_, rfl⟩
    rw [hbb, hac] at HP ⊢
    obtain ⟨L, hL⟩ : ∃ L, (st.rep b).flatMap repC = L := ⟨_, rfl⟩
    obtain ⟨nl, hnl⟩ : ∃ L, (st.rep b).length = L := ⟨_, rfl⟩
    rw [hL] at HP hrr
    rw [hnl] at HP hrr hl2
    have HP2 : Hid (∀ x : World, Below w.heap.size w x → Calls Tryd.prog 32 #[.slice a n c, .slice ar nl cr] x fun e w3 => ∃ sv : Int, e = .returned (.tuple #[.agg #[.int .i64 sv, .int .i64 bb, .string bv], .bool ac]) ∧ Below w.heap.size w w3 ∧ ∀ ob, x.heap[w.heap.size]? = some ob → w3.heap[w.heap.size]? = some ob) := Lib.hid (fun x hx => (HP.out x (hr.below hx) (hrr.below hx)).mono fun e w3 ⟨sv, h1, h2⟩ => ⟨sv, h1, Below.next hx h2, fun ob ho => heap_below h2 ho⟩)
    have KS : Hid (∀ x : World, Below w.heap.size w x → x.cell? ⟨B + 3, 0, none⟩ = some (.slice a n c) ∧ x.cell? ⟨B + 3, 2, none⟩ = some (.map (some (B + 1))) ∧ (Instr.lookup 91 (.map (some (B + 1))) (.int .i64 b) false).run Tryd.prog x = .ok (.slice ar nl cr) x) := Lib.hid (fun x hx => ⟨(hx.cell (p := ⟨B + 3, 0, none⟩) (cell_lt h0)).trans h0, (hx.cell (p := ⟨B + 3, 2, none⟩) (cell_lt h2)).trans h2, by rw [fm_repLook (h.reps.below hx) hw, hrv, hnl]⟩)
    clear HP hE hv h hr hrr hrv hbb hac hL hnl hw
    go_enter Tryd.func59, Tryd.ntmps59
    go_wp2_with fail
    go_region_held3 (fun w' => w'.cell? ⟨B + 3, 0, none⟩ = some (.slice a n c) ∧ w'.cell? ⟨B + 3, 2, none⟩ = some (.map (some (B + 1))) ∧ (Instr.lookup 91 (.map (some (B + 1))) (.int .i64 b) false).run Tryd.prog w' = .ok (.slice ar nl cr) w')
      (exact KS.out _ (by (repeat (first | with_reducible exact Below.refl _ _ | with_reducible exact hb3 | with_reducible refine below_drew ?_ | with_reducible refine Below.alloc ?_ ?_ _ | with_reducible refine Below.setCell ?_ ?_ _ | exact Nat.le_refl _ | exact hb3.size))))
      ((go_at_call 32; (refine (HP2.out _ (by (first | with_reducible exact below_drew (Below.refl _ _) | with_reducible exact below_drew (blA _ _)))).mono ?_); (rintro e w3 ⟨sv, rfl, hb3, hx⟩; first | (have hx2 := hx _ (heap_alloc_new w _); obtain ⟨⟨x0, x1, x2⟩, g0, g1, g2⟩ := open3 hx2; clear hx) | (clear hx))))
    all_goals
      go_wp2_with fail
      go_quiet (fail)
      go_wp2_with fail
      go_ret3
      exact ⟨rfl, below_drewN (by first | exact hb3.alloc hb3.size _ | exact ((hb3.setCell (Nat.le_refl _) _).setCell (Nat.le_refl _) _).setCell (Nat.le_refl _) _)⟩
end Go.Proofs.YtgfjmplifmbmlaaDoor
namespace Go.Proofs.YtgfjmplifmbmlaaDoor
open Go.RowKit Go.Maps Go.WideElems Go.ChangeMaps Go.MapKept

theorem step_put_fm {P : Program} {w : World} {ops : Array Oper} {o : Oper} {a : Act} {K' : Act → World → Prop} {Q : Exit → Act → World → Prop} {E : Prop} {dec : Decidable (Region.wanted o (yielded ops a.tmps) = true)} (hg : o.guard = none) (m x v : Operand) (t : TypeId) (hop : o.op = Op.mapUpdate t m x v)
    (k e : TypeId) (K : Keyed P k) (ht : P.underlying t = some (.map k e)) (b n : Nat) (f : Lit → Option Value)
    (hm : a.eval m = .map (some b)) (h : FM w P k b n f) (hn : n < maxLen) (key val : Value) (kl : Lit) (hx : a.eval x = key) (hv : a.eval v = val) (hkey : keyOf P k key = some kl)
    (hK : ∀ w', FM w' P k b (n + 1) (updF f kl val) → w.grownBy w' (some b) → w'.heap.size = w.heap.size → K' (a.put o.dst undef) w') :
    @ite Prop (Region.wanted o (yielded ops a.tmps) = true) dec (Oper.wp P o a w K' Q) E := by
  have hw : Region.wanted o (yielded ops a.tmps) = true := by simp [Region.wanted, hg]
  rw [if_pos hw]
  obtain ⟨D, ⟨es, clock, hb, F, hs, rfl⟩, hf⟩ := h
  obtain ⟨es', clock', hrun, F', hput, _⟩ := Maps.fit_store (R' := heldR) K ht hb F (Nat.lt_of_le_of_lt hs hn) (fun _ _ _ _ hz => hz) hkey (yv := (.held val, [])) rfl
  have ho : w.ownsMap P k heldR b n (.map ((es.toList.map (rg P k heldR)).foldr DataW.insert [])) := ⟨es, clock, hb, F, hs, rfl⟩
  obtain ⟨w', hrun2, r1, r2⟩ := ho.update K ht hn (val := val) hkey (d := .held val) (ps := []) rfl
  have e : w' = setBlock w b (.map es' clock') := by rw [hrun] at hrun2; injection hrun2 with _ h2; exact h2.symm
  unfold Oper.wp
  simp [execOp, hop, hm, hx, hv, hrun2, Result.andThen]
  exact hK w' (FM.putD K ho hf hkey r1) r2 (by rw [e]; simp [setBlock])

theorem FM.put {P : Program} {w : World} {t k e : TypeId} {b n : Nat} {f : Lit → Option Value} (h : FM w P k b n f) (K : Keyed P k) (ht : P.underlying t = some (.map k e)) (hn : n < maxLen) {key : Value} {kl : Lit} (hkey : keyOf P k key = some kl) (val : Value) :
    ∃ w', (Instr.mapUpdate t (.map (some b)) key val).run P w = .ok () w' ∧ FM w' P k b (n + 1) (updF f kl val) ∧ w.grownBy w' (some b) ∧ w'.heap.size = w.heap.size := by
  obtain ⟨D, ⟨es, clock, hb, F, hs, rfl⟩, hf⟩ := h
  obtain ⟨es', clock', hrun, F', hput, _⟩ := Maps.fit_store (R' := heldR) K ht hb F (Nat.lt_of_le_of_lt hs hn) (fun _ _ _ _ hz => hz) hkey (yv := (.held val, [])) rfl
  have ho : w.ownsMap P k heldR b n (.map ((es.toList.map (rg P k heldR)).foldr DataW.insert [])) := ⟨es, clock, hb, F, hs, rfl⟩
  obtain ⟨w', hrun2, r1, r2⟩ := ho.update K ht hn (val := val) hkey (d := .held val) (ps := []) rfl
  have e : w' = setBlock w b (.map es' clock') := by rw [hrun] at hrun2; injection hrun2 with _ h2; exact h2.symm
  exact ⟨w', hrun2, FM.putD K ho hf hkey r1, r2, by rw [e]; simp [setBlock]⟩

theorem entry_store {P : Program} {w : World} {t k e : TypeId} {R : Value → Option (DataW Value × List MemPlace)} {b : Nat} {es : Array MapEntry} {clock : Nat} (K : Keyed P k) (ht : P.underlying t = some (.map k e)) {z : Value} (hz : ∀ u : World, (zeroValue e).run P u = .ok z u) (hb : w.heap[b]? = some (.map es clock)) (F : Fit P k R es clock)
    {key : Value} {kl : Lit} (hkey : keyOf P k key = some kl) :
    ∃ (v0 : Value) (st : Nat) (es1 : Array MapEntry) (clock1 : Nat), (Instr.mapEntry t (.map (some b)) key).run P w = .ok (.tuple #[v0, goInt st]) (setBlock w b (.map es1 clock1)) ∧
      ∀ (w2 : World) (val : Value), w2.heap[b]? = some (.map es1 clock1) → ∃ es' clock', (Instr.entryStore t (.map (some b)) (goInt st) val).run P w2 = .ok () (setBlock w2 b (.map es' clock')) ∧
        (Instr.mapUpdate t (.map (some b)) key val).run P w = .ok () (setBlock w b (.map es' clock')) := by
  obtain ⟨s1, s2, _⟩ := F.stamped
  rcases K.find w hkey es.toList F.keys with ⟨h1, h2⟩ | ⟨j, e0, h1, h2, h3⟩
  · refine ⟨z, clock, es.push ⟨key, z, clock⟩, clock + 1, ?_, fun w2 val hw2 => ⟨es.push ⟨key, val, clock⟩, clock + 1, ?_, ?_⟩⟩
    · simp [Instr.mapEntry, run_underlying ht, MapKept.run_getObj_map hb, K.check w false hkey, h1, hz, MapKept.run_setObj_map _ hb, Result.andThen, setBlock]
    · have hidx : (es.push ⟨key, z, clock⟩).findIdx? (fun e => ((e.born : Nat) : Int) == ((clock : Nat) : Int)) = some es.size := by
        rw [findIdx_arr]
        exact findIdx_born (l := (es.push ⟨key, z, clock⟩).toList) (j := es.size) (e0 := ⟨key, z, clock⟩) (by
          simp only [Array.toList_push, List.map_append, List.map_cons, List.map_nil]
          refine List.nodup_append.2 ⟨s2, by simp, fun a ha c hc e1 => ?_⟩
          simp only [List.mem_singleton] at hc
          obtain ⟨x, hx, rfl⟩ := List.mem_map.1 ha
          have := s1 x hx
          omega) (by simp)
      have hmod : (es.push ⟨key, z, clock⟩).modify es.size (fun e => { e with val := val }) = es.push ⟨key, val, clock⟩ := by
        apply Array.ext'
        rw [Array.toList_modify, Array.toList_push, Array.toList_push, ← Array.length_toList, modify_last]
      simp [Instr.entryStore, MapKept.run_getObj_map hw2, asInt, asIntOf, goInt, hidx, hmod, MapKept.run_setObj_map _ hw2, Result.andThen, setBlock]
    · simp [Instr.mapUpdate, run_underlying ht, MapKept.run_getObj_map hb, K.check w false hkey, h1, MapKept.run_setObj_map _ hb, Result.andThen, setBlock]
  · have hj : es[j]? = some e0 := by simpa using h2
    have hsame : es.modify j (fun e => { e with key := key }) = es := by
      apply Array.ext'
      rw [Array.toList_modify, modify_eq_set _ _ _ _ h2]
      have : ({ e0 with key := key } : MapEntry) = e0 := by rw [← h3]
      rw [this]
      exact set_self _ _ _ h2
    refine ⟨e0.val, e0.born, es, clock, ?_, fun w2 val hw2 => ⟨es.modify j (fun e' => { e' with key := key, val := val }), clock, ?_, ?_⟩⟩
    · simp [Instr.mapEntry, run_underlying ht, MapKept.run_getObj_map hb, K.check w false hkey, h1, hj, h3, K.stays w hkey, hsame, MapKept.run_setObj_map _ hb, Result.andThen, setBlock]
    · have hidx : es.findIdx? (fun e => ((e.born : Nat) : Int) == ((e0.born : Nat) : Int)) = some j := by
        rw [findIdx_arr]
        exact findIdx_born s2 h2
      have hmod : es.modify j (fun e => { e with val := val }) = es.modify j (fun e' => { e' with key := key, val := val }) := by
        apply Array.ext'
        rw [Array.toList_modify, Array.toList_modify, modify_eq_set _ _ _ _ h2, modify_eq_set _ _ _ _ h2, ← h3]
      simp [Instr.entryStore, MapKept.run_getObj_map hw2, asInt, asIntOf, goInt, hidx, hmod, MapKept.run_setObj_map _ hw2, Result.andThen, setBlock]
    · simp [Instr.mapUpdate, run_underlying ht, MapKept.run_getObj_map hb, K.check w false hkey, h1, hj, h3, K.stays w hkey, MapKept.run_setObj_map _ hb, Result.andThen, setBlock]

/-- an entry stands ready to be filled -/
def Ent (w : World) (P : Program) (k t : TypeId) (b n : Nat) (f : Lit → Option Value) (kl : Lit) (st : Nat) : Prop :=
  ∃ es1 clock1, w.heap[b]? = some (.map es1 clock1) ∧ ∀ (w2 : World) (val : Value), w2.heap[b]? = some (.map es1 clock1) → ∃ w3, (Instr.entryStore t (.map (some b)) (goInt st) val).run P w2 = .ok () w3 ∧ FM w3 P k b n (updF f kl val) ∧ w2.grownBy w3 (some b) ∧ w3.heap.size = w2.heap.size
theorem Ent.at {w w' : World} {P : Program} {k t : TypeId} {b n st : Nat} {f : Lit → Option Value} {kl : Lit} (h : Ent w P k t b n f kl st) (hb : w'.heap[b]? = w.heap[b]?) : Ent w' P k t b n f kl st := by
  obtain ⟨es, clock, h1, h2⟩ := h; exact ⟨es, clock, hb.trans h1, h2⟩
theorem setBlock_grown {w : World} {b : Nat} {es : Array MapEntry} {clock : Nat} {o' : Obj} (h : w.heap[b]? = some (.map es clock)) : w.grownBy (setBlock w b o') (some b) :=
  ⟨rfl, rfl, rfl, by simp [setBlock], fun i _ hi => heap_setBlock_other h _ (fun e => hi (by rw [e]))⟩
theorem FM.entry {P : Program} {w : World} {t k e : TypeId} {b n : Nat} {f : Lit → Option Value} (h : FM w P k b n f) (K : Keyed P k) (ht : P.underlying t = some (.map k e)) {z : Value} (hz : ∀ u : World, (zeroValue e).run P u = .ok z u) (hn : n < maxLen) {key : Value} {kl : Lit} (hkey : keyOf P k key = some kl) :
    ∃ (v0 : Value) (st : Nat) (w1 : World), (Instr.mapEntry t (.map (some b)) key).run P w = .ok (.tuple #[v0, goInt st]) w1 ∧ Ent w1 P k t b (n + 1) f kl st ∧ w.grownBy w1 (some b) ∧ w1.heap.size = w.heap.size := by
  obtain ⟨D, ho, hf⟩ := h
  have ho' := ho
  obtain ⟨es, clock, hb, F, hs, rfl⟩ := ho'
  obtain ⟨v0, st, es1, clock1, h1, h2⟩ := entry_store K ht hz hb F hkey
  refine ⟨v0, st, _, h1, ⟨es1, clock1, heap_setBlock_same hb _, fun w2 val hw2 => ?_⟩, setBlock_grown hb, by simp [setBlock]⟩
  obtain ⟨es', clock', h3, h4⟩ := h2 w2 val hw2
  obtain ⟨w', hrun2, r1, r2⟩ := ho.update K ht hn (val := val) hkey (d := .held val) (ps := []) rfl
  have e : w' = setBlock w b (.map es' clock') := by rw [h4] at hrun2; injection hrun2 with _ h2; exact h2.symm
  refine ⟨_, h3, (FM.putD K ho hf hkey r1).at ?_, setBlock_grown hw2, by simp [setBlock]⟩
  rw [e, heap_setBlock_same hb, heap_setBlock_same hw2]
theorem step_entry_fm {P : Program} {w : World} {ops : Array Oper} {o : Oper} {a : Act} {K' : Act → World → Prop} {Q : Exit → Act → World → Prop} {E : Prop} {dec : Decidable (Region.wanted o (yielded ops a.tmps) = true)} (hg : o.guard = none) (m x : Operand) (t : TypeId) (hop : o.op = Op.mapEntry t m x)
    (k e : TypeId) (K : Keyed P k) (ht : P.underlying t = some (.map k e)) (b n : Nat) (f : Lit → Option Value) (z : Value) (hz : ∀ u : World, (zeroValue e).run P u = .ok z u)
    (hm : a.eval m = .map (some b)) (h : FM w P k b n f) (hn : n < maxLen) (key : Value) (kl : Lit) (hx : a.eval x = key) (hkey : keyOf P k key = some kl)
    (hK : ∀ v0 st w', Ent w' P k t b (n + 1) f kl st → w.grownBy w' (some b) → w'.heap.size = w.heap.size → K' (a.put o.dst (.tuple #[v0, .int .i64 (st : Nat)])) w') :
    @ite Prop (Region.wanted o (yielded ops a.tmps) = true) dec (Oper.wp P o a w K' Q) E := by
  have hw : Region.wanted o (yielded ops a.tmps) = true := by simp [Region.wanted, hg]
  rw [if_pos hw]
  obtain ⟨v0, st, w1, h1, h2, h3, h4⟩ := h.entry K ht hz hn hkey
  unfold Oper.wp
  simp [execOp, hop, hm, hx, h1, Result.andThen]
  exact hK v0 st w1 h2 h3 h4
theorem step_estore_fm {P : Program} {w : World} {ops : Array Oper} {o : Oper} {a : Act} {K' : Act → World → Prop} {Q : Exit → Act → World → Prop} {E : Prop} {dec : Decidable (Region.wanted o (yielded ops a.tmps) = true)} (hg : o.guard = none) (m s v : Operand) (t : TypeId) (hop : o.op = Op.entryStore t m s v)
    (k : TypeId) (b n st : Nat) (f : Lit → Option Value) (kl : Lit) (hm : a.eval m = .map (some b)) (h : Ent w P k t b n f kl st) (hs : a.eval s = .int .i64 (st : Nat)) (val : Value) (hv : a.eval v = val)
    (hK : ∀ w', FM w' P k b n (updF f kl val) → w.grownBy w' (some b) → w'.heap.size = w.heap.size → K' (a.put o.dst undef) w') :
    @ite Prop (Region.wanted o (yielded ops a.tmps) = true) dec (Oper.wp P o a w K' Q) E := by
  have hw : Region.wanted o (yielded ops a.tmps) = true := by simp [Region.wanted, hg]
  rw [if_pos hw]
  obtain ⟨es1, clock1, hb, h2⟩ := h
  obtain ⟨w3, h3, h4, h5, h6⟩ := h2 w val hb
  have h3' : (Instr.entryStore t (.map (some b)) (.int .i64 (st : Nat)) val).run P w = .ok () w3 := h3
  unfold Oper.wp
  simp [execOp, hop, hm, hs, hv, h3', Result.andThen]
  exact hK w3 h4 h5 h6
theorem upon_entry_fm {P : Program} {w : World} {o : Oper} {a : Act} {K' : Act → World → Prop} {Q : Exit → Act → World → Prop} (t k e : TypeId) (K : Keyed P k) (ht : P.underlying t = some (.map k e)) (b n : Nat) (f : Lit → Option Value) (z : Value) (hz : ∀ u : World, (zeroValue e).run P u = .ok z u)
    (h : FM w P k b n f) (hn : n < maxLen) (key : Value) (kl : Lit) (hkey : keyOf P k key = some kl)
    (hK : ∀ v0 st w', Ent w' P k t b (n + 1) f kl st → w.grownBy w' (some b) → w'.heap.size = w.heap.size → K' (a.put o.dst (.tuple #[v0, .int .i64 (st : Nat)])) w') :
    Oper.upon P o a K' Q ((Sem.run P (Instr.mapEntry t (.map (some b)) key) w).andThen fun a w' => Result.ok (Next.value a) w') := by
  obtain ⟨v0, st, w1, h1, h2, h3, h4⟩ := h.entry K ht hz hn hkey
  rw [h1]
  exact hK v0 st w1 h2 h3 h4
theorem upon_estore_fm {P : Program} {w : World} {o : Oper} {a : Act} {K' : Act → World → Prop} {Q : Exit → Act → World → Prop} (t k : TypeId) (b n st : Nat) (f : Lit → Option Value) (kl : Lit) (h : Ent w P k t b n f kl st) (val : Value)
    (hK : ∀ w', FM w' P k b n (updF f kl val) → w.grownBy w' (some b) → w'.heap.size = w.heap.size → K' (a.put o.dst undef) w') :
    Oper.upon P o a K' Q ((Sem.run P (Instr.entryStore t (.map (some b)) (.int .i64 (st : Nat)) val) w).andThen fun _ w' => Result.ok Next.skip w') := by
  obtain ⟨es1, clock1, hb, h2⟩ := h
  obtain ⟨w3, h3, h4, h5, h6⟩ := h2 w val hb
  have h3' : (Instr.entryStore t (.map (some b)) (.int .i64 (st : Nat)) val).run P w = .ok () w3 := h3
  rw [h3']
  exact hK w3 h4 h5 h6
end Go.Proofs.YtgfjmplifmbmlaaDoor
namespace Go.Proofs.YtgfjmplifmbmlaaDoor
open Go.RowKit Go.Maps

/-- what a lookup in the map behind block B gives -/
noncomputable def lkW (B : Nat) (b : Int) (w : World) : Value := match (Instr.lookup 91 (.map (some (B + 1))) (.int .i64 b) false).run Tryd.prog w with
  | .ok v _ => v
  | _ => undef
theorem lkW_eq {w : World} {B n : Nat} {f : Lit → Option Value} (h : FM w Tryd.prog 3 (B + 1) n f) {b : Int} (hw : (Lit.int .i64 b).wf = true) : lkW B b w = (f (keyI b)).getD (.slice none 0 0) := by
  unfold lkW; rw [fm_repLook h hw]
theorem lkW_run {w : World} {B n : Nat} {f : Lit → Option Value} (h : FM w Tryd.prog 3 (B + 1) n f) {b : Int} (hw : (Lit.int .i64 b).wf = true) :
    (Instr.lookup 91 (.map (some (B + 1))) (.int .i64 b) false).run Tryd.prog w = .ok (lkW B b w) w := by
  rw [lkW_eq h hw]; exact fm_repLook h hw
theorem set3 (x0 x1 x2 : Value) (a' : Acc) (ha : accC a' = [x0, x1, x2]) : ∀ (l : List Acc) (s : Nat), s < l.length → ((((l.flatMap accC).set (s * 3) x0).set (s * 3 + 1) x1).set (s * 3 + 2) x2) = (l.set s a').flatMap accC := by
  intro l
  induction l with
  | nil => intro s hs; simp at hs
  | cons y l ih =>
    intro s hs
    cases s with
    | zero =>
      have h := ha
      simp only [accC, List.cons.injEq, and_true] at h
      obtain ⟨rfl, rfl, rfl⟩ := h
      simp [List.flatMap_cons, accC]
    | succ s =>
      have := ih s (by simpa using hs)
      rw [List.flatMap_cons, List.set_cons_succ, List.flatMap_cons, ← this]
      have e : (s + 1) * 3 = (accC y).length + s * 3 := by rw [accC_len]; omega
      rw [e, Nat.add_assoc, Nat.add_assoc, List.set_append_right _ _ (by omega), List.set_append_right _ _ (by omega), List.set_append_right _ _ (by omega)]
      simp [Nat.add_sub_cancel_left]
theorem set3A (x0 x1 x2 : Value) (a' : Acc) (ha : accC a' = [x0, x1, x2]) (l : List Acc) (s : Nat) (hs : s < l.length) : ((((l.flatMap accC).toArray.setIfInBounds (s * 3) x0).setIfInBounds (s * 3 + 1) x1).setIfInBounds (s * 3 + 2) x2) = ((l.set s a').flatMap accC).toArray := by
  rw [← set3 x0 x1 x2 a' ha l s hs]
  simp
theorem rowK_at {k : Nat} {w w' : World} {B n : Nat} {e : TypeId} {v : Value} {l : List Value} (h : w.ownsRow B e k v n l) (hb : ∀ g, v.ownBlock = some g → w'.heap[g]? = w.heap[g]?) : w'.ownsRow B e k v n l := by
  obtain ⟨h1, h2⟩ := h
  refine ⟨h1, ?_⟩
  rcases h2 with h2 | ⟨g, cap, cur, hv, hb', hg, r⟩
  · exact .inl h2
  · exact .inr ⟨g, cap, cur, hv, hb', by rw [hb g (by rw [hv]; rfl)]; exact hg, r⟩
theorem keyI_ne {b b' : Int} (h : b' ≠ b) : (keyI b').sameKey (keyI b) = false := sameKey_ne (fun e => h (by unfold keyI at e; injection e))
theorem updF_same {f : Lit → Option Value} {b : Int} {v : Value} (hw : (Lit.int .i64 b).wf = true) : updF f (keyI b) v (keyI b) = some v := by
  unfold updF; rw [if_pos (WideAt.sameKey_self (kI.key (kOf hw)))]
theorem updF_other {f : Lit → Option Value} {b b' : Int} {v : Value} (h : b' ≠ b) : updF f (keyI b) v (keyI b') = f (keyI b') := by
  unfold updF; rw [if_neg (by rw [keyI_ne h]; decide)]
/-- the own block of a ballot's reports -/
theorem StM.rowLt {w : World} {B m cnt : Nat} {sl : Value} {st : St} {f : Lit → Option Value} (h : StM w B m cnt sl st f) {b : Int} {v : Value} (hf : f (keyI b) = some v) {g : Nat} (hg : v.ownBlock = some g) : B + 4 ≤ g ∧ g < w.heap.size := by
  have := h.rows b
  rw [hf] at this
  exact World.ownsRow.lt this g hg
theorem StM.rowRd {w : World} {B m cnt : Nat} {sl : Value} {st : St} {f : Lit → Option Value} (h : StM w B m cnt sl st f) (b : Int) : ∃ a c, (f (keyI b)).getD (.slice none 0 0) = .slice a (st.rep b).length c ∧ w.ownsRow (B + 4) 33 3 (.slice a (st.rep b).length c) (st.rep b).length ((st.rep b).flatMap repC) ∧ ∀ g, (Value.slice a (st.rep b).length c).ownBlock = some g → B + 4 ≤ g ∧ g < w.heap.size := by
  have := h.rows b
  cases hf : f (keyI b) with
  | none =>
    rw [hf] at this
    have e : st.rep b = [] := this
    rw [e]
    exact ⟨none, 0, rfl, World.ownsRow_nil _ _ _ _, fun g hg => by simp [Value.ownBlock] at hg⟩
  | some v =>
    rw [hf] at this
    have h2 : w.ownsRow (B + 4) 33 3 v (st.rep b).length ((st.rep b).flatMap repC) := this
    obtain ⟨a, c, rfl, _⟩ := rdK_of_row h2
    exact ⟨a, c, rfl, h2, fun g hg => World.ownsRow.lt h2 g hg⟩
theorem valL_upd {st : St} {b : Int} {x : ByteArray} {acc : List Acc} {rep : Int → List Rep} (hw : (Lit.int .i64 b).wf = true) : ∀ y : Int, valL ⟨acc, rep, setF st.vals b (some x)⟩ (keyI y) = updF (valL st) (keyI b) (.string x) (keyI y) := by
  intro y
  by_cases h : y = b
  · subst h; rw [updF_same hw]; unfold valL keyI setF; simp
  · rw [updF_other h]; unfold valL keyI setF; simp [h]
theorem FM.congr {w : World} {b n : Nat} {f f' : Lit → Option Value} (h : FM w Tryd.prog 3 b n f) (he : ∀ y, f (keyI y) = f' (keyI y)) : FM w Tryd.prog 3 b n f' := by
  obtain ⟨D, h1, h2⟩ := h
  refine ⟨D, h1, fun key kl hk z => ?_⟩
  obtain ⟨x, rfl, rfl, _⟩ := Maps.keyOf_int_inv Tryd.underlying3 hk
  rw [h2 _ _ hk]
  have := he x
  unfold keyI at this
  rw [this]

/-- what an event of a run leaves as it was: blocks that are neither the run's three nor a row's; and whose the rows are behind it -/
structure Frm (B : Nat) (f f' : Lit → Option Value) (w w' : World) : Prop where
  keep : ∀ k, k < w.heap.size → k ≠ B → k ≠ B + 1 → k ≠ B + 2 → (∀ (b : Int) v, f (keyI b) = some v → v.ownBlock ≠ some k) → w'.heap[k]? = w.heap[k]?
  own : ∀ (b : Int) v', f' (keyI b) = some v' → ∀ g, v'.ownBlock = some g → w.heap.size ≤ g ∨ ∃ (b0 : Int) (v : Value), f (keyI b0) = some v ∧ v.ownBlock = some g
theorem Frm.pre {B : Nat} {f f' : Lit → Option Value} {w W1 w2 : World} (hb : Below w.heap.size w W1) (h : Frm B f f' W1 w2) : Frm B f f' w w2 :=
  ⟨fun k h1 h2 h3 h4 h5 => (h.keep k (by have := hb.size; omega) h2 h3 h4 h5).trans (hb.block k h1), fun b v hv g hg => (h.own b v hv g hg).imp (fun h9 => by have := hb.size; omega) id⟩

theorem add1_fin {B m cnt : Nat} {sl : Value} {st : St} {f : Lit → Option Value} {s : Nat} {b p q : Int} {v : ByteArray} (hs : s < m) (hm : m ≤ 12) (hw : (Lit.int .i64 b).wf = true) (hacc : atS st.acc s = ⟨p, q, v⟩)
    {W1 X wA wB : World} (h : StM W1 B m cnt sl st f) (hX : Below W1.heap.size W1 X) {gg cap : Nat} {hlt : gg < wA.heap.size}
    (hown : wA.ownsRow (B + 4) 33 3 (.slice (some ⟨gg, 0, none⟩) ((st.rep b).length + 1) cap) ((st.rep b).length + 1) ((st.rep b).flatMap repC ++ [.int .i64 s, .int .i64 q, .string v]))
    (hgA : X.grownBy wA ((f (keyI b)).getD (.slice none 0 0)).ownBlock) (hat : ((f (keyI b)).getD (.slice none 0 0)).ownBlock = some gg ∨ W1.heap.size ≤ gg)
    (hfm : FM wB Tryd.prog 3 (B + 1) (cnt + 1) (updF f (keyI b) (.slice (some ⟨gg, 0, none⟩) ((st.rep b).length + 1) cap))) (hgB : wA.grownBy wB (some (B + 1))) :
    StM (((wB.setCell ⟨B, s * 3, none⟩ (.int .i64 b)).setCell ⟨B, s * 3 + 1, none⟩ (.int .i64 q)).setCell ⟨B, s * 3 + 2, none⟩ (.string v)) B m (cnt + 1) sl (addP1 st ⟨1, s, b, ⟨#[]⟩⟩) (updF f (keyI b) (.slice (some ⟨gg, 0, none⟩) ((st.rep b).length + 1) cap)) ∧ Below B W1 (((wB.setCell ⟨B, s * 3, none⟩ (.int .i64 b)).setCell ⟨B, s * 3 + 1, none⟩ (.int .i64 q)).setCell ⟨B, s * 3 + 2, none⟩ (.string v))  ∧ Frm B f (updF f (keyI b) (.slice (some ⟨gg, 0, none⟩) ((st.rep b).length + 1) cap)) W1 (((wB.setCell ⟨B, s * 3, none⟩ (.int .i64 b)).setCell ⟨B, s * 3 + 1, none⟩ (.int .i64 q)).setCell ⟨B, s * 3 + 2, none⟩ (.string v)) := by
  have hB : B < W1.heap.size := (Array.getElem?_eq_some_iff.1 h.acc).1
  have hB3 : B + 3 < W1.heap.size := (Array.getElem?_eq_some_iff.1 h.run).1
  have hB1 := h.reps.lt
  have hB2 := h.vals.lt
  have hov : ∀ g, ((f (keyI b)).getD (.slice none 0 0)).ownBlock = some g → B + 4 ≤ g ∧ g < W1.heap.size := by
    intro g hg
    cases hf : f (keyI b) with
    | none => rw [hf] at hg; simp [Value.ownBlock] at hg
    | some u => rw [hf] at hg; exact h.rowLt hf hg
  have hgg : B + 4 ≤ gg := by
    rcases hat with h1 | h1
    · exact (hov gg h1).1
    · omega
  have hXs := hX.size
  -- a block below W1's size that is neither the row nor one of the maps is as it was
  have key : ∀ k, k < W1.heap.size → ((f (keyI b)).getD (.slice none 0 0)).ownBlock ≠ some k → k ≠ B + 1 → wB.heap[k]? = W1.heap[k]? := by
    intro k hk h1 h2
    rw [hgB.block k (by have := hgA.size; omega) (by simpa using h2), hgA.block k (by omega) (fun e => h1 e.symm), hX.block k hk]
  have kA : wB.heap[B]? = W1.heap[B]? := key B hB (fun e => by have := (hov B e).1; omega) (by omega)
  have kR : wB.heap[B + 3]? = W1.heap[B + 3]? := key (B + 3) hB3 (fun e => by have := (hov _ e).1; omega) (by omega)
  have kV : wB.heap[B + 2]? = W1.heap[B + 2]? := key (B + 2) hB2 (fun e => by have := (hov _ e).1; omega) (by omega)
  have hset : ∀ k, k ≠ B → (((wB.setCell ⟨B, s * 3, none⟩ (.int .i64 b)).setCell ⟨B, s * 3 + 1, none⟩ (.int .i64 q)).setCell ⟨B, s * 3 + 2, none⟩ (.string v)).heap[k]? = wB.heap[k]? := by
    intro k hk
    rw [Below.heap_setCell _ _ _ _ hk, Below.heap_setCell _ _ _ _ hk, Below.heap_setCell _ _ _ _ hk]
  constructor
  · refine ⟨?_, ?_, ?_, ?_, ?_, ?_, ?_, ?_⟩
    · have := heap_set_at (heap_set_at (heap_set_at (kA.trans h.acc) (s * 3) (.int .i64 b)) (s * 3 + 1) (.int .i64 q)) (s * 3 + 2) (.string v)
      rw [this]
      congr 2
      rw [set3A _ _ _ ⟨b, q, v⟩ rfl st.acc s (by rw [h.len]; exact hs)]
      unfold addP1
      simp only [Int.toNat_natCast, hacc]
    · show (st.acc.set _ _).length = m
      rw [List.length_set]; exact h.len
    · rw [hset _ (by omega), kR]; exact h.run
    · exact hfm.at (hset _ (by omega))
    · have e : valL (addP1 st ⟨1, s, b, ⟨#[]⟩⟩) = valL st := by funext y; cases y <;> rfl
      rw [e]
      exact (h.vals.at (by rw [hset _ (by omega), kV])).mono (by omega)
    · intro b'
      by_cases hbb : b' = b
      · subst hbb
        rw [updF_same hw]
        simp only
        have er : (addP1 st ⟨1, s, b', ⟨#[]⟩⟩).rep b' = st.rep b' ++ [⟨s, q, v⟩] := by
          unfold addP1 setF repOf; simp only [if_true, hacc]
        rw [er]
        have hown' : wA.ownsRow (B + 4) 33 3 (.slice (some ⟨gg, 0, none⟩) ((st.rep b').length + 1) cap) ((st.rep b' ++ [(⟨s, q, v⟩ : Rep)]).length) ((st.rep b' ++ [(⟨s, q, v⟩ : Rep)]).flatMap repC) := by
          have e1 : (st.rep b' ++ [(⟨s, q, v⟩ : Rep)]).length = (st.rep b').length + 1 := by simp
          have e2 : (st.rep b' ++ [(⟨s, q, v⟩ : Rep)]).flatMap repC = (st.rep b').flatMap repC ++ [.int .i64 s, .int .i64 q, .string v] := by simp [repC]
          rw [e1, e2]; exact hown
        refine rowK_at hown' fun g hg => ?_
        have : g = gg := by simp [Value.ownBlock] at hg; exact hg.symm
        subst this
        rw [hset _ (by omega), hgB.block _ hlt (by simp; omega)]
      · rw [updF_other hbb]
        have er : (addP1 st ⟨1, s, b, ⟨#[]⟩⟩).rep b' = st.rep b' := by
          unfold addP1 setF; simp only [if_neg hbb]
        rw [er]
        have h1 := h.rows b'
        cases hf : f (keyI b') with
        | none => rw [hf] at h1; exact h1
        | some u =>
          rw [hf] at h1
          refine rowK_at h1 fun g hg => ?_
          have h2 := h.rowLt hf hg
          rw [hset _ (by omega)]
          refine key g h2.2 (fun e => ?_) (by omega)
          cases hf2 : f (keyI b) with
          | none => rw [hf2] at e; simp [Value.ownBlock] at e
          | some u2 =>
            rw [hf2] at e
            exact h.apart b' b u u2 hbb hf hf2 g hg e
    · intro b1 b2 v1 v2 hne h1 h2 g hg1 hg2
      have fresh : ∀ b' u, b' ≠ b → f (keyI b') = some u → u.ownBlock ≠ some gg := by
        intro b' u hb' hu e
        have h3 := h.rowLt hu e
        rcases hat with h4 | h4
        · cases hf2 : f (keyI b) with
          | none => rw [hf2] at h4; simp [Value.ownBlock] at h4
          | some u2 => rw [hf2] at h4; exact h.apart b' b u u2 hb' hu hf2 gg e h4
        · omega
      by_cases e1 : b1 = b
      · subst e1
        rw [updF_same hw] at h1
        rw [updF_other (fun e => hne e.symm)] at h2
        cases h1
        have : g = gg := by simp [Value.ownBlock] at hg1; exact hg1.symm
        subst this
        exact fresh b2 v2 (fun e => hne e.symm) h2 hg2
      · rw [updF_other e1] at h1
        by_cases e2 : b2 = b
        · subst e2
          rw [updF_same hw] at h2
          cases h2
          have : g = gg := by simp [Value.ownBlock] at hg2; exact hg2.symm
          subst this
          exact fresh b1 v1 e1 h1 hg1
        · rw [updF_other e2] at h2
          exact h.apart b1 b2 v1 v2 hne h1 h2 g hg1 hg2
    · intro b' r hr
      unfold addP1 setF at hr
      simp only at hr
      split at hr
      · rename_i hbb
        rcases List.mem_append.1 hr with hr | hr
        · exact h.srv b r hr
        · rw [List.mem_singleton] at hr; subst hr; unfold repOf; simp only; omega
      · exact h.srv b' r hr
  · refine ⟨⟨?_, ?_, ?_, ?_, ?_⟩, ⟨fun k h1 h2 h3 h4 h5 => ?_, fun b' v' hv g hg => ?_⟩⟩
    · show wB.os = _; rw [hgB.os, hgA.os, hX.os]
    · show wB.tape = _; rw [hgB.tape, hgA.tape, hX.tape]
    · show wB.output = _; rw [hgB.output, hgA.output, hX.output]
    · have := hgA.size; have := hgB.size; simp [World.setCell]; omega
    · intro k hk
      rw [hset k (by omega)]
      exact key k (by omega) (fun e => by have := (hov k e).1; omega) (by omega)
    · rw [hset k h2]
      refine key k h1 (fun e => ?_) h3
      cases hf2 : f (keyI b) with
      | none => rw [hf2] at e; simp [Value.ownBlock] at e
      | some u2 => rw [hf2] at e; exact h5 b u2 hf2 e
    · by_cases hbb : b' = b
      · subst hbb
        rw [updF_same hw] at hv
        cases hv
        have : g = gg := by simp [Value.ownBlock] at hg; exact hg.symm
        subst this
        rcases hat with h1 | h1
        · cases hf2 : f (keyI b') with
          | none => rw [hf2] at h1; simp [Value.ownBlock] at h1
          | some u2 => rw [hf2] at h1; exact .inr ⟨b', u2, hf2, h1⟩
        · exact .inl h1
      · rw [updF_other hbb] at hv
        exact .inr ⟨b', v', hv, hg⟩

theorem add2_fin {B m cnt : Nat} {sl : Value} {st : St} {f : Lit → Option Value} {s : Nat} {b k : Int} {x : ByteArray} (hs : s < m) (hw : (Lit.int .i64 b).wf = true)
    {W1 wF : World} (h : StM W1 B m cnt sl st f)
    (hA : wF.heap[B]? = some (.cells ((((st.acc.flatMap accC).toArray.setIfInBounds (s * 3) (.int .i64 b)).setIfInBounds (s * 3 + 1) (.int .i64 b)).setIfInBounds (s * 3 + 2) (.string x)) 96 (0, 0)))
    (hV : FM wF Tryd.prog 3 (B + 2) (cnt + 1) (updF (valL st) (keyI b) (.string x)))
    (hk : ∀ j, j < W1.heap.size → j ≠ B → j ≠ B + 2 → wF.heap[j]? = W1.heap[j]?) (hsz : W1.heap.size ≤ wF.heap.size) (h1 : wF.os = W1.os) (h2 : wF.tape = W1.tape) (h3 : wF.output = W1.output) :
    StM wF B m (cnt + 1) sl (addP2 st ⟨k, s, b, x⟩) f ∧ Below B W1 wF ∧ Frm B f f W1 wF := by
  have hB : B < W1.heap.size := (Array.getElem?_eq_some_iff.1 h.acc).1
  have hB3 : B + 3 < W1.heap.size := (Array.getElem?_eq_some_iff.1 h.run).1
  have hB1 := h.reps.lt
  refine ⟨⟨?_, ?_, ?_, ?_, ?_, ?_, h.apart, h.srv⟩, ⟨h1, h2, h3, hsz, fun j hj => hk j (by omega) (by omega) (by omega)⟩, ⟨fun k h1 h2 _ h4 _ => hk k h1 h2 h4, fun b v hv g hg => .inr ⟨b, v, hv, hg⟩⟩⟩
  · rw [hA]
    congr 2
    rw [set3A _ _ _ ⟨b, b, x⟩ rfl st.acc s (by rw [h.len]; exact hs)]
    unfold addP2
    simp only [Int.toNat_natCast]
  · show (st.acc.set _ _).length = m
    rw [List.length_set]; exact h.len
  · rw [hk _ hB3 (by omega) (by omega)]; exact h.run
  · exact (h.reps.at (hk _ hB1 (by omega) (by omega))).mono (by omega)
  · exact hV.congr fun y => (valL_upd hw y).symm
  · intro b'
    have h4 := h.rows b'
    show match f (keyI b') with
      | none => st.rep b' = []
      | some v => wF.ownsRow (B + 4) 33 3 v (st.rep b').length ((st.rep b').flatMap repC)
    cases hf : f (keyI b') with
    | none => rw [hf] at h4; exact h4
    | some u =>
      rw [hf] at h4
      exact rowK_at h4 fun g hg => by
        have h5 := h.rowLt hf hg
        exact hk g h5.2 (by omega) (by omega)
/-- the cells of an acceptor -/
theorem acc_cells {w : World} {B : Nat} {l : List Acc} {s : Nat} (h : w.heap[B]? = some (.cells (l.flatMap accC).toArray 96 (0, 0))) (hs : s < l.length) :
    (w.cell? ⟨B, s * 3, none⟩ = some (.int .i64 (atS l s).prom) ∧ w.cell? ⟨B, s * 3 + 1, none⟩ = some (.int .i64 (atS l s).bal) ∧ w.cell? ⟨B, s * 3 + 2, none⟩ = some (.string (atS l s).val)) ∧ ∀ i, w.frozen? ⟨B, i, none⟩ = false := by
  have hx : l[s]? = some (atS l s) := by unfold atS; rw [Int.toNat_natCast, List.getD, List.getElem?_eq_getElem hs]; rfl
  have key : ∀ j, j < 3 → w.cell? ⟨B, s * 3 + j, none⟩ = (accC (atS l s))[j]? := by
    intro j hj
    rw [cell_of_row _ _ _ _ _ _ h]
    have := flat_at 3 accC accC_len l s j _ hx hj
    simpa using this
  refine ⟨⟨key 0 (by decide), key 1 (by decide), key 2 (by decide)⟩, fun i => by simp [World.frozen?, h]⟩

end Go.Proofs.YtgfjmplifmbmlaaDoor
namespace Go.Proofs.YtgfjmplifmbmlaaDoor
open Go.RowKit Go.Maps

set_option maxRecDepth 100000 in
set_option maxHeartbeats 4000000 in
theorem add1_c (B m cnt : Nat) (sl : Value) (st : St) (f : Lit → Option Value) (s : Nat) (b : Int) (hs : s < m) (hb : 1 ≤ b) (hw : (Lit.int .i64 b).wf = true) (hm : m ≤ 12) (hcnt : cnt ≤ 1000) (hrn : (st.rep b).length ≤ 1000) (hp : (atS st.acc s).prom < b) (w : World) (h : StM w B m cnt sl st f) :
    Calls Tryd.prog 38 #[.pointer (some ⟨B + 3, 0, none⟩), .agg #[.int .i64 1, .int .i64 s, .int .i64 b, .string ⟨#[]⟩]] w fun e w' => e = .returned (.bool true) ∧ Below B w w' ∧ ∃ f', StM w' B m (cnt + 1) sl (addP1 st ⟨1, s, b, ⟨#[]⟩⟩) f' ∧ Frm B f f' w w' := by
  obtain ⟨r0, r1, r2, r3⟩ := open4 h.run
  obtain ⟨⟨a0, a1, a2⟩, hfr⟩ := acc_cells h.acc (s := s) (by rw [h.len]; exact hs)
  obtain ⟨⟨p, q, v⟩, hacc⟩ : ∃ a, atS st.acc s = a := ⟨_, rfl⟩
  rw [hacc] at a0 a1 a2 hp
  obtain ⟨ar, cr, hrv, hrow, hblk⟩ := h.rowRd b
  have H := Lib.hid h
  have hB0 := blA w (.cells #[.int .i64 1, .int .i64 s, .int .i64 b, .string ⟨#[]⟩] 48)
  have r0' := (hB0.cell (p := ⟨B + 3, 0, none⟩) (cell_lt r0)).trans r0
  have r1' := (hB0.cell (p := ⟨B + 3, 1, none⟩) (cell_lt r1)).trans r1
  have r2' := (hB0.cell (p := ⟨B + 3, 2, none⟩) (cell_lt r2)).trans r2
  have a0' := (hB0.cell (p := ⟨B, s * 3, none⟩) (cell_lt a0)).trans a0
  have a1' := (hB0.cell (p := ⟨B, s * 3 + 1, none⟩) (cell_lt a1)).trans a1
  have a2' := (hB0.cell (p := ⟨B, s * 3 + 2, none⟩) (cell_lt a2)).trans a2
  have g1 : decide ((s : Int) < 0) = false := by simp
  have g2 : decide ((m : Int) ≤ (s : Int)) = false := by simp; omega
  have g3 : decide (b < 1) = false := by simp; omega
  have i0 : (0 : Int) ≤ (s : Int) := by omega
  have i1 : (s : Int) < (m : Int) := by omega
  have HACC := Lib.hid hacc
  have HFR := Lib.hid hfr
  have HW := Lib.hid hw
  obtain ⟨nl, hnl⟩ : ∃ L, (st.rep b).length = L := ⟨_, rfl⟩
  rw [hnl] at hrv hrow hblk hrn
  have HRV := Lib.hid hrv
  have HROW := Lib.hid hrow
  have HBLK := Lib.hid hblk
  have HNL := Lib.hid hnl
  clear h hacc hfr hw hrv hrow hblk hnl
  go_enter Tryd.func38, Tryd.ntmps38
  go_wp2_with fail
  go_quiet (fail)
  go_wp2_with fail
  go_quiet (fail)
  go_wp2_with fail
  generalize hW : World.drewN (w.alloc (.cells #[.int .i64 1, .int .i64 s, .int .i64 b, .string ⟨#[]⟩] 48)) _ = W0
  have hW1 : Below w.heap.size w W0 := by rw [← hW]; exact below_drewN hB0
  have hW2 : W0.heap.size = w.heap.size + 1 := by rw [← hW]; simp
  have hW3 : W0.heap[w.heap.size]? = some (.cells #[.int .i64 1, .int .i64 s, .int .i64 b, .string ⟨#[]⟩] 48 (0, 0)) := by rw [← hW]; exact heap_alloc_new w _
  obtain ⟨e0, e1, e2, e3⟩ := open4 hW3
  have A0 := (hW1.cell (p := ⟨B, s * 3, none⟩) (cell_lt a0)).trans a0
  have A1 := (hW1.cell (p := ⟨B, s * 3 + 1, none⟩) (cell_lt a1)).trans a1
  have A2 := (hW1.cell (p := ⟨B, s * 3 + 2, none⟩) (cell_lt a2)).trans a2
  have KS : Hid (∀ x : World, Below W0.heap.size W0 x → x.cell? ⟨B, s * 3, none⟩ = some (.int .i64 p) ∧ x.cell? ⟨B, s * 3 + 1, none⟩ = some (.int .i64 q) ∧ x.cell? ⟨B, s * 3 + 2, none⟩ = some (.string v) ∧ x.cell? ⟨w.heap.size, 2, none⟩ = some (.int .i64 b)) := Lib.hid (fun x hx => ⟨(hx.cell (p := ⟨B, s * 3, none⟩) (cell_lt A0)).trans A0, (hx.cell (p := ⟨B, s * 3 + 1, none⟩) (cell_lt A1)).trans A1, (hx.cell (p := ⟨B, s * 3 + 2, none⟩) (cell_lt A2)).trans A2, (hx.cell (p := ⟨w.heap.size, 2, none⟩) (cell_lt e2)).trans e2⟩)
  have HP2 : Hid (∀ x : World, Below W0.heap.size W0 x → Calls Tryd.prog 58 #[.agg #[.int .i64 p, .int .i64 q, .string v], .int .i64 b] x fun e w3 => e = .returned (.tuple #[.agg #[.int .i64 b, .int .i64 q, .string v], .bool true]) ∧ Below W0.heap.size W0 w3 ∧ ∀ ob, x.heap[W0.heap.size]? = some ob → w3.heap[W0.heap.size]? = some ob) := Lib.hid (fun x hx => (promise_c p q v b x).mono fun e w3 ⟨h1, h2⟩ => ⟨by rw [h1, if_pos hp, decide_eq_true hp], Below.next hx h2, fun ob ho => heap_below h2 ho⟩)
  have HW1 := Lib.hid hW1
  have HW2 := Lib.hid hW2
  have HE := Lib.hid hW3
  clear hW hW1 hW2 hW3 hB0 r0' r1' r2' a0' a1' a2' r0 r1 r2 r3 a0 a1 a2 g1 g2 g3 i0 i1 e0 e1 e3
  go_region_held3 (fun w' => w'.cell? ⟨B, s * 3, none⟩ = some (.int .i64 p) ∧ w'.cell? ⟨B, s * 3 + 1, none⟩ = some (.int .i64 q) ∧ w'.cell? ⟨B, s * 3 + 2, none⟩ = some (.string v) ∧ w'.cell? ⟨w.heap.size, 2, none⟩ = some (.int .i64 b))
    (exact KS.out _ (by (repeat (first | with_reducible exact Below.refl _ _ | with_reducible exact hb3 | with_reducible refine below_drew ?_ | with_reducible refine Below.alloc ?_ ?_ _ | with_reducible refine Below.setCell ?_ ?_ _ | exact Nat.le_refl _ | exact hb3.size))))
    ((go_at_call 58; (refine (HP2.out _ (by (first | with_reducible exact below_drew (Below.refl _ _) | with_reducible exact below_drew (blA _ _)))).mono ?_); (rintro e w3 ⟨rfl, hb3, hx⟩; first | (have hx2 := hx _ (heap_alloc_new W0 _); obtain ⟨⟨x0, x1, x2⟩, y0, y1, y2⟩ := open3 hx2; clear hx) | (clear hx))))
  all_goals
    have hN : ∃ (W1 : World) (Bx : Nat), True := ⟨w3, 0, trivial⟩
    first
    | (have hWb := ((hb3.setCell (p := ⟨W0.heap.size, 0, none⟩) (Nat.le_refl _) (.int .i64 b)).setCell (p := ⟨W0.heap.size, 1, none⟩) (Nat.le_refl _) (.int .i64 q)).setCell (p := ⟨W0.heap.size, 2, none⟩) (Nat.le_refl _) (.string v)
       have hWn : ((((w3.setCell ⟨W0.heap.size, 0, none⟩ (.int .i64 b)).setCell ⟨W0.heap.size, 1, none⟩ (.int .i64 q)).setCell ⟨W0.heap.size, 2, none⟩ (.string v)).heap[W0.heap.size]? = some (.cells #[.int .i64 b, .int .i64 q, .string v] 96 (0, 0))) := heap_set_at (heap_set_at (heap_set_at hx2 0 (.int .i64 b)) 1 (.int .i64 q)) 2 (.string v)
       have hBx : W0.heap.size ≤ W0.heap.size := Nat.le_refl _
       generalize World.setCell (World.setCell (World.setCell w3 ⟨W0.heap.size, 0, none⟩ (.int .i64 b)) ⟨W0.heap.size, 1, none⟩ (.int .i64 q)) ⟨W0.heap.size, 2, none⟩ (.string v) = W1 at hWb hWn ⊢
       generalize hBe : W0.heap.size = Bx at hWn ⊢
       have hBx : W0.heap.size ≤ Bx := Nat.le_of_eq hBe
       clear hBe)
    | (have hWb := hb3.alloc hb3.size (.cells #[.int .i64 b, .int .i64 q, .string v] 96)
       have hWn := heap_alloc_new w3 (.cells #[.int .i64 b, .int .i64 q, .string v] 96)
       have hBx : W0.heap.size ≤ w3.heap.size := hb3.size
       generalize World.alloc w3 (.cells #[.int .i64 b, .int .i64 q, .string v] 96) = W1 at hWb hWn ⊢
       generalize w3.heap.size = Bx at hWn hBx ⊢)
    have hSt := (H.out.below HW1.out).below hWb
    have hbox := heap_below hWb HE.out
    obtain ⟨E0, E1, E2, E3⟩ := open4 hbox
    obtain ⟨R0, R1, R2, R3⟩ := open4 hSt.run
    obtain ⟨⟨C0, C1, C2⟩, hfr2⟩ := acc_cells hSt.acc (s := s) (by rw [hSt.len]; exact hs)
    rw [HACC.out] at C0 C1 C2
    have HSt := Lib.hid hSt
    have HWb := Lib.hid hWb
    have HWn := Lib.hid hWn
    clear hSt hWb hWn hbox
    go_wp2_with fail
    have HF1 := Lib.hid HSt.out.reps
    have k1 : lkW B b W1 = .slice ar nl cr := by rw [lkW_eq HF1.out HW.out, HRV.out]
    have k2 : lkW B b W1.drew = .slice ar nl cr := by rw [lkW_eq (w := W1.drew) (HF1.out.at rfl) HW.out, HRV.out]
    have k3 : lkW B b (W1.alloc (.cells #[.int .i64 s, .int .i64 q, .string v] 33)) = .slice ar nl cr := by rw [lkW_eq (fmA1 HF1.out) HW.out, HRV.out]
    have k4 : lkW B b (W1.alloc (.cells #[.int .i64 s, .int .i64 q, .string v] 33)).drew = .slice ar nl cr := by rw [lkW_eq (fmA HF1.out) HW.out, HRV.out]
    have hsz0 : w.heap.size < W1.heap.size := by have := HWb.out.size; have := HW2.out; omega
    have hBH : B + 3 < w.heap.size := (Array.getElem?_eq_some_iff.1 H.out.run).1
    have hrow1 := rowK_below (rowK_below HROW.out HW1.out) HWb.out
    have KS2 : Hid (∀ x : World, Below W1.heap.size W1 x → x.cell? ⟨w.heap.size, 1, none⟩ = some (.int .i64 s) ∧ x.cell? ⟨w.heap.size, 2, none⟩ = some (.int .i64 b) ∧ x.cell? ⟨B + 3, 2, none⟩ = some (.map (some (B + 1))) ∧ x.cell? ⟨B, s * 3 + 1, none⟩ = some (.int .i64 q) ∧ x.cell? ⟨B, s * 3 + 2, none⟩ = some (.string v) ∧ (Instr.lookup 91 (.map (some (B + 1))) (.int .i64 b) false).run Tryd.prog x = .ok (lkW B b x) x) := Lib.hid (fun x hx => ⟨(hx.cell (p := ⟨w.heap.size, 1, none⟩) (cell_lt E1)).trans E1, (hx.cell (p := ⟨w.heap.size, 2, none⟩) (cell_lt E2)).trans E2, (hx.cell (p := ⟨B + 3, 2, none⟩) (cell_lt R2)).trans R2, (hx.cell (p := ⟨B, s * 3 + 1, none⟩) (cell_lt C1)).trans C1, (hx.cell (p := ⟨B, s * 3 + 2, none⟩) (cell_lt C2)).trans C2, lkW_run (HF1.out.below hx) HW.out⟩)
    have KS3 : Hid (∀ x y : World, Below W1.heap.size W1 x → x.grownBy y (Value.slice ar nl cr).ownBlock → (y.cell? ⟨w.heap.size, 1, none⟩ = some (.int .i64 s) ∧ y.cell? ⟨w.heap.size, 2, none⟩ = some (.int .i64 b) ∧ y.cell? ⟨B + 3, 2, none⟩ = some (.map (some (B + 1))) ∧ y.cell? ⟨B, s * 3 + 1, none⟩ = some (.int .i64 q) ∧ y.cell? ⟨B, s * 3 + 2, none⟩ = some (.string v) ∧ (Instr.lookup 91 (.map (some (B + 1))) (.int .i64 b) false).run Tryd.prog y = .ok (lkW B b y) y) ∧ FM y Tryd.prog 3 (B + 1) cnt f) := Lib.hid (fun x y hx hg => by
      have kb : ∀ k, k < W1.heap.size → (k < B + 4 ∨ w.heap.size ≤ k) → y.heap[k]? = W1.heap[k]? := by
        intro k h1 h2
        rw [hg.block k (by have := hx.size; omega) (fun e => by have := HBLK.out k e.symm; omega), hx.block k h1]
      have kc : ∀ k i, k < W1.heap.size → (k < B + 4 ∨ w.heap.size ≤ k) → y.cell? ⟨k, i, none⟩ = W1.cell? ⟨k, i, none⟩ := fun k i h1 h2 => World.cell?_of_block (kb k h1 h2)
      have hfm : FM y Tryd.prog 3 (B + 1) cnt f := HF1.out.at (kb (B + 1) HF1.out.lt (by omega))
      refine ⟨⟨(kc _ 1 hsz0 (by omega)).trans E1, (kc _ 2 hsz0 (by omega)).trans E2, (kc _ 2 (by omega) (by omega)).trans R2, (kc _ _ (by omega) (by omega)).trans C1, (kc _ _ (by omega) (by omega)).trans C2, lkW_run hfm HW.out⟩, hfm⟩)
    have KS4 : Hid (∀ x y : World, x.grownBy y (some (B + 1)) → y.heap.size = x.heap.size → w.heap.size < x.heap.size → (x.cell? ⟨w.heap.size, 1, none⟩ = some (.int .i64 s) ∧ x.cell? ⟨w.heap.size, 2, none⟩ = some (.int .i64 b) ∧ x.cell? ⟨B + 3, 2, none⟩ = some (.map (some (B + 1))) ∧ x.cell? ⟨B, s * 3 + 1, none⟩ = some (.int .i64 q) ∧ x.cell? ⟨B, s * 3 + 2, none⟩ = some (.string v) ∧ (Instr.lookup 91 (.map (some (B + 1))) (.int .i64 b) false).run Tryd.prog x = .ok (lkW B b x) x) → (∃ n f, FM y Tryd.prog 3 (B + 1) n f) → (y.cell? ⟨w.heap.size, 1, none⟩ = some (.int .i64 s) ∧ y.cell? ⟨w.heap.size, 2, none⟩ = some (.int .i64 b) ∧ y.cell? ⟨B + 3, 2, none⟩ = some (.map (some (B + 1))) ∧ y.cell? ⟨B, s * 3 + 1, none⟩ = some (.int .i64 q) ∧ y.cell? ⟨B, s * 3 + 2, none⟩ = some (.string v) ∧ (Instr.lookup 91 (.map (some (B + 1))) (.int .i64 b) false).run Tryd.prog y = .ok (lkW B b y) y)) := Lib.hid (fun x y hg hs2 hlt ⟨p1, p2, p3, p4, p5, _⟩ ⟨n', f', hfm⟩ => by
      have kc : ∀ k i, k < x.heap.size → k ≠ B + 1 → y.cell? ⟨k, i, none⟩ = x.cell? ⟨k, i, none⟩ := fun k i h1 h2 => World.cell?_of_block (hg.block k h1 (by simpa using h2))
      exact ⟨(kc _ 1 hlt (by omega)).trans p1, (kc _ 2 hlt (by omega)).trans p2, (kc _ 2 (by omega) (by omega)).trans p3, (kc _ _ (by omega) (by omega)).trans p4, (kc _ _ (by omega) (by omega)).trans p5, lkW_run hfm HW.out⟩)
    obtain ⟨i0, hi0, hz0, hz1, hz2⟩ := info_parts Tryd.infoRep
    have HROW1 := Lib.hid hrow1
    have HSZ0 := Lib.hid hsz0
    clear hrow1 E0 E3 R0 R1 R3 C0
    go_region_held3 (fun w' => w'.cell? ⟨w.heap.size, 1, none⟩ = some (.int .i64 s) ∧ w'.cell? ⟨w.heap.size, 2, none⟩ = some (.int .i64 b) ∧ w'.cell? ⟨B + 3, 2, none⟩ = some (.map (some (B + 1))) ∧ w'.cell? ⟨B, s * 3 + 1, none⟩ = some (.int .i64 q) ∧ w'.cell? ⟨B, s * 3 + 2, none⟩ = some (.string v) ∧ (Instr.lookup 91 (.map (some (B + 1))) (.int .i64 b) false).run Tryd.prog w' = .ok (lkW B b w') w')
      (first | exact hSB | exact hSA | (refine KS2.out _ ?_; first | with_reducible exact Below.refl _ _ | with_reducible exact below_drew (Below.refl _ _) | with_reducible exact blA _ _ | with_reducible exact below_drew (blA _ _)))
      (first
        | (refine step_append_lies _ (by rfl) _ _ _ (by rfl) (B + 4) 33 i0 _ 3 32 Tryd.underlying23 hi0 hz0 hz1 hz2 rfl (by omega) (.slice ar nl cr) nl _ (by rfl) ((HROW1.out.alloc _).drew) ⟨W1.heap.size, 0, none⟩ 1 1 [.int .i64 s, .int .i64 q, .string v] (by rfl) (by rfl) (World.news_of_block (cs := #[.int .i64 s, .int .i64 q, .string v]) (t := 33) (fr := (0, 0)) (heap_alloc_new W1 _)) (by simp [Value.oneCell']) (by omega) (by unfold maxLen; omega) (by omega) (by simp; omega) (W1.heap.size + 1) (by simp) ?_; intro gg cap wA hownA hgrow hat hlt; have hSA := (KS3.out _ _ (below_drew (blA _ _)) hgrow).1; have hFA := Lib.hid (KS3.out _ _ (below_drew (blA _ _)) hgrow).2; obtain ⟨wB, hrunB, hfmB, hgB, hsB⟩ := hFA.out.put kI Tryd.underlying91 (by unfold maxLen; omega) (kOf HW.out) (.slice (some ⟨gg, 0, none⟩) (nl + 1) cap); have HFMB := Lib.hid hfmB; have hSB := KS4.out wA wB hgB hsB (by have := HSZ0.out; have := hgrow.size; simp at this; omega) hSA ⟨_, _, hfmB⟩; clear hfmB))
    all_goals
      have hgA2 := hgrow
      rw [← HRV.out] at hgA2 hat
      have hhB : wB.heap[B]? = W1.heap[B]? := by
        rw [hgB.block B (by have := hgrow.size; simp at this; omega) (by simp), hgrow.block B (by simp; omega) (fun e => by have := HBLK.out B e.symm; omega)]
        exact Below.heap_alloc W1 _ B (by omega)
      obtain ⟨⟨D0, D1, D2⟩, hfrB⟩ := acc_cells (hhB.trans HSt.out.acc) (s := s) (by rw [HSt.out.len]; exact hs)
      rw [HACC.out] at D0 D1 D2
      have F0 := hfrB (s * 3)
      have F1 := hfrB (s * 3 + 1)
      have F2 := hfrB (s * 3 + 2)
      have hBx2 : Bx < W1.heap.size := (Array.getElem?_eq_some_iff.1 HWn.out).1
      have hhX : wB.heap[Bx]? = some (.cells #[.int .i64 b, .int .i64 q, .string v] 96 (0, 0)) := by
        rw [hgB.block Bx (by have := hgrow.size; simp at this; omega) (by have := HW2.out; simp; omega), hgrow.block Bx (by simp; omega) (fun e => by have := HBLK.out Bx e.symm; have := HW2.out; omega)]
        exact (Below.heap_alloc W1 _ Bx (by omega)).trans HWn.out
      obtain ⟨⟨X0, X1, X2⟩, _⟩ := open3 hhX
      have HG1 := Lib.hid hgA2
      have HG2 := Lib.hid hgB
      have HAT := Lib.hid hat
      have HOWN := Lib.hid hownA
      clear hgA2 hgB hat hownA hgrow hhX hhB hSA hSB k1 k2 k3 k4 hsB hrunB hfrB hFA
      go_wp2_with fail
      go_ret
      have hfin := add1_fin hs hm HW.out HACC.out HSt.out (below_drew (blA _ _)) (hlt := hlt) (by rw [HNL.out]; exact HOWN.out) HG1.out (HAT.out.imp id (fun h => by omega)) (by rw [HNL.out]; exact HFMB.out) HG2.out
      exact ⟨rfl, ((Below.next HW1.out HWb.out).mono (by omega)).trans hfin.2.1, _, hfin.1, hfin.2.2.pre (Below.next HW1.out HWb.out)⟩
end Go.Proofs.YtgfjmplifmbmlaaDoor
namespace Go.Proofs.YtgfjmplifmbmlaaDoor
open Go.RowKit Go.Maps

set_option maxRecDepth 100000 in
set_option maxHeartbeats 8000000 in
theorem add2_c (read : List (BitVec 16)) (ra : Option Addr) (rn rc : Nat) (B m cnt : Nat) (st : St) (f : Lit → Option Value) (s : Nat) (b : Int) (x : ByteArray) (hs : s < m) (hb : 1 ≤ b) (hw : (Lit.int .i64 b).wf = true) (hm : m ≤ 12) (hcnt : cnt ≤ 1000) (hp : (atS st.acc s).prom ≤ b) (hx : emB x = false) (hok : okP (valP read st b) x = true) (w : World) (hr : Rd w ra rn rc (read.map setV2)) (h : StM w B m cnt (.slice ra rn rc) st f) :
    Calls Tryd.prog 38 #[.pointer (some ⟨B + 3, 0, none⟩), .agg #[.int .i64 2, .int .i64 s, .int .i64 b, .string x]] w fun e w' => e = .returned (.bool true) ∧ Below B w w' ∧ ∃ f', StM w' B m (cnt + 1) (.slice ra rn rc) (addP2 st ⟨2, s, b, x⟩) f' ∧ Frm B f f' w w' := by
  obtain ⟨r0, r1, r2, r3⟩ := open4 h.run
  obtain ⟨⟨a0, a1, a2⟩, hfr⟩ := acc_cells h.acc (s := s) (by rw [h.len]; exact hs)
  obtain ⟨⟨p, q, v⟩, hacc⟩ : ∃ a, atS st.acc s = a := ⟨_, rfl⟩
  rw [hacc] at a0 a1 a2 hp
  obtain ⟨fr, u, hvp, hfu⟩ : ∃ (fr : Bool) (u : ByteArray), valP read st b = (u, fr, true) ∧ (fr = true ∨ (fr = false ∧ u = x)) := by
    obtain ⟨⟨u, fr, ok⟩, hv⟩ : ∃ y, valP read st b = y := ⟨_, rfl⟩
    rw [hv] at hok
    unfold okP at hok
    simp only [Bool.and_eq_true, Bool.or_eq_true] at hok
    obtain ⟨rfl, h2⟩ := hok
    refine ⟨fr, u, hv, ?_⟩
    cases fr
    · right; refine ⟨rfl, bs_ext (eq_of_beq (by simpa using h2))⟩
    · left; rfl
  have HV : Hid (∀ w' : World, Below w.heap.size w w' → Calls Tryd.prog 59 #[.pointer (some ⟨B + 3, 0, none⟩), .int .i64 b] w' fun e w2 => e = Ending.returned (.tuple #[.string u, .bool fr, .bool true]) ∧ Below w'.heap.size w' w2) := Lib.hid (fun w' h1 => (value_c read ra rn rc B m cnt st f b hw w' (hr.below h1) (h.below h1)).mono fun e w2 ⟨h2, h3⟩ => ⟨by rw [h2, hvp], h3⟩)
  have H := Lib.hid h
  have hB0 := blA w (.cells #[.int .i64 2, .int .i64 s, .int .i64 b, .string x] 48)
  have r1' := (hB0.cell (p := ⟨B + 3, 1, none⟩) (cell_lt r1)).trans r1
  have g1 : decide ((s : Int) < 0) = false := by simp
  have g2 : decide ((m : Int) ≤ (s : Int)) = false := by simp; omega
  have g3 : decide (b < 1) = false := by simp; omega
  have i0 : (0 : Int) ≤ (s : Int) := by omega
  have i1 : (s : Int) < (m : Int) := by omega
  have HACC := Lib.hid hacc
  have HW := Lib.hid hw
  have hxl : (x.toList == []) = false := hx
  clear h hacc hfr hw hvp hok hx hr
  go_enter Tryd.func38, Tryd.ntmps38
  go_wp2_with fail
  go_quiet (fail)
  go_wp2_with fail
  go_quiet (fail)
  go_wp2_with fail
  generalize hW : World.drewN (w.alloc (.cells #[.int .i64 2, .int .i64 s, .int .i64 b, .string x] 48)) _ = W0
  have hW1 : Below w.heap.size w W0 := by rw [← hW]; exact below_drewN hB0
  have hW2 : W0.heap.size = w.heap.size + 1 := by rw [← hW]; simp
  have hW3 : W0.heap[w.heap.size]? = some (.cells #[.int .i64 2, .int .i64 s, .int .i64 b, .string x] 48 (0, 0)) := by rw [← hW]; exact heap_alloc_new w _
  obtain ⟨e0, e1, e2, e3⟩ := open4 hW3
  have HW1 := Lib.hid hW1
  have HW2 := Lib.hid hW2
  have HE := Lib.hid hW3
  clear hW hW1 hW2 hW3 hB0 r1' r0 r1 r2 r3 g1 g2 g3 i0 i1
  refine (HV.out _ HW1.out).mono ?_
  rintro e W2 ⟨rfl, hb2⟩
  have HB2 := Lib.hid hb2
  have A0 := (hb2.cell (p := ⟨B, s * 3, none⟩) (cell_lt ((HW1.out.cell (p := ⟨B, s * 3, none⟩) (cell_lt a0)).trans a0))).trans ((HW1.out.cell (p := ⟨B, s * 3, none⟩) (cell_lt a0)).trans a0)
  have A1 := (hb2.cell (p := ⟨B, s * 3 + 1, none⟩) (cell_lt ((HW1.out.cell (p := ⟨B, s * 3 + 1, none⟩) (cell_lt a1)).trans a1))).trans ((HW1.out.cell (p := ⟨B, s * 3 + 1, none⟩) (cell_lt a1)).trans a1)
  have A2 := (hb2.cell (p := ⟨B, s * 3 + 2, none⟩) (cell_lt ((HW1.out.cell (p := ⟨B, s * 3 + 2, none⟩) (cell_lt a2)).trans a2))).trans ((HW1.out.cell (p := ⟨B, s * 3 + 2, none⟩) (cell_lt a2)).trans a2)
  have HE2 := Lib.hid (heap_below hb2 HE.out)
  obtain ⟨_, _, E2, E3⟩ := open4 HE2.out
  have HW12 := Lib.hid (Below.next HW1.out hb2)
  have HSZ2 : Hid (w.heap.size < W2.heap.size) := Lib.hid (by have := hb2.size; have := HW2.out; omega)
  clear hb2 e0 e1 e2 e3 a0 a1 a2 HV
  go_wp2_with fail
  have KS : Hid (∀ y : World, Below W2.heap.size W2 y → y.cell? ⟨B, s * 3, none⟩ = some (.int .i64 p) ∧ y.cell? ⟨B, s * 3 + 1, none⟩ = some (.int .i64 q) ∧ y.cell? ⟨B, s * 3 + 2, none⟩ = some (.string v) ∧ y.cell? ⟨w.heap.size, 2, none⟩ = some (.int .i64 b) ∧ y.cell? ⟨w.heap.size, 3, none⟩ = some (.string x)) := Lib.hid (fun y hy => ⟨(hy.cell (p := ⟨B, s * 3, none⟩) (cell_lt A0)).trans A0, (hy.cell (p := ⟨B, s * 3 + 1, none⟩) (cell_lt A1)).trans A1, (hy.cell (p := ⟨B, s * 3 + 2, none⟩) (cell_lt A2)).trans A2, (hy.cell (p := ⟨w.heap.size, 2, none⟩) (cell_lt E2)).trans E2, (hy.cell (p := ⟨w.heap.size, 3, none⟩) (cell_lt E3)).trans E3⟩)
  have HP2 : Hid (∀ y : World, Below W2.heap.size W2 y → Calls Tryd.prog 60 #[.agg #[.int .i64 p, .int .i64 q, .string v], .int .i64 b, .string x] y fun e w3 => e = .returned (.tuple #[.agg #[.int .i64 b, .int .i64 b, .string x], .bool true]) ∧ Below W2.heap.size W2 w3 ∧ ∀ ob, y.heap[W2.heap.size]? = some ob → w3.heap[W2.heap.size]? = some ob) := Lib.hid (fun y hy => (accept_c p q v b x y).mono fun e w3 ⟨h1, h2⟩ => ⟨by rw [h1, if_pos ⟨hb, hp⟩, decide_eq_true ⟨hb, hp⟩], Below.next hy h2, fun ob ho => heap_below h2 ho⟩)
  go_region_held3 (fun w' => w'.cell? ⟨B, s * 3, none⟩ = some (.int .i64 p) ∧ w'.cell? ⟨B, s * 3 + 1, none⟩ = some (.int .i64 q) ∧ w'.cell? ⟨B, s * 3 + 2, none⟩ = some (.string v) ∧ w'.cell? ⟨w.heap.size, 2, none⟩ = some (.int .i64 b) ∧ w'.cell? ⟨w.heap.size, 3, none⟩ = some (.string x))
    (exact KS.out _ (by (repeat (first | with_reducible exact Below.refl _ _ | with_reducible exact hb3 | with_reducible refine below_drew ?_ | with_reducible refine Below.alloc ?_ ?_ _ | with_reducible refine Below.setCell ?_ ?_ _ | exact Nat.le_refl _ | exact hb3.size))))
    ((go_at_call 60; (refine (HP2.out _ (by (first | with_reducible exact below_drew (Below.refl _ _) | with_reducible exact below_drew (blA _ _)))).mono ?_); (rintro e w3 ⟨rfl, hb3, hx⟩; first | (have hx2 := hx _ (heap_alloc_new W2 _); obtain ⟨⟨x0, x1, x2⟩, y0, y1, y2⟩ := open3 hx2; clear hx) | (clear hx))))
  all_goals
    first
    | (have hWb := ((hb3.setCell (p := ⟨W2.heap.size, 0, none⟩) (Nat.le_refl _) (.int .i64 b)).setCell (p := ⟨W2.heap.size, 1, none⟩) (Nat.le_refl _) (.int .i64 b)).setCell (p := ⟨W2.heap.size, 2, none⟩) (Nat.le_refl _) (.string x)
       have hWn : ((((w3.setCell ⟨W2.heap.size, 0, none⟩ (.int .i64 b)).setCell ⟨W2.heap.size, 1, none⟩ (.int .i64 b)).setCell ⟨W2.heap.size, 2, none⟩ (.string x)).heap[W2.heap.size]? = some (.cells #[.int .i64 b, .int .i64 b, .string x] 96 (0, 0))) := heap_set_at (heap_set_at (heap_set_at hx2 0 (.int .i64 b)) 1 (.int .i64 b)) 2 (.string x)
       have hBx : W2.heap.size ≤ W2.heap.size := Nat.le_refl _
       generalize World.setCell (World.setCell (World.setCell w3 ⟨W2.heap.size, 0, none⟩ (.int .i64 b)) ⟨W2.heap.size, 1, none⟩ (.int .i64 b)) ⟨W2.heap.size, 2, none⟩ (.string x) = W1 at hWb hWn ⊢
       generalize hBe : W2.heap.size = Bx at hWn ⊢
       have hBx : W2.heap.size ≤ Bx := Nat.le_of_eq hBe
       clear hBe)
    | (have hWb := hb3.alloc hb3.size (.cells #[.int .i64 b, .int .i64 b, .string x] 96)
       have hWn := heap_alloc_new w3 (.cells #[.int .i64 b, .int .i64 b, .string x] 96)
       have hBx : W2.heap.size ≤ w3.heap.size := hb3.size
       generalize World.alloc w3 (.cells #[.int .i64 b, .int .i64 b, .string x] 96) = W1 at hWb hWn ⊢
       generalize w3.heap.size = Bx at hWn hBx ⊢)
    have hSt := (H.out.below HW12.out).below hWb
    have hbox := heap_below hWb HE2.out
    obtain ⟨E0, E1, E2, E3⟩ := open4 hbox
    obtain ⟨R0, R1, R2, R3⟩ := open4 hSt.run
    have HSt := Lib.hid hSt
    have HWb := Lib.hid hWb
    have HWn := Lib.hid hWn
    clear hSt hWb hWn hbox
    rcases hfu with hfr | ⟨hfr, hux⟩
    all_goals
      subst hfr
      try (have h9 := hux.symm; clear hux; subst h9)
      go_wp2_with fail
      have HFV := Lib.hid HSt.out.vals
      have hsz0 : w.heap.size < W1.heap.size := by have := HWb.out.size; have := HSZ2.out; omega
      have hBH : B + 3 < w.heap.size := (Array.getElem?_eq_some_iff.1 H.out.run).1
      have hBx2 : Bx < W1.heap.size := (Array.getElem?_eq_some_iff.1 HWn.out).1
      have hBx3 : w.heap.size < Bx := by have := HSZ2.out; omega
      obtain ⟨⟨X0, X1, X2⟩, _⟩ := open3 HWn.out
      obtain ⟨⟨C0, C1, C2⟩, hfr2⟩ := acc_cells HSt.out.acc (s := s) (by rw [HSt.out.len]; exact hs)
      have F0 := hfr2 (s * 3)
      have F1 := hfr2 (s * 3 + 1)
      have F2 := hfr2 (s * 3 + 2)
      have KS5 : Hid (∀ y : World, (∀ j, j < W1.heap.size → j ≠ B → j ≠ B + 2 → y.heap[j]? = W1.heap[j]?) → y.cell? ⟨B + 3, 3, none⟩ = some (.map (some (B + 2))) ∧ y.cell? ⟨w.heap.size, 2, none⟩ = some (.int .i64 b) ∧ y.cell? ⟨w.heap.size, 3, none⟩ = some (.string x) ∧ y.cell? ⟨Bx, 0, none⟩ = some (.int .i64 b) ∧ y.cell? ⟨Bx, 1, none⟩ = some (.int .i64 b) ∧ y.cell? ⟨Bx, 2, none⟩ = some (.string x)) := Lib.hid (fun y hy => by
        have kc : ∀ k i, k < W1.heap.size → k ≠ B → k ≠ B + 2 → y.cell? ⟨k, i, none⟩ = W1.cell? ⟨k, i, none⟩ := fun k i h1 h2 h3 => World.cell?_of_block (hy k h1 h2 h3)
        exact ⟨(kc _ 3 (by omega) (by omega) (by omega)).trans R3, (kc _ 2 hsz0 (by omega) (by omega)).trans E2, (kc _ 3 hsz0 (by omega) (by omega)).trans E3, (kc _ 0 hBx2 (by omega) (by omega)).trans X0, (kc _ 1 hBx2 (by omega) (by omega)).trans X1, (kc _ 2 hBx2 (by omega) (by omega)).trans X2⟩)
      have HZ : Hid (∀ j, j ≠ B → (((W1.setCell ⟨B, s * 3, none⟩ (.int .i64 b)).setCell ⟨B, s * 3 + 1, none⟩ (.int .i64 b)).setCell ⟨B, s * 3 + 2, none⟩ (.string x)).heap[j]? = W1.heap[j]?) := Lib.hid (fun j hj => by rw [Below.heap_setCell _ _ _ _ hj, Below.heap_setCell _ _ _ _ hj, Below.heap_setCell _ _ _ _ hj])
      clear hfr2 E0 E1 R0 R1 R2
      go_region_held3 (fun w' => w'.cell? ⟨B + 3, 3, none⟩ = some (.map (some (B + 2))) ∧ w'.cell? ⟨w.heap.size, 2, none⟩ = some (.int .i64 b) ∧ w'.cell? ⟨w.heap.size, 3, none⟩ = some (.string x) ∧ w'.cell? ⟨Bx, 0, none⟩ = some (.int .i64 b) ∧ w'.cell? ⟨Bx, 1, none⟩ = some (.int .i64 b) ∧ w'.cell? ⟨Bx, 2, none⟩ = some (.string x))
        (first | exact hSF | exact hSE | (refine KS5.out _ ?_; intro j _ hj _; first | exact HZ.out j hj | rfl))
        (first
          | (refine upon_entry_fm 92 3 9 kI Tryd.underlying92 (B + 2) cnt (valL st) (.string ⟨#[]⟩) zStr (HFV.out.at (by exact HZ.out _ (by omega))) (by unfold maxLen; omega) (.int .i64 b) (keyI b) (kOf HW.out) ?_; intro v0 sE wE hentE hgE hsE; have hszE : wE.heap.size = W1.heap.size := by { rw [hsE]; simp [World.setCell] }; have HFE : Hid (∀ j, j < W1.heap.size → j ≠ B + 2 → wE.heap[j]? = (((W1.setCell ⟨B, s * 3, none⟩ (.int .i64 b)).setCell ⟨B, s * 3 + 1, none⟩ (.int .i64 b)).setCell ⟨B, s * 3 + 2, none⟩ (.string x)).heap[j]?) := Lib.hid (fun j h1 h3 => hgE.block j (by simpa [World.setCell] using h1) (by simpa using h3)); have hSE := KS5.out wE (fun j h1 h2 h3 => (HFE.out j h1 h3).trans (HZ.out j h2)); have HEN := Lib.hid hentE; have HGE := Lib.hid hgE; clear hentE hgE hsE)
          | (refine upon_estore_fm 92 3 (B + 2) (cnt + 1) sE (valL st) (keyI b) (HEN.out.at rfl) (.string x) ?_; intro wF hfmF hgF hsF; have hSF := KS5.out wF (fun j h1 h2 h3 => (hgF.block j (by omega) (by simpa using h3)).trans ((HFE.out j h1 h3).trans (HZ.out j h2))); have HFF := Lib.hid hfmF; have HGF := Lib.hid hgF; clear hfmF hgF))
      all_goals
        go_wp2_with fail
        go_ret
        have hB1 : B < W1.heap.size := by omega
        have hfin := add2_fin (k := 2) hs HW.out HSt.out ((HGF.out.block B (by omega) (by simp)).trans ((HFE.out B hB1 (by omega)).trans (heap_set_at (heap_set_at (heap_set_at HSt.out.acc (s * 3) (.int .i64 b)) (s * 3 + 1) (.int .i64 b)) (s * 3 + 2) (.string x)))) HFF.out (fun j h1 h2 h3 => (HGF.out.block j (by omega) (by simpa using h3)).trans ((HFE.out j h1 h3).trans (HZ.out j h2))) (by have := HGF.out.size; omega) (HGF.out.os.trans (HGE.out.os.trans rfl)) (HGF.out.tape.trans (HGE.out.tape.trans rfl)) (HGF.out.output.trans (HGE.out.output.trans rfl))
        exact ⟨rfl, ((Below.next HW12.out HWb.out).mono (by omega)).trans hfin.2.1, _, hfin.1, hfin.2.2.pre (Below.next HW12.out HWb.out)⟩
end Go.Proofs.YtgfjmplifmbmlaaDoor
