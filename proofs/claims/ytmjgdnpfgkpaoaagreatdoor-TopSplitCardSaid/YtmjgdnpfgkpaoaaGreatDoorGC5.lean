/- Texts laid together. broadcast.Handle: its first region (two clones, two stores). Package broadcast: a run in memory; Delete and IndexFunc of messages. -/
import Derived.Test.YtmjgdnpfgkpaoaaGreatDoorGC4
import Derived.Deep.CutRange
import Derived.Deep.DeepCutAuto
import Derived.Deep.RegionWith
import Derived.Laws.EntriesVeiled
import Derived.Deep.Upon
import Derived.Lib.SliceRun
namespace Go.Proofs.YtmjgdnpfgkpaoaaGreatDoor
open Go.RowKit Go.Shelf

theorem heap_setA (u : World) (A i : Nat) (v : Value) : (u.setCell ⟨A, i, none⟩ v).heap[A]? = (u.heap[A]?).map (fun o => match o with
  | .cells cs t f => .cells (cs.setIfInBounds i v) t f
  | o => o) := by
  unfold World.setCell
  rw [Array.getElem?_modify, if_pos rfl]
  rfl
theorem heap_drewA (u : World) (A : Nat) : u.drew.heap[A]? = u.heap[A]? := rfl
def zCas : Array Value := #[.int .i64 0, .string ⟨#[]⟩, .bool false, .string ⟨#[]⟩, .bool false, .string ⟨#[]⟩, .bool false, .slice none 0 0, .slice none 0 0]
theorem row_set {k : Nat} {w : World} {B n : Nat} {e : TypeId} {v : Value} {l : List Value} (h : w.ownsRow B e k v n l) {A : Nat} (hA : A < B) (i : Nat) (u : Value) : (w.setCell ⟨A, i, none⟩ u).ownsRow B e k v n l := by
  refine ⟨h.1, ?_⟩
  rcases h.2 with h2 | ⟨g, cap, cur, hv, hb, hg, r⟩
  · exact .inl h2
  · exact .inr ⟨g, cap, cur, hv, hb, heap_set_other (by omega) _ _ hg, r⟩
/-- a slice lies in a block that is not old -/
def Far (B : Nat) (_n : Nat) (a : Option Addr) : Prop := ∀ b o, a = some ⟨b, o, none⟩ → B ≤ b
theorem Far.of_row {w : World} {k B n m : Nat} {e : TypeId} {a : Option Addr} {c : Nat} {l : List Value} (h : w.ownsRow B e k (.slice a n c) m l) : Far B n a := by
  intro b o ha
  subst ha
  exact (h.lt b rfl).1
theorem Far.le {B B' n : Nat} {a : Option Addr} (h : Far B n a) (hb : B' ≤ B) : Far B' n a := fun b o ha => Nat.le_trans hb (h b o ha)
theorem Far.none_ (B n : Nat) : Far B n none := fun _b _o ha => nomatch ha
theorem Far.ne {B n R : Nat} {a : Option Addr} (h : Far B n a) (hR : R < B) : 0 < n → ∀ b o, a = some ⟨b, o, none⟩ → b ≠ R := fun _ b o ha => by have := h b o ha; omega
def Lo (N : Nat) (a : Option Addr) : Prop := ∀ b o, a = some ⟨b, o, none⟩ → b < N
theorem Lo.of_row {w : World} {k B n m : Nat} {e : TypeId} {a : Option Addr} {c : Nat} {l : List Value} (h : w.ownsRow B e k (.slice a n c) m l) : Lo w.heap.size a := by
  intro b o ha
  subst ha
  exact (h.lt b rfl).2
/-- what stands behind the clones -/
def HanIn (w : World) (x : CasT) (v : ByteArray) (wx : World) : Prop :=
  ∃ ae ne ce ar nr cr, Below w.heap.size w wx ∧ wx.heap[w.heap.size]? = some (.cells (casA x (.slice ae ne ce) (.slice ar nr cr)) 97 (0, 0)) ∧ wx.heap[w.heap.size + 1]? = some (.cells #[.string v] 9 (0, 0)) ∧
    wx.heap[w.heap.size + 1 + 1]? = some (.cells zCas 97 (0, 0)) ∧ RdK 2 wx ae ne ce (x.echoes.flatMap heaC) ∧ RdK 2 wx ar nr cr (x.readies.flatMap heaC) ∧ Far (w.heap.size + 3) ne ae ∧ Far (w.heap.size + 3) nr ar ∧ Lo wx.heap.size ae ∧ Lo wx.heap.size ar

theorem HanIn.of {w W w1 w2 : World} {x : CasT} {v : ByteArray} {ae ar a1 a2 : Option Addr} {ne ce nr cr c1 c2 : Nat} (hb : Below w.heap.size w W)
    (hA : W.heap[w.heap.size]? = some (.cells (casA x (.slice ae ne ce) (.slice ar nr cr)) 97 (0, 0))) (hB : W.heap[w.heap.size + 1]? = some (.cells #[.string v] 9 (0, 0))) (hR : W.heap[w.heap.size + 1 + 1]? = some (.cells zCas 97 (0, 0)))
    (h1 : Below W.heap.size W w1) (h2 : Below w1.heap.size w1 w2) (o1 : w1.ownsRow W.drew.heap.size 163 2 (.slice a1 ne c1) ne (x.echoes.flatMap heaC)) (o2 : w2.ownsRow w1.heap.size 163 2 (.slice a2 nr c2) nr (x.readies.flatMap heaC)) :
    HanIn w x v ((w2.setCell ⟨w.heap.size, 7, none⟩ (.slice a1 ne c1)).setCell ⟨w.heap.size, 8, none⟩ (.slice a2 nr c2)) := by
  have hAs := (Array.getElem?_eq_some_iff.1 hA).1
  have h12 := Below.next h1 h2
  have s1 := h1.size
  have hs3 : w.heap.size + 3 ≤ W.heap.size := (Array.getElem?_eq_some_iff.1 hR).1
  have A2 := heap_below h12 hA
  have q1 := row_set (row_set (rowK_below o1 h2) (A := w.heap.size) hAs 7 (.slice a1 ne c1)) (A := w.heap.size) hAs 8 (.slice a2 nr c2)
  have q2 := row_set (row_set o2 (A := w.heap.size) (by omega) 7 (.slice a1 ne c1)) (A := w.heap.size) (by omega) 8 (.slice a2 nr c2)
  obtain ⟨_, _, e1, r1⟩ := rdK_of_row q1
  obtain ⟨_, _, e2, r2⟩ := rdK_of_row q2
  cases e1; cases e2
  refine ⟨a1, ne, c1, a2, nr, c2, ((Below.next hb h12).setCell (p := ⟨w.heap.size, 7, none⟩) (Nat.le_refl _) _).setCell (p := ⟨w.heap.size, 8, none⟩) (Nat.le_refl _) _, ?_, heap_set_other (by omega) _ _ (heap_set_other (by omega) _ _ (heap_below h12 hB)), heap_set_other (by omega) _ _ (heap_set_other (by omega) _ _ (heap_below h12 hR)), r1, r2, fun b o hb => Nat.le_trans hs3 (Far.of_row o1 b o hb), fun b o hb => Nat.le_trans (Nat.le_trans hs3 s1) (Far.of_row o2 b o hb), Lo.of_row q1, Lo.of_row q2⟩
  rw [heap_set_at (heap_set_at A2 7 _) 8 _]; rfl

theorem open9 {w : World} {B : Nat} {t : TypeId} {v0 v1 v2 v3 v4 v5 v6 v7 v8 : Value} (h : w.heap[B]? = some (.cells #[v0, v1, v2, v3, v4, v5, v6, v7, v8] t (0, 0))) :
    w.cell? ⟨B, 0, none⟩ = some v0 ∧ w.cell? ⟨B, 1, none⟩ = some v1 ∧ w.cell? ⟨B, 2, none⟩ = some v2 ∧ w.cell? ⟨B, 3, none⟩ = some v3 ∧ w.cell? ⟨B, 4, none⟩ = some v4 ∧ w.cell? ⟨B, 5, none⟩ = some v5 ∧ w.cell? ⟨B, 6, none⟩ = some v6 ∧ w.cell? ⟨B, 7, none⟩ = some v7 ∧ w.cell? ⟨B, 8, none⟩ = some v8 ∧
    w.frozen? ⟨B, 0, none⟩ = false ∧ w.frozen? ⟨B, 1, none⟩ = false ∧ w.frozen? ⟨B, 2, none⟩ = false ∧ w.frozen? ⟨B, 3, none⟩ = false ∧ w.frozen? ⟨B, 4, none⟩ = false ∧ w.frozen? ⟨B, 5, none⟩ = false ∧ w.frozen? ⟨B, 6, none⟩ = false ∧ w.frozen? ⟨B, 7, none⟩ = false ∧ w.frozen? ⟨B, 8, none⟩ = false :=
  ⟨cell_of_row _ _ 0 _ _ _ h, cell_of_row _ _ 1 _ _ _ h, cell_of_row _ _ 2 _ _ _ h, cell_of_row _ _ 3 _ _ _ h, cell_of_row _ _ 4 _ _ _ h, cell_of_row _ _ 5 _ _ _ h, cell_of_row _ _ 6 _ _ _ h, cell_of_row _ _ 7 _ _ _ h, cell_of_row _ _ 8 _ _ _ h,
   frozenB h 0, frozenB h 1, frozenB h 2, frozenB h 3, frozenB h 4, frozenB h 5, frozenB h 6, frozenB h 7, frozenB h 8⟩

def HanPost (f b : List (BitVec 16)) (x : CasT) (src kind : Int) (v : ByteArray) (w : World) (e : Ending) (w' : World) : Prop :=
      ∃ ae2 ne2 ce2 ar2 nr2 cr2 ao no co, e = .returned (.tuple #[.agg (casA (handleS f b x src kind v).1 (.slice ae2 ne2 ce2) (.slice ar2 nr2 cr2)), .slice ao no co]) ∧
        RdK 2 w' ae2 ne2 ce2 ((handleS f b x src kind v).1.echoes.flatMap heaC) ∧ RdK 2 w' ar2 nr2 cr2 ((handleS f b x src kind v).1.readies.flatMap heaC) ∧ RdK 4 w' ao no co ((handleS f b x src kind v).2.flatMap msgC) ∧ Below w.heap.size w w' ∧ Far w.heap.size ne2 ae2 ∧ Far w.heap.size nr2 ar2 ∧ Far w.heap.size no ao
theorem han_end {f b : List (BitVec 16)} {x : CasT} {src kind : Int} {v : ByteArray} {w wf : World} {R : Nat} {a : Act} {X : CasT} {L : List MsgT} {ae ar ao : Option Addr} {ne ce nr cr no co : Nat} (hE : handleS f b x src kind v = (X, L))
    (ha : a.defers = []) (h12 : a.tmps.getD 12 undef = .pointer (some ⟨R, 0, none⟩)) (h13 : a.tmps.getD 13 undef = .slice ao no co) (hz : wf.heap[R]? = some (.cells (casA X (.slice ae ne ce) (.slice ar nr cr)) 97 (0, 0)))
    (r1 : RdK 2 wf ae ne ce (X.echoes.flatMap heaC)) (r2 : RdK 2 wf ar nr cr (X.readies.flatMap heaC)) (r3 : RdK 4 wf ao no co (L.flatMap msgC)) (hb : Below w.heap.size w wf) (f1 : Far (w.heap.size + 3) ne ae) (f2 : Far (w.heap.size + 3) nr ar) (f3 : Far (w.heap.size + 3) no ao) :
    bodyPost Tryz.prog Tryz.f74 (HanPost f b x src kind v w) .ret a wf := by
  obtain ⟨s0, s1, s2, s3, s4, s5, s6, s7, s8, _⟩ := open9 hz
  rw [Array.getD_eq_getD_getElem?] at h12 h13
  refine bodyPost_ret (v := .tuple #[.agg (casA X (.slice ae ne ce) (.slice ar nr cr)), .slice ao no co]) ?_ ha ⟨ae, ne, ce, ar, nr, cr, ao, no, co, by rw [hE], by rw [hE]; exact r1, by rw [hE]; exact r2, by rw [hE]; exact r3, hb, f1.le (by omega), f2.le (by omega), f3.le (by omega)⟩
  simp [results, Tryz.results74, go_sem, casA, h12, h13, s0, s1, s2, s3, s4, s5, s6, s7, s8]
/-- nine cells stored -/
def set9 (u : World) (B : Nat) (v0 v1 v2 v3 v4 v5 v6 v7 v8 : Value) : World :=
  ((((((((u.setCell ⟨B, 0, none⟩ v0).setCell ⟨B, 1, none⟩ v1).setCell ⟨B, 2, none⟩ v2).setCell ⟨B, 3, none⟩ v3).setCell ⟨B, 4, none⟩ v4).setCell ⟨B, 5, none⟩ v5).setCell ⟨B, 6, none⟩ v6).setCell ⟨B, 7, none⟩ v7).setCell ⟨B, 8, none⟩ v8
theorem set9_heap {u : World} {B : Nat} {t : TypeId} {c0 c1 c2 c3 c4 c5 c6 c7 c8 : Value} (h : u.heap[B]? = some (.cells #[c0, c1, c2, c3, c4, c5, c6, c7, c8] t (0, 0))) (v0 v1 v2 v3 v4 v5 v6 v7 v8 : Value) : (set9 u B v0 v1 v2 v3 v4 v5 v6 v7 v8).heap[B]? = some (.cells #[v0, v1, v2, v3, v4, v5, v6, v7, v8] t (0, 0)) := by
  unfold set9
  rw [heap_setA, heap_setA, heap_setA, heap_setA, heap_setA, heap_setA, heap_setA, heap_setA, heap_setA, h]
  simp only [Option.map_some, List.setIfInBounds_toArray, List.set_cons_zero, List.set_cons_succ]
theorem set9_other {u : World} {B g : Nat} (h : g ≠ B) (v0 v1 v2 v3 v4 v5 v6 v7 v8 : Value) : (set9 u B v0 v1 v2 v3 v4 v5 v6 v7 v8).heap[g]? = u.heap[g]? := by
  unfold set9
  iterate 9 rw [Below.heap_setCell _ _ _ _ (by intro e; exact h (by rw [e]))]
theorem set9_below {u w : World} {n B : Nat} (h : Below n w u) (hB : n ≤ B) (v0 v1 v2 v3 v4 v5 v6 v7 v8 : Value) : Below n w (set9 u B v0 v1 v2 v3 v4 v5 v6 v7 v8) := by
  unfold set9
  exact ((((((((h.setCell (p := ⟨B, 0, none⟩) hB _).setCell (p := ⟨B, 1, none⟩) hB _).setCell (p := ⟨B, 2, none⟩) hB _).setCell (p := ⟨B, 3, none⟩) hB _).setCell (p := ⟨B, 4, none⟩) hB _).setCell (p := ⟨B, 5, none⟩) hB _).setCell (p := ⟨B, 6, none⟩) hB _).setCell (p := ⟨B, 7, none⟩) hB _).setCell (p := ⟨B, 8, none⟩) hB _
/-- what is read lies where nothing turned -/
theorem RdK.at_ne {k : Nat} {u u' : World} {R : Nat} {a : Option Addr} {n c : Nat} {l : List Value} (h : RdK k u a n c l) (hk : ∀ g, g ≠ R → u'.heap[g]? = u.heap[g]?) (ha : 0 < n → ∀ b o, a = some ⟨b, o, none⟩ → b ≠ R) : RdK k u' a n c l := by
  refine ⟨h.len, h.le, h.max, h.nil, fun hn => ?_⟩
  obtain ⟨b, o, hb, hc⟩ := h.at' hn
  exact ⟨b, o, hb, fun i v hv => (World.cell?_of_block (hk b (ha hn b o hb))).trans (hc i v hv)⟩

theorem RdK.at2 {k : Nat} {u u' : World} {a : Option Addr} {n c O A : Nat} {l : List Value} (h : RdK k u a n c l) (hk : ∀ g, g < u.heap.size → g ≠ O → g ≠ A → u'.heap[g]? = u.heap[g]?) (h0 : 0 < k) (ha : ∀ b o, a = some ⟨b, o, none⟩ → b ≠ O ∧ b ≠ A) : RdK k u' a n c l := by
  refine ⟨h.len, h.le, h.max, h.nil, fun hn => ?_⟩
  obtain ⟨b, o, hb, hc⟩ := h.at' hn
  have hpos : 0 < l.length := by rw [← h.len]; exact Nat.mul_pos hn h0
  have hlt : b < u.heap.size := cell_lt (hc 0 _ (List.getElem?_eq_getElem hpos))
  exact ⟨b, o, hb, fun i v hv => (World.cell?_of_block (hk b hlt (ha b o hb).1 (ha b o hb).2)).trans (hc i v hv)⟩
theorem Keep2.below {w u u' : World} {A O n : Nat} (h : Below n w u) (hk : Keep2 u u' A O) (hn : n = w.heap.size) (hA : n ≤ A) (hO : n ≤ O) : Below n w u' := by
  obtain ⟨q1, q2, q3, q4, q5⟩ := h
  exact ⟨hk.os.trans q1, hk.tape.trans q2, hk.output.trans q3, Nat.le_trans q4 hk.size, fun g hg => (hk.block g (by omega) (by omega) (by omega)).trans (q5 g hg)⟩
theorem readyS_keep (is : Bool) (x : CasT) (v : ByteArray) : (readyS is x v).1.echoes = x.echoes ∧ (readyS is x v).1.readies = x.readies := by unfold readyS; split <;> exact ⟨rfl, rfl⟩
theorem RdK.low {k : Nat} {u : World} {a : Option Addr} {n c : Nat} {α : Type} {enc : α → List Value} {L : List α} (h : RdK k u a n c (L.flatMap enc)) : 0 < n → ∀ b o, a = some ⟨b, o, none⟩ → 0 < k → b < u.heap.size := by
  intro hn b o ha hk
  obtain ⟨b', o', ha', hc⟩ := h.at' hn
  rw [ha] at ha'; cases ha'
  have hl := h.len
  have hpos : 0 < (L.flatMap enc).length := by rw [← hl]; exact Nat.mul_pos hn hk
  exact cell_lt (hc 0 _ (List.getElem?_eq_getElem hpos))
theorem RdK.at_lt {k : Nat} {u u' : World} {a : Option Addr} {n c N O A : Nat} {l : List Value} (h : RdK k u a n c l) (hk : ∀ g, g < u.heap.size → g ≠ O → g ≠ A → u'.heap[g]? = u.heap[g]?) (hf : Far N n a) (hA : A < N) (hl : 0 < n → ∀ b o, a = some ⟨b, o, none⟩ → b < O) (hO : O ≤ u.heap.size) : RdK k u' a n c l := by
  refine ⟨h.len, h.le, h.max, h.nil, fun hn => ?_⟩
  obtain ⟨b, o, hb, hc⟩ := h.at' hn
  have h1 := hf b o hb
  have h2 := hl hn b o hb
  exact ⟨b, o, hb, fun i v hv => (World.cell?_of_block (hk b (by omega) (by omega) (by omega))).trans (hc i v hv)⟩

set_option maxRecDepth 100000 in
set_option maxHeartbeats 8000000 in
theorem handle_c (f b : List (BitVec 16)) (x : CasT) (src kind : Int) (v : ByteArray) (af : Option Addr) (nf cf : Nat) (ab : Option Addr) (nb cb : Nat) (ae : Option Addr) (ne ce : Nat) (ar : Option Addr) (nr cr : Nat) (w : World)
    (hf : Rd w af nf cf (f.map setV2)) (hb : Rd w ab nb cb (b.map setV2)) (he : RdK 2 w ae ne ce (x.echoes.flatMap heaC)) (hr : RdK 2 w ar nr cr (x.readies.flatMap heaC)) (hne : ne ≤ 1000) (hnr : nr ≤ 1000) :
    Calls Tryz.prog 74 #[.slice af nf cf, .slice ab nb cb, .agg (casA x (.slice ae ne ce) (.slice ar nr cr)), .int .i64 src, .int .i64 kind, .string v] w (HanPost f b x src kind v w) := by
  obtain ⟨W, hW⟩ : ∃ W, W = ((w.alloc (.cells (casA x (.slice ae ne ce) (.slice ar nr cr)) 97)).alloc (.cells #[.string v] 9)).alloc (.cells #[.int .i64 0, .string ⟨#[]⟩, .bool false, .string ⟨#[]⟩, .bool false, .string ⟨#[]⟩, .bool false, .slice none 0 0, .slice none 0 0] 97) := ⟨_, rfl⟩
  have hbW : Below w.heap.size w W := by rw [hW]; exact (((Below.refl _ w).alloc (Nat.le_refl _) _).alloc (by simp) _).alloc (by simp; omega) _
  have hA : W.heap[w.heap.size]? = some (.cells (casA x (.slice ae ne ce) (.slice ar nr cr)) 97 (0, 0)) := by rw [hW]; exact heap_alloc_at (heap_alloc_at (heap_alloc_new _ _) _) _
  have hB : W.heap[w.heap.size + 1]? = some (.cells #[.string v] 9 (0, 0)) := by rw [hW]; have := heap_alloc_new (w.alloc (.cells (casA x (.slice ae ne ce) (.slice ar nr cr)) 97)) (.cells #[.string v] 9); rw [World.size_alloc] at this; exact heap_alloc_at this _
  have hR : W.heap[w.heap.size + 1 + 1]? = some (.cells #[.int .i64 0, .string ⟨#[]⟩, .bool false, .string ⟨#[]⟩, .bool false, .string ⟨#[]⟩, .bool false, .slice none 0 0, .slice none 0 0] 97 (0, 0)) := by
    rw [hW]; have := heap_alloc_new ((w.alloc (.cells (casA x (.slice ae ne ce) (.slice ar nr cr)) 97)).alloc (.cells #[.string v] 9)) (.cells #[.int .i64 0, .string ⟨#[]⟩, .bool false, .string ⟨#[]⟩, .bool false, .string ⟨#[]⟩, .bool false, .slice none 0 0, .slice none 0 0] 97); rw [World.size_alloc, World.size_alloc] at this; exact this
  have HF := Lib.hid hf
  have HB := Lib.hid hb
  have HE := Lib.hid he
  have HR := Lib.hid hr
  have HBW := Lib.hid hbW
  have HCA := Lib.hid hA
  have HCB := Lib.hid hB
  have HCR := Lib.hid hR
  clear hf hb he hr hbW hA hB hR
  go_enter Tryz.func74, Tryz.ntmps74
  go_upto_region 1 with fail
  rw [← hW]
  clear hW
  go_cut [] from 19 to 26 (fun wx => HanIn w x v wx)
  case first =>
    have KC : Hid (∀ u u' : World, Below u.heap.size u u' → w.heap.size < u.heap.size → (u'.cell? ⟨w.heap.size, 7, none⟩ = u.cell? ⟨w.heap.size, 7, none⟩ ∧ u'.cell? ⟨w.heap.size, 8, none⟩ = u.cell? ⟨w.heap.size, 8, none⟩) ∧ u'.frozen? ⟨w.heap.size, 7, none⟩ = u.frozen? ⟨w.heap.size, 7, none⟩ ∧ u'.frozen? ⟨w.heap.size, 8, none⟩ = u.frozen? ⟨w.heap.size, 8, none⟩) := Lib.hid (fun u u' hb hl => ⟨⟨World.cell?_of_block (hb.block _ hl), World.cell?_of_block (hb.block _ hl)⟩, by simp only [World.frozen?, hb.block _ hl], by simp only [World.frozen?, hb.block _ hl]⟩)
    have c7 : W.cell? ⟨w.heap.size, 7, none⟩ = some (.slice ae ne ce) := cell_of_row _ _ 7 _ _ _ HCA.out
    have c8 : W.cell? ⟨w.heap.size, 8, none⟩ = some (.slice ar nr cr) := cell_of_row _ _ 8 _ _ _ HCA.out
    have z7 : W.frozen? ⟨w.heap.size, 7, none⟩ = false := frozenB HCA.out 7
    have z8 : W.frozen? ⟨w.heap.size, 8, none⟩ = false := frozenB HCA.out 8
    have d7 : W.drew.cell? ⟨w.heap.size, 7, none⟩ = some (.slice ae ne ce) := c7
    have d8 : W.drew.cell? ⟨w.heap.size, 8, none⟩ = some (.slice ar nr cr) := c8
    go_region_with (go_at_call 101; first
      | (refine (cloneHea_c x.echoes ae ne ce W.drew (HE.out.below (below_drew HBW.out)) (by omega)).mono ?_; rintro e w1 ⟨v1, rfl, hown1, hb1⟩; obtain ⟨a1, c1, rfl, hr1⟩ := rdK_of_row hown1; have HR1 := Lib.hid hr1; clear hr1; have hb1' := below_undrew hb1; have k1 := (KC.out _ _ hb1' (Array.getElem?_eq_some_iff.1 HCA.out).1); have e7 := k1.1.1.trans c7; have e8 := k1.1.2.trans c8; have y7 := k1.2.1.trans z7; have y8 := k1.2.2.trans z8; have HK1 := Lib.hid k1; have HB1 := Lib.hid hb1'; have HO1 := Lib.hid hown1; clear k1 hb1 hb1' hown1)
      | (refine (cloneHea_c x.readies ar nr cr w1 (HR.out.below (Below.next HBW.out HB1.out)) (by omega)).mono ?_; rintro e w2 ⟨v2, rfl, hown2, hb2⟩; obtain ⟨a2, c2, rfl, hr2⟩ := rdK_of_row hown2; have HR2 := Lib.hid hr2; clear hr2; have k2 := (KC.out _ _ hb2 (Nat.lt_of_lt_of_le (Array.getElem?_eq_some_iff.1 HCA.out).1 HB1.out.size)); have g7 := k2.1.1.trans e7; have g8 := k2.1.2.trans e8; have x7 := k2.2.1.trans y7; have x8 := k2.2.2.trans y8; have HB2 := Lib.hid hb2; have HO2 := Lib.hid hown2; clear k2 hb2 hown2))
    all_goals
      go_wp2_with fail
      go_meet
      exact HanIn.of HBW.out HCA.out HCB.out HCR.out HB1.out HB2.out HO1.out HO2.out
  case rest =>
    obtain ⟨ae2, ne2, ce2, ar2, nr2, cr2, hbw, hA, hB, hR, hre, hrr, hfe, hfr, hle0, hlr0⟩ := hcut
    have HLE0 := Lib.hid hle0
    have HLR0 := Lib.hid hlr0
    clear hle0 hlr0
    have HFE := Lib.hid hfe
    have HFR := Lib.hid hfr
    clear hfe hfr
    have HBC := Lib.hid hbw
    have HRE := Lib.hid hre
    have HRR := Lib.hid hrr
    have HKA := Lib.hid hA
    have HKB := Lib.hid hB
    have HKR := Lib.hid hR
    obtain ⟨a0, a1, a2, a3, a4, a5, a6, a7, a8, z0, z1, z2, z3, z4, z5, z6, z7, z8⟩ := open9 HKA.out
    have HNN : Hid (ne2 ≤ 1000 ∧ nr2 ≤ 1000) := Lib.hid (by have e1 := HE.out.len; have e2 := hre.len; have e3 := HR.out.len; have e4 := hrr.len; omega)
    have HF5 := Lib.hid HF.out
    have HB5 := Lib.hid HB.out
    clear hbw hre hrr hA hB hR HF HB HE HR HCA HCB HCR HBW
    by_cases hs : src < 0 ∨ 12 ≤ src
    · have hE : Hid (handleS f b x src kind v = (x, [])) := Lib.hid (by unfold handleS; rw [if_pos hs])
      obtain ⟨r0, r1, r2, r3, r4, r5, r6, r7, r8, q0, q1, q2, q3, q4, q5, q6, q7, q8⟩ := open9 HKR.out
      by_cases hs1 : src < 0
      · clear hs
        go_wp2_with fail
        have hz := set9_heap HKR.out (.int .i64 x.id) (.string x.echoed) (.bool x.hasE) (.string x.readied) (.bool x.hasR) (.string x.delivered) (.bool x.hasD) (.slice ae2 ne2 ce2) (.slice ar2 nr2 cr2)
        refine han_end (wf := set9 wc (w.heap.size + 1 + 1) (.int .i64 x.id) (.string x.echoed) (.bool x.hasE) (.string x.readied) (.bool x.hasR) (.string x.delivered) (.bool x.hasD) (.slice ae2 ne2 ce2) (.slice ar2 nr2 cr2)) hE.out rfl rfl rfl hz ?_ ?_ (RdK.none_ 4 _) (set9_below HBC.out (by omega) _ _ _ _ _ _ _ _ _) HFE.out HFR.out (Far.none_ _ _)
        · exact HRE.out.at_ne (fun g hg => set9_other hg _ _ _ _ _ _ _ _ _) (HFE.out.ne (by omega))
        · exact HRR.out.at_ne (fun g hg => set9_other hg _ _ _ _ _ _ _ _ _) (HFR.out.ne (by omega))
      · have hs2 : 12 ≤ src := by omega
        clear hs
        go_wp2_with fail
        have hz := set9_heap HKR.out (.int .i64 x.id) (.string x.echoed) (.bool x.hasE) (.string x.readied) (.bool x.hasR) (.string x.delivered) (.bool x.hasD) (.slice ae2 ne2 ce2) (.slice ar2 nr2 cr2)
        refine han_end (wf := set9 wc (w.heap.size + 1 + 1) (.int .i64 x.id) (.string x.echoed) (.bool x.hasE) (.string x.readied) (.bool x.hasR) (.string x.delivered) (.bool x.hasD) (.slice ae2 ne2 ce2) (.slice ar2 nr2 cr2)) hE.out rfl rfl rfl hz ?_ ?_ (RdK.none_ 4 _) (set9_below HBC.out (by omega) _ _ _ _ _ _ _ _ _) HFE.out HFR.out (Far.none_ _ _)
        · exact HRE.out.at_ne (fun g hg => set9_other hg _ _ _ _ _ _ _ _ _) (HFE.out.ne (by omega))
        · exact HRR.out.at_ne (fun g hg => set9_other hg _ _ _ _ _ _ _ _ _) (HFR.out.ne (by omega))
    · obtain ⟨s, rfl⟩ := Int.eq_ofNat_of_zero_le (show 0 ≤ src by omega)
      have hs12 : s < 12 := by omega
      have hn1 : ¬ (s : Int) < 0 := by omega
      have hn2 : ¬ (12 : Int) ≤ s := by omega
      obtain ⟨W5, hW5⟩ : ∃ W5, W5 = ((wc.alloc (.cells #[.slice none 0 0] 32)).alloc (.cells #[.func (.func 102) #[] #[.pointer (some ⟨wc.heap.size, 0, none⟩), .pointer (some ⟨w.heap.size, 0, none⟩), .pointer (some ⟨w.heap.size + 1, 0, none⟩)]] 89)) := ⟨_, rfl⟩
      have hb5 : Below wc.heap.size wc W5 := by rw [hW5]; exact ((Below.refl _ wc).alloc (Nat.le_refl _) _).alloc (by simp) _
      have KA5 := Lib.hid (heap_below hb5 HKA.out)
      have KB5 := Lib.hid (heap_below hb5 HKB.out)
      have KR5 := Lib.hid (heap_below hb5 HKR.out)
      have KO5 : Hid (W5.heap[wc.heap.size]? = some (.cells #[.slice none 0 0] 32 (0, 0))) := Lib.hid (by rw [hW5]; exact heap_alloc_at (heap_alloc_new _ _) _)
      have KS5 : Hid (W5.heap[wc.heap.size + 1]? = some (.cells #[.func (.func 102) #[] #[.pointer (some ⟨wc.heap.size, 0, none⟩), .pointer (some ⟨w.heap.size, 0, none⟩), .pointer (some ⟨w.heap.size + 1, 0, none⟩)]] 89 (0, 0))) := Lib.hid (by
        rw [hW5]
        have := heap_alloc_new (wc.alloc (.cells #[.slice none 0 0] 32)) (.cells #[.func (.func 102) #[] #[.pointer (some ⟨wc.heap.size, 0, none⟩), .pointer (some ⟨w.heap.size, 0, none⟩), .pointer (some ⟨w.heap.size + 1, 0, none⟩)]] 89)
        rw [World.size_alloc] at this; exact this)
      have RE5 := Lib.hid (HRE.out.below hb5)
      have RR5 := Lib.hid (HRR.out.below hb5)
      have HB5' := Lib.hid (Below.next HBC.out hb5)
      have HO5 : Hid (RdK 4 W5 none 0 0 ([] : List Value)) := Lib.hid (RdK.none_ 4 _)
      have HN5 : Hid (Far (w.heap.size + 3) 0 none) := Lib.hid (Far.none_ _ _)
      have hlt := (Array.getElem?_eq_some_iff.1 HKR.out).1
      have hd1 : ¬ wc.heap.size = w.heap.size + 1 + 1 := by omega
      have hd2 : ¬ w.heap.size + 1 + 1 = wc.heap.size := by omega
      have HSZ : Hid (w.heap.size + 3 ≤ wc.heap.size) := Lib.hid hlt
      have HSZ5 : Hid (wc.heap.size + 2 ≤ W5.heap.size) := Lib.hid (by rw [hW5]; simp)
      have HSO : Hid ((0 < ne2 → ∀ b o, ae2 = some ⟨b, o, none⟩ → b < wc.heap.size) ∧ (0 < nr2 → ∀ b o, ar2 = some ⟨b, o, none⟩ → b < wc.heap.size)) := Lib.hid ⟨fun h b o hb => HRE.out.low h b o hb (by decide), fun h b o hb => HRR.out.low h b o hb (by decide)⟩
      have HSL := Lib.hid (And.intro HLE0.out HLR0.out)
      clear hs hb5 hlt
      go_upto_region 8 with fail
      rw [← hW5]
      clear hW5 a0 a1 a2 a3 a4 a5 a6 a7 a8 z0 z1 z2 z3 z4 z5 z6 z7 z8
      obtain ⟨xid, xed, xhe, xrd, xhr, xdl, xhd, xec, xrs⟩ := x
      by_cases hk1 : kind = 1
      · subst hk1
        cases xhe
        · have hE : Hid (handleS f b ⟨xid, xed, false, xrd, xhr, xdl, xhd, xec, xrs⟩ (s : Int) 1 v = (⟨xid, v, true, xrd, xhr, xdl, xhd, xec, xrs⟩, [⟨2, xid, -1, v⟩])) := Lib.hid (by unfold handleS; rw [if_neg (by omega), if_pos rfl]; rfl)
          obtain ⟨a0, a1, a2, a3, a4, a5, a6, a7, a8, z0, z1, z2, z3, z4, z5, z6, z7, z8⟩ := open9 KA5.out
          obtain ⟨b0, b1, b2, b3, b4, b5, b6, b7, b8, y0, y1, y2, y3, y4, y5, y6, y7, y8⟩ := open9 (show W5.drew.heap[w.heap.size]? = _ from KA5.out)
          have v0 := cell_of_row _ _ 0 _ _ _ KB5.out
          have v0d := cell_of_row _ _ 0 _ _ _ (show W5.drew.heap[w.heap.size + 1]? = _ from KB5.out)
          have s0 := cell_of_row _ _ 0 _ _ _ KS5.out
          have hA6 : (((W5.setCell ⟨w.heap.size, 2, none⟩ (.bool true)).setCell ⟨w.heap.size, 1, none⟩ (.string v)).drew).heap[w.heap.size]? = some (.cells (casA ⟨xid, v, true, xrd, xhr, xdl, xhd, xec, xrs⟩ (.slice ae2 ne2 ce2) (.slice ar2 nr2 cr2)) 97 (0, 0)) := by
            refine (heap_drewA _ _).trans ?_
            rw [heap_set_at (heap_set_at KA5.out 2 _) 1 _]; rfl
          have ko : ∀ (k : Nat), k ≠ w.heap.size → (((W5.setCell ⟨w.heap.size, 2, none⟩ (.bool true)).setCell ⟨w.heap.size, 1, none⟩ (.string v)).drew).heap[k]? = W5.heap[k]? := fun k hk => by
            refine (heap_drewA _ _).trans ?_
            rw [Below.heap_setCell _ _ _ _ (by intro e; exact hk (by rw [e])), Below.heap_setCell _ _ _ _ (by intro e; exact hk (by rw [e]))]
          have HSC := Lib.hid (send_c ⟨xid, v, true, xrd, xhr, xdl, xhd, xec, xrs⟩ (.slice ae2 ne2 ce2) (.slice ar2 nr2 cr2) v 2 w.heap.size (w.heap.size + 1) wc.heap.size _ hA6 ((ko _ (by omega)).trans KB5.out) ((ko _ (by have := HSZ.out; omega)).trans KO5.out))
          have HA6 := Lib.hid hA6
          have HKO := Lib.hid ko
          clear hA6 ko
          have hd3 : ¬ wc.heap.size + 1 = w.heap.size := by have := HSZ.out; omega
          have hd4 : ¬ w.heap.size = wc.heap.size + 1 := by have := HSZ.out; omega
          go_wp2_with fail
          go_region
          all_goals
            go_wp2_with fail
            refine HSC.out.mono ?_
            rintro e w7 ⟨rfl, hgr, vo, ho1, hown⟩
            obtain ⟨ao, co, rfl, hro⟩ := rdK_of_row hown
            have hsz6 : (((W5.setCell ⟨w.heap.size, 2, none⟩ (.bool true)).setCell ⟨w.heap.size, 1, none⟩ (.string v)).drew).heap.size = W5.heap.size := by simp
            have hbe : Below w.heap.size w (((W5.setCell ⟨w.heap.size, 2, none⟩ (.bool true)).setCell ⟨w.heap.size, 1, none⟩ (.string v)).drew) := below_drew ((HB5'.out.setCell (p := ⟨w.heap.size, 2, none⟩) (Nat.le_refl _) _).setCell (p := ⟨w.heap.size, 1, none⟩) (Nat.le_refl _) _)
            have HB7 := Lib.hid (hbe.grown hgr hbe.size (fun k hk => by simp at hk; have := HSZ.out; omega))
            have k7 : ∀ g, g < W5.heap.size → g ≠ wc.heap.size → g ≠ w.heap.size → w7.heap[g]? = W5.heap[g]? := fun g h1 h2 h3 => (hgr.block g (by rw [hsz6]; exact h1) (by simpa using h2)).trans (HKO.out g h3)
            have s5 := HSZ5.out
            have s4 := HSZ.out
            have KA7 := Lib.hid ((hgr.block w.heap.size (by rw [hsz6]; omega) (by have := HSZ.out; simp; omega)).trans HA6.out)
            have KR7 := Lib.hid ((k7 (w.heap.size + 1 + 1) (by omega) (by omega) (by omega)).trans KR5.out)
            have KO7 := Lib.hid ho1
            have RO7 := Lib.hid hro
            have NO7 : Hid (Far (w.heap.size + 3) 1 ao) := Lib.hid (fun b o hb => by have := Far.of_row hown b o hb; rw [hsz6] at this; omega)
            have RE7 := Lib.hid (RdK.at_lt RE5.out k7 HFE.out (by omega) HSO.out.1 (by omega))
            have RR7 := Lib.hid (RdK.at_lt RR5.out k7 HFR.out (by omega) HSO.out.2 (by omega))
            clear hgr ho1 hown hro hsz6 hbe k7 s5 s4 HSC a0 a1 a2 a3 a4 a5 a6 a7 a8 z0 z1 z2 z3 z4 z5 z6 z7 z8 b0 b1 b2 b3 b4 b5 b6 b7 b8 y0 y1 y2 y3 y4 y5 y6 y7 y8 v0 v0d s0
            obtain ⟨a0, a1, a2, a3, a4, a5, a6, a7, a8, _⟩ := open9 KA7.out
            obtain ⟨b0, b1, b2, b3, b4, b5, b6, b7, b8, _⟩ := open9 (show w7.drew.heap[w.heap.size]? = _ from KA7.out)
            have o0 := cell_of_row _ _ 0 _ _ _ KO7.out
            have o0d := cell_of_row _ _ 0 _ _ _ (show w7.drew.heap[wc.heap.size]? = _ from KO7.out)
            obtain ⟨r0, r1, r2, r3, r4, r5, r6, r7, r8, q0, q1, q2, q3, q4, q5, q6, q7, q8⟩ := open9 KR7.out
            obtain ⟨s0, s1, s2, s3, s4, s5, s6, s7, s8, y0, y1, y2, y3, y4, y5, y6, y7, y8⟩ := open9 (show w7.drew.heap[(w.heap.size + 1 + 1)]? = _ from KR7.out)
            go_wp2_with fail
            go_region
            all_goals
              go_wp2_with fail
              have hz := set9_heap KR7.out (.int .i64 xid) (.string v) (.bool true) (.string xrd) (.bool xhr) (.string xdl) (.bool xhd) (.slice ae2 ne2 ce2) (.slice ar2 nr2 cr2)
              refine han_end (wf := (set9 w7 (w.heap.size + 1 + 1) (.int .i64 xid) (.string v) (.bool true) (.string xrd) (.bool xhr) (.string xdl) (.bool xhd) (.slice ae2 ne2 ce2) (.slice ar2 nr2 cr2)).drew) hE.out rfl rfl rfl ((heap_drewA _ _).trans hz) ?_ ?_ ?_ (below_drew (set9_below HB7.out (by omega) _ _ _ _ _ _ _ _ _)) HFE.out HFR.out NO7.out
              · exact RE7.out.at_ne (fun g hg => (heap_drewA _ _).trans (set9_other hg _ _ _ _ _ _ _ _ _)) (HFE.out.ne (by omega))
              · exact RR7.out.at_ne (fun g hg => (heap_drewA _ _).trans (set9_other hg _ _ _ _ _ _ _ _ _)) (HFR.out.ne (by omega))
              · exact RO7.out.at_ne (fun g hg => (heap_drewA _ _).trans (set9_other hg _ _ _ _ _ _ _ _ _)) (NO7.out.ne (by omega))
        · have hE : Hid (handleS f b ⟨xid, xed, true, xrd, xhr, xdl, xhd, xec, xrs⟩ (s : Int) 1 v = (⟨xid, xed, true, xrd, xhr, xdl, xhd, xec, xrs⟩, [])) := Lib.hid (by unfold handleS; rw [if_neg (by omega), if_pos rfl]; rfl)
          obtain ⟨a0, a1, a2, a3, a4, a5, a6, a7, a8, _⟩ := open9 KA5.out
          obtain ⟨b0, b1, b2, b3, b4, b5, b6, b7, b8, _⟩ := open9 (show W5.drew.heap[w.heap.size]? = _ from KA5.out)
          have o0 := cell_of_row _ _ 0 _ _ _ KO5.out
          have o0d := cell_of_row _ _ 0 _ _ _ (show W5.drew.heap[wc.heap.size]? = _ from KO5.out)
          obtain ⟨r0, r1, r2, r3, r4, r5, r6, r7, r8, q0, q1, q2, q3, q4, q5, q6, q7, q8⟩ := open9 KR5.out
          obtain ⟨s0, s1, s2, s3, s4, s5, s6, s7, s8, y0, y1, y2, y3, y4, y5, y6, y7, y8⟩ := open9 (show W5.drew.heap[(w.heap.size + 1 + 1)]? = _ from KR5.out)
          go_wp2_with fail
          go_region
          all_goals
            go_wp2_with fail
            have hz := set9_heap KR5.out (.int .i64 xid) (.string xed) (.bool true) (.string xrd) (.bool xhr) (.string xdl) (.bool xhd) (.slice ae2 ne2 ce2) (.slice ar2 nr2 cr2)
            refine han_end (wf := (set9 W5 (w.heap.size + 1 + 1) (.int .i64 xid) (.string xed) (.bool true) (.string xrd) (.bool xhr) (.string xdl) (.bool xhd) (.slice ae2 ne2 ce2) (.slice ar2 nr2 cr2)).drew) hE.out rfl rfl rfl ((heap_drewA _ _).trans hz) ?_ ?_ ?_ (below_drew (set9_below HB5'.out (by omega) _ _ _ _ _ _ _ _ _)) HFE.out HFR.out HN5.out
            · exact RE5.out.at_ne (fun g hg => (heap_drewA _ _).trans (set9_other hg _ _ _ _ _ _ _ _ _)) (HFE.out.ne (by omega))
            · exact RR5.out.at_ne (fun g hg => (heap_drewA _ _).trans (set9_other hg _ _ _ _ _ _ _ _ _)) (HFR.out.ne (by omega))
            · exact HO5.out.at_ne (fun g hg => (heap_drewA _ _).trans (set9_other hg _ _ _ _ _ _ _ _ _)) (HN5.out.ne (by omega))
      · by_cases hk2 : kind = 2
        · subst hk2
          obtain ⟨⟨LE, ok⟩, hok⟩ : ∃ p, addH xec s v = p := ⟨_, rfl⟩
          have HAD : Hid (Calls Tryz.prog 104 #[.slice ae2 ne2 ce2, .int .i64 s, .string v] W5 fun e w' => ∃ a' n' c', e = .returned (.tuple #[.slice a' n' c', .bool ok]) ∧ RdK 2 w' a' n' c' (LE.flatMap heaC) ∧ Below W5.heap.size W5 w' ∧ (a' = ae2 ∨ ∀ b o, a' = some ⟨b, o, none⟩ → W5.heap.size ≤ b)) := Lib.hid (by have h9 := badd_c xec s v hs12 ae2 ne2 ce2 W5 RE5.out HNN.out.1; rw [hok] at h9; exact h9)
          have HOK := Lib.hid hok
          clear hok
          obtain ⟨a0, a1, a2, a3, a4, a5, a6, a7, a8, z0, z1, z2, z3, z4, z5, z6, z7, z8⟩ := open9 KA5.out
          have v0 := cell_of_row _ _ 0 _ _ _ KB5.out
          cases ok
          · have hE : Hid (handleS f b ⟨xid, xed, xhe, xrd, xhr, xdl, xhd, xec, xrs⟩ (s : Int) 2 v = (⟨xid, xed, xhe, xrd, xhr, xdl, xhd, LE, xrs⟩, [])) := Lib.hid (by unfold handleS; rw [if_neg (by omega), if_neg (by decide), if_pos rfl]; simp only [Int.toNat_natCast, HOK.out]; rfl)
            go_wp2_with fail
            refine HAD.out.mono ?_
            rintro e w6 ⟨ax, nx, cx, rfl, hrx, hb6, hfx⟩
            have KA6 := Lib.hid (heap_below hb6 KA5.out)
            have HB6 := Lib.hid (Below.next HB5'.out hb6)
            have HBW6 := Lib.hid hb6
            have HRX := Lib.hid hrx
            have HFX := Lib.hid hfx
            clear a0 a1 a2 a3 a4 a5 a6 a7 a8 z0 z1 z2 z3 z4 z5 z6 z7 z8 v0 hrx hb6 hfx HAD
            obtain ⟨a0, a1, a2, a3, a4, a5, a6, a7, a8, z0, z1, z2, z3, z4, z5, z6, z7, z8⟩ := open9 KA6.out
            obtain ⟨W7, hW7⟩ : ∃ W7, W7 = w6.setCell ⟨w.heap.size, 7, none⟩ (.slice ax nx cx) := ⟨_, rfl⟩
            have s4 := HSZ.out
            have s5 := HSZ5.out
            have s6 := HBW6.out.size
            have k7 : ∀ g, g ≠ w.heap.size → W7.heap[g]? = w6.heap[g]? := fun g hg => by rw [hW7]; exact Below.heap_setCell _ _ _ _ (by intro e; exact hg (by rw [e]))
            have KA7 : Hid (W7.heap[w.heap.size]? = some (.cells #[.int .i64 xid, .string xed, .bool xhe, .string xrd, .bool xhr, .string xdl, .bool xhd, .slice ax nx cx, .slice ar2 nr2 cr2] 97 (0, 0))) := Lib.hid (by rw [hW7, heap_set_at KA6.out 7 _]; rfl)
            have KO7 := Lib.hid ((k7 wc.heap.size (by omega)).trans (heap_below HBW6.out KO5.out))
            have KR7 := Lib.hid ((k7 (w.heap.size + 1 + 1) (by omega)).trans (heap_below HBW6.out KR5.out))
            have hxf : Far (w.heap.size + 3) nx ax := fun b o hb => by
              rcases HFX.out with h1 | h1
              · subst h1; exact HFE.out b o hb
              · have := h1 b o hb; omega
            have RE7 := Lib.hid (HRX.out.at_ne k7 (hxf.ne (by omega)))
            have RR7 := Lib.hid ((RR5.out.below HBW6.out).at_ne k7 (fun h b o hb => by have := HFR.out b o hb; omega))
            have NE7 := Lib.hid hxf
            have HB7 : Hid (Below w.heap.size w W7) := Lib.hid (by rw [hW7]; exact HB6.out.setCell (p := ⟨w.heap.size, 7, none⟩) (Nat.le_refl _) _)
            have HO7 : Hid (RdK 4 W7 none 0 0 ([] : List Value)) := Lib.hid (RdK.none_ 4 _)
            clear k7 hxf s4 s5 s6
            go_upto_region 24 with fail
            rw [← hW7]
            clear hW7 a0 a1 a2 a3 a4 a5 a6 a7 a8 z0 z1 z2 z3 z4 z5 z6 z7 z8
            obtain ⟨a0, a1, a2, a3, a4, a5, a6, a7, a8, _⟩ := open9 KA7.out
            obtain ⟨b0, b1, b2, b3, b4, b5, b6, b7, b8, _⟩ := open9 (show W7.drew.heap[w.heap.size]? = _ from KA7.out)
            have o0 := cell_of_row _ _ 0 _ _ _ KO7.out
            have o0d := cell_of_row _ _ 0 _ _ _ (show W7.drew.heap[wc.heap.size]? = _ from KO7.out)
            obtain ⟨r0, r1, r2, r3, r4, r5, r6, r7, r8, q0, q1, q2, q3, q4, q5, q6, q7, q8⟩ := open9 KR7.out
            obtain ⟨s0, s1, s2, s3, s4, s5, s6, s7, s8, y0, y1, y2, y3, y4, y5, y6, y7, y8⟩ := open9 (show W7.drew.heap[(w.heap.size + 1 + 1)]? = _ from KR7.out)
            go_wp2_with fail
            go_region
            all_goals
              go_wp2_with fail
              have hz := set9_heap KR7.out (.int .i64 xid) (.string xed) (.bool xhe) (.string xrd) (.bool xhr) (.string xdl) (.bool xhd) (.slice ax nx cx) (.slice ar2 nr2 cr2)
              refine han_end (wf := (set9 W7 (w.heap.size + 1 + 1) (.int .i64 xid) (.string xed) (.bool xhe) (.string xrd) (.bool xhr) (.string xdl) (.bool xhd) (.slice ax nx cx) (.slice ar2 nr2 cr2)).drew) hE.out rfl rfl rfl ((heap_drewA _ _).trans hz) ?_ ?_ ?_ (below_drew (set9_below HB7.out (by omega) _ _ _ _ _ _ _ _ _)) NE7.out HFR.out HN5.out
              · exact RE7.out.at_ne (fun g hg => (heap_drewA _ _).trans (set9_other hg _ _ _ _ _ _ _ _ _)) (NE7.out.ne (by omega))
              · exact RR7.out.at_ne (fun g hg => (heap_drewA _ _).trans (set9_other hg _ _ _ _ _ _ _ _ _)) (HFR.out.ne (by omega))
              · exact HO7.out.at_ne (fun g hg => (heap_drewA _ _).trans (set9_other hg _ _ _ _ _ _ _ _ _)) (HN5.out.ne (by omega))
          · obtain ⟨⟨⟨p1, p2, p3, p4, p5, p6, p7, p8, p9⟩, L9⟩, hR9⟩ : ∃ p, readyS (accS f (heaS LE v)) ⟨xid, xed, xhe, xrd, xhr, xdl, xhd, LE, xrs⟩ v = p := ⟨_, rfl⟩
            have hE : Hid (handleS f b ⟨xid, xed, xhe, xrd, xhr, xdl, xhd, xec, xrs⟩ (s : Int) 2 v = (⟨p1, p2, p3, p4, p5, p6, p7, p8, p9⟩, L9)) := Lib.hid (by unfold handleS; rw [if_neg (by omega), if_neg (by decide), if_pos rfl]; simp only [Int.toNat_natCast, HOK.out, if_true]; exact hR9)
            have h8 : LE = p8 := by have := (readyS_keep (accS f (heaS LE v)) ⟨xid, xed, xhe, xrd, xhr, xdl, xhd, LE, xrs⟩ v).1; rw [hR9] at this; exact this.symm
            have h9 : xrs = p9 := by have := (readyS_keep (accS f (heaS LE v)) ⟨xid, xed, xhe, xrd, xhr, xdl, xhd, LE, xrs⟩ v).2; rw [hR9] at this; exact this.symm
            subst h8 h9
            have HR9 := Lib.hid hR9
            clear hR9
            go_wp2_with fail
            refine HAD.out.mono ?_
            rintro e w6 ⟨ax, nx, cx, rfl, hrx, hb6, hfx⟩
            have KA6 := Lib.hid (heap_below hb6 KA5.out)
            have HB6 := Lib.hid (Below.next HB5'.out hb6)
            have HBW6 := Lib.hid hb6
            have HRX := Lib.hid hrx
            have HFX := Lib.hid hfx
            clear a0 a1 a2 a3 a4 a5 a6 a7 a8 z0 z1 z2 z3 z4 z5 z6 z7 z8 v0 hrx hb6 hfx HAD
            obtain ⟨a0, a1, a2, a3, a4, a5, a6, a7, a8, z0, z1, z2, z3, z4, z5, z6, z7, z8⟩ := open9 KA6.out
            obtain ⟨W7, hW7⟩ : ∃ W7, W7 = w6.setCell ⟨w.heap.size, 7, none⟩ (.slice ax nx cx) := ⟨_, rfl⟩
            have s4 := HSZ.out
            have s5 := HSZ5.out
            have s6 := HBW6.out.size
            have k7 : ∀ g, g ≠ w.heap.size → W7.heap[g]? = w6.heap[g]? := fun g hg => by rw [hW7]; exact Below.heap_setCell _ _ _ _ (by intro e; exact hg (by rw [e]))
            have KA7 : Hid (W7.heap[w.heap.size]? = some (.cells #[.int .i64 xid, .string xed, .bool xhe, .string xrd, .bool xhr, .string xdl, .bool xhd, .slice ax nx cx, .slice ar2 nr2 cr2] 97 (0, 0))) := Lib.hid (by rw [hW7, heap_set_at KA6.out 7 _]; rfl)
            have KO7 := Lib.hid ((k7 wc.heap.size (by omega)).trans (heap_below HBW6.out KO5.out))
            have KR7 := Lib.hid ((k7 (w.heap.size + 1 + 1) (by omega)).trans (heap_below HBW6.out KR5.out))
            have hxf : Far (w.heap.size + 3) nx ax := fun b o hb => by
              rcases HFX.out with h1 | h1
              · subst h1; exact HFE.out b o hb
              · have := h1 b o hb; omega
            have RE7 := Lib.hid (HRX.out.at_ne k7 (hxf.ne (by omega)))
            have RR7 := Lib.hid ((RR5.out.below HBW6.out).at_ne k7 (fun h b o hb => by have := HFR.out b o hb; omega))
            have NE7 := Lib.hid hxf
            have HB7 : Hid (Below w.heap.size w W7) := Lib.hid (by rw [hW7]; exact HB6.out.setCell (p := ⟨w.heap.size, 7, none⟩) (Nat.le_refl _) _)
            have HO7 : Hid (RdK 4 W7 none 0 0 ([] : List Value)) := Lib.hid (RdK.none_ 4 _)
            have KB7 := Lib.hid ((k7 (w.heap.size + 1) (by omega)).trans (heap_below HBW6.out KB5.out))
            have KS7 := Lib.hid ((k7 (wc.heap.size + 1) (by omega)).trans (heap_below HBW6.out KS5.out))
            have KF7 : Hid (∀ u, Below W7.heap.size W7 u → Rd u af nf cf (f.map setV2)) := Lib.hid (fun u hu => HF5.out.below (Below.next HB7.out hu))
            have HLE := Lib.hid (fun (u : World) (hu : RdK 2 u ax nx cx (LE.flatMap heaC)) => heard_c LE v ax nx cx u hu)
            have HXN : Hid (∀ b o, ax = some ⟨b, o, none⟩ → b ≠ wc.heap.size ∧ b ≠ w.heap.size) := Lib.hid (fun b o hb => by
              rcases HFX.out with h1 | h1
              · subst h1; have := HFE.out b o hb; have := HSL.out.1 b o hb; omega
              · have := h1 b o hb; omega)
            have HRN : Hid (∀ b o, ar2 = some ⟨b, o, none⟩ → b ≠ wc.heap.size ∧ b ≠ w.heap.size) := Lib.hid (fun b o hb => by have := HFR.out b o hb; have := HSL.out.2 b o hb; omega)
            have HS7 := Lib.hid (show wc.heap.size < W7.heap.size from (Array.getElem?_eq_some_iff.1 KO7.out).1)
            clear k7 hxf s4 s5 s6
            go_upto_region 16 with fail
            rw [← hW7]
            clear hW7 a0 a1 a2 a3 a4 a5 a6 a7 a8 z0 z1 z2 z3 z4 z5 z6 z7 z8
            obtain ⟨a0, a1, a2, a3, a4, a5, a6, a7, a8, _⟩ := open9 KA7.out
            have v0 := cell_of_row _ _ 0 _ _ _ KB7.out
            go_wp2_with fail
            refine (HLE.out W7 RE7.out).mono ?_
            rintro e w8 ⟨rfl, b8⟩
            have HB8 := Lib.hid b8
            clear b8 a0 a1 a2 a3 a4 a5 a6 a7 a8 v0 HLE
            go_wp2_with fail
            refine (bcon_c f (heaS LE v) af nf cf w8 (KF7.out w8 HB8.out)).mono ?_
            rintro e w9 ⟨rfl, b9⟩
            have b79 := Below.next HB8.out b9
            have hrc := (ready_c (accS f (heaS LE v)) ⟨xid, xed, xhe, xrd, xhr, xdl, xhd, LE, xrs⟩ (.slice ax nx cx) (.slice ar2 nr2 cr2) v w.heap.size (w.heap.size + 1) wc.heap.size (wc.heap.size + 1) w9 (heap_below b79 KA7.out) (heap_below b79 KB7.out) (heap_below b79 KO7.out) (heap_below b79 KS7.out))
            rw [HR9.out] at hrc
            have HRC := Lib.hid hrc
            have HB79 := Lib.hid b79
            clear b9 b79 hrc
            go_wp2_with fail
            refine HRC.out.mono ?_
            rintro e w10 ⟨rfl, hkp, ha10, vo, ho10, hown⟩
            obtain ⟨ao, co, rfl, hro⟩ := rdK_of_row hown
            have s4 := HSZ.out
            have s7 := HS7.out
            have s9 := HB79.out.size
            have k10 : ∀ g, g < w9.heap.size → g ≠ wc.heap.size → g ≠ w.heap.size → w10.heap[g]? = w9.heap[g]? := fun g h1 h2 h3 => hkp.block g h1 h3 h2
            have KA10 := Lib.hid ha10
            have KO10 := Lib.hid ho10
            have KR10 := Lib.hid ((k10 (w.heap.size + 1 + 1) (by omega) (by omega) (by omega)).trans (heap_below HB79.out KR7.out))
            have HB10 : Hid (Below w.heap.size w w10) := Lib.hid (Keep2.below (Below.next HB7.out HB79.out) hkp rfl (Nat.le_refl _) (by omega))
            have RE10 := Lib.hid ((RE7.out.below HB79.out).at2 k10 (by decide) HXN.out)
            have RR10 := Lib.hid ((RR7.out.below HB79.out).at2 k10 (by decide) HRN.out)
            have RO10 := Lib.hid hro
            have NO10 : Hid (Far (w.heap.size + 3) L9.length ao) := Lib.hid (fun b o hb => by have := Far.of_row hown b o hb; omega)
            clear hkp ha10 ho10 hown hro s4 s7 s9 k10 HRC
            obtain ⟨a0, a1, a2, a3, a4, a5, a6, a7, a8, _⟩ := open9 KA10.out
            obtain ⟨b0, b1, b2, b3, b4, b5, b6, b7, b8, _⟩ := open9 (show w10.drew.heap[w.heap.size]? = _ from KA10.out)
            have o0 := cell_of_row _ _ 0 _ _ _ KO10.out
            have o0d := cell_of_row _ _ 0 _ _ _ (show w10.drew.heap[wc.heap.size]? = _ from KO10.out)
            obtain ⟨r0, r1, r2, r3, r4, r5, r6, r7, r8, q0, q1, q2, q3, q4, q5, q6, q7, q8⟩ := open9 KR10.out
            obtain ⟨s0, s1, s2, s3, s4, s5, s6, s7, s8, y0, y1, y2, y3, y4, y5, y6, y7, y8⟩ := open9 (show w10.drew.heap[(w.heap.size + 1 + 1)]? = _ from KR10.out)
            go_wp2_with fail
            go_region
            all_goals
              go_wp2_with fail
              have hz := set9_heap KR10.out (.int .i64 p1) (.string p2) (.bool p3) (.string p4) (.bool p5) (.string p6) (.bool p7) (.slice ax nx cx) (.slice ar2 nr2 cr2)
              refine han_end (wf := (set9 w10 (w.heap.size + 1 + 1) (.int .i64 p1) (.string p2) (.bool p3) (.string p4) (.bool p5) (.string p6) (.bool p7) (.slice ax nx cx) (.slice ar2 nr2 cr2)).drew) hE.out rfl rfl rfl ((heap_drewA _ _).trans hz) ?_ ?_ ?_ (below_drew (set9_below HB10.out (by omega) _ _ _ _ _ _ _ _ _)) NE7.out HFR.out NO10.out
              · exact RE10.out.at_ne (fun g hg => (heap_drewA _ _).trans (set9_other hg _ _ _ _ _ _ _ _ _)) (NE7.out.ne (by omega))
              · exact RR10.out.at_ne (fun g hg => (heap_drewA _ _).trans (set9_other hg _ _ _ _ _ _ _ _ _)) (HFR.out.ne (by omega))
              · exact RO10.out.at_ne (fun g hg => (heap_drewA _ _).trans (set9_other hg _ _ _ _ _ _ _ _ _)) (NO10.out.ne (by omega))
        · by_cases hk3 : kind = 3
          · subst hk3
            obtain ⟨⟨LE, ok⟩, hok⟩ : ∃ p, addH xrs s v = p := ⟨_, rfl⟩
            have HAD : Hid (Calls Tryz.prog 104 #[.slice ar2 nr2 cr2, .int .i64 s, .string v] W5 fun e w' => ∃ a' n' c', e = .returned (.tuple #[.slice a' n' c', .bool ok]) ∧ RdK 2 w' a' n' c' (LE.flatMap heaC) ∧ Below W5.heap.size W5 w' ∧ (a' = ar2 ∨ ∀ b o, a' = some ⟨b, o, none⟩ → W5.heap.size ≤ b)) := Lib.hid (by have h9 := badd_c xrs s v hs12 ar2 nr2 cr2 W5 RR5.out HNN.out.2; rw [hok] at h9; exact h9)
            have HOK := Lib.hid hok
            clear hok
            obtain ⟨a0, a1, a2, a3, a4, a5, a6, a7, a8, z0, z1, z2, z3, z4, z5, z6, z7, z8⟩ := open9 KA5.out
            have v0 := cell_of_row _ _ 0 _ _ _ KB5.out
            cases ok
            · have hE : Hid (handleS f b ⟨xid, xed, xhe, xrd, xhr, xdl, xhd, xec, xrs⟩ (s : Int) 3 v = (⟨xid, xed, xhe, xrd, xhr, xdl, xhd, xec, LE⟩, [])) := Lib.hid (by unfold handleS; rw [if_neg (by omega), if_neg (by decide), if_neg (by decide), if_pos rfl]; simp only [Int.toNat_natCast, HOK.out]; rfl)
              go_wp2_with fail
              refine HAD.out.mono ?_
              rintro e w6 ⟨ax, nx, cx, rfl, hrx, hb6, hfx⟩
              have KA6 := Lib.hid (heap_below hb6 KA5.out)
              have HB6 := Lib.hid (Below.next HB5'.out hb6)
              have HBW6 := Lib.hid hb6
              have HRX := Lib.hid hrx
              have HFX := Lib.hid hfx
              clear a0 a1 a2 a3 a4 a5 a6 a7 a8 z0 z1 z2 z3 z4 z5 z6 z7 z8 v0 hrx hb6 hfx HAD
              obtain ⟨a0, a1, a2, a3, a4, a5, a6, a7, a8, z0, z1, z2, z3, z4, z5, z6, z7, z8⟩ := open9 KA6.out
              obtain ⟨W7, hW7⟩ : ∃ W7, W7 = w6.setCell ⟨w.heap.size, 8, none⟩ (.slice ax nx cx) := ⟨_, rfl⟩
              have s4 := HSZ.out
              have s5 := HSZ5.out
              have s6 := HBW6.out.size
              have k7 : ∀ g, g ≠ w.heap.size → W7.heap[g]? = w6.heap[g]? := fun g hg => by rw [hW7]; exact Below.heap_setCell _ _ _ _ (by intro e; exact hg (by rw [e]))
              have KA7 : Hid (W7.heap[w.heap.size]? = some (.cells #[.int .i64 xid, .string xed, .bool xhe, .string xrd, .bool xhr, .string xdl, .bool xhd, .slice ae2 ne2 ce2, .slice ax nx cx] 97 (0, 0))) := Lib.hid (by rw [hW7, heap_set_at KA6.out 8 _]; rfl)
              have KO7 := Lib.hid ((k7 wc.heap.size (by omega)).trans (heap_below HBW6.out KO5.out))
              have KR7 := Lib.hid ((k7 (w.heap.size + 1 + 1) (by omega)).trans (heap_below HBW6.out KR5.out))
              have hxf : Far (w.heap.size + 3) nx ax := fun b o hb => by
                rcases HFX.out with h1 | h1
                · subst h1; exact HFR.out b o hb
                · have := h1 b o hb; omega
              have RR7 := Lib.hid (HRX.out.at_ne k7 (hxf.ne (by omega)))
              have RE7 := Lib.hid ((RE5.out.below HBW6.out).at_ne k7 (fun h b o hb => by have := HFE.out b o hb; omega))
              have NR7 := Lib.hid hxf
              have HB7 : Hid (Below w.heap.size w W7) := Lib.hid (by rw [hW7]; exact HB6.out.setCell (p := ⟨w.heap.size, 8, none⟩) (Nat.le_refl _) _)
              have HO7 : Hid (RdK 4 W7 none 0 0 ([] : List Value)) := Lib.hid (RdK.none_ 4 _)
              clear k7 hxf s4 s5 s6
              go_upto_region 24 with fail
              rw [← hW7]
              clear hW7 a0 a1 a2 a3 a4 a5 a6 a7 a8 z0 z1 z2 z3 z4 z5 z6 z7 z8
              obtain ⟨a0, a1, a2, a3, a4, a5, a6, a7, a8, _⟩ := open9 KA7.out
              obtain ⟨b0, b1, b2, b3, b4, b5, b6, b7, b8, _⟩ := open9 (show W7.drew.heap[w.heap.size]? = _ from KA7.out)
              have o0 := cell_of_row _ _ 0 _ _ _ KO7.out
              have o0d := cell_of_row _ _ 0 _ _ _ (show W7.drew.heap[wc.heap.size]? = _ from KO7.out)
              obtain ⟨r0, r1, r2, r3, r4, r5, r6, r7, r8, q0, q1, q2, q3, q4, q5, q6, q7, q8⟩ := open9 KR7.out
              obtain ⟨s0, s1, s2, s3, s4, s5, s6, s7, s8, y0, y1, y2, y3, y4, y5, y6, y7, y8⟩ := open9 (show W7.drew.heap[(w.heap.size + 1 + 1)]? = _ from KR7.out)
              go_wp2_with fail
              go_region
              all_goals
                go_wp2_with fail
                have hz := set9_heap KR7.out (.int .i64 xid) (.string xed) (.bool xhe) (.string xrd) (.bool xhr) (.string xdl) (.bool xhd) (.slice ae2 ne2 ce2) (.slice ax nx cx)
                refine han_end (wf := (set9 W7 (w.heap.size + 1 + 1) (.int .i64 xid) (.string xed) (.bool xhe) (.string xrd) (.bool xhr) (.string xdl) (.bool xhd) (.slice ae2 ne2 ce2) (.slice ax nx cx)).drew) hE.out rfl rfl rfl ((heap_drewA _ _).trans hz) ?_ ?_ ?_ (below_drew (set9_below HB7.out (by omega) _ _ _ _ _ _ _ _ _)) HFE.out NR7.out HN5.out
                · exact RE7.out.at_ne (fun g hg => (heap_drewA _ _).trans (set9_other hg _ _ _ _ _ _ _ _ _)) (HFE.out.ne (by omega))
                · exact RR7.out.at_ne (fun g hg => (heap_drewA _ _).trans (set9_other hg _ _ _ _ _ _ _ _ _)) (NR7.out.ne (by omega))
                · exact HO7.out.at_ne (fun g hg => (heap_drewA _ _).trans (set9_other hg _ _ _ _ _ _ _ _ _)) (HN5.out.ne (by omega))
            · obtain ⟨⟨⟨p1, p2, p3, p4, p5, p6, p7, p8, p9⟩, L9⟩, hR9⟩ : ∃ p, readyS (!witS b (heaS LE v)) ⟨xid, xed, xhe, xrd, xhr, xdl, xhd, xec, LE⟩ v = p := ⟨_, rfl⟩
              have hE0 : Hid (handleS f b ⟨xid, xed, xhe, xrd, xhr, xdl, xhd, xec, xrs⟩ (s : Int) 3 v = (lastS f (heaS LE v) ⟨p1, p2, p3, p4, p5, p6, p7, p8, p9⟩ v, L9)) := Lib.hid (by unfold handleS; rw [if_neg (by omega), if_neg (by decide), if_neg (by decide), if_pos rfl]; simp only [Int.toNat_natCast, HOK.out, if_true]; rw [hR9])
              have h8 : xec = p8 := by have := (readyS_keep (!witS b (heaS LE v)) ⟨xid, xed, xhe, xrd, xhr, xdl, xhd, xec, LE⟩ v).1; rw [hR9] at this; exact this.symm
              have h9 : LE = p9 := by have := (readyS_keep (!witS b (heaS LE v)) ⟨xid, xed, xhe, xrd, xhr, xdl, xhd, xec, LE⟩ v).2; rw [hR9] at this; exact this.symm
              subst h8 h9
              have HR9 := Lib.hid hR9
              clear hR9
              go_wp2_with fail
              refine HAD.out.mono ?_
              rintro e w6 ⟨ax, nx, cx, rfl, hrx, hb6, hfx⟩
              have KA6 := Lib.hid (heap_below hb6 KA5.out)
              have HB6 := Lib.hid (Below.next HB5'.out hb6)
              have HBW6 := Lib.hid hb6
              have HRX := Lib.hid hrx
              have HFX := Lib.hid hfx
              clear a0 a1 a2 a3 a4 a5 a6 a7 a8 z0 z1 z2 z3 z4 z5 z6 z7 z8 v0 hrx hb6 hfx HAD
              obtain ⟨a0, a1, a2, a3, a4, a5, a6, a7, a8, z0, z1, z2, z3, z4, z5, z6, z7, z8⟩ := open9 KA6.out
              obtain ⟨W7, hW7⟩ : ∃ W7, W7 = w6.setCell ⟨w.heap.size, 8, none⟩ (.slice ax nx cx) := ⟨_, rfl⟩
              have s4 := HSZ.out
              have s5 := HSZ5.out
              have s6 := HBW6.out.size
              have k7 : ∀ g, g ≠ w.heap.size → W7.heap[g]? = w6.heap[g]? := fun g hg => by rw [hW7]; exact Below.heap_setCell _ _ _ _ (by intro e; exact hg (by rw [e]))
              have KA7 : Hid (W7.heap[w.heap.size]? = some (.cells #[.int .i64 xid, .string xed, .bool xhe, .string xrd, .bool xhr, .string xdl, .bool xhd, .slice ae2 ne2 ce2, .slice ax nx cx] 97 (0, 0))) := Lib.hid (by rw [hW7, heap_set_at KA6.out 8 _]; rfl)
              have KO7 := Lib.hid ((k7 wc.heap.size (by omega)).trans (heap_below HBW6.out KO5.out))
              have KR7 := Lib.hid ((k7 (w.heap.size + 1 + 1) (by omega)).trans (heap_below HBW6.out KR5.out))
              have hxf : Far (w.heap.size + 3) nx ax := fun b o hb => by
                rcases HFX.out with h1 | h1
                · subst h1; exact HFR.out b o hb
                · have := h1 b o hb; omega
              have RR7 := Lib.hid (HRX.out.at_ne k7 (hxf.ne (by omega)))
              have RE7 := Lib.hid ((RE5.out.below HBW6.out).at_ne k7 (fun h b o hb => by have := HFE.out b o hb; omega))
              have NR7 := Lib.hid hxf
              have HB7 : Hid (Below w.heap.size w W7) := Lib.hid (by rw [hW7]; exact HB6.out.setCell (p := ⟨w.heap.size, 8, none⟩) (Nat.le_refl _) _)
              have HO7 : Hid (RdK 4 W7 none 0 0 ([] : List Value)) := Lib.hid (RdK.none_ 4 _)
              have KB7 := Lib.hid ((k7 (w.heap.size + 1) (by omega)).trans (heap_below HBW6.out KB5.out))
              have KS7 := Lib.hid ((k7 (wc.heap.size + 1) (by omega)).trans (heap_below HBW6.out KS5.out))
              have KF7 : Hid (∀ u, Below W7.heap.size W7 u → Rd u af nf cf (f.map setV2)) := Lib.hid (fun u hu => HF5.out.below (Below.next HB7.out hu))
              have KG7 : Hid (∀ u, Below W7.heap.size W7 u → Rd u ab nb cb (b.map setV2)) := Lib.hid (fun u hu => HB5.out.below (Below.next HB7.out hu))
              have KF8 : Hid (∀ u, Below w.heap.size w u → Rd u af nf cf (f.map setV2)) := Lib.hid (fun u hu => HF5.out.below hu)
              have HLE := Lib.hid (fun (u : World) (hu : RdK 2 u ax nx cx (LE.flatMap heaC)) => heard_c LE v ax nx cx u hu)
              have HXN : Hid (∀ b o, ax = some ⟨b, o, none⟩ → b ≠ wc.heap.size ∧ b ≠ w.heap.size) := Lib.hid (fun b o hb => by
                rcases HFX.out with h1 | h1
                · subst h1; have := HFR.out b o hb; have := HSL.out.2 b o hb; omega
                · have := h1 b o hb; omega)
              have HRN : Hid (∀ b o, ae2 = some ⟨b, o, none⟩ → b ≠ wc.heap.size ∧ b ≠ w.heap.size) := Lib.hid (fun b o hb => by have := HFE.out b o hb; have := HSL.out.1 b o hb; omega)
              have HS7 := Lib.hid (show wc.heap.size < W7.heap.size from (Array.getElem?_eq_some_iff.1 KO7.out).1)
              clear k7 hxf s4 s5 s6
              go_upto_region 20 with fail
              rw [← hW7]
              clear hW7 a0 a1 a2 a3 a4 a5 a6 a7 a8 z0 z1 z2 z3 z4 z5 z6 z7 z8
              obtain ⟨a0, a1, a2, a3, a4, a5, a6, a7, a8, _⟩ := open9 KA7.out
              have v0 := cell_of_row _ _ 0 _ _ _ KB7.out
              go_wp2_with fail
              refine (HLE.out W7 RR7.out).mono ?_
              rintro e w8 ⟨rfl, b8⟩
              have HB8 := Lib.hid b8
              clear b8 a0 a1 a2 a3 a4 a5 a6 a7 a8 v0 HLE
              go_wp2_with fail
              refine (bwit_c b (heaS LE v) ab nb cb w8 (KG7.out w8 HB8.out)).mono ?_
              rintro e w9 ⟨rfl, b9⟩
              have b79 := Below.next HB8.out b9
              have hrc := (ready_c (!witS b (heaS LE v)) ⟨xid, xed, xhe, xrd, xhr, xdl, xhd, xec, LE⟩ (.slice ae2 ne2 ce2) (.slice ax nx cx) v w.heap.size (w.heap.size + 1) wc.heap.size (wc.heap.size + 1) w9 (heap_below b79 KA7.out) (heap_below b79 KB7.out) (heap_below b79 KO7.out) (heap_below b79 KS7.out))
              rw [HR9.out] at hrc
              have HRC := Lib.hid hrc
              have HB79 := Lib.hid b79
              have KB9 := Lib.hid (heap_below b79 KB7.out)
              clear b9 b79 hrc
              go_wp2_with fail
              refine HRC.out.mono ?_
              rintro e w10 ⟨rfl, hkp, ha10, vo, ho10, hown⟩
              obtain ⟨ao, co, rfl, hro⟩ := rdK_of_row hown
              have s4 := HSZ.out
              have s7 := HS7.out
              have s9 := HB79.out.size
              have k10 : ∀ g, g < w9.heap.size → g ≠ wc.heap.size → g ≠ w.heap.size → w10.heap[g]? = w9.heap[g]? := fun g h1 h2 h3 => hkp.block g h1 h3 h2
              have KA10 := Lib.hid ha10
              have KO10 := Lib.hid ho10
              have KR10 := Lib.hid ((k10 (w.heap.size + 1 + 1) (by omega) (by omega) (by omega)).trans (heap_below HB79.out KR7.out))
              have KB10 := Lib.hid ((k10 (w.heap.size + 1) (by omega) (by omega) (by omega)).trans KB9.out)
              have HB10 : Hid (Below w.heap.size w w10) := Lib.hid (Keep2.below (Below.next HB7.out HB79.out) hkp rfl (Nat.le_refl _) (by omega))
              have RR10 := Lib.hid ((RR7.out.below HB79.out).at2 k10 (by decide) HXN.out)
              have RE10 := Lib.hid ((RE7.out.below HB79.out).at2 k10 (by decide) HRN.out)
              have RO10 := Lib.hid hro
              have NO10 : Hid (Far (w.heap.size + 3) L9.length ao) := Lib.hid (fun b o hb => by have := Far.of_row hown b o hb; omega)
              have NX10 : Hid (Far (wc.heap.size + 1) L9.length ao) := Lib.hid (fun b o hb => by have := Far.of_row hown b o hb; omega)
              clear hkp ha10 ho10 hown hro s4 s7 s9 k10 HRC
              obtain ⟨a0, a1, a2, a3, a4, a5, a6, a7, a8, _⟩ := open9 KA10.out
              cases p7
              · have HCO := Lib.hid (bcon_c f (heaS LE v) af nf cf w10 (KF8.out w10 HB10.out))
                obtain ⟨ac, hac⟩ : ∃ ac, accS f (heaS LE v) = ac := ⟨_, rfl⟩
                rw [hac] at HCO
                have HAC := Lib.hid hac
                clear hac
                cases ac
                · have hE : Hid (handleS f b ⟨xid, xed, xhe, xrd, xhr, xdl, xhd, xec, xrs⟩ (s : Int) 3 v = (⟨p1, p2, p3, p4, p5, p6, false, xec, LE⟩, L9)) := Lib.hid (by rw [hE0.out]; unfold lastS; rw [HAC.out]; rfl)
                  go_wp2_with fail
                  refine HCO.out.mono ?_
                  rintro e w11 ⟨rfl, b11⟩
                  have KA11 := Lib.hid (heap_below b11 KA10.out)
                  have KO11 := Lib.hid (heap_below b11 KO10.out)
                  have KR11 := Lib.hid (heap_below b11 KR10.out)
                  have RE11 := Lib.hid (RE10.out.below b11)
                  have RR11 := Lib.hid (RR10.out.below b11)
                  have RO11 := Lib.hid (RO10.out.below b11)
                  have HB11 := Lib.hid (Below.next HB10.out b11)
                  clear b11 a0 a1 a2 a3 a4 a5 a6 a7 a8 HCO
                  go_upto_region 24 with fail
                  obtain ⟨a0, a1, a2, a3, a4, a5, a6, a7, a8, _⟩ := open9 KA11.out
                  obtain ⟨b0, b1, b2, b3, b4, b5, b6, b7, b8, _⟩ := open9 (show w11.drew.heap[w.heap.size]? = _ from KA11.out)
                  have o0 := cell_of_row _ _ 0 _ _ _ KO11.out
                  have o0d := cell_of_row _ _ 0 _ _ _ (show w11.drew.heap[wc.heap.size]? = _ from KO11.out)
                  obtain ⟨r0, r1, r2, r3, r4, r5, r6, r7, r8, q0, q1, q2, q3, q4, q5, q6, q7, q8⟩ := open9 KR11.out
                  obtain ⟨s0, s1, s2, s3, s4, s5, s6, s7, s8, y0, y1, y2, y3, y4, y5, y6, y7, y8⟩ := open9 (show w11.drew.heap[(w.heap.size + 1 + 1)]? = _ from KR11.out)
                  go_wp2_with fail
                  go_region
                  all_goals
                    go_wp2_with fail
                    have hz := set9_heap KR11.out (.int .i64 p1) (.string p2) (.bool p3) (.string p4) (.bool p5) (.string p6) (.bool false) (.slice ae2 ne2 ce2) (.slice ax nx cx)
                    refine han_end (wf := (set9 w11 (w.heap.size + 1 + 1) (.int .i64 p1) (.string p2) (.bool p3) (.string p4) (.bool p5) (.string p6) (.bool false) (.slice ae2 ne2 ce2) (.slice ax nx cx)).drew) hE.out rfl rfl rfl ((heap_drewA _ _).trans hz) ?_ ?_ ?_ (below_drew (set9_below HB11.out (by omega) _ _ _ _ _ _ _ _ _)) HFE.out NR7.out NO10.out
                    · exact RE11.out.at_ne (fun g hg => (heap_drewA _ _).trans (set9_other hg _ _ _ _ _ _ _ _ _)) (HFE.out.ne (by omega))
                    · exact RR11.out.at_ne (fun g hg => (heap_drewA _ _).trans (set9_other hg _ _ _ _ _ _ _ _ _)) (NR7.out.ne (by omega))
                    · exact RO11.out.at_ne (fun g hg => (heap_drewA _ _).trans (set9_other hg _ _ _ _ _ _ _ _ _)) (NO10.out.ne (by omega))
                · have hE : Hid (handleS f b ⟨xid, xed, xhe, xrd, xhr, xdl, xhd, xec, xrs⟩ (s : Int) 3 v = (⟨p1, p2, p3, p4, p5, v, true, xec, LE⟩, L9)) := Lib.hid (by rw [hE0.out]; unfold lastS; rw [HAC.out]; rfl)
                  go_wp2_with fail
                  refine HCO.out.mono ?_
                  rintro e w11 ⟨rfl, b11⟩
                  have KA11 := Lib.hid (heap_below b11 KA10.out)
                  have KB11 := Lib.hid (heap_below b11 KB10.out)
                  have KO11 := Lib.hid (heap_below b11 KO10.out)
                  have KR11 := Lib.hid (heap_below b11 KR10.out)
                  have RE11 := Lib.hid (RE10.out.below b11)
                  have RR11 := Lib.hid (RR10.out.below b11)
                  have RO11 := Lib.hid (RO10.out.below b11)
                  have HB11 := Lib.hid (Below.next HB10.out b11)
                  clear b11 a0 a1 a2 a3 a4 a5 a6 a7 a8 HCO
                  obtain ⟨W12, hW12⟩ : ∃ W12, W12 = ((w11.setCell ⟨w.heap.size, 6, none⟩ (.bool true)).setCell ⟨w.heap.size, 5, none⟩ (.string v)).drew := ⟨_, rfl⟩
                  have ko : ∀ (k : Nat), k ≠ w.heap.size → W12.heap[k]? = w11.heap[k]? := fun k hk => by
                    rw [hW12]
                    refine (heap_drewA _ _).trans ?_
                    rw [Below.heap_setCell _ _ _ _ (by intro e; exact hk (by rw [e])), Below.heap_setCell _ _ _ _ (by intro e; exact hk (by rw [e]))]
                  have KA12 : Hid (W12.heap[w.heap.size]? = some (.cells #[.int .i64 p1, .string p2, .bool p3, .string p4, .bool p5, .string v, .bool true, .slice ae2 ne2 ce2, .slice ax nx cx] 97 (0, 0))) := Lib.hid (by
                    rw [hW12]
                    refine (heap_drewA _ _).trans ?_
                    rw [heap_set_at (heap_set_at KA11.out 6 _) 5 _]; rfl)
                  have s4 := HSZ.out
                  have KO12 := Lib.hid ((ko wc.heap.size (by omega)).trans KO11.out)
                  have KR12 := Lib.hid ((ko (w.heap.size + 1 + 1) (by omega)).trans KR11.out)
                  have RE12 := Lib.hid (RE11.out.at_ne ko (fun h b o hb => by have := HFE.out b o hb; omega))
                  have RR12 := Lib.hid (RR11.out.at_ne ko (fun h b o hb => by have := NR7.out b o hb; omega))
                  have RO12 := Lib.hid (RO11.out.at_ne ko (fun h b o hb => by have := NO10.out b o hb; omega))
                  have HB12 : Hid (Below w.heap.size w W12) := Lib.hid (by rw [hW12]; exact below_drew ((HB11.out.setCell (p := ⟨w.heap.size, 6, none⟩) (Nat.le_refl _) _).setCell (p := ⟨w.heap.size, 5, none⟩) (Nat.le_refl _) _))
                  obtain ⟨a0, a1, a2, a3, a4, a5, a6, a7, a8, z0, z1, z2, z3, z4, z5, z6, z7, z8⟩ := open9 KA11.out
                  obtain ⟨b0, b1, b2, b3, b4, b5, b6, b7, b8, y0, y1, y2, y3, y4, y5, y6, y7, y8⟩ := open9 (show w11.drew.heap[w.heap.size]? = _ from KA11.out)
                  have v0 := cell_of_row _ _ 0 _ _ _ KB11.out
                  have v0d := cell_of_row _ _ 0 _ _ _ (show w11.drew.heap[w.heap.size + 1]? = _ from KB11.out)
                  clear ko s4
                  go_upto_region 23 with fail
                  go_region
                  all_goals
                    rw [← hW12]
                    clear hW12 a0 a1 a2 a3 a4 a5 a6 a7 a8 z0 z1 z2 z3 z4 z5 z6 z7 z8 b0 b1 b2 b3 b4 b5 b6 b7 b8 y0 y1 y2 y3 y4 y5 y6 y7 y8 v0 v0d
                    go_upto_region 24 with fail
                    obtain ⟨a0, a1, a2, a3, a4, a5, a6, a7, a8, _⟩ := open9 KA12.out
                    obtain ⟨b0, b1, b2, b3, b4, b5, b6, b7, b8, _⟩ := open9 (show W12.drew.heap[w.heap.size]? = _ from KA12.out)
                    have o0 := cell_of_row _ _ 0 _ _ _ KO12.out
                    have o0d := cell_of_row _ _ 0 _ _ _ (show W12.drew.heap[wc.heap.size]? = _ from KO12.out)
                    obtain ⟨r0, r1, r2, r3, r4, r5, r6, r7, r8, q0, q1, q2, q3, q4, q5, q6, q7, q8⟩ := open9 KR12.out
                    obtain ⟨s0, s1, s2, s3, s4, s5, s6, s7, s8, y0, y1, y2, y3, y4, y5, y6, y7, y8⟩ := open9 (show W12.drew.heap[(w.heap.size + 1 + 1)]? = _ from KR12.out)
                    go_wp2_with fail
                    go_region
                    all_goals
                      go_wp2_with fail
                      have hz := set9_heap KR12.out (.int .i64 p1) (.string p2) (.bool p3) (.string p4) (.bool p5) (.string v) (.bool true) (.slice ae2 ne2 ce2) (.slice ax nx cx)
                      refine han_end (wf := (set9 W12 (w.heap.size + 1 + 1) (.int .i64 p1) (.string p2) (.bool p3) (.string p4) (.bool p5) (.string v) (.bool true) (.slice ae2 ne2 ce2) (.slice ax nx cx)).drew) hE.out rfl rfl rfl ((heap_drewA _ _).trans hz) ?_ ?_ ?_ (below_drew (set9_below HB12.out (by omega) _ _ _ _ _ _ _ _ _)) HFE.out NR7.out NO10.out
                      · exact RE12.out.at_ne (fun g hg => (heap_drewA _ _).trans (set9_other hg _ _ _ _ _ _ _ _ _)) (HFE.out.ne (by omega))
                      · exact RR12.out.at_ne (fun g hg => (heap_drewA _ _).trans (set9_other hg _ _ _ _ _ _ _ _ _)) (NR7.out.ne (by omega))
                      · exact RO12.out.at_ne (fun g hg => (heap_drewA _ _).trans (set9_other hg _ _ _ _ _ _ _ _ _)) (NO10.out.ne (by omega))
              · have hE : Hid (handleS f b ⟨xid, xed, xhe, xrd, xhr, xdl, xhd, xec, xrs⟩ (s : Int) 3 v = (⟨p1, p2, p3, p4, p5, p6, true, xec, LE⟩, L9)) := Lib.hid (by rw [hE0.out]; unfold lastS; rfl)
                go_upto_region 24 with fail
                clear a0 a1 a2 a3 a4 a5 a6 a7 a8
                obtain ⟨a0, a1, a2, a3, a4, a5, a6, a7, a8, _⟩ := open9 KA10.out
                obtain ⟨b0, b1, b2, b3, b4, b5, b6, b7, b8, _⟩ := open9 (show w10.drew.heap[w.heap.size]? = _ from KA10.out)
                have o0 := cell_of_row _ _ 0 _ _ _ KO10.out
                have o0d := cell_of_row _ _ 0 _ _ _ (show w10.drew.heap[wc.heap.size]? = _ from KO10.out)
                obtain ⟨r0, r1, r2, r3, r4, r5, r6, r7, r8, q0, q1, q2, q3, q4, q5, q6, q7, q8⟩ := open9 KR10.out
                obtain ⟨s0, s1, s2, s3, s4, s5, s6, s7, s8, y0, y1, y2, y3, y4, y5, y6, y7, y8⟩ := open9 (show w10.drew.heap[(w.heap.size + 1 + 1)]? = _ from KR10.out)
                go_wp2_with fail
                go_region
                all_goals
                  go_wp2_with fail
                  have hz := set9_heap KR10.out (.int .i64 p1) (.string p2) (.bool p3) (.string p4) (.bool p5) (.string p6) (.bool true) (.slice ae2 ne2 ce2) (.slice ax nx cx)
                  refine han_end (wf := (set9 w10 (w.heap.size + 1 + 1) (.int .i64 p1) (.string p2) (.bool p3) (.string p4) (.bool p5) (.string p6) (.bool true) (.slice ae2 ne2 ce2) (.slice ax nx cx)).drew) hE.out rfl rfl rfl ((heap_drewA _ _).trans hz) ?_ ?_ ?_ (below_drew (set9_below HB10.out (by omega) _ _ _ _ _ _ _ _ _)) HFE.out NR7.out NO10.out
                  · exact RE10.out.at_ne (fun g hg => (heap_drewA _ _).trans (set9_other hg _ _ _ _ _ _ _ _ _)) (HFE.out.ne (by omega))
                  · exact RR10.out.at_ne (fun g hg => (heap_drewA _ _).trans (set9_other hg _ _ _ _ _ _ _ _ _)) (NR7.out.ne (by omega))
                  · exact RO10.out.at_ne (fun g hg => (heap_drewA _ _).trans (set9_other hg _ _ _ _ _ _ _ _ _)) (NO10.out.ne (by omega))
          · have hE : Hid (handleS f b ⟨xid, xed, xhe, xrd, xhr, xdl, xhd, xec, xrs⟩ (s : Int) kind v = (⟨xid, xed, xhe, xrd, xhr, xdl, xhd, xec, xrs⟩, [])) := Lib.hid (by unfold handleS; rw [if_neg (by omega), if_neg hk1, if_neg hk2, if_neg hk3])
            obtain ⟨a0, a1, a2, a3, a4, a5, a6, a7, a8, _⟩ := open9 KA5.out
            obtain ⟨b0, b1, b2, b3, b4, b5, b6, b7, b8, _⟩ := open9 (show W5.drew.heap[w.heap.size]? = _ from KA5.out)
            have o0 := cell_of_row _ _ 0 _ _ _ KO5.out
            have o0d := cell_of_row _ _ 0 _ _ _ (show W5.drew.heap[wc.heap.size]? = _ from KO5.out)
            obtain ⟨r0, r1, r2, r3, r4, r5, r6, r7, r8, q0, q1, q2, q3, q4, q5, q6, q7, q8⟩ := open9 KR5.out
            obtain ⟨s0, s1, s2, s3, s4, s5, s6, s7, s8, y0, y1, y2, y3, y4, y5, y6, y7, y8⟩ := open9 (show W5.drew.heap[(w.heap.size + 1 + 1)]? = _ from KR5.out)
            go_wp2_with fail
            go_region
            all_goals
              go_wp2_with fail
              have hz := set9_heap KR5.out (.int .i64 xid) (.string xed) (.bool xhe) (.string xrd) (.bool xhr) (.string xdl) (.bool xhd) (.slice ae2 ne2 ce2) (.slice ar2 nr2 cr2)
              refine han_end (wf := (set9 W5 (w.heap.size + 1 + 1) (.int .i64 xid) (.string xed) (.bool xhe) (.string xrd) (.bool xhr) (.string xdl) (.bool xhd) (.slice ae2 ne2 ce2) (.slice ar2 nr2 cr2)).drew) hE.out rfl rfl rfl ((heap_drewA _ _).trans hz) ?_ ?_ ?_ (below_drew (set9_below HB5'.out (by omega) _ _ _ _ _ _ _ _ _)) HFE.out HFR.out HN5.out
              · exact RE5.out.at_ne (fun g hg => (heap_drewA _ _).trans (set9_other hg _ _ _ _ _ _ _ _ _)) (HFE.out.ne (by omega))
              · exact RR5.out.at_ne (fun g hg => (heap_drewA _ _).trans (set9_other hg _ _ _ _ _ _ _ _ _)) (HFR.out.ne (by omega))
              · exact HO5.out.at_ne (fun g hg => (heap_drewA _ _).trans (set9_other hg _ _ _ _ _ _ _ _ _)) (HN5.out.ne (by omega))
end Go.Proofs.YtmjgdnpfgkpaoaaGreatDoor
namespace Go.Proofs.YtmjgdnpfgkpaoaaGreatDoor
open Go.RowKit Go.Shelf

/-- a list with some cells put over it -/
def putL (l : List Value) : Nat → List Value → List Value
  | _, [] => l
  | o, v :: r => putL (l.set o v) (o + 1) r
theorem putL_eq : ∀ (vs : List Value) (o : Nat) (l : List Value), o + vs.length ≤ l.length → putL l o vs = l.take o ++ vs ++ l.drop (o + vs.length)
  | [], o, l, _ => by simp [putL]
  | v :: r, o, l, h => by
    rw [List.length_cons] at h
    rw [putL, putL_eq r (o + 1) (l.set o v) (by rw [List.length_set]; omega)]
    have h1 : (l.set o v).take (o + 1) = l.take o ++ [v] := by
      rw [List.take_add_one, List.take_set_of_le (Nat.le_refl _), List.getElem?_set_self (by omega)]; rfl
    have h2 : (l.set o v).drop (o + 1 + r.length) = l.drop (o + (v :: r).length) := by
      rw [List.drop_set_of_lt (by omega), List.length_cons]; congr 1; omega
    rw [h1, h2]; simp
/-- a block behind stores of some cells -/
theorem heap_setCells_at : ∀ (vs : List Value) (o : Nat) (w : World) (g : Nat) (cs : Array Value) (t : TypeId) (f : Nat × Nat), w.heap[g]? = some (.cells cs t f) → ∃ cs', (w.setCells g o vs).heap[g]? = some (.cells cs' t f) ∧ cs'.toList = putL cs.toList o vs
  | [], _, _, _, cs, _, _, h => ⟨cs, h, rfl⟩
  | v :: r, o, w, g, cs, t, f, h => by
    obtain ⟨cs', h1, h2⟩ := heap_setCells_at r (o + 1) (w.setCell ⟨g, o, none⟩ v) g (cs.setIfInBounds o v) t f (heap_set_at h o v)
    exact ⟨cs', h1, by rw [h2, Array.toList_setIfInBounds]; rfl⟩
theorem size_setCellsA : ∀ (vs : List Value) (o : Nat) (w : World) (g : Nat), (w.setCells g o vs).heap.size = w.heap.size
  | [], _, _, _ => rfl
  | v :: r, o, w, g => by
    show ((w.setCell ⟨g, o, none⟩ v).setCells g (o + 1) r).heap.size = _
    rw [size_setCellsA r (o + 1)]; simp
theorem tape_setCellsA : ∀ (vs : List Value) (o : Nat) (w : World) (g : Nat), (w.setCells g o vs).tape = w.tape
  | [], _, _, _ => rfl
  | v :: r, o, w, g => by
    show ((w.setCell ⟨g, o, none⟩ v).setCells g (o + 1) r).tape = _
    rw [tape_setCellsA r (o + 1)]; rfl
theorem grown_setCells (w : World) (g o : Nat) (vs : List Value) : w.grownBy (w.setCells g o vs) (some g) :=
  ⟨World.os_setCells w g o vs, tape_setCellsA vs o w g, World.output_setCells w g o vs, Nat.le_of_eq (size_setCellsA vs o w g).symm, fun k hk hne => World.heap_setCells_other w g o vs hk (by intro e; exact hne (by rw [e]))⟩
theorem cells_there {w : World} {g : Nat} {cs : Array Value} {t : TypeId} (h : w.heap[g]? = some (.cells cs t (0, 0))) {j : Nat} (hj : j < cs.size) : (w.cell? ⟨g, j, none⟩).isSome = true ∧ w.frozen? ⟨g, j, none⟩ = false := by
  refine ⟨?_, frozenB h j⟩
  rw [cell_of_row w g j cs t _ h, Array.getElem?_eq_getElem hj]; rfl
/-- 'clear(s)' where an element takes some cells -/
theorem run_clear_k {P : Program} (w : World) (t e ty : TypeId) (z : Value) (k : Nat) (ht : P.underlying t = some (.slice e)) (hv : ∀ w, (zeroValue e).run P w = .ok z w) (hk : z.cells.size = k) (h1 : ∀ v ∈ z.cells, v.oneCell' = true) (hk0 : 0 < k) (b o n c : Nat) (hn : 0 < n)
    (hc : ∀ j, j < n * k → (w.cell? ⟨b, o + j, none⟩).isSome = true) (hf : ∀ j, j < n * k → w.frozen? ⟨b, o + j, none⟩ = false) :
    (Builtin.clear_ #[t] ty #[.slice (some ⟨b, o, none⟩) n c]).run P w = .ok (.tuple #[]) (w.setCells b o (Builtin.zeroCells z.cells n).toList) := by
  have hzl : (Builtin.zeroCells z.cells n).toList.length = n * k := by simp [Builtin.zeroCells, hk]
  have hst := run_storeCells_cells (P := P) b o (Builtin.zeroCells z.cells n).toList 0 w (by rw [hzl]; simpa using hc) (by rw [hzl]; simpa using hf) (by
    intro v hv'
    simp only [Builtin.zeroCells, Array.toList_map, List.mem_map] at hv'
    obtain ⟨i, _, rfl⟩ := hv'
    have hi : i % z.cells.size < z.cells.size := Nat.mod_lt _ (by omega)
    rw [getElem!_pos z.cells _ hi]
    exact h1 _ (Array.getElem_mem hi))
  simp only [Nat.add_zero] at hst
  obtain ⟨m, rfl⟩ : ∃ m, n = m + 1 := ⟨n - 1, by omega⟩
  simp [Builtin.clear_, run_underlying ht, hv, hst]

theorem flat_takeQ {α : Type} (k : Nat) (enc : α → List Value) (hk : ∀ x, (enc x).length = k) : ∀ (L : List α) (i : Nat), (L.flatMap enc).take (i * k) = (L.take i).flatMap enc
  | [], i => by simp
  | x :: L, 0 => by simp
  | x :: L, i + 1 => by
    rw [List.flatMap_cons, List.take_succ_cons, List.flatMap_cons, ← flat_takeQ k enc hk L i, List.take_append, hk]
    rw [List.take_of_length_le (by rw [hk, Nat.succ_mul]; omega), show (i + 1) * k - k = i * k by rw [Nat.succ_mul]; omega]
theorem flat_drop {α : Type} (k : Nat) (enc : α → List Value) (hk : ∀ x, (enc x).length = k) : ∀ (L : List α) (i : Nat), (L.flatMap enc).drop (i * k) = (L.drop i).flatMap enc
  | [], i => by simp
  | x :: L, 0 => by simp
  | x :: L, i + 1 => by
    rw [List.flatMap_cons, List.drop_succ_cons, ← flat_drop k enc hk L i, List.drop_append, hk]
    rw [List.drop_of_length_le (by rw [hk, Nat.succ_mul]; omega), show (i + 1) * k - k = i * k by rw [Nat.succ_mul]; omega, List.nil_append]

theorem Tryz.zeroMsg (w : World) : (zeroValue 85).run Tryz.prog w = .ok (.agg #[.int .i64 0, .int .i64 0, .int .i64 0, .string ⟨#[]⟩]) w := by
  have h : Tryz.t85.zero = some (.agg #[.int .i64 0, .int .i64 0, .int .i64 0, .string ⟨#[]⟩]) := by kernel_rfl
  simp [zeroValue]
  rw [h]; rfl

set_option maxHeartbeats 4000000 in
set_option maxRecDepth 1000000 in
theorem delMsg_c (fs : List MsgT) (k : Nat) (hk : k < fs.length) (B : Nat) (v : Value) (w : World) (h : w.ownsRow B 85 4 v fs.length (fs.flatMap msgC)) :
    Calls Tryz.prog 73 #[v, .int .i64 k, .int .i64 ((k : Int) + 1)] w fun e w' => ∃ v', e = .returned v' ∧ w'.ownsRow B 85 4 v' (fs.eraseIdx k).length ((fs.eraseIdx k).flatMap msgC) ∧ v'.ownBlock = v.ownBlock ∧ w.grownBy w' v.ownBlock ∧ w'.heap.size = w.heap.size := by
  have hfl := flat_len 4 msgC msgC_len fs
  rcases h.2 with ⟨_, h0⟩ | ⟨g, cap, cur, rfl, hgB, hblk, hle, hmx, hsz, htk⟩
  · omega
  obtain ⟨n, hn⟩ : ∃ n, fs.length = n := ⟨_, rfl⟩
  obtain ⟨i0, hi0, hz0, hz1, hz2⟩ := info_parts Tryz.infoMsg
  obtain ⟨news, hnews⟩ : ∃ news, news = (fs.drop (k + 1)).flatMap msgC := ⟨_, rfl⟩
  have hlen : news.length = (n - (k + 1)) * 4 := by rw [hnews, flat_len 4 msgC msgC_len]; simp [hn]
  have hcell : ∀ t u, news[t]? = some u → w.cell? ⟨g, (k + 1) * 4 + t, none⟩ = some u := by
    intro t u hu
    rw [cell_of_row w g _ cur _ _ hblk]
    have h1 : (fs.flatMap msgC)[(k + 1) * 4 + t]? = some u := by rw [← List.getElem?_drop, flat_drop 4 msgC msgC_len, ← hnews]; exact hu
    rw [← htk] at h1
    rw [List.getElem?_take] at h1
    split at h1
    · rw [← Array.getElem?_toList]; exact h1
    · cases h1
  obtain ⟨A, hA, hsrc⟩ : ∃ A : Addr, (if cap = k + 1 then (some (⟨g, 0, none⟩ : Addr)) else some ⟨g, (k + 1) * 4, none⟩) = some A ∧ Hid (∀ t u, news[t]? = some u → w.drew.cell? (A.add t) = some u) := by
    by_cases h : cap = k + 1
    · refine ⟨⟨g, 0, none⟩, by simp [h], fun t u hu => ?_⟩
      have h0 : news.length = 0 := by rw [hlen]; omega
      rw [List.length_eq_zero_iff.1 h0] at hu
      simp at hu
    · refine ⟨⟨g, (k + 1) * 4, none⟩, by simp [h], fun t u hu => ?_⟩
      rw [Addr.add_lit]
      exact hcell t u hu
  have s1 : Hid (news.length = (n - (k + 1)) * 4) := hlen
  have s2 : Hid (∀ u ∈ news, u.oneCell' = true) := by rw [hnews]; exact msg_one _
  have s3 : Hid (∀ t, t < news.length → (w.drew.cell? ⟨g, 0 + k * 4 + t, none⟩).isSome = true ∧ w.drew.frozen? ⟨g, 0 + k * 4 + t, none⟩ = false) := by
    intro t ht
    rw [hlen] at ht
    exact cells_there (w := w.drew) hblk (by omega)
  obtain ⟨W1, hW1⟩ : ∃ W1, W1 = w.drew.setCells g (0 + k * 4) news := ⟨_, rfl⟩
  obtain ⟨cs1, hb1, hl1⟩ := heap_setCells_at news (0 + k * 4) w.drew g cur _ _ hblk
  rw [← hW1] at hb1
  have hcl : cur.toList.length = cap * 4 := by rw [Array.length_toList]; exact hsz
  rw [putL_eq _ _ _ (by rw [hlen, hcl]; omega), Nat.zero_add] at hl1
  have hsz1 : cs1.size = cap * 4 := by
    have := congrArg List.length hl1
    rw [Array.length_toList] at this
    rw [this]
    simp only [List.length_append, List.length_take, List.length_drop, hlen, hcl]; omega
  have hcr : ∀ ty, (Builtin.clear_ #[32] ty #[.slice (some ⟨g, (k + (n - (k + 1))) * 4, none⟩) (n - (k + (n - (k + 1)))) (cap - (k + (n - (k + 1))))]).run Tryz.prog W1 = .ok (.tuple #[]) (W1.setCells g ((k + (n - (k + 1))) * 4) (Builtin.zeroCells #[.int .i64 0, .int .i64 0, .int .i64 0, .string ⟨#[]⟩] (n - (k + (n - (k + 1))))).toList) := fun ty =>
    run_clear_k W1 _ _ ty _ 4 Tryz.underlying32 Tryz.zeroMsg rfl (by intro v hv; simp [Value.cells] at hv; rcases hv with rfl | rfl <;> rfl) (by omega) g _ _ _ (by omega) (fun j hj => (cells_there hb1 (by omega)).1) (fun j hj => (cells_there hb1 (by omega)).2)
  obtain ⟨cs2, hb2, hl2⟩ := heap_setCells_at (Builtin.zeroCells #[.int .i64 0, .int .i64 0, .int .i64 0, .string ⟨#[]⟩] (n - (k + (n - (k + 1))))).toList ((k + (n - (k + 1))) * 4) W1 g cs1 _ _ hb1
  have hzl : (Builtin.zeroCells #[.int .i64 0, .int .i64 0, .int .i64 0, .string ⟨#[]⟩] (n - (k + (n - (k + 1))))).toList.length = 4 := by rw [show n - (k + (n - (k + 1))) = 1 by omega]; simp [Builtin.zeroCells]
  rw [putL_eq _ _ _ (by rw [hzl, Array.length_toList, hsz1]; omega)] at hl2
  have hE : (fs.eraseIdx k).length = n - 1 := by rw [List.length_eraseIdx, if_pos hk, hn]
  have hfin : (W1.setCells g ((k + (n - (k + 1))) * 4) (Builtin.zeroCells #[.int .i64 0, .int .i64 0, .int .i64 0, .string ⟨#[]⟩] (n - (k + (n - (k + 1))))).toList).ownsRow B 85 4 (.slice (some ⟨g, 0, none⟩) (k + (n - (k + 1))) cap) (fs.eraseIdx k).length ((fs.eraseIdx k).flatMap msgC) := by
    refine ⟨by rw [flat_len 4 msgC msgC_len], .inr ⟨g, cap, cs2, by rw [hE, show k + (n - (k + 1)) = n - 1 by omega], hgB, hb2, by omega, hmx, ?_, ?_⟩⟩
    · have := congrArg List.length hl2
      rw [Array.length_toList] at this
      rw [this]
      simp only [List.length_append, List.length_take, List.length_drop, hzl, Array.length_toList, hsz1]; omega
    · rw [hE, hl2, show (k + (n - (k + 1))) * 4 = (n - 1) * 4 by congr 1; omega, List.append_assoc, List.take_append_of_le_length (by rw [List.length_take, Array.length_toList, hsz1]; omega), List.take_take, Nat.min_self, hl1]
      have h1 : cur.toList.take (k * 4) = (fs.take k).flatMap msgC := by
        rw [← flat_takeQ 4 msgC msgC_len, ← htk, List.take_take]; congr 1; omega
      rw [h1, hnews, ← List.flatMap_append, ← List.eraseIdx_eq_take_drop_succ]
      rw [List.take_append_of_le_length (by rw [flat_len 4 msgC msgC_len, hE]; exact Nat.le_refl _)]
      exact List.take_of_length_le (by rw [flat_len 4 msgC msgC_len, hE]; exact Nat.le_refl _)
  have hgr : w.grownBy (W1.setCells g ((k + (n - (k + 1))) * 4) (Builtin.zeroCells #[.int .i64 0, .int .i64 0, .int .i64 0, .string ⟨#[]⟩] (n - (k + (n - (k + 1))))).toList) (some g) := by
    have q1 := grown_setCells w.drew g (0 + k * 4) news
    rw [← hW1] at q1
    have q2 := grown_setCells W1 g ((k + (n - (k + 1))) * 4) (Builtin.zeroCells #[.int .i64 0, .int .i64 0, .int .i64 0, .string ⟨#[]⟩] (n - (k + (n - (k + 1))))).toList
    exact ⟨q2.os.trans q1.os, q2.tape.trans q1.tape, q2.output.trans q1.output, Nat.le_trans q1.size q2.size, fun j hj hne => (q2.block j (Nat.lt_of_lt_of_le hj q1.size) hne).trans (q1.block j hj hne)⟩
  have hsf : (W1.setCells g ((k + (n - (k + 1))) * 4) (Builtin.zeroCells #[.int .i64 0, .int .i64 0, .int .i64 0, .string ⟨#[]⟩] (n - (k + (n - (k + 1))))).toList).heap.size = w.heap.size := by
    rw [size_setCellsA, hW1, size_setCellsA]; rfl
  obtain ⟨WF, hWF⟩ : ∃ WF, WF = W1.setCells g ((k + (n - (k + 1))) * 4) (Builtin.zeroCells #[.int .i64 0, .int .i64 0, .int .i64 0, .string ⟨#[]⟩] (n - (k + (n - (k + 1))))).toList := ⟨_, rfl⟩
  rw [← hWF] at hfin hgr hsf
  rw [hn] at hk ⊢
  have hW : Hid (W1 = w.drew.setCells g (0 + k * 4) news) := hW1
  have HF := Lib.hid hfin
  have HG := Lib.hid hgr
  have HS := Lib.hid hsf
  have HWF := Lib.hid hWF
  rw [← hWF] at hcr
  have hkc : k ≤ cap := by omega
  have hkc1 : k + 1 ≤ cap := by omega
  have hkn1 : k + 1 ≤ n := by omega
  have hwr : IntKind.i64.wrap ((k : Int) + 1) = (k : Int) + 1 := by rw [IntKind.wrap_i64]; unfold maxLen at hmx; omega
  have hp0 : (0 : Int) ≤ (k : Int) + 1 := by omega
  have hp1 : (k : Int) + 1 ≤ (n : Int) := by omega
  have hp2 : ((k : Int) + 1).toNat = k + 1 := by omega
  have hle' : n ≤ cap := by omega
  unfold maxLen at hmx
  clear hW1 hfin hgr hsf hl1 hl2 hb1 hb2 hblk htk hnews hlen hcell hsz hsz1 hcl hE hzl h hfl hWF hle
  go_enter Tryz.func73, Tryz.ntmps73
  go_wp2_with fail
  go_region_law (refine step_append_room rfl (.tmp 22) (.tmp 25) 32 rfl 85 i0 4 Tryz.underlying32 hi0 hz1 g 0 k cap (by simp [Act.eval, Act.put]) A (n - (k + 1)) (cap - (k + 1)) news (by simp [Act.eval, Act.put]) s1.out hsrc.out s2.out (by omega) s3.out ?_; rw [← hW.out])
  go_wp2
  go_ret
  exact ⟨_, rfl, HF.out, rfl, HG.out, HS.out⟩
end Go.Proofs.YtmjgdnpfgkpaoaaGreatDoor
