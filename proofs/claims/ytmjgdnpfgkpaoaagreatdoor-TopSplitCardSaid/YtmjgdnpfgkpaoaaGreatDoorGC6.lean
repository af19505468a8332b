/- Texts laid together. Package broadcast: a run in memory; IndexFunc of messages, correct, all. Package broadcast: all, newRun. A region that draws its order: some operations that only read are taken first; the rest is walked by hand. Over any program. Package broadcast: deliver, its plain part: what a run's memory is behind a node's store. Package broadcast: deliver. Package broadcast: newRun. -/
import Derived.Test.YtmjgdnpfgkpaoaaGreatDoorGC2
import Derived.Test.YtmjgdnpfgkpaoaaGreatDoorGC5
import Derived.OrdersHeld
import Derived.Deep.RegionHeld
import Derived.Deep.RegionHeld3
namespace Go.Proofs.YtmjgdnpfgkpaoaaGreatDoor
open Go.RowKit Go.Shelf

def msgV (m : MsgT) : Value := .agg #[.int .i64 m.kind, .int .i64 m.src, .int .i64 m.dst, .string m.value]
/-- a closure on the elements of a list that writes nothing old -/
def PrL {α : Type} (P : Program) (g : Nat) (lb : Array Value) (enc : α → Value) (p : α → Bool) (l : List α) (w : World) : Prop :=
  ∀ W x, x ∈ l → Below w.heap.size w W → Calls P g (#[enc x] ++ lb) W fun e w' => e = .returned (.bool (p x)) ∧ Below W.heap.size W w'

set_option maxRecDepth 100000 in
set_option maxHeartbeats 1000000 in
theorem idxMsg_c (g : Nat) (lb : Array Value) (eg : ∀ args w, (callFunc g args).run Tryz.prog w = .ok (.enter g args) w) (p : MsgT → Bool) (l : List MsgT) (a : Option Addr) (n c : Nat) (w : World)
    (h : RdK 4 w a n c (l.flatMap msgC)) (hp : PrL Tryz.prog g lb msgV p l w) :
    Calls Tryz.prog 37 #[.slice a n c, .func (.func g) #[] lb] w fun e w' => e = .returned (.int .i64 (idxG p l)) ∧ Below w.heap.size w w' := by
  have hnl : l.length = n := by have := h.len; rw [flat_len 4 msgC msgC_len] at this; omega
  have hm := h.max
  have hle := h.le
  unfold maxLen at hm
  have HP := Lib.hid hp
  have HR := Lib.hid h
  have HN := Lib.hid hnl
  clear hp h hnl
  go_enter Tryz.func37, Tryz.ntmps37
  go_wp2_with fail
  go_loopw [8] (fun i wr => ∃ k : Nat, k ≤ n ∧ i = .int .i64 k ∧ Hid (∀ (j : Nat) y, j < k → l[j]? = some y → p y = false) ∧ Below w.heap.size w wr) (fun i _ => n - (intOf i).toNat)
  case atStart => exact ⟨0, Nat.zero_le _, rfl, Lib.hid (fun j y hj => by omega), Below.refl _ _⟩
  case round =>
    obtain ⟨k, hk, rfl, hno, hb⟩ := hrel
    by_cases hlt : k < n
    · obtain ⟨b, o, ha, hcell⟩ := RdK.cells (HR.out.below hb) msgC_len (by omega)
      obtain ⟨x, hx⟩ : ∃ x, l[k]? = some x := ⟨_, List.getElem?_eq_getElem (by have := HN.out; omega)⟩
      have hc0 : wr.cell? ⟨b, o + k * 4, none⟩ = some (.int .i64 x.kind) := hcell k x hx 0 (by omega)
      have hc1 : wr.cell? ⟨b, o + k * 4 + 1, none⟩ = some (.int .i64 x.src) := hcell k x hx 1 (by omega)
      have hc2 : wr.cell? ⟨b, o + k * 4 + 2, none⟩ = some (.int .i64 x.dst) := hcell k x hx 2 (by omega)
      have hc3 : wr.cell? ⟨b, o + k * 4 + 3, none⟩ = some (.string x.value) := hcell k x hx 3 (by omega)
      subst ha
      have HF : Hid (Calls Tryz.prog g (#[.agg #[.int .i64 x.kind, .int .i64 x.src, .int .i64 x.dst, .string x.value]] ++ lb) wr fun e w' => e = .returned (.bool (p x)) ∧ Below wr.heap.size wr w') := HP.out wr x (List.mem_of_getElem? hx) hb
      have HX := Lib.hid hx
      clear hcell hx
      cases hq : p x
      · have hno' : Hid (∀ (j : Nat) y, j < k + 1 → l[j]? = some y → p y = false) := Lib.hid (fun j y hj hy => by
          by_cases h1 : j < k
          · exact hno.out j y h1 hy
          · obtain rfl : j = k := by omega
            rw [HX.out] at hy; cases hy; exact hq)
        rw [hq] at HF
        clear hq hno
        go_wp2_with (go_at_fn g; refine HF.out.mono ?_; rintro e w' ⟨rfl, hbw⟩)
        go_roundw
        case rel => exact ⟨k + 1, by omega, by go_num, hno', Below.next hb hbw⟩
        case measure => simp [intOf]; omega
      · have hI : Hid (idxG p l = k) := idxG_hit HX.out hno.out hq
        rw [hq] at HF
        clear hq hno
        go_wp2_with (go_at_fn g; refine HF.out.mono ?_; rintro e w' ⟨rfl, hbw⟩)
        go_ret
        exact ⟨ret_int hI.out.symm, Below.next hb hbw⟩
    · have hI : Hid (idxG p l = -1) := idxG_none (fun j y hy => hno.out j y (by have := (List.getElem?_eq_some_iff.1 hy).1; have := HN.out; omega) hy)
      clear hno
      go_wp2_with fail
      go_ret
      exact ⟨ret_int hI.out.symm, hb⟩

abbrev Sl := Option Addr × Nat × Nat
def slV (s : Sl) : Value := .slice s.1 s.2.1 s.2.2
abbrev NodQ := CasT × Sl × Sl
def nodQ (p : NodQ) : List Value := [.int .i64 p.1.id, .string p.1.echoed, .bool p.1.hasE, .string p.1.readied, .bool p.1.hasR, .string p.1.delivered, .bool p.1.hasD, slV p.2.1, slV p.2.2]
theorem nodQ_len (p : NodQ) : (nodQ p).length = 9 := rfl
theorem nod_one (l : List NodQ) : ∀ u ∈ l.flatMap nodQ, u.oneCell' = true := by
  intro u hu
  obtain ⟨p, _, hp⟩ := List.mem_flatMap.1 hu
  simp only [nodQ, List.mem_cons, List.not_mem_nil, or_false] at hp
  rcases hp with rfl | rfl | rfl | rfl | rfl | rfl | rfl | rfl | rfl <;> rfl

/-- what was heard, read; it lies apart from the run's box and rows -/
structure HeaM (w : World) (R : Nat) (vN vF : Value) (s : Sl) (l : List Hea) : Prop where
  rd : RdK 2 w s.1 s.2.1 s.2.2 (l.flatMap heaC)
  ne : 0 < s.2.1 → ∀ b o, s.1 = some ⟨b, o, none⟩ → b ≠ R
  cn : Clear s.2.1 vN s.1
  cf : Clear s.2.1 vF s.1
/-- a run in memory: its box R, the row of nodes vN, the row of messages vF -/
structure RunV (w0 : World) (R : Nat) (vf vb : Value) (n : Nat) (byz : BitVec 16) (src : Int) (vN vF : Value) (ns : List NodQ) (fs : List MsgT) (w : World) : Prop where
  old : Below w0.heap.size w0 w
  lo : w0.heap.size ≤ R
  box : w.heap[R]? = some (.cells #[vf, vb, .int .i64 n, .int .u16 (U byz), .int .i64 src, vN, vF] 83 (0, 0))
  nod : w.ownsRow w0.heap.size 97 9 vN ns.length (ns.flatMap nodQ)
  flt : w.ownsRow w0.heap.size 85 4 vF fs.length (fs.flatMap msgC)
  hea : ∀ p ∈ ns, HeaM w R vN vF p.2.1 p.1.echoes ∧ HeaM w R vN vF p.2.2 p.1.readies

theorem own_type {w : World} {B k n g : Nat} {e : TypeId} {v : Value} {l : List Value} (h : w.ownsRow B e k v n l) (hg : v.ownBlock = some g) : ∃ cs, w.heap[g]? = some (.cells cs e (0, 0)) := by
  rcases h.2 with ⟨rfl, _⟩ | ⟨g', cap, cur, rfl, _, hb, _⟩
  · cases hg
  · cases hg; exact ⟨cur, hb⟩
theorem own_ne {w : World} {B k n g : Nat} {e t : TypeId} {v : Value} {l : List Value} {cs : Array Value} (h : w.ownsRow B e k v n l) (hg : w.heap[g]? = some (.cells cs t (0, 0))) (ht : t ≠ e) : v.ownBlock ≠ some g := by
  intro e1
  obtain ⟨cs', h2⟩ := own_type h e1
  rw [hg] at h2
  injection h2 with h2
  injection h2 with _ h3
  exact ht h3
theorem own_at {k : Nat} {w w' : World} {B n : Nat} {e : TypeId} {v : Value} {l : List Value} (h : w.ownsRow B e k v n l) (hb : ∀ g, v.ownBlock = some g → w'.heap[g]? = w.heap[g]?) : w'.ownsRow B e k v n l := by
  obtain ⟨h1, h2⟩ := h
  refine ⟨h1, ?_⟩
  rcases h2 with h2 | ⟨g, cap, cur, hv, hb', hg, r⟩
  · exact .inl h2
  · exact .inr ⟨g, cap, cur, hv, hb', by rw [hb g (by rw [hv]; rfl)]; exact hg, r⟩
theorem rdK_keep {k : Nat} {w w' : World} {a : Option Addr} {n c : Nat} {l : List Value} (h : RdK k w a n c l) (hk0 : 0 < k) (hk : 0 < n → ∀ b o, a = some ⟨b, o, none⟩ → b < w.heap.size → w'.heap[b]? = w.heap[b]?) : RdK k w' a n c l := by
  refine ⟨h.len, h.le, h.max, h.nil, fun hn => ?_⟩
  obtain ⟨b, o, ha, hc⟩ := h.at' hn
  have hpos : 0 < l.length := by rw [← h.len]; exact Nat.mul_pos hn hk0
  have hlt : b < w.heap.size := cell_lt (hc 0 _ (List.getElem?_eq_getElem hpos))
  exact ⟨b, o, ha, fun i v hv => (World.cell?_of_block (hk hn b o ha hlt)).trans (hc i v hv)⟩
theorem rdK_lt {k : Nat} {w : World} {a : Option Addr} {n c : Nat} {l : List Value} (h : RdK k w a n c l) (hk0 : 0 < k) (hn : 0 < n) {b o : Nat} (ha : a = some ⟨b, o, none⟩) : b < w.heap.size := by
  obtain ⟨b', o', ha', hc⟩ := h.at' hn
  have hpos : 0 < l.length := by rw [← h.len]; exact Nat.mul_pos hn hk0
  rw [ha] at ha'; cases ha'
  exact cell_lt (hc 0 _ (List.getElem?_eq_getElem hpos))

/-- the box and the row of messages alone may have turned; the row of messages may lie anew -/
structure KeepF (R : Nat) (v v' : Value) (w w' : World) : Prop where
  size : w.heap.size ≤ w'.heap.size
  blk : ∀ g, v'.ownBlock = some g → v.ownBlock = some g ∨ w.heap.size ≤ g
  keep : ∀ k, k < w.heap.size → k ≠ R → v.ownBlock ≠ some k → w'.heap[k]? = w.heap[k]?
theorem KeepF.refl (R : Nat) (v : Value) (w : World) : KeepF R v v w w := ⟨Nat.le_refl _, fun _ h => .inl h, fun _ _ _ _ => rfl⟩
theorem KeepF.below {R : Nat} {v : Value} {w w' : World} (h : Below w.heap.size w w') : KeepF R v v w w' := ⟨h.size, fun _ h => .inl h, fun k hk _ _ => h.block k hk⟩
theorem KeepF.trans {R : Nat} {u v x : Value} {w0 w1 w2 : World} (h : KeepF R u v w0 w1) (h2 : KeepF R v x w1 w2) : KeepF R u x w0 w2 := by
  refine ⟨Nat.le_trans h.size h2.size, fun g hg => ?_, fun k hk hR hv => ?_⟩
  · rcases h2.blk g hg with h3 | h3
    · exact h.blk g h3
    · exact .inr (Nat.le_trans h.size h3)
  · rw [h2.keep k (Nat.lt_of_lt_of_le hk h.size) hR (fun e => ?_), h.keep k hk hR hv]
    rcases h.blk k e with h3 | h3
    · exact hv h3
    · omega

section
variable {w0 : World} {R : Nat} {vf vb : Value} {n : Nat} {byz : BitVec 16} {src : Int} {vN vF : Value} {ns : List NodQ} {fs : List MsgT} {w : World}
theorem RunV.below (h : RunV w0 R vf vb n byz src vN vF ns fs w) {w' : World} (hb : Below w.heap.size w w') : RunV w0 R vf vb n byz src vN vF ns fs w' :=
  ⟨Below.next h.old hb, h.lo, heap_below hb h.box, rowK_below h.nod hb, rowK_below h.flt hb, fun p hp => ⟨⟨(h.hea p hp).1.rd.below hb, (h.hea p hp).1.ne, (h.hea p hp).1.cn, (h.hea p hp).1.cf⟩, ⟨(h.hea p hp).2.rd.below hb, (h.hea p hp).2.ne, (h.hea p hp).2.cn, (h.hea p hp).2.cf⟩⟩⟩
theorem RunV.lt (h : RunV w0 R vf vb n byz src vN vF ns fs w) : R < w.heap.size := (Array.getElem?_eq_some_iff.1 h.box).1
theorem RunV.nR (h : RunV w0 R vf vb n byz src vN vF ns fs w) : vN.ownBlock ≠ some R := own_ne h.nod h.box (by decide)
theorem RunV.fR (h : RunV w0 R vf vb n byz src vN vF ns fs w) : vF.ownBlock ≠ some R := own_ne h.flt h.box (by decide)
theorem RunV.nf (h : RunV w0 R vf vb n byz src vN vF ns fs w) {g : Nat} (hg : vF.ownBlock = some g) : vN.ownBlock ≠ some g := by
  obtain ⟨cs, h1⟩ := own_type h.flt hg
  exact own_ne h.nod h1 (by decide)
theorem below_keepF (h : Below w0.heap.size w0 w) {w' : World} {v v' : Value} (hos : w'.os = w.os) (ht : w'.tape = w.tape) (ho : w'.output = w.output) (hk : KeepF R v v' w w') (hR : w0.heap.size ≤ R) (hv : ∀ g, v.ownBlock = some g → w0.heap.size ≤ g) : Below w0.heap.size w0 w' :=
  ⟨hos.trans h.os, ht.trans h.tape, ho.trans h.output, Nat.le_trans h.size hk.size, fun k hlt => (hk.keep k (Nat.lt_of_lt_of_le hlt h.size) (by omega) (fun e => by have := hv k e; omega)).trans (h.block k hlt)⟩
/-- the row of messages turned -/
theorem RunV.flight (h : RunV w0 R vf vb n byz src vN vF ns fs w) {w' : World} {vF' : Value} {fs' : List MsgT} (hos : w'.os = w.os) (ht : w'.tape = w.tape) (ho : w'.output = w.output) (hk : KeepF R vF vF' w w')
    (hbox : w'.heap[R]? = some (.cells #[vf, vb, .int .i64 n, .int .u16 (U byz), .int .i64 src, vN, vF'] 83 (0, 0))) (hf : w'.ownsRow w0.heap.size 85 4 vF' fs'.length (fs'.flatMap msgC)) :
    RunV w0 R vf vb n byz src vN vF' ns fs' w' := by
  have hH : ∀ s l, HeaM w R vN vF s l → HeaM w' R vN vF' s l := fun s l q => by
    refine ⟨rdK_keep q.rd (by decide) (fun hn b o ha hlt => hk.keep b hlt (q.ne hn b o ha) (q.cf hn b o ha)), q.ne, q.cn, fun hn b o ha e => ?_⟩
    rcases hk.blk b e with h3 | h3
    · exact q.cf hn b o ha h3
    · have := rdK_lt q.rd (by decide) hn ha; omega
  refine ⟨below_keepF h.old hos ht ho hk h.lo (fun g hg => (h.flt.lt g hg).1), h.lo, hbox, ?_, hf, fun p hp => ⟨hH _ _ (h.hea p hp).1, hH _ _ (h.hea p hp).2⟩⟩
  exact own_at h.nod fun g hg => hk.keep g (h.nod.lt g hg).2 (fun e => h.nR (by rw [hg, e])) (fun e => h.nf e hg)
end

/-- a message to the correct ones below k -/
def allK (byz : BitVec 16) (c : MsgT) (k : Nat) : List MsgT := ((List.range k).filter fun i => !hasB byz i).map fun (i : Nat) => { c with dst := (i : Int) }
theorem allK_succ (byz : BitVec 16) (c : MsgT) (k : Nat) : allK byz c (k + 1) = allK byz c k ++ (if hasB byz k then [] else [{ c with dst := (k : Int) }]) := by
  unfold allK
  rw [List.range_succ, List.filter_append, List.map_append]
  cases h : hasB byz k <;> simp [h]
theorem allK_len (byz : BitVec 16) (c : MsgT) (k : Nat) : (allK byz c k).length ≤ k := by
  unfold allK
  rw [List.length_map]
  exact Nat.le_trans (List.length_filter_le _ (List.range k)) (by rw [List.length_range]; exact Nat.le_refl _)

set_option maxRecDepth 100000 in
set_option maxHeartbeats 1000000 in
theorem correct_c (R : Nat) (v0 v1 v4 v5 v6 : Value) (n : Nat) (byz : BitVec 16) (i : Nat) (hi : i < n) (hn : n ≤ 12) (w : World) (h : w.heap[R]? = some (.cells #[v0, v1, .int .i64 n, .int .u16 (U byz), v4, v5, v6] 83 (0, 0))) :
    Calls Tryz.prog 108 #[.pointer (some ⟨R, 0, none⟩), .int .i64 i] w fun e w' => e = .returned (.bool (!hasB byz i)) ∧ w' = w := by
  have c2 := cell_of_row _ _ 2 _ _ _ h
  have c3 := cell_of_row _ _ 3 _ _ _ h
  clear h
  go_enter Tryz.func108, Tryz.ntmps108
  go_wp2_with fail
  go_ret
  exact ⟨rfl, rfl⟩
end Go.Proofs.YtmjgdnpfgkpaoaaGreatDoor
namespace Go.Proofs.YtmjgdnpfgkpaoaaGreatDoor
open Go.RowKit Go.Shelf

theorem open7Q {w : World} {B : Nat} {t : TypeId} {v0 v1 v2 v3 v4 v5 v6 : Value} (h : w.heap[B]? = some (.cells #[v0, v1, v2, v3, v4, v5, v6] t (0, 0))) :
    (w.cell? ⟨B, 0, none⟩ = some v0 ∧ w.cell? ⟨B, 1, none⟩ = some v1 ∧ w.cell? ⟨B, 2, none⟩ = some v2 ∧ w.cell? ⟨B, 3, none⟩ = some v3 ∧ w.cell? ⟨B, 4, none⟩ = some v4 ∧ w.cell? ⟨B, 5, none⟩ = some v5 ∧ w.cell? ⟨B, 6, none⟩ = some v6) ∧ w.frozen? ⟨B, 5, none⟩ = false ∧ w.frozen? ⟨B, 6, none⟩ = false :=
  ⟨⟨cell_of_row _ _ 0 _ _ _ h, cell_of_row _ _ 1 _ _ _ h, cell_of_row _ _ 2 _ _ _ h, cell_of_row _ _ 3 _ _ _ h, cell_of_row _ _ 4 _ _ _ h, cell_of_row _ _ 5 _ _ _ h, cell_of_row _ _ 6 _ _ _ h⟩, frozenB h 5, frozenB h 6⟩
theorem open4m {w : World} {B : Nat} {t : TypeId} {v0 v1 v2 v3 : Value} (h : w.heap[B]? = some (.cells #[v0, v1, v2, v3] t (0, 0))) :
    (w.cell? ⟨B, 0, none⟩ = some v0 ∧ w.cell? ⟨B, 1, none⟩ = some v1 ∧ w.cell? ⟨B, 2, none⟩ = some v2 ∧ w.cell? ⟨B, 3, none⟩ = some v3) ∧ w.frozen? ⟨B, 2, none⟩ = false :=
  ⟨⟨cell_of_row _ _ 0 _ _ _ h, cell_of_row _ _ 1 _ _ _ h, cell_of_row _ _ 2 _ _ _ h, cell_of_row _ _ 3 _ _ _ h⟩, frozenB h 2⟩

/-- the lists of a node lie apart from a block -/
def Off (bx : Nat) (p : NodQ) : Prop := (0 < p.2.1.2.1 → ∀ b o, p.2.1.1 = some ⟨b, o, none⟩ → b ≠ bx) ∧ (0 < p.2.2.2.1 → ∀ b o, p.2.2.1 = some ⟨b, o, none⟩ → b ≠ bx)
section
variable {w0 : World} {R : Nat} {vf vb : Value} {n : Nat} {byz : BitVec 16} {src : Int} {vN vF : Value} {ns : List NodQ} {fs : List MsgT} {w : World}
theorem RunV.off (h : RunV w0 R vf vb n byz src vN vF ns fs w) {bx : Nat} (hb : w.heap.size ≤ bx) : ∀ p ∈ ns, Off bx p := fun p hp =>
  ⟨fun hn b o ha => by have := rdK_lt (h.hea p hp).1.rd (by decide) hn ha; omega, fun hn b o ha => by have := rdK_lt (h.hea p hp).2.rd (by decide) hn ha; omega⟩
/-- a cell of another block turned -/
theorem RunV.other (h : RunV w0 R vf vb n byz src vN vF ns fs w) {bx : Nat} (hR : R ≠ bx) (hlo : w0.heap.size ≤ bx) (hN : vN.ownBlock ≠ some bx) (hF : vF.ownBlock ≠ some bx) (hL : ∀ p ∈ ns, Off bx p) (i : Nat) (u : Value) : RunV w0 R vf vb n byz src vN vF ns fs (w.setCell ⟨bx, i, none⟩ u) := by
  have hk : ∀ g, g ≠ bx → (w.setCell ⟨bx, i, none⟩ u).heap[g]? = w.heap[g]? := fun g hg => Below.heap_setCell _ _ _ _ hg
  refine ⟨h.old.setCell (p := ⟨bx, i, none⟩) hlo u, h.lo, (hk R hR).trans h.box, own_at h.nod fun g hg => hk g (fun e => hN (by rw [hg, e])), own_at h.flt fun g hg => hk g (fun e => hF (by rw [hg, e])), fun p hp => ⟨?_, ?_⟩⟩
  · have q := (h.hea p hp).1
    exact ⟨rdK_keep q.rd (by decide) (fun hn b o ha _ => hk b ((hL p hp).1 hn b o ha)), q.ne, q.cn, q.cf⟩
  · have q := (h.hea p hp).2
    exact ⟨rdK_keep q.rd (by decide) (fun hn b o ha _ => hk b ((hL p hp).2 hn b o ha)), q.ne, q.cn, q.cf⟩
/-- a message appended -/
theorem RunV.pushed (h : RunV w0 R vf vb n byz src vN vF ns fs w) {m : MsgT} {ob : Obj} {gg cap k : Nat} {wA : World} (hg : ((w.alloc ob).drew).grownBy wA vF.ownBlock) (hk : fs.length = k) (ho : wA.ownsRow w0.heap.size 85 4 (.slice (some ⟨gg, 0, none⟩) (k + 1) cap) (k + 1) (fs.flatMap msgC ++ msgC m)) (hat : vF.ownBlock = some gg ∨ w.heap.size ≤ gg) :
    RunV w0 R vf vb n byz src vN (.slice (some ⟨gg, 0, none⟩) (k + 1) cap) ns (fs ++ [m]) (wA.setCell ⟨R, 6, none⟩ (.slice (some ⟨gg, 0, none⟩) (k + 1) cap)) ∧ KeepF R vF (.slice (some ⟨gg, 0, none⟩) (k + 1) cap) w (wA.setCell ⟨R, 6, none⟩ (.slice (some ⟨gg, 0, none⟩) (k + 1) cap)) := by
  have hs : w.heap.size ≤ wA.heap.size := by have := hg.size; simp at this; omega
  have hA : ∀ g, g < w.heap.size → vF.ownBlock ≠ some g → wA.heap[g]? = w.heap[g]? := fun g hlt hne => (hg.block g (by simp; omega) (fun e => hne e.symm)).trans (Below.heap_alloc w _ g hlt)
  have hK : KeepF R vF (.slice (some ⟨gg, 0, none⟩) (k + 1) cap) w (wA.setCell ⟨R, 6, none⟩ (.slice (some ⟨gg, 0, none⟩) (k + 1) cap)) := by
    refine ⟨by simpa using hs, fun g hgg => ?_, fun g hlt hR hF => ?_⟩
    · cases hgg; exact hat
    · rw [Below.heap_setCell _ _ _ _ hR]; exact hA g hlt hF
  have hbA := (hA R h.lt h.fR).trans h.box
  have hRg : R ≠ gg := by
    rcases hat with h1 | h1
    · intro e; exact h.fR (by rw [h1, e])
    · have := h.lt; omega
  refine ⟨h.flight (hg.os.trans rfl) (hg.tape.trans rfl) (hg.output.trans rfl) hK (by rw [heap_set_at hbA]; rfl) ?_, hK⟩
  rw [List.length_append, List.flatMap_append, hk, show [m].flatMap msgC = msgC m from List.append_nil _]
  exact own_at ho fun g hgg => by cases hgg; exact Below.heap_setCell _ _ _ _ (Ne.symm hRg)
end

set_option maxRecDepth 100000 in
set_option maxHeartbeats 4000000 in
theorem all_c (c : MsgT) (w0 : World) (R : Nat) (vf vb : Value) (n : Nat) (byz : BitVec 16) (src : Int) (vN vF : Value) (ns : List NodQ) (fs : List MsgT) (w : World) (hn : n ≤ 12) (hfs : fs.length ≤ 100000) (h : RunV w0 R vf vb n byz src vN vF ns fs w) :
    Calls Tryz.prog 75 #[.pointer (some ⟨R, 0, none⟩), msgV c] w fun e w' => e = .returned (.tuple #[]) ∧ ∃ vF', RunV w0 R vf vb n byz src vN vF' ns (fs ++ allK byz c n) w' ∧ KeepF R vF vF' w w' := by
  obtain ⟨c0, c1, c2, c3⟩ := c
  unfold msgV
  obtain ⟨W, hW⟩ : ∃ W, W = w.alloc (.cells #[.int .i64 c0, .int .i64 c1, .int .i64 c2, .string c3] 85) := ⟨_, rfl⟩
  have hbW : Below w.heap.size w W := by rw [hW]; exact (Below.refl _ w).alloc (Nat.le_refl _) _
  have hX : W.heap[w.heap.size]? = some (.cells #[.int .i64 c0, .int .i64 c1, .int .i64 c2, .string c3] 85 (0, 0)) := by rw [hW]; exact heap_alloc_new _ _
  have hsW : W.heap.size = w.heap.size + 1 := by rw [hW]; simp
  have HV := Lib.hid (h.below hbW)
  have HBW := Lib.hid hbW
  have HX := Lib.hid hX
  have HSW := Lib.hid hsW
  have hRw := h.lt
  have HFlt : Hid (∀ g, vF.ownBlock = some g → g < w.heap.size) := Lib.hid (fun g hg => (h.flt.lt g hg).2)
  obtain ⟨i0, hi0, hz0, hz1, hz2⟩ := info_parts Tryz.infoMsg
  have HNX : Hid (vN.ownBlock ≠ some w.heap.size) := Lib.hid (fun e => by have := (h.nod.lt _ e).2; omega)
  have HOFF := Lib.hid (h.off (Nat.le_refl w.heap.size))
  have HLO : Hid (w0.heap.size ≤ w.heap.size) := Lib.hid h.old.size
  clear h hbW hX hsW
  go_enter Tryz.func75, Tryz.ntmps75
  go_upto_region 1 with fail
  rw [← hW]
  clear hW
  obtain ⟨⟨b0, b1, b2, b3, b4, b5, b6⟩, _⟩ := open7Q HV.out.box
  go_wp2_with fail
  go_loopw [10] (fun i wr => ∃ k : Nat, k ≤ n ∧ i = .int .i64 k ∧ Hid (∃ vF' d, RunV w0 R vf vb n byz src vN vF' ns (fs ++ allK byz ⟨c0, c1, c2, c3⟩ k) wr ∧ KeepF R vF vF' w wr ∧ vF'.ownBlock ≠ some w.heap.size ∧ wr.heap[w.heap.size]? = some (.cells #[.int .i64 c0, .int .i64 c1, d, .string c3] 85 (0, 0)))) (fun i _ => n - (intOf i).toNat)
  case atStart => exact ⟨0, Nat.zero_le _, rfl, Lib.hid ⟨vF, _, by simpa [allK] using HV.out, KeepF.below HBW.out, fun e => by have := HFlt.out _ e; omega, HX.out⟩⟩
  case round =>
    clear b0 b1 b2 b3 b4 b5 b6
    obtain ⟨k, hk, rfl, hin⟩ := hrel
    obtain ⟨vF', d, hV, hK, hFX, hX⟩ := hin.out
    clear hin
    by_cases hlt : k < n
    · have HCC := Lib.hid (correct_c R vf vb (.int .i64 src) vN vF' n byz k hlt hn wr hV.box)
      cases hB : hasB byz k
      · rw [hB] at HCC
        have hS : allK byz ⟨c0, c1, c2, c3⟩ (k + 1) = allK byz ⟨c0, c1, c2, c3⟩ k ++ [⟨c0, c1, (k : Int), c3⟩] := by rw [allK_succ, hB]; rfl
        have HS := Lib.hid hS
        obtain ⟨W1, hW1⟩ : ∃ W1, W1 = wr.setCell ⟨w.heap.size, 2, none⟩ (.int .i64 k) := ⟨_, rfl⟩
        have hne : R ≠ w.heap.size := by omega
        have hX1 : W1.heap[w.heap.size]? = some (.cells #[.int .i64 c0, .int .i64 c1, .int .i64 k, .string c3] 85 (0, 0)) := by rw [hW1, heap_set_at hX]; rfl
        have hoth : ∀ g, g ≠ w.heap.size → W1.heap[g]? = wr.heap[g]? := fun g hg => by rw [hW1]; exact Below.heap_setCell _ _ _ _ hg
        have hbx1 := (hoth R hne).trans hV.box
        have hfX : ∀ g, vF'.ownBlock = some g → g ≠ w.heap.size := fun g hg e => hFX (by rw [hg, e])
        have hV1 : RunV w0 R vf vb n byz src vN vF' ns (fs ++ allK byz ⟨c0, c1, c2, c3⟩ k) W1 := by rw [hW1]; exact hV.other hne HLO.out HNX.out hFX HOFF.out 2 _
        have hrow1 : W1.ownsRow w0.heap.size 85 4 vF' (fs ++ allK byz ⟨c0, c1, c2, c3⟩ k).length ((fs ++ allK byz ⟨c0, c1, c2, c3⟩ k).flatMap msgC) := own_at hV.flt fun g hg => hoth g (hfX g hg)
        obtain ⟨av, cv, rfl, hr⟩ := rdK_of_row hrow1
        obtain ⟨m, hm⟩ : ∃ m, (fs ++ allK byz ⟨c0, c1, c2, c3⟩ k).length = m := ⟨_, rfl⟩
        have hm2 : m ≤ 100012 := by rw [← hm, List.length_append]; have := allK_len byz ⟨c0, c1, c2, c3⟩ k; omega
        rw [hm] at hrow1 hr hbx1 hfX hV hV1 hK hFX
        have hs1 : W1.heap.size = wr.heap.size := by rw [hW1]; simp
        have z2 := frozenB hX 2
        have x2w := cell_of_row _ _ 2 _ _ _ hX
        have hXs := (Array.getElem?_eq_some_iff.1 hX1).1
        obtain ⟨⟨x0, x1, x2, x3⟩, _⟩ := open4m hX1
        obtain ⟨⟨b0, b1, b2, b3, b4, b5, b6⟩, y5, y6⟩ := open7Q hbx1
        have b6b : (W1.alloc (Obj.cells #[.int .i64 c0, .int .i64 c1, .int .i64 k, .string c3] 85)).cell? ⟨R, 6, none⟩ = some (.slice av m cv) := cell_of_row _ _ 6 _ _ _ (heap_alloc_at hbx1 _)
        have HROW1 := Lib.hid hrow1
        have HS1 := Lib.hid hs1
        have HBX1 := Lib.hid hbx1
        have hbs : w0.heap.size ≤ W1.heap.size := by rw [hs1]; exact hV.old.size
        have hRs1 : R < W1.heap.size := by rw [hs1]; exact hV.lt
        have HfR := Lib.hid hV.fR
        have KA : Hid (∀ x y : World, x.grownBy y (Value.slice av m cv).ownBlock → x.heap[R]? = W1.heap[R]? → W1.heap.size ≤ x.heap.size → y.heap[R]? = some (.cells #[vf, vb, .int .i64 n, .int .u16 (U byz), .int .i64 src, vN, .slice av m cv] 83 (0, 0))) := Lib.hid (fun x y hg hx hsx => by
          rw [hg.block R (by omega) (fun e => HfR.out e.symm), hx]
          exact hbx1)
        have HV1 := Lib.hid hV1
        have HK1 := Lib.hid hK
        have HX1 := Lib.hid hX1
        have HOT := Lib.hid hoth
        have HFX := Lib.hid hFX
        have HM := Lib.hid hm
        have HWS := Lib.hid hV.old.size
        clear hS hX hX1 hrow1 hs1 hbx1 hV hV1 hK hoth hfX hFX hr hm
        go_wp2_with fail
        refine HCC.out.mono ?_
        rintro e w1 ⟨rfl, rfl⟩
        go_upto_region 6 with fail
        rw [← hW1]
        clear hW1 HCC
        go_wp2_with fail
        go_region_law (first
          | (refine step_append_lies _ (by rfl) _ _ _ (by rfl) w0.heap.size 85 i0 _ 4 40 Tryz.underlying32 hi0 hz0 hz1 hz2 rfl (by omega) (.slice av m cv) m _ (by simp [Act.eval]) ((HROW1.out.alloc _).drew) ⟨W1.heap.size, 0, none⟩ 1 1 [.int .i64 c0, .int .i64 c1, .int .i64 k, .string c3] (by simp [Act.eval]) (by rfl) (World.news_of_block (cs := #[.int .i64 c0, .int .i64 c1, .int .i64 k, .string c3]) (t := 85) (fr := (0, 0)) (heap_alloc_new W1 _)) (by simp [Value.oneCell']) (by omega) (by unfold maxLen; omega) (by omega) (by simp; omega) (W1.heap.size + 1) (by simp) ?_; intro gg cap wA hownA hgrow hat hlt2; have hA := KA.out _ _ hgrow (Below.heap_alloc W1 _ R (by omega)) (by simp); have pA := cell_of_row _ _ 6 _ _ _ hA; have zA := frozenB hA 6; have HA := Lib.hid hA; have HOA := Lib.hid hownA; have HGA := Lib.hid hgrow; have HAT := Lib.hid hat; clear hA hownA hgrow hat))
        all_goals
          go_wp2_with fail
          go_roundw
          case rel =>
            have hp := HV1.out.pushed (m := ⟨c0, c1, (k : Int), c3⟩) HGA.out HM.out HOA.out (HAT.out.imp_right fun h1 => by omega)
            have hbx : gg ≠ w.heap.size := by
              rcases HAT.out with h1 | h1
              · intro e; exact HFX.out (by rw [h1, e])
              · omega
            refine ⟨k + 1, by omega, by go_num, Lib.hid ⟨.slice (some ⟨gg, 0, none⟩) (m + 1) cap, .int .i64 k, ?_, ?_, fun e => hbx (by cases e; rfl), ?_⟩⟩
            · rw [HS.out, ← List.append_assoc]; exact hp.1
            · have hk1 : KeepF R vF (.slice av m cv) w W1 := ⟨by have := HS1.out; have := HK1.out.size; omega, HK1.out.blk, fun g hlt hR hF => (HOT.out g (by omega)).trans (HK1.out.keep g hlt hR hF)⟩
              exact hk1.trans hp.2
            · exact (hp.2.keep w.heap.size hXs (by omega) HFX.out).trans HX1.out
          case measure => simp [intOf]; omega
      · rw [hB] at HCC
        have hS : allK byz ⟨c0, c1, c2, c3⟩ (k + 1) = allK byz ⟨c0, c1, c2, c3⟩ k := by rw [allK_succ, hB]; simp
        have HS := Lib.hid hS
        have HV1 := Lib.hid hV
        have HK1 := Lib.hid hK
        have HX1 := Lib.hid hX
        have HFX := Lib.hid hFX
        clear hS hX hV hK hFX
        go_wp2_with (refine HCC.out.mono ?_; rintro e w1 ⟨rfl, rfl⟩)
        go_roundw
        case rel => exact ⟨k + 1, by omega, by go_num, Lib.hid ⟨vF', d, by rw [HS.out]; exact HV1.out, HK1.out, HFX.out, HX1.out⟩⟩
        case measure => simp [intOf]; omega
    · obtain rfl : k = n := by omega
      have HV1 := Lib.hid hV
      have HK1 := Lib.hid hK
      clear hV hK hX
      go_wp2_with fail
      refine bodyPost_end (v := .tuple #[]) (results_none Tryz.results75 _ _ _) rfl ⟨rfl, vF', HV1.out, ?_⟩
      exact HK1.out
end Go.Proofs.YtmjgdnpfgkpaoaaGreatDoor
namespace Go.Proofs.YtmjgdnpfgkpaoaaGreatDoor
open Go.RowKit
section
variable {P : Program} {ops : Array Oper} {md : Region.Mode} {S : World → Prop}

def takesB (md : Region.Mode) (ops : Array Oper) : List Nat → Array Bool → Bool
  | [], _ => true
  | i :: L, listed => (Region.free md ops listed i && (Region.ready md ops listed).contains i) && takesB md ops L (listed.setIfInBounds i true)
def afterT : List Nat → Array Bool → Array Bool
  | [], listed => listed
  | i :: L, listed => afterT L (listed.setIfInBounds i true)
def wpTk (P : Program) (ops : Array Oper) (S : World → Prop) (K : Act → Prop) : List Nat → Act → Prop
  | [], a => K a
  | i :: L, a => ∃ o, ops[i]? = some o ∧ if Region.wanted o (yielded ops a.tmps) = true then ∃ v, (∀ w, S w → (execOp a.eval o).run P w = .ok (.value v) w) ∧ wpTk P ops S K L (a.put o.dst v) else wpTk P ops S K L (a.put o.dst undef)
theorem wpTk_nil {K : Act → Prop} {a : Act} (h : K a) : wpTk P ops S K [] a := h
theorem wpTk_cons {K : Act → Prop} {i : Nat} {L : List Nat} {a : Act} {o : Oper} (ho : ops[i]? = some o)
    (h : ∀ K' : Act → Prop, (∀ a, wpTk P ops S K L a → K' a) → if Region.wanted o (yielded ops a.tmps) = true then ∃ v, (∀ w, S w → (execOp a.eval o).run P w = .ok (.value v) w) ∧ K' (a.put o.dst v) else K' (a.put o.dst undef)) : wpTk P ops S K (i :: L) a :=
  ⟨o, ho, h _ (fun _ h => h)⟩
theorem held_takes {Q : Exit → Act → World → Prop} {f : Nat} {w : World} (hsel : Region.noSelect ops = true) (hQ : ∀ c a d v w, Q (.panic c) (a.put d v) w → Q (.panic c) a w) (hS : S w) :
    ∀ (L : List Nat) (listed : Array Bool) (a : Act), takesB md ops L listed = true → wpTk P ops S (fun a' => wpAnyH P md ops Q S f (afterT L listed) a' w) L a → wpAnyH P md ops Q S (f + L.length) listed a w
  | [], listed, a, _, h => h
  | i :: L, listed, a, hB, h => by
    obtain ⟨o, ho, h⟩ := h
    unfold takesB at hB
    simp only [Bool.and_eq_true] at hB
    rw [List.length_cons, ← Nat.add_assoc]
    by_cases hw : Region.wanted o (yielded ops a.tmps) = true
    · rw [if_pos hw] at h
      obtain ⟨v, hv, h⟩ := h
      exact wpAnyH_take ho hsel hB.1.1 hB.1.2 (fun c a w => hQ c a _ _ w) (.inl ⟨hw, hv⟩) hS (held_takes hsel hQ hS L _ _ hB.2 h)
    · rw [if_neg hw] at h
      have hw' : Region.wanted o (yielded ops a.tmps) = false := by simpa using hw
      exact wpAnyH_take ho hsel hB.1.1 hB.1.2 (fun c a w => hQ c a _ _ w) (.inr ⟨hw', rfl⟩) hS (held_takes hsel hQ hS L _ _ hB.2 h)
theorem wp_region_takes {id : Nat} {Q : Exit → Act → World → Prop} {a : Act} {w : World} {l : List Oper} (S : World → Prop) (L : List Nat) (f : Nat) (hm : P.follows .mixedOrders = true) (hf : (f + L.length == l.length) = true)
    (hB : (Region.noSelect l.toArray && takesB .any l.toArray L (Array.replicate l.length false)) = true) (hQ : ∀ c a d v w, Q (.panic c) (a.put d v) w → Q (.panic c) a w) (hS : S w.drew)
    (h : wpTk P l.toArray S (fun a' => wpAnyH P .any l.toArray Q S f (afterT L (Array.replicate l.length false)) a' w.drew) L a) : (Code.region id l.toArray true).wp P Q a w := by
  simp only [Bool.and_eq_true] at hB
  have e : l.toArray.size = f + L.length := by rw [List.size_toArray]; exact (eq_of_beq hf).symm
  refine wp_region_held_drew hm hS (fun _ => ?_)
  rw [e]
  have := held_takes (md := .any) (f := f) (w := w.drew) hB.1 hQ hS L (Array.replicate l.length false) a hB.2 h
  rw [show f + L.length = l.length from eq_of_beq hf] at this ⊢
  exact this
/-- whichever comes up -/
theorem held_ready {Q : Exit → Act → World → Prop} {rs : List Nat} {f : Nat} {listed : Array Bool} {a : Act} {w : World} (hr : (Region.ready md ops listed == rs) = true) (hne : rs ≠ [])
    (h : AllReadyH P md ops Q S f listed a w rs) : wpAnyH P md ops Q S (f + 1) listed a w := wpAnyH_ready (eq_of_beq hr) hne h
end
end Go.Proofs.YtmjgdnpfgkpaoaaGreatDoor
namespace Go.Proofs.YtmjgdnpfgkpaoaaGreatDoor
open Go.RowKit Go.Shelf

/-- what is of other types than a run's stays -/
structure FrameT (w w' : World) : Prop where
  size : w.heap.size ≤ w'.heap.size
  keep : ∀ (k : Nat) (cs : Array Value) (t : TypeId) (fr : Nat × Nat), w.heap[k]? = some (Obj.cells cs t fr) → t ≠ 83 → t ≠ 97 → t ≠ 85 → w'.heap[k]? = w.heap[k]?
theorem FrameT.refl (w : World) : FrameT w w := ⟨Nat.le_refl _, fun _ _ _ _ _ _ _ _ => rfl⟩
theorem FrameT.trans {w0 w1 w2 : World} (h : FrameT w0 w1) (h2 : FrameT w1 w2) : FrameT w0 w2 :=
  ⟨Nat.le_trans h.size h2.size, fun k cs t fr hk a b c => (h2.keep k cs t fr ((h.keep k cs t fr hk a b c).trans hk) a b c).trans (h.keep k cs t fr hk a b c)⟩
theorem FrameT.below {w w' : World} (h : Below w.heap.size w w') : FrameT w w' := ⟨h.size, fun k _ _ _ hk _ _ _ => h.block k (Array.getElem?_eq_some_iff.1 hk).1⟩
theorem KeepF.frame {w0 : World} {R : Nat} {vf vb : Value} {n : Nat} {byz : BitVec 16} {src : Int} {vN vF vF' : Value} {ns : List NodQ} {fs : List MsgT} {w w' : World} (h : RunV w0 R vf vb n byz src vN vF ns fs w) (hk : KeepF R vF vF' w w') : FrameT w w' := by
  refine ⟨hk.size, fun k cs t fr hb h1 h2 h3 => hk.keep k (Array.getElem?_eq_some_iff.1 hb).1 (fun e => ?_) (fun e => ?_)⟩
  · subst e; rw [h.box] at hb; injection hb with hb; injection hb with _ hb; exact h1 hb.symm
  · obtain ⟨cs', h4⟩ := own_type h.flt e
    rw [hb] at h4; injection h4 with h4; injection h4 with _ h4; exact h3 h4

theorem putL_take : ∀ (vs : List Value) (o : Nat) (l : List Value) (N : Nat), o + vs.length ≤ N → (putL l o vs).take N = putL (l.take N) o vs
  | [], _, _, _, _ => rfl
  | v :: r, o, l, N, h => by
    rw [List.length_cons] at h
    rw [putL, putL, putL_take r (o + 1) _ N (by omega), List.take_set]
theorem flat_set {α : Type} (k : Nat) (enc : α → List Value) (hk : ∀ x, (enc x).length = k) (L : List α) (d : Nat) (x : α) (hd : d < L.length) : putL (L.flatMap enc) (d * k) (enc x) = (L.set d x).flatMap enc := by
  have h1 : d * k + (enc x).length ≤ (L.flatMap enc).length := by
    rw [hk, flat_len k enc hk]
    have := Nat.mul_le_mul_right k (show d + 1 ≤ L.length by omega)
    rw [Nat.succ_mul] at this; omega
  rw [putL_eq _ _ _ h1, hk, flat_takeQ k enc hk, show d * k + k = (d + 1) * k by rw [Nat.succ_mul], flat_drop k enc hk, List.set_eq_take_append_cons_drop, if_pos hd]
  simp
/-- an element of a row stored -/
theorem own_set {α : Type} {k : Nat} {enc : α → List Value} (hk : ∀ x, (enc x).length = k) {w : World} {B n g c : Nat} {e : TypeId} {L : List α} (h : w.ownsRow B e k (.slice (some ⟨g, 0, none⟩) n c) n (L.flatMap enc)) (hn : L.length = n) (d : Nat) (hd : d < n) (x : α) :
    (w.setCells g (d * k) (enc x)).ownsRow B e k (.slice (some ⟨g, 0, none⟩) n c) n ((L.set d x).flatMap enc) := by
  refine ⟨by rw [flat_len k enc hk, List.length_set, hn], ?_⟩
  rcases h.2 with ⟨h1, _⟩ | ⟨g', cap, cur, hv, hb, hg, hle, hm, hs, ht⟩
  · cases h1
  · cases hv
    obtain ⟨cs', h1, h2⟩ := heap_setCells_at (enc x) (d * k) w g cur _ _ hg
    have hkn : d * k + (enc x).length ≤ n * k := by
      rw [hk]
      have := Nat.mul_le_mul_right k (show d + 1 ≤ n by omega)
      rw [Nat.succ_mul] at this; exact this
    have hnc : n * k ≤ c * k := Nat.mul_le_mul_right k hle
    refine .inr ⟨g, c, cs', rfl, hb, h1, hle, hm, ?_, ?_⟩
    · have h3 := congrArg List.length h2
      rw [putL_eq _ _ _ (by have e : cur.toList.length = c * k := (Array.length_toList).trans hs; omega)] at h3
      rw [Array.length_toList] at h3
      rw [h3]
      simp only [List.length_append, List.length_take, List.length_drop, Array.length_toList, hs]; omega
    · rw [h2, putL_take _ _ _ _ hkn, ht, flat_set k enc hk L d x (by omega)]

section
variable {w0 : World} {R : Nat} {vf vb : Value} {n : Nat} {byz : BitVec 16} {src : Int} {vN vF : Value} {ns : List NodQ} {fs : List MsgT} {w : World}
/-- a node stored -/
theorem RunV.node {g c : Nat} (h : RunV w0 R vf vb n byz src (.slice (some ⟨g, 0, none⟩) ns.length c) vF ns fs w) {d : Nat} (hd : d < ns.length) (p : NodQ) (h1 : HeaM w R (.slice (some ⟨g, 0, none⟩) ns.length c) vF p.2.1 p.1.echoes) (h2 : HeaM w R (.slice (some ⟨g, 0, none⟩) ns.length c) vF p.2.2 p.1.readies) :
    RunV w0 R vf vb n byz src (.slice (some ⟨g, 0, none⟩) (ns.set d p).length c) vF (ns.set d p) fs (w.setCells g (d * 9) (nodQ p)) ∧ FrameT w (w.setCells g (d * 9) (nodQ p)) := by
  have hg := grown_setCells w g (d * 9) (nodQ p)
  have hs := size_setCellsA (nodQ p) (d * 9) w g
  have hgb := h.nod.lt g rfl
  have hk : ∀ k, k < w.heap.size → k ≠ g → (w.setCells g (d * 9) (nodQ p)).heap[k]? = w.heap[k]? := fun k hk hne => hg.block k hk (by intro e; cases e; exact hne rfl)
  have hRg : R ≠ g := fun e => h.nR (by rw [e]; rfl)
  have hH : ∀ s l, HeaM w R (.slice (some ⟨g, 0, none⟩) ns.length c) vF s l → HeaM (w.setCells g (d * 9) (nodQ p)) R (.slice (some ⟨g, 0, none⟩) (ns.set d p).length c) vF s l := fun s l q =>
    ⟨rdK_keep q.rd (by decide) (fun hn b o ha hlt => hk b hlt (fun e => q.cn hn b o ha (by rw [e]; rfl))), q.ne, fun hn b o ha e => q.cn hn b o ha e, q.cf⟩
  refine ⟨⟨?_, h.lo, (hk R h.lt hRg).trans h.box |>.trans (by rw [List.length_set]), ?_, own_at h.flt fun j hj => hk j (h.flt.lt j hj).2 (fun e => h.nf (hj.trans (by rw [e])) rfl), fun q hq => ?_⟩, Nat.le_of_eq hs.symm, fun k cs t fr hb a1 a2 a3 => ?_⟩
  · exact ⟨hg.os.trans h.old.os, hg.tape.trans h.old.tape, hg.output.trans h.old.output, Nat.le_trans h.old.size hg.size, fun k hlt => (hk k (Nat.lt_of_lt_of_le hlt h.old.size) (by omega)).trans (h.old.block k hlt)⟩
  · rw [List.length_set]; exact own_set nodQ_len h.nod rfl d hd p
  · rcases List.mem_or_eq_of_mem_set hq with hq | rfl
    · exact ⟨hH _ _ (h.hea q hq).1, hH _ _ (h.hea q hq).2⟩
    · exact ⟨hH _ _ h1, hH _ _ h2⟩
  · refine hk k (Array.getElem?_eq_some_iff.1 hb).1 (fun e => ?_)
    subst e
    obtain ⟨cs', h4⟩ := own_type h.nod rfl
    rw [hb] at h4; injection h4 with h4; injection h4 with _ h4; exact a2 h4
end
/-- a message handled: the nodes and what is under way behind it -/
def delS (f b : List (BitVec 16)) (n : Nat) (byz : BitVec 16) (xs : List CasT) (fs : List MsgT) (k : Nat) : List CasT × List MsgT :=
  match fs[k]? with
  | none => (xs, fs)
  | some c => match xs[c.dst.toNat]? with
    | none => (xs, fs)
    | some x => (xs.set c.dst.toNat (handleS f b x c.src c.kind c.value).1, (handleS f b x c.src c.kind c.value).2.foldl (fun l m => l ++ allK byz m n) (fs.eraseIdx k))
/-- a run in memory -/
def RunM (w0 : World) (R : Nat) (vf vb : Value) (n : Nat) (byz : BitVec 16) (src : Int) (xs : List CasT) (fs : List MsgT) (w : World) : Prop :=
  ∃ vN vF ns, RunV w0 R vf vb n byz src vN vF ns fs w ∧ ns.map (·.1) = xs
end Go.Proofs.YtmjgdnpfgkpaoaaGreatDoor
namespace Go.Proofs.YtmjgdnpfgkpaoaaGreatDoor
open Go.RowKit Go.Shelf

/-- what stands behind the call of Handle -/
def DelMid (x : CasT) (out : List MsgT) (w3 : World) (p5 p6 : Value) (wx : World) : Prop :=
  ∃ X ae ne ce ar nr cr ao no co, p5 = .pointer (some ⟨X, 0, none⟩) ∧ p6 = .slice ao no co ∧ Below w3.heap.size w3 wx ∧ w3.heap.size ≤ X ∧
    wx.heap[X]? = some (.cells (casA x (.slice ae ne ce) (.slice ar nr cr)) 97 (0, 0)) ∧ RdK 2 wx ae ne ce (x.echoes.flatMap heaC) ∧ RdK 2 wx ar nr cr (x.readies.flatMap heaC) ∧ RdK 4 wx ao no co (out.flatMap msgC) ∧ Far w3.heap.size ne ae ∧ Far w3.heap.size nr ar ∧ Far w3.heap.size no ao

theorem cell_keepB {w u : World} {p : Addr} {v : Value} (hu : Below w.heap.size w u) (h : w.cell? p = some v) : u.cell? p = some v := (hu.cell (World.block_lt_of_cell? w p h)).trans h
theorem size_after {wc W5 : World} {g o : Nat} {vs : List Value} (hW : W5 = (wc.setCells g o vs).drew) : W5.heap.size = wc.heap.size := by
  subst hW
  exact size_setCellsA vs o wc g
theorem Far.ne3 {B n R : Nat} {a : Option Addr} (h : Far B n a) (hR : R < B) : ∀ b o, a = some ⟨b, o, none⟩ → b ≠ R := fun b o ha => by have := h b o ha; omega
theorem rdK_after {k : Nat} {wc W5 : World} {g o n c : Nat} {vs l : List Value} {a : Option Addr} (hW : W5 = (wc.setCells g o vs).drew) (h : RdK k wc a n c l) (hk : 0 < k) (hne : ∀ b o, a = some ⟨b, o, none⟩ → b ≠ g) : RdK k W5 a n c l := by
  subst hW
  exact rdK_keep h hk fun hn b o ha hlt => (heap_drewA _ _).trans (World.heap_setCells_other wc g _ _ hlt (hne b o ha))
theorem Far.clear {B n m : Nat} {a : Option Addr} {v : Value} (h : Far B n a) (hv : ∀ g, v.ownBlock = some g → g < B) : Clear m v a := fun _ b o ha e => by have h1 := h b o ha; have h2 := hv b e; omega
theorem hand_len (f b : List (BitVec 16)) (x : CasT) (src kind : Int) (v : ByteArray) : (handleS f b x src kind v).2.length ≤ 1 := by
  have hr : ∀ is y, (readyS is y v).2.length ≤ 1 := fun is y => by unfold readyS; split <;> simp
  unfold handleS
  split
  · simp
  · split
    · split <;> simp
    · split
      · split
        · exact hr _ _
        · simp
      · split
        · split
          · exact hr _ _
          · simp
        · simp
theorem fold_len (byz : BitVec 16) (n : Nat) : ∀ (out fs : List MsgT), (out.foldl (fun l m => l ++ allK byz m n) fs).length ≤ fs.length + out.length * n
  | [], fs => by simp
  | m :: out, fs => by
    rw [List.foldl_cons]
    refine Nat.le_trans (fold_len byz n out _) ?_
    rw [List.length_append, List.length_cons, Nat.succ_mul]
    have := allK_len byz m n
    omega
theorem RdK.open4 {w : World} {b o n c : Nat} {l : List MsgT} (h : RdK 4 w (some ⟨b, o, none⟩) n c (l.flatMap msgC)) {k : Nat} {m : MsgT} (hm : l[k]? = some m) (hn : 0 < n) :
    w.cell? ⟨b, o + k * 4, none⟩ = some (.int .i64 m.kind) ∧ w.cell? ⟨b, o + k * 4 + 1, none⟩ = some (.int .i64 m.src) ∧ w.cell? ⟨b, o + k * 4 + 2, none⟩ = some (.int .i64 m.dst) ∧ w.cell? ⟨b, o + k * 4 + 3, none⟩ = some (.string m.value) := by
  obtain ⟨b', o', e, hc⟩ := RdK.cells h msgC_len hn
  cases e
  exact ⟨hc k m hm 0 (by omega), hc k m hm 1 (by omega), hc k m hm 2 (by omega), hc k m hm 3 (by omega)⟩

theorem DelMid.of {x : CasT} {out : List MsgT} {w3 z : World} {B ne nr no ce cr co : Nat} {ae ar ao : Option Addr} (hb : Below w3.heap.size w3 z) (hB : w3.heap.size ≤ B) {c0 c1 c2 c3 c4 c5 c6 c7 c8 : Value} (hz : z.heap[B]? = some (.cells #[c0, c1, c2, c3, c4, c5, c6, c7, c8] 97 (0, 0)))
    (r1 : RdK 2 z ae ne ce (x.echoes.flatMap heaC)) (r2 : RdK 2 z ar nr cr (x.readies.flatMap heaC)) (r3 : RdK 4 z ao no co (out.flatMap msgC)) (n1 : 0 < ne → ∀ b o, ae = some ⟨b, o, none⟩ → b ≠ B) (n2 : 0 < nr → ∀ b o, ar = some ⟨b, o, none⟩ → b ≠ B) (n3 : 0 < no → ∀ b o, ao = some ⟨b, o, none⟩ → b ≠ B)
    (f1 : Far w3.heap.size ne ae) (f2 : Far w3.heap.size nr ar) (f3 : Far w3.heap.size no ao) :
    DelMid x out w3 (.pointer (some ⟨B, 0, none⟩)) (.slice ao no co) (set9 z B (.int .i64 x.id) (.string x.echoed) (.bool x.hasE) (.string x.readied) (.bool x.hasR) (.string x.delivered) (.bool x.hasD) (.slice ae ne ce) (.slice ar nr cr)) := by
  have ho : ∀ g, g ≠ B → (set9 z B (.int .i64 x.id) (.string x.echoed) (.bool x.hasE) (.string x.readied) (.bool x.hasR) (.string x.delivered) (.bool x.hasD) (.slice ae ne ce) (.slice ar nr cr)).heap[g]? = z.heap[g]? := fun g hg => set9_other hg _ _ _ _ _ _ _ _ _
  exact ⟨B, ae, ne, ce, ar, nr, cr, ao, no, co, rfl, rfl, set9_below hb hB _ _ _ _ _ _ _ _ _, hB, set9_heap hz _ _ _ _ _ _ _ _ _, r1.at_ne ho n1, r2.at_ne ho n2, r3.at_ne ho n3, f1, f2, f3⟩

set_option maxRecDepth 100000 in
set_option maxHeartbeats 4000000 in
theorem deliver_c (f b : List (BitVec 16)) (w0 : World) (R : Nat) (af : Option Addr) (nf cf : Nat) (ab : Option Addr) (nb cb : Nat) (hf : Rd w0 af nf cf (f.map setV2)) (hb : Rd w0 ab nb cb (b.map setV2)) (n : Nat) (byz : BitVec 16) (src : Int) (vN vF : Value) (ns : List NodQ) (fs : List MsgT) (k d : Nat) (c : MsgT) (p : NodQ) (hn : n ≤ 12) (hfs : fs.length ≤ 1000)
    (hc : fs[k]? = some c) (hd : c.dst = d) (hp : ns[d]? = some p) (he : p.1.echoes.length ≤ 1000) (hr : p.1.readies.length ≤ 1000) (w : World) (h : RunV w0 R (.slice af nf cf) (.slice ab nb cb) n byz src vN vF ns fs w) :
    Calls Tryz.prog 39 #[.pointer (some ⟨R, 0, none⟩), .int .i64 k] w fun e w' => e = .returned (.tuple #[]) ∧ RunM w0 R (.slice af nf cf) (.slice ab nb cb) n byz src (delS f b n byz (ns.map (·.1)) fs k).1 (delS f b n byz (ns.map (·.1)) fs k).2 w' ∧ FrameT w w' := by
  obtain ⟨c0, c1, c2, c3⟩ := c
  simp only at hd
  subst hd
  have hkl : k < fs.length := (List.getElem?_eq_some_iff.1 hc).1
  have hdl : d < ns.length := (List.getElem?_eq_some_iff.1 hp).1
  obtain ⟨⟨xid, xed, xhe, xrd, xhr, xdl, xhd, xec, xrs⟩, ⟨ae, ne, ce⟩, ⟨ar, nr, cr⟩⟩ := p
  simp only at he hr
  -- the plain answer
  obtain ⟨⟨⟨y1, y2, y3, y4, y5, y6, y7, y8, y9⟩, out⟩, hH⟩ : ∃ r, handleS f b ⟨xid, xed, xhe, xrd, xhr, xdl, xhd, xec, xrs⟩ c1 c0 c3 = r := ⟨_, rfl⟩
  have hdel : delS f b n byz (ns.map (·.1)) fs k = ((ns.map (·.1)).set d ⟨y1, y2, y3, y4, y5, y6, y7, y8, y9⟩, out.foldl (fun l m => l ++ allK byz m n) (fs.eraseIdx k)) := by
    unfold delS
    rw [hc]
    simp only [Int.toNat_natCast]
    rw [List.getElem?_map, hp]
    simp only [Option.map_some]
    rw [hH]
  rw [hdel]
  clear hdel
  -- the rows
  obtain ⟨an, cn, rfl, hrn⟩ := rdK_of_row h.nod
  obtain ⟨am, cm, rfl, hrm⟩ := rdK_of_row h.flt
  obtain ⟨gm, om, rfl, hcm⟩ := RdK.cells hrm msgC_len (by omega)
  obtain ⟨W1, hW1⟩ : ∃ W1, W1 = w.alloc (.cells #[.int .i64 c0, .int .i64 c1, .int .i64 d, .string c3] 85) := ⟨_, rfl⟩
  have hb1 : Below w.heap.size w W1 := by rw [hW1]; exact (Below.refl _ w).alloc (Nat.le_refl _) _
  have hs1 : W1.heap.size = w.heap.size + 1 := by rw [hW1]; simp
  have hX1 : W1.heap[w.heap.size]? = some (.cells #[.int .i64 c0, .int .i64 c1, .int .i64 d, .string c3] 85 (0, 0)) := by rw [hW1]; exact heap_alloc_new _ _
  have hV1 := h.below hb1
  have hRw := h.lt
  have m0 : w.cell? ⟨gm, om + k * 4, none⟩ = some (.int .i64 c0) := hcm k _ hc 0 (by omega)
  have m1 : w.cell? ⟨gm, om + k * 4 + 1, none⟩ = some (.int .i64 c1) := hcm k _ hc 1 (by omega)
  have m2 : w.cell? ⟨gm, om + k * 4 + 2, none⟩ = some (.int .i64 d) := hcm k _ hc 2 (by omega)
  have m3 : w.cell? ⟨gm, om + k * 4 + 3, none⟩ = some (.string c3) := hcm k _ hc 3 (by omega)
  obtain ⟨⟨b0, b1, b2, b3, b4, b5, b6⟩, _⟩ := open7Q h.box
  have HDC := Lib.hid (delMsg_c fs k hkl w0.heap.size _ W1 hV1.flt)
  have HV := Lib.hid h
  have HV1 := Lib.hid hV1
  have HX1 := Lib.hid hX1
  have HS1 := Lib.hid hs1
  have HB1 := Lib.hid hb1
  have HC := Lib.hid hc
  have HP := Lib.hid hp
  have HH := Lib.hid hH
  have HE := Lib.hid he
  have HRL := Lib.hid hr
  have HF := Lib.hid hf
  have HBB := Lib.hid hb
  obtain ⟨nm, hnm⟩ : ∃ nm, fs.length = nm := ⟨_, rfl⟩
  have hwr : IntKind.i64.wrap ((k : Int) + 1) = (k : Int) + 1 := by rw [IntKind.wrap_i64]; omega
  clear h hV1 hX1 hs1 hb1 hrn hrm hcm hc hp hH he hr hf hb
  rw [hnm] at b6 HDC hkl hfs
  go_enter Tryz.func39, Tryz.ntmps39
  go_upto_region 1 with fail
  rw [← hW1]
  clear hW1 b0 b1 b2 b3 b4 b5 b6 m0 m1 m2 m3
  obtain ⟨⟨b0, b1, b2, b3, b4, b5, b6⟩, zz5, zz6⟩ := open7Q HV1.out.box
  rw [hnm] at b6
  go_wp2_with fail
  refine HDC.out.mono ?_
  rintro e w2 ⟨vF2, rfl, hrow2, hob, hgr, hsz⟩
  -- the row of messages behind Delete
  obtain ⟨am2, cm2, rfl, _⟩ := rdK_of_row hrow2
  obtain ⟨w3, hw3⟩ : ∃ w3, w3 = w2.setCell ⟨R, 6, none⟩ (.slice am2 (fs.eraseIdx k).length cm2) := ⟨_, rfl⟩
  have hbx2 := (hgr.block R HV1.out.lt (fun e => HV1.out.fR e.symm)).trans HV1.out.box
  have hRg : (Value.slice am2 (fs.eraseIdx k).length cm2).ownBlock ≠ some R := fun e => HV1.out.fR (hob.symm.trans e)
  have hK13 : KeepF R (.slice (some ⟨gm, om, none⟩) fs.length cm) (.slice am2 (fs.eraseIdx k).length cm2) W1 w3 := by
    refine ⟨by rw [hw3]; simp; omega, fun g hg => .inl (hob.symm.trans hg), fun g hlt hne hno => ?_⟩
    rw [hw3, Below.heap_setCell _ _ _ _ hne]
    exact hgr.block g hlt (fun e => hno e.symm)
  have hV3 : RunV w0 R (.slice af nf cf) (.slice ab nb cb) n byz src (.slice an ns.length cn) (.slice am2 (fs.eraseIdx k).length cm2) ns (fs.eraseIdx k) w3 := by
    refine HV1.out.flight (by rw [hw3]; exact hgr.os) (by rw [hw3]; exact hgr.tape) (by rw [hw3]; exact hgr.output) hK13 (by rw [hw3, heap_set_at hbx2]; rfl) ?_
    rw [hw3]
    exact own_at hrow2 fun g hg => Below.heap_setCell _ _ _ _ (fun e => hRg (by rw [hg, e]))
  have hX3 : w3.heap[w.heap.size]? = some (.cells #[.int .i64 c0, .int .i64 c1, .int .i64 d, .string c3] 85 (0, 0)) := (hK13.keep w.heap.size (by have := HS1.out; omega) (by omega) (fun e => by have := (HV.out.flt.lt _ e).2; omega)).trans HX1.out
  have z6 := frozenB hbx2 6
  have b6w := cell_of_row _ _ 6 _ _ _ hbx2
  have hs3 : w3.heap.size = W1.heap.size := by rw [hw3, ← hsz]; simp
  have HS3 := Lib.hid hs3
  have HK13 := Lib.hid hK13
  have HV3 := Lib.hid hV3
  have HX3 := Lib.hid hX3
  clear hrow2 hob hgr hsz hbx2 hRg hK13 hV3 hX3 hs3 HDC b0 b1 b2 b3 b4 b5 b6 zz5 zz6
  go_upto_region 2 with fail
  rw [← hw3]
  clear hw3 z6 b6w
  have HMP := Lib.hid (HV3.out.hea _ (List.mem_of_getElem? HP.out))
  have HND : Hid (∀ z, Below w3.heap.size w3 z → Calls Tryz.prog 74 #[.slice af nf cf, .slice ab nb cb, .agg #[.int .i64 xid, .string xed, .bool xhe, .string xrd, .bool xhr, .string xdl, .bool xhd, .slice ae ne ce, .slice ar nr cr], .int .i64 c1, .int .i64 c0, .string c3] z fun e w' =>
      ∃ ae2 ne2 ce2 ar2 nr2 cr2 ao no co, e = .returned (.tuple #[.agg #[.int .i64 y1, .string y2, .bool y3, .string y4, .bool y5, .string y6, .bool y7, .slice ae2 ne2 ce2, .slice ar2 nr2 cr2], .slice ao no co]) ∧
        RdK 2 w' ae2 ne2 ce2 (y8.flatMap heaC) ∧ RdK 2 w' ar2 nr2 cr2 (y9.flatMap heaC) ∧ RdK 4 w' ao no co (out.flatMap msgC) ∧ Below z.heap.size z w' ∧ Far z.heap.size ne2 ae2 ∧ Far z.heap.size nr2 ar2 ∧ Far z.heap.size no ao) := Lib.hid (fun z hz => by
    have q1 := HMP.out.1.rd.len
    have q2 := HMP.out.2.rd.len
    rw [flat_len 2 heaC heaC_len] at q1 q2
    simp only at q1 q2
    have := handle_c f b ⟨xid, xed, xhe, xrd, xhr, xdl, xhd, xec, xrs⟩ c1 c0 c3 af nf cf ab nb cb ae ne ce ar nr cr z (HF.out.below (Below.next HV3.out.old hz)) (HBB.out.below (Below.next HV3.out.old hz)) (HMP.out.1.rd.below hz) (HMP.out.2.rd.below hz) (by have := HE.out; omega) (by have := HRL.out; omega)
    unfold HanPost at this
    rw [HH.out] at this
    exact this)
  obtain ⟨_, _, e, hrn3⟩ := rdK_of_row HV3.out.nod
  cases e
  obtain ⟨gn, on, rfl, hcn⟩ := RdK.cells hrn3 nodQ_len (by omega)
  clear hrn3
  go_cut [5, 6] from 31 to 56 (fun p5 p6 wx => DelMid ⟨y1, y2, y3, y4, y5, y6, y7, y8, y9⟩ out w3 p5 p6 wx)
  case first =>
    rename_i k0 h0 j0 k1 h1 h2
    clear h0
    have HND2 := HND
    obtain ⟨⟨r0, r1, r2, r3, r4, r5, r6⟩, _⟩ := open7Q HV3.out.box
    obtain ⟨⟨x0, x1, x2, x3⟩, _⟩ := open4m HX3.out
    have q0 := hcn d _ HP.out 0 (by omega)
    have q1 := hcn d _ HP.out 1 (by omega)
    have q2 := hcn d _ HP.out 2 (by omega)
    have q3 := hcn d _ HP.out 3 (by omega)
    have q4 := hcn d _ HP.out 4 (by omega)
    have q5 := hcn d _ HP.out 5 (by omega)
    have q6 := hcn d _ HP.out 6 (by omega)
    have q7 := hcn d _ HP.out 7 (by omega)
    have q8 := hcn d _ HP.out 8 (by omega)
    simp only [nodQ, slV] at q0 q1 q2 q3 q4 q5 q6 q7 q8
    have KR : Hid (∀ u : World, Below w3.heap.size w3 u → u.cell? ⟨R, 0, none⟩ = some (.slice af nf cf) ∧ u.cell? ⟨R, 1, none⟩ = some (.slice ab nb cb) ∧ u.cell? ⟨R, 5, none⟩ = some (.slice (some ⟨gn, on, none⟩) ns.length cn)) := Lib.hid (fun u hu => ⟨cell_keepB hu r0, cell_keepB hu r1, cell_keepB hu r5⟩)
    have KX : Hid (∀ u : World, Below w3.heap.size w3 u → u.cell? ⟨w.heap.size, 0, none⟩ = some (.int .i64 c0) ∧ u.cell? ⟨w.heap.size, 1, none⟩ = some (.int .i64 c1) ∧ u.cell? ⟨w.heap.size, 2, none⟩ = some (.int .i64 d) ∧ u.cell? ⟨w.heap.size, 3, none⟩ = some (.string c3)) := Lib.hid (fun u hu => ⟨cell_keepB hu x0, cell_keepB hu x1, cell_keepB hu x2, cell_keepB hu x3⟩)
    have KQ : Hid (∀ u : World, Below w3.heap.size w3 u → u.cell? ⟨gn, on + d * 9, none⟩ = some (.int .i64 xid) ∧ u.cell? ⟨gn, on + d * 9 + 1, none⟩ = some (.string xed) ∧ u.cell? ⟨gn, on + d * 9 + 2, none⟩ = some (.bool xhe) ∧ u.cell? ⟨gn, on + d * 9 + 3, none⟩ = some (.string xrd) ∧ u.cell? ⟨gn, on + d * 9 + 4, none⟩ = some (.bool xhr) ∧ u.cell? ⟨gn, on + d * 9 + 5, none⟩ = some (.string xdl) ∧ u.cell? ⟨gn, on + d * 9 + 6, none⟩ = some (.bool xhd) ∧ u.cell? ⟨gn, on + d * 9 + 7, none⟩ = some (.slice ae ne ce) ∧ u.cell? ⟨gn, on + d * 9 + 8, none⟩ = some (.slice ar nr cr)) :=
      Lib.hid (fun u hu => ⟨cell_keepB hu q0, cell_keepB hu q1, cell_keepB hu q2, cell_keepB hu q3, cell_keepB hu q4, cell_keepB hu q5, cell_keepB hu q6, cell_keepB hu q7, cell_keepB hu q8⟩)
    clear r0 r1 r2 r3 r4 r5 r6 x0 x1 x2 x3 q0 q1 q2 q3 q4 q5 q6 q7 q8 hcn
    refine wp_region_noPanic ?_
    refine wp_region_takes (fun u => Below w3.heap.size w3 u) [0, 1, 2, 3, 4, 5, 6, 7, 8, 9, 10, 11, 12, 13, 14, 15, 16, 17, 18, 19, 20, 21, 22] 7 (by kernel_rfl) (by kernel_rfl) (by kernel_rfl) (fun _ _ _ _ _ h => h) (below_drew (Below.refl _ _)) ?_
    repeat (refine wpTk_cons rfl (fun K hK => ?_); go_simp; apply Exists.intro; refine ⟨fun u hu => ?_, hK _ ?_⟩; (first | exact rfl | (obtain ⟨r0, r1, r5⟩ := KR.out u hu; go_simp; done) | (obtain ⟨r0, r1, r5⟩ := KR.out u hu; go_simp; exact rfl) | (obtain ⟨x0, x1, x2, x3⟩ := KX.out u hu; go_simp; done) | (obtain ⟨x0, x1, x2, x3⟩ := KX.out u hu; go_simp; exact rfl) | (obtain ⟨q0, q1, q2, q3, q4, q5, q6, q7, q8⟩ := KQ.out u hu; go_simp; done) | (obtain ⟨q0, q1, q2, q3, q4, q5, q6, q7, q8⟩ := KQ.out u hu; go_simp; exact rfl)); clear hK K)
    refine wpTk_nil ?_
    have HZ0 : Hid (Below w3.heap.size w3 w3.drew) := Lib.hid (below_drew (Below.refl _ _))
    generalize w3.drew = z0 at HZ0 ⊢
    clear KR KX KQ HND2
    refine held_ready (rs := [23, 27]) (by kernel_rfl) (by simp) ?_
    refine AllReadyH.cons rfl (fun K hK => ?_) (AllReadyH.cons rfl (fun K hK => ?_) AllReadyH.nil)
    · go_simp
      with_reducible refine (HND.out z0 HZ0.out).mono ?_
      rintro e z1 ⟨ae2, ne2, ce2, ar2, nr2, cr2, ao, no, co, rfl, r1, r2, r3, b4, f1, f2, f3⟩
      have HY1 : Hid (Below w3.heap.size w3 z1) := Lib.hid (Below.next HZ0.out b4)
      have HF1 : Hid (Far w3.heap.size ne2 ae2) := Lib.hid (f1.le HZ0.out.size)
      have HF2 : Hid (Far w3.heap.size nr2 ar2) := Lib.hid (f2.le HZ0.out.size)
      have HF3 : Hid (Far w3.heap.size no ao) := Lib.hid (f3.le HZ0.out.size)
      have HR1 := Lib.hid r1
      have HR2 := Lib.hid r2
      have HR3 := Lib.hid r3
      clear r1 r2 r3 b4 f1 f2 f3
      go_simp
      refine hK.out _ _ HY1.out (fun hh => ?_)
      clear hh hK K; try simp only [Act.put, List.setIfInBounds_toArray, List.set_cons_zero, List.set_cons_succ]
      refine held_takes (f := 4) (by kernel_rfl) (fun _ _ _ _ _ h => h) HY1.out [24, 25] _ _ (by kernel_rfl) ?_
      refine wpTk_cons rfl (fun K hK => ?_)
      go_simp
      apply Exists.intro
      refine ⟨fun y hy => rfl, hK _ ?_⟩
      clear hK K
      refine wpTk_cons rfl (fun K hK => ?_)
      go_simp
      apply Exists.intro
      refine ⟨fun y hy => rfl, hK _ ?_⟩
      clear hK K
      refine wpTk_nil ?_
      refine held_ready (rs := [26, 27]) (by kernel_rfl) (by simp) ?_
      refine (AllReadyH.cons rfl (fun K hK => ?_) (AllReadyH.cons rfl (fun K hK => ?_) AllReadyH.nil))
      · skip
        go_simp
        refine hK.out _ _ HY1.out (fun hh => ?_)
        clear hh hK K; try simp only [Act.put, List.setIfInBounds_toArray, List.set_cons_zero, List.set_cons_succ]
        refine held_ready (rs := [27]) (by kernel_rfl) (by simp) ?_
        refine (AllReadyH.cons rfl (fun K hK => ?_) AllReadyH.nil)
        go_simp
        have HY2 := Lib.hid (HY1.out.alloc HY1.out.size (.cells #[.int .i64 0, .string ⟨#[]⟩, .bool false, .string ⟨#[]⟩, .bool false, .string ⟨#[]⟩, .bool false, .slice none 0 0, .slice none 0 0] 97))
        have HGB := Lib.hid (heap_alloc_new z1 (.cells #[.int .i64 0, .string ⟨#[]⟩, .bool false, .string ⟨#[]⟩, .bool false, .string ⟨#[]⟩, .bool false, .slice none 0 0, .slice none 0 0] 97))
        have HQ1 := Lib.hid (HR1.out.below ((Below.refl _ z1).alloc (Nat.le_refl _) (.cells #[.int .i64 0, .string ⟨#[]⟩, .bool false, .string ⟨#[]⟩, .bool false, .string ⟨#[]⟩, .bool false, .slice none 0 0, .slice none 0 0] 97)))
        have HQ2 := Lib.hid (HR2.out.below ((Below.refl _ z1).alloc (Nat.le_refl _) (.cells #[.int .i64 0, .string ⟨#[]⟩, .bool false, .string ⟨#[]⟩, .bool false, .string ⟨#[]⟩, .bool false, .slice none 0 0, .slice none 0 0] 97)))
        have HQ3 := Lib.hid (HR3.out.below ((Below.refl _ z1).alloc (Nat.le_refl _) (.cells #[.int .i64 0, .string ⟨#[]⟩, .bool false, .string ⟨#[]⟩, .bool false, .string ⟨#[]⟩, .bool false, .slice none 0 0, .slice none 0 0] 97)))
        have HSZ1 := Lib.hid HY1.out.size
        have HN1 : Hid (0 < ne2 → ∀ b o, ae2 = some ⟨b, o, none⟩ → b ≠ z1.heap.size) := Lib.hid (fun hn b o ha => by have := rdK_lt HR1.out (by decide) hn ha; omega)
        have HN2 : Hid (0 < nr2 → ∀ b o, ar2 = some ⟨b, o, none⟩ → b ≠ z1.heap.size) := Lib.hid (fun hn b o ha => by have := rdK_lt HR2.out (by decide) hn ha; omega)
        have HN3 : Hid (0 < no → ∀ b o, ao = some ⟨b, o, none⟩ → b ≠ z1.heap.size) := Lib.hid (fun hn b o ha => by have := rdK_lt HR3.out (by decide) hn ha; omega)
        refine hK.out _ _ HY2.out (fun hh => ?_)
        clear hh hK K; try simp only [Act.put, List.setIfInBounds_toArray, List.set_cons_zero, List.set_cons_succ]
        clear HR1 HR2 HR3 HY1
        generalize z1.heap.size = B2 at HGB HSZ1 HN1 HN2 HN3 ⊢
        generalize z1.alloc _ = z2 at HY2 HGB HQ1 HQ2 HQ3 ⊢
        refine held_ready (rs := [28]) (by kernel_rfl) (by simp) ?_
        refine (AllReadyH.cons rfl (fun K hK => ?_) AllReadyH.nil)
        obtain ⟨c0', c1', c2', c3', c4', c5', c6', c7', c8', g0, g1, g2, g3, g4, g5, g6, g7, g8⟩ := open9 HGB.out
        go_simp
        clear c0' c1' c2' c3' c4' c5' c6' c7' c8' g0 g1 g2 g3 g4 g5 g6 g7 g8
        refine hK.out _ _ (set9_below (u := z2) (B := B2) HY2.out HSZ1.out _ _ _ _ _ _ _ _ _) (fun hh => ?_)
        clear hh hK K; try simp only [Act.put, List.setIfInBounds_toArray, List.set_cons_zero, List.set_cons_succ]
        refine held_takes (f := 0) (by kernel_rfl) (fun _ _ _ _ _ h => h) (set9_below (u := z2) (B := B2) HY2.out HSZ1.out _ _ _ _ _ _ _ _ _) [29] _ _ (by kernel_rfl) ?_
        refine wpTk_cons rfl (fun K hK => ?_)
        go_simp
        apply Exists.intro
        refine ⟨fun y hy => rfl, hK _ ?_⟩
        clear hK K
        refine wpTk_nil ?_
        refine wpAnyH_done (by kernel_rfl) (NoPanic.normal ?_) _
        refine h2 _ _ ?_
        go_meet
        exact DelMid.of (x := ⟨y1, y2, y3, y4, y5, y6, y7, y8, y9⟩) HY2.out HSZ1.out HGB.out HQ1.out HQ2.out HQ3.out HN1.out HN2.out HN3.out HF1.out HF2.out HF3.out
      · skip
        go_simp
        have HY2 := Lib.hid (HY1.out.alloc HY1.out.size (.cells #[.int .i64 0, .string ⟨#[]⟩, .bool false, .string ⟨#[]⟩, .bool false, .string ⟨#[]⟩, .bool false, .slice none 0 0, .slice none 0 0] 97))
        have HGB := Lib.hid (heap_alloc_new z1 (.cells #[.int .i64 0, .string ⟨#[]⟩, .bool false, .string ⟨#[]⟩, .bool false, .string ⟨#[]⟩, .bool false, .slice none 0 0, .slice none 0 0] 97))
        have HQ1 := Lib.hid (HR1.out.below ((Below.refl _ z1).alloc (Nat.le_refl _) (.cells #[.int .i64 0, .string ⟨#[]⟩, .bool false, .string ⟨#[]⟩, .bool false, .string ⟨#[]⟩, .bool false, .slice none 0 0, .slice none 0 0] 97)))
        have HQ2 := Lib.hid (HR2.out.below ((Below.refl _ z1).alloc (Nat.le_refl _) (.cells #[.int .i64 0, .string ⟨#[]⟩, .bool false, .string ⟨#[]⟩, .bool false, .string ⟨#[]⟩, .bool false, .slice none 0 0, .slice none 0 0] 97)))
        have HQ3 := Lib.hid (HR3.out.below ((Below.refl _ z1).alloc (Nat.le_refl _) (.cells #[.int .i64 0, .string ⟨#[]⟩, .bool false, .string ⟨#[]⟩, .bool false, .string ⟨#[]⟩, .bool false, .slice none 0 0, .slice none 0 0] 97)))
        have HSZ1 := Lib.hid HY1.out.size
        have HN1 : Hid (0 < ne2 → ∀ b o, ae2 = some ⟨b, o, none⟩ → b ≠ z1.heap.size) := Lib.hid (fun hn b o ha => by have := rdK_lt HR1.out (by decide) hn ha; omega)
        have HN2 : Hid (0 < nr2 → ∀ b o, ar2 = some ⟨b, o, none⟩ → b ≠ z1.heap.size) := Lib.hid (fun hn b o ha => by have := rdK_lt HR2.out (by decide) hn ha; omega)
        have HN3 : Hid (0 < no → ∀ b o, ao = some ⟨b, o, none⟩ → b ≠ z1.heap.size) := Lib.hid (fun hn b o ha => by have := rdK_lt HR3.out (by decide) hn ha; omega)
        refine hK.out _ _ HY2.out (fun hh => ?_)
        clear hh hK K; try simp only [Act.put, List.setIfInBounds_toArray, List.set_cons_zero, List.set_cons_succ]
        clear HR1 HR2 HR3 HY1
        generalize z1.heap.size = B2 at HGB HSZ1 HN1 HN2 HN3 ⊢
        generalize z1.alloc _ = z2 at HY2 HGB HQ1 HQ2 HQ3 ⊢
        refine held_ready (rs := [26, 28]) (by kernel_rfl) (by simp) ?_
        refine (AllReadyH.cons rfl (fun K hK => ?_) (AllReadyH.cons rfl (fun K hK => ?_) AllReadyH.nil))
        · skip
          go_simp
          refine hK.out _ _ HY2.out (fun hh => ?_)
          clear hh hK K; try simp only [Act.put, List.setIfInBounds_toArray, List.set_cons_zero, List.set_cons_succ]
          refine held_ready (rs := [28]) (by kernel_rfl) (by simp) ?_
          refine (AllReadyH.cons rfl (fun K hK => ?_) AllReadyH.nil)
          obtain ⟨c0', c1', c2', c3', c4', c5', c6', c7', c8', g0, g1, g2, g3, g4, g5, g6, g7, g8⟩ := open9 HGB.out
          go_simp
          clear c0' c1' c2' c3' c4' c5' c6' c7' c8' g0 g1 g2 g3 g4 g5 g6 g7 g8
          refine hK.out _ _ (set9_below (u := z2) (B := B2) HY2.out HSZ1.out _ _ _ _ _ _ _ _ _) (fun hh => ?_)
          clear hh hK K; try simp only [Act.put, List.setIfInBounds_toArray, List.set_cons_zero, List.set_cons_succ]
          refine held_takes (f := 0) (by kernel_rfl) (fun _ _ _ _ _ h => h) (set9_below (u := z2) (B := B2) HY2.out HSZ1.out _ _ _ _ _ _ _ _ _) [29] _ _ (by kernel_rfl) ?_
          refine wpTk_cons rfl (fun K hK => ?_)
          go_simp
          apply Exists.intro
          refine ⟨fun y hy => rfl, hK _ ?_⟩
          clear hK K
          refine wpTk_nil ?_
          refine wpAnyH_done (by kernel_rfl) (NoPanic.normal ?_) _
          refine h2 _ _ ?_
          go_meet
          exact DelMid.of (x := ⟨y1, y2, y3, y4, y5, y6, y7, y8, y9⟩) HY2.out HSZ1.out HGB.out HQ1.out HQ2.out HQ3.out HN1.out HN2.out HN3.out HF1.out HF2.out HF3.out
        · skip
          obtain ⟨c0', c1', c2', c3', c4', c5', c6', c7', c8', g0, g1, g2, g3, g4, g5, g6, g7, g8⟩ := open9 HGB.out
          go_simp
          clear c0' c1' c2' c3' c4' c5' c6' c7' c8' g0 g1 g2 g3 g4 g5 g6 g7 g8
          refine hK.out _ _ (set9_below (u := z2) (B := B2) HY2.out HSZ1.out _ _ _ _ _ _ _ _ _) (fun hh => ?_)
          clear hh hK K; try simp only [Act.put, List.setIfInBounds_toArray, List.set_cons_zero, List.set_cons_succ]
          refine held_takes (f := 0) (by kernel_rfl) (fun _ _ _ _ _ h => h) (set9_below (u := z2) (B := B2) HY2.out HSZ1.out _ _ _ _ _ _ _ _ _) [26, 29] _ _ (by kernel_rfl) ?_
          refine wpTk_cons rfl (fun K hK => ?_)
          go_simp
          apply Exists.intro
          refine ⟨fun y hy => rfl, hK _ ?_⟩
          clear hK K
          refine wpTk_cons rfl (fun K hK => ?_)
          go_simp
          apply Exists.intro
          refine ⟨fun y hy => rfl, hK _ ?_⟩
          clear hK K
          refine wpTk_nil ?_
          refine wpAnyH_done (by kernel_rfl) (NoPanic.normal ?_) _
          refine h2 _ _ ?_
          go_meet
          exact DelMid.of (x := ⟨y1, y2, y3, y4, y5, y6, y7, y8, y9⟩) HY2.out HSZ1.out HGB.out HQ1.out HQ2.out HQ3.out HN1.out HN2.out HN3.out HF1.out HF2.out HF3.out
    · go_simp
      have HY1 := Lib.hid (HZ0.out.alloc HZ0.out.size (.cells #[.int .i64 0, .string ⟨#[]⟩, .bool false, .string ⟨#[]⟩, .bool false, .string ⟨#[]⟩, .bool false, .slice none 0 0, .slice none 0 0] 97))
      have HGA := Lib.hid (heap_alloc_new z0 (.cells #[.int .i64 0, .string ⟨#[]⟩, .bool false, .string ⟨#[]⟩, .bool false, .string ⟨#[]⟩, .bool false, .slice none 0 0, .slice none 0 0] 97))
      have HSZ1 := Lib.hid HZ0.out.size
      refine hK.out _ _ HY1.out (fun hh => ?_)
      clear hh hK K; try simp only [Act.put, List.setIfInBounds_toArray, List.set_cons_zero, List.set_cons_succ]
      have HSZ2 : Hid (z0.heap.size < (z0.alloc (.cells #[.int .i64 0, .string ⟨#[]⟩, .bool false, .string ⟨#[]⟩, .bool false, .string ⟨#[]⟩, .bool false, .slice none 0 0, .slice none 0 0] 97)).heap.size) := Lib.hid (by simp)
      generalize z0.heap.size = B2 at HGA HSZ1 HSZ2 ⊢
      generalize z0.alloc _ = za at HY1 HGA HSZ2 ⊢
      refine held_ready (rs := [23]) (by kernel_rfl) (by simp) ?_
      refine AllReadyH.cons rfl (fun K hK => ?_) AllReadyH.nil
      go_simp
      with_reducible refine (HND.out za HY1.out).mono ?_
      rintro e z1 ⟨ae2, ne2, ce2, ar2, nr2, cr2, ao, no, co, rfl, r1, r2, r3, b4, f1, f2, f3⟩
      have HY2 : Hid (Below w3.heap.size w3 z1) := Lib.hid (Below.next HY1.out b4)
      have HGB := Lib.hid (heap_below b4 HGA.out)
      have HN1 : Hid (0 < ne2 → ∀ b o, ae2 = some ⟨b, o, none⟩ → b ≠ B2) := Lib.hid (fun hn b o ha => by have := f1 b o ha; have := HSZ2.out; omega)
      have HN2 : Hid (0 < nr2 → ∀ b o, ar2 = some ⟨b, o, none⟩ → b ≠ B2) := Lib.hid (fun hn b o ha => by have := f2 b o ha; have := HSZ2.out; omega)
      have HN3 : Hid (0 < no → ∀ b o, ao = some ⟨b, o, none⟩ → b ≠ B2) := Lib.hid (fun hn b o ha => by have := f3 b o ha; have := HSZ2.out; omega)
      have HF1 : Hid (Far w3.heap.size ne2 ae2) := Lib.hid (f1.le HY1.out.size)
      have HF2 : Hid (Far w3.heap.size nr2 ar2) := Lib.hid (f2.le HY1.out.size)
      have HF3 : Hid (Far w3.heap.size no ao) := Lib.hid (f3.le HY1.out.size)
      have HQ1 := Lib.hid r1
      have HQ2 := Lib.hid r2
      have HQ3 := Lib.hid r3
      clear r1 r2 r3 b4 f1 f2 f3 HGA
      go_simp
      refine hK.out _ _ HY2.out (fun hh => ?_)
      clear hh hK K; try simp only [Act.put, List.setIfInBounds_toArray, List.set_cons_zero, List.set_cons_succ]
      refine held_takes (f := 3) (by kernel_rfl) (fun _ _ _ _ _ h => h) HY2.out [24, 25] _ _ (by kernel_rfl) ?_
      refine wpTk_cons rfl (fun K hK => ?_)
      go_simp
      apply Exists.intro
      refine ⟨fun y hy => rfl, hK _ ?_⟩
      clear hK K
      refine wpTk_cons rfl (fun K hK => ?_)
      go_simp
      apply Exists.intro
      refine ⟨fun y hy => rfl, hK _ ?_⟩
      clear hK K
      refine wpTk_nil ?_
      refine held_ready (rs := [26, 28]) (by kernel_rfl) (by simp) ?_
      refine (AllReadyH.cons rfl (fun K hK => ?_) (AllReadyH.cons rfl (fun K hK => ?_) AllReadyH.nil))
      · skip
        go_simp
        refine hK.out _ _ HY2.out (fun hh => ?_)
        clear hh hK K; try simp only [Act.put, List.setIfInBounds_toArray, List.set_cons_zero, List.set_cons_succ]
        refine held_ready (rs := [28]) (by kernel_rfl) (by simp) ?_
        refine (AllReadyH.cons rfl (fun K hK => ?_) AllReadyH.nil)
        obtain ⟨c0', c1', c2', c3', c4', c5', c6', c7', c8', g0, g1, g2, g3, g4, g5, g6, g7, g8⟩ := open9 HGB.out
        go_simp
        clear c0' c1' c2' c3' c4' c5' c6' c7' c8' g0 g1 g2 g3 g4 g5 g6 g7 g8
        refine hK.out _ _ (set9_below (u := z1) (B := B2) HY2.out HSZ1.out _ _ _ _ _ _ _ _ _) (fun hh => ?_)
        clear hh hK K; try simp only [Act.put, List.setIfInBounds_toArray, List.set_cons_zero, List.set_cons_succ]
        refine held_takes (f := 0) (by kernel_rfl) (fun _ _ _ _ _ h => h) (set9_below (u := z1) (B := B2) HY2.out HSZ1.out _ _ _ _ _ _ _ _ _) [29] _ _ (by kernel_rfl) ?_
        refine wpTk_cons rfl (fun K hK => ?_)
        go_simp
        apply Exists.intro
        refine ⟨fun y hy => rfl, hK _ ?_⟩
        clear hK K
        refine wpTk_nil ?_
        refine wpAnyH_done (by kernel_rfl) (NoPanic.normal ?_) _
        refine h2 _ _ ?_
        go_meet
        exact DelMid.of (x := ⟨y1, y2, y3, y4, y5, y6, y7, y8, y9⟩) HY2.out HSZ1.out HGB.out HQ1.out HQ2.out HQ3.out HN1.out HN2.out HN3.out HF1.out HF2.out HF3.out
      · skip
        obtain ⟨c0', c1', c2', c3', c4', c5', c6', c7', c8', g0, g1, g2, g3, g4, g5, g6, g7, g8⟩ := open9 HGB.out
        go_simp
        clear c0' c1' c2' c3' c4' c5' c6' c7' c8' g0 g1 g2 g3 g4 g5 g6 g7 g8
        refine hK.out _ _ (set9_below (u := z1) (B := B2) HY2.out HSZ1.out _ _ _ _ _ _ _ _ _) (fun hh => ?_)
        clear hh hK K; try simp only [Act.put, List.setIfInBounds_toArray, List.set_cons_zero, List.set_cons_succ]
        refine held_takes (f := 0) (by kernel_rfl) (fun _ _ _ _ _ h => h) (set9_below (u := z1) (B := B2) HY2.out HSZ1.out _ _ _ _ _ _ _ _ _) [26, 29] _ _ (by kernel_rfl) ?_
        refine wpTk_cons rfl (fun K hK => ?_)
        go_simp
        apply Exists.intro
        refine ⟨fun y hy => rfl, hK _ ?_⟩
        clear hK K
        refine wpTk_cons rfl (fun K hK => ?_)
        go_simp
        apply Exists.intro
        refine ⟨fun y hy => rfl, hK _ ?_⟩
        clear hK K
        refine wpTk_nil ?_
        refine wpAnyH_done (by kernel_rfl) (NoPanic.normal ?_) _
        refine h2 _ _ ?_
        go_meet
        exact DelMid.of (x := ⟨y1, y2, y3, y4, y5, y6, y7, y8, y9⟩) HY2.out HSZ1.out HGB.out HQ1.out HQ2.out HQ3.out HN1.out HN2.out HN3.out HF1.out HF2.out HF3.out
  case rest =>
    obtain ⟨X, ae2, ne2, ce2, ar2, nr2, cr2, ao, no, co, rfl, rfl, hb4, hX, hgX, hr1, hr2, hr3, f1, f2, f3⟩ := hcut
    have HV4 := Lib.hid (HV3.out.below hb4)
    have hX4 := heap_below hb4 HX3.out
    obtain ⟨⟨t0, t1, t2, t3, t4, t5, t6⟩, _⟩ := open7Q (show wc.drew.heap[R]? = _ from HV4.out.box)
    obtain ⟨⟨x0, x1, x2, x3⟩, _⟩ := open4m (show wc.drew.heap[w.heap.size]? = _ from hX4)
    obtain ⟨c0', c1', c2', c3', c4', c5', c6', c7', c8', _⟩ := open9 (show wc.drew.heap[X]? = _ from hgX)
    obtain ⟨_, _, e, hrn4⟩ := rdK_of_row HV4.out.nod
    cases e
    obtain ⟨_, _, e, hcn4⟩ := RdK.cells hrn4 nodQ_len (by omega)
    cases e
    rcases HV4.out.nod.2 with ⟨h0, _⟩ | ⟨g', cap', cur', hv, hgb', hblk', hle', hmx', hsz', htk'⟩
    · cases h0
    cases hv
    have hfz : ∀ j, wc.frozen? ⟨gn, j, none⟩ = false := fun j => frozenB hblk' j
    have HF1 := Lib.hid f1
    have HF2 := Lib.hid f2
    have HF3 := Lib.hid f3
    have HR1 := Lib.hid hr1
    have HR2 := Lib.hid hr2
    have HR3 := Lib.hid hr3
    have HB4 := Lib.hid hb4
    have HXX := Lib.hid hX
    have q0 : wc.cell? ⟨gn, d * 9, none⟩ = some (.int .i64 xid) := by have h := hcn4 d _ HP.out 0 (by omega); rw [Nat.zero_add] at h; exact h
    have q1 : wc.cell? ⟨gn, d * 9 + 1, none⟩ = some (.string xed) := by have h := hcn4 d _ HP.out 1 (by omega); rw [Nat.zero_add] at h; exact h
    have q2 : wc.cell? ⟨gn, d * 9 + 2, none⟩ = some (.bool xhe) := by have h := hcn4 d _ HP.out 2 (by omega); rw [Nat.zero_add] at h; exact h
    have q3 : wc.cell? ⟨gn, d * 9 + 3, none⟩ = some (.string xrd) := by have h := hcn4 d _ HP.out 3 (by omega); rw [Nat.zero_add] at h; exact h
    have q4 : wc.cell? ⟨gn, d * 9 + 4, none⟩ = some (.bool xhr) := by have h := hcn4 d _ HP.out 4 (by omega); rw [Nat.zero_add] at h; exact h
    have q5 : wc.cell? ⟨gn, d * 9 + 5, none⟩ = some (.string xdl) := by have h := hcn4 d _ HP.out 5 (by omega); rw [Nat.zero_add] at h; exact h
    have q6 : wc.cell? ⟨gn, d * 9 + 6, none⟩ = some (.bool xhd) := by have h := hcn4 d _ HP.out 6 (by omega); rw [Nat.zero_add] at h; exact h
    have q7 : wc.cell? ⟨gn, d * 9 + 7, none⟩ = some (.slice ae ne ce) := by have h := hcn4 d _ HP.out 7 (by omega); rw [Nat.zero_add] at h; exact h
    have q8 : wc.cell? ⟨gn, d * 9 + 8, none⟩ = some (.slice ar nr cr) := by have h := hcn4 d _ HP.out 8 (by omega); rw [Nat.zero_add] at h; exact h
    have k0 : wc.frozen? ⟨gn, d * 9, none⟩ = false := hfz _
    have k1 : wc.frozen? ⟨gn, d * 9 + 1, none⟩ = false := hfz _
    have k2 : wc.frozen? ⟨gn, d * 9 + 2, none⟩ = false := hfz _
    have k3 : wc.frozen? ⟨gn, d * 9 + 3, none⟩ = false := hfz _
    have k4 : wc.frozen? ⟨gn, d * 9 + 4, none⟩ = false := hfz _
    have k5 : wc.frozen? ⟨gn, d * 9 + 5, none⟩ = false := hfz _
    have k6 : wc.frozen? ⟨gn, d * 9 + 6, none⟩ = false := hfz _
    have k7 : wc.frozen? ⟨gn, d * 9 + 7, none⟩ = false := hfz _
    have k8 : wc.frozen? ⟨gn, d * 9 + 8, none⟩ = false := hfz _
    clear hX4 hgX hrn4 hcn4 hblk' hle' hmx' hsz' htk' hfz f1 f2 f3 hr1 hr2 hr3 hb4 hX hgb' hcn
    go_upto_region 3 with fail
    go_cut [] from 57 to 65 (fun wx => wx = (wc.setCells gn (d * 9) (nodQ (⟨y1, y2, y3, y4, y5, y6, y7, y8, y9⟩, (ae2, ne2, ce2), (ar2, nr2, cr2)))).drew)
    case first =>
      go_region
      all_goals
        go_wp2_with fail
        go_meet
        rfl
    case rest =>
      obtain rfl := hcut
      clear t0 t1 t2 t3 t4 t5 t6 x0 x1 x2 x3 c0' c1' c2' c3' c4' c5' c6' c7' c8' q0 q1 q2 q3 q4 q5 q6 q7 q8 k0 k1 k2 k3 k4 k5 k6 k7 k8
      obtain ⟨W5, hW5⟩ : ∃ W5, W5 = (wc.setCells gn (d * 9) (nodQ (⟨y1, y2, y3, y4, y5, y6, y7, y8, y9⟩, (ae2, ne2, ce2), (ar2, nr2, cr2)))).drew := ⟨_, rfl⟩
      have hgn3 : gn < w3.heap.size := (HV3.out.nod.lt gn rfl).2
      have hFl3 : ∀ g, (Value.slice am2 (fs.eraseIdx k).length cm2).ownBlock = some g → g < w3.heap.size := fun g hg => (HV3.out.flt.lt g hg).2
      have hR3 := HV3.out.lt
      have hnode := HV4.out.node hdl (⟨y1, y2, y3, y4, y5, y6, y7, y8, y9⟩, (ae2, ne2, ce2), (ar2, nr2, cr2))
        ⟨HR1.out, HF1.out.ne hR3, HF1.out.clear (fun g e => by cases e; exact hgn3), HF1.out.clear hFl3⟩
        ⟨HR2.out, HF2.out.ne hR3, HF2.out.clear (fun g e => by cases e; exact hgn3), HF2.out.clear hFl3⟩
      have hb5 : Below (wc.setCells gn (d * 9) (nodQ (⟨y1, y2, y3, y4, y5, y6, y7, y8, y9⟩, (ae2, ne2, ce2), (ar2, nr2, cr2)))).heap.size (wc.setCells gn (d * 9) (nodQ (⟨y1, y2, y3, y4, y5, y6, y7, y8, y9⟩, (ae2, ne2, ce2), (ar2, nr2, cr2)))) W5 := by rw [hW5]; exact below_drew (Below.refl _ _)
      have HV5 := Lib.hid (hnode.1.below hb5)
      have HT5 := Lib.hid (hnode.2.trans (FrameT.below hb5))
      have hs5 : W5.heap.size = wc.heap.size := size_after hW5
      have HO5 : Hid (RdK 4 W5 ao no co (out.flatMap msgC)) := Lib.hid (rdK_after hW5 HR3.out (by decide) (HF3.out.ne3 hgn3))
      have HOA : Hid (0 < no → ∀ b o, ao = some ⟨b, o, none⟩ → b ≠ R ∧ (Value.slice am2 (fs.eraseIdx k).length cm2).ownBlock ≠ some b) := Lib.hid (fun h0 b o ha => ⟨HF3.out.ne hR3 h0 b o ha, HF3.out.clear (m := no) hFl3 h0 b o ha⟩)
      have HOL : Hid (out.length = no ∧ no ≤ 1) := Lib.hid (by
        have h1 := HR3.out.len
        rw [flat_len 4 msgC msgC_len] at h1
        have h2 := hand_len f b ⟨xid, xed, xhe, xrd, xhr, xdl, xhd, xec, xrs⟩ c1 c0 c3
        rw [HH.out] at h2
        simp only at h2
        omega)
      have hno1 := HOL.out.2
      have HEL : Hid ((fs.eraseIdx k).length ≤ 1000) := Lib.hid (by have := List.length_eraseIdx_le fs k; omega)
      have hcno : no ≤ co := HO5.out.le
      have hcmx := HO5.out.max
      unfold maxLen at hcmx
      have HSW5 := Lib.hid hs5
      clear hgn3 hFl3 hnode hb5 hs5
      rw [← hW5]
      clear hW5
      go_upto_region 4 with fail
      go_wp2_with fail
      go_loopw [68] (fun i wr => ∃ j : Nat, j ≤ no ∧ i = .int .i64 j ∧ Hid (∃ vF', RunV w0 R (.slice af nf cf) (.slice ab nb cb) n byz src (.slice (some ⟨gn, 0, none⟩) (ns.set d (⟨y1, y2, y3, y4, y5, y6, y7, y8, y9⟩, (ae2, ne2, ce2), (ar2, nr2, cr2))).length cn) vF' (ns.set d (⟨y1, y2, y3, y4, y5, y6, y7, y8, y9⟩, (ae2, ne2, ce2), (ar2, nr2, cr2))) ((out.take j).foldl (fun l m => l ++ allK byz m n) (fs.eraseIdx k)) wr ∧ KeepF R (.slice am2 (fs.eraseIdx k).length cm2) vF' W5 wr)) (fun i _ => no - (intOf i).toNat)
      case atStart => exact ⟨0, Nat.zero_le _, rfl, Lib.hid ⟨_, HV5.out, KeepF.refl _ _ _⟩⟩
      case round =>
        obtain ⟨j, hj, rfl, hin⟩ := hrel
        obtain ⟨vF', hV, hK⟩ := hin.out
        clear hin
        by_cases hlt : j < no
        · obtain ⟨bo, oo, e, _⟩ := HO5.out.at' (by omega)
          subst e
          have hor := rdK_keep HO5.out (by decide) (w' := wr) fun hn b o ha hlt2 => hK.keep b hlt2 (HOA.out hn b o ha).1 (HOA.out hn b o ha).2
          obtain ⟨m, hm⟩ : ∃ m, out[j]? = some m := ⟨_, List.getElem?_eq_getElem (by have := HOL.out.1; omega)⟩
          obtain ⟨m0, m1, m2, m3⟩ := hor.open4 hm (by omega)
          have hstep : (out.take (j + 1)).foldl (fun l m => l ++ allK byz m n) (fs.eraseIdx k) = (out.take j).foldl (fun l m => l ++ allK byz m n) (fs.eraseIdx k) ++ allK byz m n := by
            rw [List.take_add_one, hm, List.foldl_append]; rfl
          have HST := Lib.hid hstep
          obtain ⟨W6, hW6⟩ : ∃ W6, W6 = wr.alloc (.cells #[.int .i64 m.kind, .int .i64 m.src, .int .i64 m.dst, .string m.value] 85) := ⟨_, rfl⟩
          have hb6 : Below wr.heap.size wr W6 := by rw [hW6]; exact (Below.refl _ wr).alloc (Nat.le_refl _) _
          have hX6 : W6.heap[wr.heap.size]? = some (.cells #[.int .i64 m.kind, .int .i64 m.src, .int .i64 m.dst, .string m.value] 85 (0, 0)) := by rw [hW6]; exact heap_alloc_new _ _
          obtain ⟨⟨z0, z1, z2, z3⟩, _⟩ := open4m hX6
          have HALL := Lib.hid (all_c m w0 R (.slice af nf cf) (.slice ab nb cb) n byz src _ vF' _ _ W6 hn (by
            refine Nat.le_trans (fold_len byz n _ _) ?_
            have h1 := HEL.out
            have h2 : (out.take j).length * n ≤ 1 * 12 := Nat.mul_le_mul (by rw [List.length_take]; omega) hn
            omega) (hV.below hb6))
          have HK6 := Lib.hid (hK.trans (KeepF.below hb6))
          unfold msgV at HALL
          clear hor hm hstep hX6 hb6 hV hK
          go_upto_region 7 with fail
          rw [← hW6]
          clear hW6 m0 m1 m2 m3
          go_wp2_with fail
          refine HALL.out.mono ?_
          rintro e w7 ⟨rfl, vF7, hV7, hK7⟩
          have HV7 := Lib.hid hV7
          have HK7 := Lib.hid (HK6.out.trans hK7)
          clear hV7 hK7 HALL z0 z1 z2 z3
          go_wp2_with fail
          go_roundw
          case rel => exact ⟨j + 1, by omega, by go_num, Lib.hid ⟨vF7, by rw [HST.out]; exact HV7.out, HK7.out⟩⟩
          case measure => simp [intOf]; omega
        · have HV9 := Lib.hid hV
          have HK9 := Lib.hid hK
          clear hV hK
          go_wp2_with fail
          have e9 : out.take j = out := List.take_of_length_le (by have := HOL.out.1; omega)
          have h9 := HV9.out
          rw [e9] at h9
          refine bodyPost_end (v := .tuple #[]) (results_none Tryz.results39 _ _ _) rfl ⟨rfl, ⟨_, _, _, h9, ?_⟩, ?_⟩
          · rw [List.map_set]
          · exact (FrameT.below HB1.out).trans ((KeepF.frame HV1.out HK13.out).trans ((FrameT.below HB4.out).trans (HT5.out.trans (KeepF.frame HV5.out HK9.out))))
end Go.Proofs.YtmjgdnpfgkpaoaaGreatDoor
namespace Go.Proofs.YtmjgdnpfgkpaoaaGreatDoor
open Go.RowKit Go.Shelf

theorem cell_keepA {w u : World} {p : Addr} {v : Value} (hu : Below w.heap.size w u) (h : w.cell? p = some v) : u.cell? p = some v := (hu.cell (World.block_lt_of_cell? w p h)).trans h
/-- an empty node -/
def casI (i : Nat) : CasT := ⟨(i : Int), ⟨#[]⟩, false, ⟨#[]⟩, false, ⟨#[]⟩, false, [], []⟩
def nodI (i : Nat) : NodQ := (casI i, (none, 0, 0), (none, 0, 0))
theorem Tryz.infoCas : (Tryz.prog.info? 97).map (fun i => (i.zero, i.size, i.bytes)) = some (some (.agg #[.int .i64 0, .string ⟨#[]⟩, .bool false, .string ⟨#[]⟩, .bool false, .string ⟨#[]⟩, .bool false, .slice none 0 0, .slice none 0 0]), 9, 128) := by kernel_rfl
theorem nodI_hea (w : World) (R : Nat) (vN vF : Value) (k : Nat) : ∀ p ∈ (List.range k).map nodI, HeaM w R vN vF p.2.1 p.1.echoes ∧ HeaM w R vN vF p.2.2 p.1.readies := by
  intro p hp
  obtain ⟨i, _, rfl⟩ := List.mem_map.1 hp
  exact ⟨⟨RdK.none_ 2 w, fun h => absurd h (Nat.lt_irrefl 0), fun h => absurd h (Nat.lt_irrefl 0), fun h => absurd h (Nat.lt_irrefl 0)⟩, ⟨RdK.none_ 2 w, fun h => absurd h (Nat.lt_irrefl 0), fun h => absurd h (Nat.lt_irrefl 0), fun h => absurd h (Nat.lt_irrefl 0)⟩⟩

set_option maxRecDepth 100000 in
set_option maxHeartbeats 2000000 in
theorem newRun_c (vf vb : Value) (hvf : ∃ a n c, vf = .slice a n c) (hvb : ∃ a n c, vb = .slice a n c) (n : Nat) (byz : BitVec 16) (src : Int) (hn : n ≤ 12) (w : World) :
    Calls Tryz.prog 34 #[vf, vb, .int .i64 n, .int .u16 (U byz), .int .i64 src] w fun e w' => e = .returned (.pointer (some ⟨w.heap.size, 0, none⟩)) ∧ ∃ vN, RunV w w.heap.size vf vb n byz src vN (.slice none 0 0) ((List.range n).map nodI) [] w' := by
  obtain ⟨fa, fn, fc, rfl⟩ := hvf
  obtain ⟨ba, bn, bc, rfl⟩ := hvb
  obtain ⟨W, hW⟩ : ∃ W, W = w.alloc (.cells #[.slice fa fn fc, .slice ba bn bc, .int .i64 n, .int .u16 (U byz), .int .i64 src, .slice none 0 0, .slice none 0 0] 83) := ⟨_, rfl⟩
  have hbW : Below w.heap.size w W := by rw [hW]; exact (Below.refl _ w).alloc (Nat.le_refl _) _
  have hX : W.heap[w.heap.size]? = some (.cells #[.slice fa fn fc, .slice ba bn bc, .int .i64 n, .int .u16 (U byz), .int .i64 src, .slice none 0 0, .slice none 0 0] 83 (0, 0)) := by rw [hW]; exact heap_alloc_new _ _
  have HBW := Lib.hid hbW
  have HX := Lib.hid hX
  clear hbW hX
  go_enter Tryz.func34, Tryz.ntmps34
  go_upto_region 2 with fail
  rw [← hW]
  clear hW
  go_wp2_with fail
  go_loopw [22] (fun i wr => ∃ k : Nat, k ≤ n ∧ i = .int .i64 k ∧ Hid (∃ vN, RunV w w.heap.size (.slice fa fn fc) (.slice ba bn bc) n byz src vN (.slice none 0 0) ((List.range k).map nodI) [] wr)) (fun i _ => n - (intOf i).toNat)
  case atStart => exact ⟨0, Nat.zero_le _, rfl, Lib.hid ⟨.slice none 0 0, HBW.out, Nat.le_refl _, HX.out, World.ownsRow_nil _ _ _ _, World.ownsRow_nil _ _ _ _, nodI_hea _ _ _ _ 0⟩⟩
  case round =>
    obtain ⟨k, hk, rfl, hin⟩ := hrel
    obtain ⟨vN, hV⟩ := hin.out
    clear hin
    by_cases hlt : k < n
    · have hsuc : (List.range (k + 1)).map nodI = (List.range k).map nodI ++ [nodI k] := by rw [List.range_succ, List.map_append]; rfl
      have HSU := Lib.hid hsuc
      obtain ⟨an, cn, rfl, _⟩ := rdK_of_row hV.nod
      obtain ⟨⟨b0, b1, b2, b3, b4, b5, b6⟩, y5, y6⟩ := open7Q hV.box
      have hl : ((List.range k).map nodI).length = k := by simp
      rw [hl] at b5
      have b5b : ∀ ob, (wr.alloc ob).cell? ⟨w.heap.size, 5, none⟩ = some (.slice an k cn) := fun ob => cell_keepA ((Below.refl _ wr).alloc (Nat.le_refl _) ob) b5
      have hrow : wr.ownsRow w.heap.size 97 9 (.slice an k cn) k (((List.range k).map nodI).flatMap nodQ) := by have := hV.nod; rw [hl] at this; exact this
      have hnR := hV.nR
      rw [hl] at hnR
      have HV := Lib.hid hV
      have HROW := Lib.hid hrow
      have HNR := Lib.hid hnR
      have HOLD := Lib.hid hV.old
      clear hV hrow hsuc hnR
      go_wp2_with (at_builtin; go_must (refine wpList_appK2 9 _ _ 31 128 (.agg #[.int .i64 0, .string ⟨#[]⟩, .bool false, .string ⟨#[]⟩, .bool false, .string ⟨#[]⟩, .bool false, .slice none 0 0, .slice none 0 0]) [.int .i64 k, .string ⟨#[]⟩, .bool false, .string ⟨#[]⟩, .bool false, .string ⟨#[]⟩, .bool false, .slice none 0 0, .slice none 0 0] _ Tryz.underlying31 Tryz.infoCas rfl (by decide) HROW.out HOLD.out (Nat.le_refl _) rfl rfl rfl rfl rfl (by simp [Value.oneCell']) (by unfold maxLen; omega) (by omega) ?_))
      intro v' w1 hown hb1 hgr hs1 hat
      obtain ⟨an', cn', rfl, _⟩ := rdK_of_row hown
      have hbx := (hgr.block w.heap.size HV.out.lt (fun e => HNR.out e.symm)).trans HV.out.box
      have z5 := frozenB hbx 5
      have hbx5 := cell_of_row _ _ 5 _ _ _ hbx
      have HOWN := Lib.hid hown
      have HB1 := Lib.hid hb1
      have HBX := Lib.hid hbx
      clear hown hb1 hgr hs1 hat hbx b0 b1 b2 b3 b4 b5 b6 b5b y5 y6
      go_wp2_with fail
      go_roundw
      case rel =>
        have hne : (Value.slice an' (k + 1) cn').ownBlock ≠ some w.heap.size := own_ne HOWN.out HBX.out (by decide)
        refine ⟨k + 1, by omega, by go_num, Lib.hid ⟨.slice an' (k + 1) cn', HB1.out.setCell (p := ⟨w.heap.size, 5, none⟩) (Nat.le_refl _) _, Nat.le_refl _, ?_, ?_, World.ownsRow_nil _ _ _ _, nodI_hea _ _ _ _ _⟩⟩
        · rw [heap_set_at HBX.out]; rfl
        · rw [HSU.out]
          have h9 := own_at (w' := w1.setCell ⟨w.heap.size, 5, none⟩ (.slice an' (k + 1) cn')) HOWN.out fun g hg => Below.heap_setCell _ _ _ _ (fun e => hne (by rw [hg, e]))
          rw [List.flatMap_append, List.length_append, List.length_map, List.length_range]
          exact h9
      case measure => simp [intOf]; omega
    · obtain rfl : k = n := by omega
      have HV := Lib.hid hV
      clear hV
      go_wp2_with fail
      go_ret
      exact ⟨rfl, vN, HV.out⟩
end Go.Proofs.YtmjgdnpfgkpaoaaGreatDoor
