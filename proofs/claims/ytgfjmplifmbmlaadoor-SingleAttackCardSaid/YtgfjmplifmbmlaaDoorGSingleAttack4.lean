/- Texts laid together. Layer 37: Promise, Accept of the program and of the reference. Maps that the call itself has made, as functions from keys. Over any program. single.pick, Pick. Ascending lists of texts; the order of bytes. Plain Lean, no program. Layer 37, plain: the program's state follows the reference's. No program. Layer 37: a run in memory; run.value. Maps as functions from keys: stores in a statement whose order is open; an entry that is made first and filled later. Over any program. Layer 37: what a promise and an acceptance do to a run in memory. -/
import Derived.Test.YtgfjmplifmbmlaaDoorGSingleAttack1
import Derived.Test.YtgfjmplifmbmlaaDoorGSingleAttack2
import Derived.Test.YtgfjmplifmbmlaaDoorGSingleAttack3
import Derived.BigQuiet
import Derived.Maps.OwnOps
import Derived.Maps.RangeWalk
import Derived.Maps.Views
import Derived.Deep.RegionHeld3
import Derived.Lib.SlicesCompact
import Derived.Lib.SortBridge
import Derived.StillTailTactics
import Derived.Deep.QuietTactic
import Derived.WideKeyEntry
import Derived.Deep.AppendLies
namespace Go.Proofs.YtgfjmplifmbmlaaDoor
open Go.RowKit

def accV (a : Acc) : Value := .agg #[.int .i64 a.prom, .int .i64 a.bal, .string a.val]

set_option maxRecDepth 100000 in
set_option maxHeartbeats 1000000 in
theorem promise_c (p q : Int) (v : ByteArray) (b : Int) (w : World) :
    Calls Tryd.prog 58 #[.agg #[.int .i64 p, .int .i64 q, .string v], .int .i64 b] w fun e w' => e = .returned (.tuple #[.agg #[.int .i64 (if p < b then b else p), .int .i64 q, .string v], .bool (decide (p < b))]) ∧ Below w.heap.size w w' := by
  by_cases h : p < b
  · have h1 : ¬ b ≤ p := by omega
    have e1 : (if p < b then b else p) = b := if_pos h
    have e2 : decide (p < b) = true := decide_eq_true h
    rw [e1, e2]
    clear e1 e2
    go_enter Tryd.func58, Tryd.ntmps58
    go_wp2
    refine bodyPost_ret (v := .tuple #[.agg #[.int .i64 b, .int .i64 q, .string v], .bool true]) (by simp [results, Tryd.results58, go_sem]) rfl ⟨rfl, ?_⟩
    exact ((Below.refl _ _).alloc (Nat.le_refl _) _).alloc (by simp) _
  · have h1 : b ≤ p := by omega
    have e1 : (if p < b then b else p) = p := if_neg h
    have e2 : decide (p < b) = false := decide_eq_false h
    rw [e1, e2]
    clear e1 e2
    go_enter Tryd.func58, Tryd.ntmps58
    go_wp2
    refine bodyPost_ret (v := .tuple #[.agg #[.int .i64 p, .int .i64 q, .string v], .bool false]) (by simp [results, Tryd.results58, go_sem]) rfl ⟨rfl, ?_⟩
    exact ((Below.refl _ _).alloc (Nat.le_refl _) _).alloc (by simp) _

set_option maxRecDepth 100000 in
set_option maxHeartbeats 1000000 in
theorem rpromise_c (p q : Int) (v : ByteArray) (b : Int) (w : World) :
    Calls Tryd.prog 71 #[.agg #[.int .i64 p, .int .i64 q, .string v], .int .i64 b] w fun e w' => e = .returned (.tuple #[.agg #[.int .i64 (if p < b then b else p), .int .i64 q, .string v], .bool (decide (p < b))]) ∧ Below w.heap.size w w' := by
  by_cases h : p < b
  · have h1 : ¬ b ≤ p := by omega
    have e1 : (if p < b then b else p) = b := if_pos h
    have e2 : decide (p < b) = true := decide_eq_true h
    rw [e1, e2]
    clear e1 e2
    go_enter Tryd.func71, Tryd.ntmps71
    go_wp2
    refine bodyPost_ret (v := .tuple #[.agg #[.int .i64 b, .int .i64 q, .string v], .bool true]) (by simp [results, Tryd.results71, go_sem]) rfl ⟨rfl, ?_⟩
    exact ((Below.refl _ _).alloc (Nat.le_refl _) _).alloc (by simp) _
  · have h1 : b ≤ p := by omega
    have e1 : (if p < b then b else p) = p := if_neg h
    have e2 : decide (p < b) = false := decide_eq_false h
    rw [e1, e2]
    clear e1 e2
    go_enter Tryd.func71, Tryd.ntmps71
    go_wp2
    refine bodyPost_ret (v := .tuple #[.agg #[.int .i64 p, .int .i64 q, .string v], .bool false]) (by simp [results, Tryd.results71, go_sem]) rfl ⟨rfl, ?_⟩
    exact ((Below.refl _ _).alloc (Nat.le_refl _) _).alloc (by simp) _

set_option maxRecDepth 100000 in
set_option maxHeartbeats 1000000 in
theorem accept_c (p q : Int) (v : ByteArray) (b : Int) (x : ByteArray) (w : World) :
    Calls Tryd.prog 60 #[.agg #[.int .i64 p, .int .i64 q, .string v], .int .i64 b, .string x] w fun e w' => e = .returned (.tuple #[if 1 ≤ b ∧ p ≤ b then .agg #[.int .i64 b, .int .i64 b, .string x] else .agg #[.int .i64 p, .int .i64 q, .string v], .bool (decide (1 ≤ b ∧ p ≤ b))]) ∧ Below w.heap.size w w' := by
  by_cases h : 1 ≤ b ∧ p ≤ b
  · rw [if_pos h, decide_eq_true h]
    obtain ⟨h0, h1⟩ := h
    have k1 : ¬ b < 1 := by omega
    have k2 : ¬ b < p := by omega
    go_enter Tryd.func60, Tryd.ntmps60
    go_wp2
    refine bodyPost_ret (v := .tuple #[.agg #[.int .i64 b, .int .i64 b, .string x], .bool true]) (by simp [results, Tryd.results60, go_sem]) rfl ⟨rfl, ?_⟩
    exact ((Below.refl _ _).alloc (Nat.le_refl _) _).alloc (by simp) _
  · rw [if_neg h, decide_eq_false h]
    by_cases h0 : b < 1
    · clear h
      go_enter Tryd.func60, Tryd.ntmps60
      go_wp2
      refine bodyPost_ret (v := .tuple #[.agg #[.int .i64 p, .int .i64 q, .string v], .bool false]) (by simp [results, Tryd.results60, go_sem]) rfl ⟨rfl, ?_⟩
      exact ((Below.refl _ _).alloc (Nat.le_refl _) _).alloc (by simp) _
    · have h1 : b < p := by omega
      clear h
      go_enter Tryd.func60, Tryd.ntmps60
      go_wp2
      refine bodyPost_ret (v := .tuple #[.agg #[.int .i64 p, .int .i64 q, .string v], .bool false]) (by simp [results, Tryd.results60, go_sem]) rfl ⟨rfl, ?_⟩
      exact ((Below.refl _ _).alloc (Nat.le_refl _) _).alloc (by simp) _

set_option maxRecDepth 100000 in
set_option maxHeartbeats 1000000 in
theorem raccept_c (p q : Int) (v : ByteArray) (b : Int) (x : ByteArray) (w : World) :
    Calls Tryd.prog 72 #[.agg #[.int .i64 p, .int .i64 q, .string v], .int .i64 b, .string x] w fun e w' => e = .returned (.tuple #[if 1 ≤ b ∧ p ≤ b then .agg #[.int .i64 b, .int .i64 b, .string x] else .agg #[.int .i64 p, .int .i64 q, .string v], .bool (decide (1 ≤ b ∧ p ≤ b))]) ∧ Below w.heap.size w w' := by
  by_cases h : 1 ≤ b ∧ p ≤ b
  · rw [if_pos h, decide_eq_true h]
    obtain ⟨h0, h1⟩ := h
    have k1 : ¬ b < 1 := by omega
    have k2 : ¬ b < p := by omega
    go_enter Tryd.func72, Tryd.ntmps72
    go_wp2
    refine bodyPost_ret (v := .tuple #[.agg #[.int .i64 b, .int .i64 b, .string x], .bool true]) (by simp [results, Tryd.results72, go_sem]) rfl ⟨rfl, ?_⟩
    exact ((Below.refl _ _).alloc (Nat.le_refl _) _).alloc (by simp) _
  · rw [if_neg h, decide_eq_false h]
    by_cases h0 : b < 1
    · clear h
      go_enter Tryd.func72, Tryd.ntmps72
      go_wp2
      refine bodyPost_ret (v := .tuple #[.agg #[.int .i64 p, .int .i64 q, .string v], .bool false]) (by simp [results, Tryd.results72, go_sem]) rfl ⟨rfl, ?_⟩
      exact ((Below.refl _ _).alloc (Nat.le_refl _) _).alloc (by simp) _
    · have h1 : b < p := by omega
      clear h
      go_enter Tryd.func72, Tryd.ntmps72
      go_wp2
      refine bodyPost_ret (v := .tuple #[.agg #[.int .i64 p, .int .i64 q, .string v], .bool false]) (by simp [results, Tryd.results72, go_sem]) rfl ⟨rfl, ?_⟩
      exact ((Below.refl _ _).alloc (Nat.le_refl _) _).alloc (by simp) _
end Go.Proofs.YtgfjmplifmbmlaaDoor
namespace Go.Proofs.YtgfjmplifmbmlaaDoor
open Go.RowKit Go.Maps

def heldR (v : Value) : Option (DataW Value × List MemPlace) := some (.held v, [])
def optD (o : Option Value) (z : DataW Value) : DataW Value := match o with
  | some v => .held v
  | none => z
def FM (w : World) (P : Program) (k : TypeId) (b n : Nat) (f : Lit → Option Value) : Prop :=
  ∃ D : DataW Value, w.ownsMap P k heldR b n D ∧ ∀ key kl, keyOf P k key = some kl → ∀ z, D.atKey kl z = optD (f kl) z
def updF (f : Lit → Option Value) (kl : Lit) (v : Value) : Lit → Option Value := fun x => if x.sameKey kl = true then some v else f x

theorem FM.made (w : World) (P : Program) (k : TypeId) : FM (w.alloc (.map #[] 0)) P k w.heap.size 0 (fun _ => none) :=
  ⟨.map [], World.ownsMap_made w P k heldR, fun _ _ _ _ => rfl⟩
theorem FM.at {w w' : World} {P : Program} {k : TypeId} {b n : Nat} {f : Lit → Option Value} (h : FM w P k b n f) (hb : w'.heap[b]? = w.heap[b]?) : FM w' P k b n f := by
  obtain ⟨D, ⟨es, clock, h1, h2⟩, h3⟩ := h
  exact ⟨D, ⟨es, clock, hb.trans h1, h2⟩, h3⟩
theorem FM.lt {w : World} {P : Program} {k : TypeId} {b n : Nat} {f : Lit → Option Value} (h : FM w P k b n f) : b < w.heap.size := by
  obtain ⟨D, h1, _⟩ := h; exact h1.lt
theorem FM.below {w w' : World} {P : Program} {k : TypeId} {b n : Nat} {f : Lit → Option Value} (h : FM w P k b n f) (hb : Below w.heap.size w w') : FM w' P k b n f := h.at (hb.block b h.lt)
theorem FM.kept {w w' : World} {P : Program} {k : TypeId} {b n : Nat} {f : Lit → Option Value} {row : Option Nat} (h : FM w P k b n f) (hg : w.grownBy w' row) (hne : some b ≠ row) : FM w' P k b n f := h.at (hg.block b h.lt hne)
theorem FM.mono {w : World} {P : Program} {k : TypeId} {b n n' : Nat} {f : Lit → Option Value} (h : FM w P k b n f) (hn : n ≤ n') : FM w P k b n' f := by
  obtain ⟨D, h1, h2⟩ := h; exact ⟨D, h1.mono hn, h2⟩
theorem FM.look (c : Bool) {w : World} {P : Program} {k e t : TypeId} {b n : Nat} {f : Lit → Option Value} (h : FM w P k b n f) (K : Keyed P k) (ht : P.underlying t = some (.map k e)) {z : Value} (hz : (zeroValue e).run P w = .ok z w) {key : Value} {kl : Lit} (hkey : keyOf P k key = some kl) :
    (Instr.lookup t (.map (some b)) key c).run P w = .ok (if c then .tuple #[(f kl).getD z, .bool (f kl).isSome] else (f kl).getD z) w := by
  obtain ⟨D, ⟨es, clock, hb, F, hs, rfl⟩, h3⟩ := h
  have h4 := h3 key kl hkey
  rcases Maps.fit_look c K ht hz hb F hkey with ⟨hrun, _, hat⟩ | ⟨e0, y, _, _, hrun, hRv, hat, _⟩
  · have h5 := hat .nil
    rw [h4] at h5
    cases hf : f kl with
    | none => rw [hrun]; rfl
    | some v => rw [hf] at h5; cases h5
  · have h5 := hat .nil
    rw [h4] at h5
    have hy : y = (.held e0.val, []) := by unfold heldR at hRv; exact (Option.some.inj hRv).symm
    rw [hy] at h5
    cases hf : f kl with
    | none => rw [hf] at h5; cases h5
    | some v =>
      rw [hf] at h5
      have h6 : DataW.held v = DataW.held e0.val := h5
      injection h6 with h6
      rw [hrun, h6]; rfl
theorem FM.putD {P : Program} {k : TypeId} {w w' : World} {b n n' : Nat} {D : DataW Value} {f : Lit → Option Value} (K : Keyed P k) (ho : w.ownsMap P k heldR b n D) (hf : ∀ key kl, keyOf P k key = some kl → ∀ z, D.atKey kl z = optD (f kl) z) {key val : Value} {kl : Lit} (hkey : keyOf P k key = some kl)
    (ho' : w'.ownsMap P k heldR b n' (D.put kl (.held val))) : FM w' P k b n' (updF f kl val) := by
  obtain ⟨es, rfl, _⟩ := ho.entries K
  refine ⟨_, ho', fun key' kl' hk' z => ?_⟩
  unfold updF
  by_cases h : kl' = kl
  · subst h
    rw [if_pos (WideAt.sameKey_self (K.key hkey)), atKey_put_same ⟨es, rfl⟩ (K.key hkey)]; rfl
  · rw [if_neg (by rw [sameKey_ne h]; decide), atKey_put_other h, hf key' kl' hk']
theorem wpList_put_fm {P : Program} (w : World) {ops : Array Oper} {rest : List Oper} {o : Oper} {a : Act} {Q : Exit → Act → World → Prop}
    (hg : o.guard = none) (m x v : Operand) (t : TypeId) (hop : o.op = Op.mapUpdate t m x v)
    (k e : TypeId) (K : Keyed P k) (ht : P.underlying t = some (.map k e)) (b n : Nat) (f : Lit → Option Value)
    (hm : a.eval m = .map (some b)) (h : FM w P k b n f) (hn : n < maxLen) (key val : Value) (kl : Lit) (hx : a.eval x = key) (hv : a.eval v = val) (hkey : keyOf P k key = some kl)
    (hK : ∀ w', FM w' P k b (n + 1) (updF f kl val) → w.grownBy w' (some b) → wpList P ops Q rest (a.put o.dst undef) w') :
    wpList P ops Q (o :: rest) a w := by
  obtain ⟨D, ho, hf⟩ := h
  exact wpList_mapUpdate_own w hg m x v t hop k e K ht heldR b n D hm ho hn key val kl hx hv hkey (.held val) [] rfl fun w' h1 h2 => hK w' (FM.putD K ho hf hkey h1) h2
end Go.Proofs.YtgfjmplifmbmlaaDoor
namespace Go.Proofs.YtgfjmplifmbmlaaDoor
open Go.RowKit Go.Shelf

set_option maxRecDepth 100000 in
set_option maxHeartbeats 2000000 in
theorem pick_c (read : List (BitVec 16)) (l : List Rep) (a : Option Addr) (n c : Nat) (a2 : Option Addr) (n2 c2 : Nat) (w : World) (h : Rd w a n c (read.map setV2)) (h2 : RdK 3 w a2 n2 c2 (l.flatMap repC))
    (hok : ∀ r ∈ l, 0 ≤ r.server ∧ r.server < 12) :
    Calls Tryd.prog 32 #[.slice a n c, .slice a2 n2 c2] w fun e w' => ∃ sv : Int, e = .returned (.tuple #[.agg #[.int .i64 sv, .int .i64 (bestR l).1, .string (bestR l).2], .bool (accS read (seenR l))]) ∧ Below w.heap.size w w' := by
  have hnl : l.length = n2 := by have := h2.len; rw [flat_len 3 repC repC_len] at this; omega
  have hm := h2.max
  have hle := h2.le
  unfold maxLen at hm
  have HR := Lib.hid h
  have HR2 := Lib.hid h2
  have HN := Lib.hid hnl
  have HOK := Lib.hid hok
  clear h h2 hnl hok
  go_enter Tryd.func32, Tryd.ntmps32
  go_wp2_with fail
  go_loopw [7, 12] (fun v i wr => ∃ (k : Nat) (s : BitVec 16) (sv : Int), k ≤ n2 ∧ i = .int .i64 k ∧ v = .int .u16 (U s) ∧ Hid (s = seenR (l.take k)) ∧ wr.heap[w.heap.size + 1]? = some (.cells #[.int .i64 sv, .int .i64 (bestR (l.take k)).1, .string (bestR (l.take k)).2] 33 (0, 0)) ∧ wr.heap[w.heap.size]? = some (.cells #[.int .i64 0, .int .i64 0, .string ⟨#[]⟩] 33 (0, 0)) ∧ Below w.heap.size w wr) (fun _ i _ => n2 - (intOf i).toNat)
  case atStart => exact ⟨0, 0#16, 0, Nat.zero_le _, rfl, rfl, rfl, by have := heap_alloc_new (w.alloc (.cells #[.int .i64 0, .int .i64 0, .string ⟨#[]⟩] 33)) (.cells #[.int .i64 0, .int .i64 0, .string ⟨#[]⟩] 33); rw [World.size_alloc] at this; exact this, heap_alloc_at (heap_alloc_new w _) _, ((Below.refl _ w).alloc (Nat.le_refl _) _).alloc (by simp) _⟩
  case round =>
    obtain ⟨k, s, sv, hk, rfl, rfl, hs, hbest, hres, hb⟩ := hrel
    by_cases hlt : k < n2
    · obtain ⟨r, hr⟩ : ∃ r, l[k]? = some r := ⟨l[k]'(by have := HN.out; omega), List.getElem?_eq_getElem _⟩
      obtain ⟨b, o, ha, hcell⟩ := RdK.cells (HR2.out.below hb) repC_len (by omega)
      have hc0 : wr.cell? ⟨b, o + k * 3, none⟩ = some (.int .i64 r.server) := hcell k r hr 0 (by omega)
      have hc1 : wr.cell? ⟨b, o + k * 3 + 1, none⟩ = some (.int .i64 r.ballot) := hcell k r hr 1 (by omega)
      have hc2 : wr.cell? ⟨b, o + k * 3 + 2, none⟩ = some (.string r.value) := hcell k r hr 2 (by omega)
      obtain ⟨hr0, hr12⟩ := HOK.out r (List.mem_of_getElem? hr)
      obtain ⟨m, hsm⟩ := Int.eq_ofNat_of_zero_le hr0
      rw [hsm] at hc0 hr12
      have HS := Lib.hid (seenR_take hr)
      have HB := Lib.hid (bestR_take hr)
      have hsee : Hid (seeR s r = s ||| bitS m) := by show _ = _; unfold seeR; rw [hsm]; rfl
      obtain ⟨⟨bb, bv⟩, hbb⟩ : ∃ p, bestR (l.take k) = p := ⟨_, rfl⟩
      rw [hbb] at hbest HB
      have hf0 : wr.frozen? ⟨w.heap.size + 1, 0, none⟩ = false := by simp [World.frozen?, hbest]
      have hf1 : wr.frozen? ⟨w.heap.size + 1, 1, none⟩ = false := by simp [World.frozen?, hbest]
      have hf2 : wr.frozen? ⟨w.heap.size + 1, 2, none⟩ = false := by simp [World.frozen?, hbest]
      have hx0 : wr.cell? ⟨w.heap.size + 1, 0, none⟩ = some (.int .i64 sv) := cell_of_row _ _ 0 _ _ _ hbest
      have hx1 : wr.cell? ⟨w.heap.size + 1, 1, none⟩ = some (.int .i64 bb) := cell_of_row _ _ 1 _ _ _ hbest
      have hx2 : wr.cell? ⟨w.heap.size + 1, 2, none⟩ = some (.string bv) := cell_of_row _ _ 2 _ _ _ hbest
      have hsz : w.heap.size + 1 < wr.heap.size := cell_lt hx0
      obtain ⟨rb, hrb⟩ : ∃ x, r.ballot = x := ⟨_, rfl⟩
      obtain ⟨rv, hrv⟩ : ∃ x, r.value = x := ⟨_, rfl⟩
      rw [hrb] at hc1
      rw [hrv] at hc2
      have HBE := Lib.hid hbest
      have HRB := Lib.hid hrb
      have HRV := Lib.hid hrv
      subst ha
      clear hcell hsm hr0 hrb hrv hbest hbb hr
      by_cases hgt : bb < rb
      · go_wp2_with fail
        go_roundw
        case rel => exact ⟨k + 1, s ||| bitS m, m, by omega, by go_num, rfl, by show _ = _; rw [HS.out, ← hs.out, hsee.out], by rw [HB.out, stepR, if_pos (by show bb < r.ballot; rw [HRB.out]; exact hgt), HRB.out, HRV.out]; exact heap_alloc_at (heap_set_at (heap_set_at (heap_set_at HBE.out 0 _) 1 _) 2 _) _, heap_alloc_at (heap_set_other (by omega) _ _ (heap_set_other (by omega) _ _ (heap_set_other (by omega) _ _ hres))) _, (((hb.setCell (by show w.heap.size ≤ w.heap.size + 1; omega) _).setCell (by show w.heap.size ≤ w.heap.size + 1; omega) _).setCell (by show w.heap.size ≤ w.heap.size + 1; omega) _).alloc (by simp; omega) _⟩
        case measure => simp [intOf]; omega
      · go_wp2_with fail
        go_roundw
        case rel => exact ⟨k + 1, s ||| bitS m, sv, by omega, by go_num, rfl, by show _ = _; rw [HS.out, ← hs.out, hsee.out], by rw [HB.out, stepR, if_neg (by show ¬ bb < r.ballot; rw [HRB.out]; exact hgt)]; exact heap_alloc_at HBE.out _, heap_alloc_at hres _, hb.alloc (by omega) _⟩
        case measure => simp [intOf]; omega
    · have hE : Hid (l.take k = l) := List.take_of_length_le (by have := HN.out; omega)
      rw [hE.out] at hbest
      have hs2 : Hid (s = seenR l) := by show _ = _; rw [hs.out, hE.out]
      obtain ⟨⟨bb, bv⟩, hbb⟩ : ∃ p, bestR l = p := ⟨_, rfl⟩
      rw [hbb] at hbest
      have HBB := Lib.hid hbb
      have hx := hbest
      obtain ⟨⟨hx0, hx1, hx2⟩, _⟩ := open3 hx
      have HRES := Lib.hid hres
      clear hs hbest hE hbb hres hx
      go_wp2_with fail
      go_region_held3 (fun w' => w'.cell? ⟨w.heap.size + 1, 0, none⟩ = some (.int .i64 sv) ∧ w'.cell? ⟨w.heap.size + 1, 1, none⟩ = some (.int .i64 bb) ∧ w'.cell? ⟨w.heap.size + 1, 2, none⟩ = some (.string bv)) (go_keep)
        ((go_at_call 48; refine (accepts_c read s a n c _ (HR.out.below (below_drew hb))).mono ?_; (rintro e w3 ⟨rfl, hb2⟩; have hb3 := below_undrew hb2; obtain ⟨q0, q1, q2⟩ := keep3 hb3 hx0 hx1 hx2; have hres3 := heap_below hb3 HRES.out; obtain ⟨⟨y0, y1, y2⟩, f0, f1, f2⟩ := open3 hres3; have hb4 := Below.next hb hb3; have HRES3 := Lib.hid hres3; clear hb2 hb3 hres3)))
      go_wp2_with fail
      have hz := heap_set_at (heap_set_at (heap_set_at HRES3.out 0 (.int .i64 sv)) 1 (.int .i64 bb)) 2 (.string bv)
      have hb5 := ((hb4.setCell (p := ⟨w.heap.size, 0, none⟩) (Nat.le_refl _) (.int .i64 sv)).setCell (p := ⟨w.heap.size, 1, none⟩) (Nat.le_refl _) (.int .i64 bb)).setCell (p := ⟨w.heap.size, 2, none⟩) (Nat.le_refl _) (.string bv)
      clear f0 f1 f2 y0 y1 y2 q0 q1 q2
      obtain ⟨w4, hw4⟩ : ∃ w4, (((w3.setCell ⟨w.heap.size, 0, none⟩ (.int .i64 sv)).setCell ⟨w.heap.size, 1, none⟩ (.int .i64 bb)).setCell ⟨w.heap.size, 2, none⟩ (.string bv)) = w4 := ⟨_, rfl⟩
      rw [hw4] at hz hb5 ⊢
      obtain ⟨⟨z0, z1, z2⟩, _⟩ := open3 (x := .int .i64 sv) (y := .int .i64 bb) (z := .string bv) hz
      exact bodyPost_ret (v := .tuple #[.agg #[.int .i64 sv, .int .i64 bb, .string bv], .bool (accS read s)]) (by simp [results, Tryd.results32, go_sem, z0, z1, z2]) rfl ⟨sv, by rw [HBB.out, hs2.out], hb5⟩
end Go.Proofs.YtgfjmplifmbmlaaDoor
namespace Go.Proofs.YtgfjmplifmbmlaaDoor
theorem bs_ext {a b : ByteArray} (h : a.toList = b.toList) : a = b := by
  rw [ByteArray.toList_eq, ByteArray.toList_eq] at h
  exact ByteArray.ext (Array.toList_inj.1 h)
theorem bs_beq (a b : ByteArray) : (a.toList == b.toList) = decide (a = b) := by
  rw [Bool.eq_iff_iff, beq_iff_eq, decide_eq_true_eq]
  exact ⟨bs_ext, fun h => by rw [h]⟩
theorem bs_list (s : List UInt8) : (ByteArray.mk s.toArray).toList = s := by rw [ByteArray.toList_eq]
theorem bs_mk (b : ByteArray) : ByteArray.mk b.toList.toArray = b := bs_ext (bs_list _)

abbrev Str := List UInt8
theorem pw_at {l : List Str} (h : l.Pairwise (· < ·)) {i j : Nat} {x y : Str} (hx : l[i]? = some x) (hy : l[j]? = some y) (hij : i < j) : x < y := by
  obtain ⟨hi, rfl⟩ := List.getElem?_eq_some_iff.1 hx
  obtain ⟨hj, rfl⟩ := List.getElem?_eq_some_iff.1 hy
  exact List.pairwise_iff_getElem.1 h i j hi hj hij

theorem compact_to {l : List Str} (hs : l.Pairwise (· ≤ ·)) : ∀ m, m ≤ l.length → (Lib.compactUpTo l.toArray m).Pairwise (· < ·) ∧ ∀ x, x ∈ Lib.compactUpTo l.toArray m ↔ x ∈ l.take m := by
  intro m
  induction m with
  | zero => intro _; exact ⟨by simp [Lib.compactUpTo], by simp [Lib.compactUpTo]⟩
  | succ m ih =>
    intro hm
    obtain ⟨h1, h2⟩ := ih (by omega)
    have hd : l.toArray[m]! = l[m]'(by omega) := by simp [getElem!_pos, show m < l.length by omega]
    have ht : l.take (m + 1) = l.take m ++ [l[m]'(by omega)] := by
      rw [List.take_add_one, List.getElem?_eq_getElem (by omega)]; rfl
    have hle : ∀ x ∈ l.take m, x ≤ l[m]'(by omega) ∧ (∀ (h0 : 0 < m), x ≤ l[m - 1]'(by omega)) := by
      intro x hx
      obtain ⟨j, hj, rfl⟩ := List.mem_iff_getElem.1 hx
      rw [List.length_take] at hj
      rw [List.getElem_take]
      refine ⟨List.pairwise_iff_getElem.1 hs j m (by omega) (by omega) (by omega), fun h0 => ?_⟩
      by_cases hjm : j = m - 1
      · subst hjm; exact List.le_refl _
      · exact List.pairwise_iff_getElem.1 hs j (m - 1) (by omega) (by omega) (by omega)
    rw [Lib.compactUpTo_succ, ht]
    by_cases hk : Lib.keeps l.toArray m = true
    · rw [if_pos hk, hd]
      refine ⟨?_, fun x => by rw [List.mem_append, List.mem_append, h2]⟩
      rw [List.pairwise_append]
      refine ⟨h1, List.pairwise_singleton _ _, fun x hx y hy => ?_⟩
      rw [List.mem_singleton] at hy
      subst hy
      have hx' := (h2 x).1 hx
      have hm0 : 0 < m := by
        apply Nat.pos_of_ne_zero; intro h0; subst h0; simp at hx'
      obtain ⟨a1, a2⟩ := hle x hx'
      unfold Lib.keeps at hk
      rw [decide_eq_true_eq] at hk
      have hd1 : l.toArray[m - 1]! = l[m - 1]'(by omega) := by simp [getElem!_pos, show m - 1 < l.length by omega]
      rw [hd, hd1] at hk
      have hne : l[m]'(by omega) ≠ l[m - 1]'(by omega) := by
        rcases hk with hk | hk
        · omega
        · exact hk
      have b1 := a2 hm0
      have b2 : l[m - 1]'(by omega) ≤ l[m]'(by omega) := List.pairwise_iff_getElem.1 hs (m - 1) m (by omega) (by omega) (by omega)
      have b3 : l[m - 1]'(by omega) < l[m]'(by omega) := by
        apply List.not_le.1
        intro h
        exact hne (List.le_antisymm h b2)
      exact List.lt_of_le_of_lt b1 b3
    · rw [if_neg hk, List.append_nil]
      refine ⟨h1, fun x => ?_⟩
      rw [h2, List.mem_append, List.mem_singleton]
      refine ⟨.inl, fun h => ?_⟩
      rcases h with h | h
      · exact h
      · subst h
        unfold Lib.keeps at hk
        rw [decide_eq_true_eq] at hk
        have hm0 : 0 < m := by
          apply Nat.pos_of_ne_zero; intro h0; exact hk (.inl h0)
        have hd1 : l.toArray[m - 1]! = l[m - 1]'(by omega) := by simp [getElem!_pos, show m - 1 < l.length by omega]
        rw [hd, hd1] at hk
        have he : l[m]'(by omega) = l[m - 1]'(by omega) := by
          apply Classical.byContradiction; intro h; exact hk (.inr h)
        rw [he]
        exact List.mem_iff_getElem.2 ⟨m - 1, by rw [List.length_take]; omega, by rw [List.getElem_take]⟩

def leS (x y : Str) : Bool := decide (x ≤ y)
theorem sort_pw (l : List Str) : (l.mergeSort fun x y => decide (x ≤ y)).Pairwise (· ≤ ·) := by
  have := List.pairwise_mergeSort (le := fun x y : Str => decide (x ≤ y)) (fun a b c h1 h2 => by simp only [decide_eq_true_eq] at *; exact List.le_trans h1 h2) (fun a b => by simp only [Bool.or_eq_true, decide_eq_true_eq]; exact List.le_total a b) l
  simpa using this


theorem asc_ext : ∀ (l m : List Str), l.Pairwise (· < ·) → m.Pairwise (· < ·) → (∀ x, x ∈ l ↔ x ∈ m) → l = m := by
  intro l
  induction l with
  | nil =>
    intro m _ _ h
    cases m with
    | nil => rfl
    | cons y m => exact absurd ((h y).2 (List.mem_cons_self ..)) (by simp)
  | cons x l ih =>
    intro m hl hm h
    cases m with
    | nil => exact absurd ((h x).1 (List.mem_cons_self ..)) (by simp)
    | cons y m =>
      rw [List.pairwise_cons] at hl hm
      have hxy : x = y := by
        rcases List.mem_cons.1 ((h x).1 (List.mem_cons_self ..)) with h1 | h1
        · exact h1
        · rcases List.mem_cons.1 ((h y).2 (List.mem_cons_self ..)) with h2 | h2
          · exact h2.symm
          · exact absurd (List.lt_trans (hl.1 y h2) (hm.1 x h1)) (List.lt_irrefl _)
      subst hxy
      congr 1
      refine ih m hl.2 hm.2 fun z => ⟨fun hz => ?_, fun hz => ?_⟩
      · rcases List.mem_cons.1 ((h z).1 (List.mem_cons_of_mem _ hz)) with h1 | h1
        · subst h1; exact absurd (hl.1 z hz) (List.lt_irrefl _)
        · exact h1
      · rcases List.mem_cons.1 ((h z).2 (List.mem_cons_of_mem _ hz)) with h1 | h1
        · subst h1; exact absurd (hm.1 z hz) (List.lt_irrefl _)
        · exact h1
/-- adds a text to an ascending list, if it is not there -/
def insS (s : Str) : List Str → List Str
  | [] => [s]
  | x :: r => if s ≤ x then (if s = x then x :: r else s :: x :: r) else x :: insS s r
theorem insS_mem (s : Str) : ∀ (l : List Str) (x : Str), x ∈ insS s l ↔ x = s ∨ x ∈ l := by
  intro l
  induction l with
  | nil => intro x; simp [insS]
  | cons y l ih =>
    intro x
    unfold insS
    split
    · split
      · rename_i h; subst h; simp
      · simp
    · rw [List.mem_cons, ih, List.mem_cons]
      constructor
      · rintro (h | h | h)
        · exact .inr (.inl h)
        · exact .inl h
        · exact .inr (.inr h)
      · rintro (h | h | h)
        · exact .inr (.inl h)
        · exact .inl h
        · exact .inr (.inr h)
theorem lt_of_le_ne {a b : Str} (h : a ≤ b) (hne : a ≠ b) : a < b := by
  apply List.not_le.1
  intro h2
  exact hne (List.le_antisymm h h2)
theorem insS_asc (s : Str) : ∀ l : List Str, l.Pairwise (· < ·) → (insS s l).Pairwise (· < ·) := by
  intro l
  induction l with
  | nil => intro _; unfold insS; exact List.pairwise_singleton _ _
  | cons y l ih =>
    intro h
    rw [List.pairwise_cons] at h
    unfold insS
    split
    · rename_i hle
      split
      · rw [List.pairwise_cons]; exact h
      · rename_i hne
        have hlt := lt_of_le_ne hle hne
        rw [List.pairwise_cons, List.pairwise_cons]
        refine ⟨fun z hz => ?_, h⟩
        rcases List.mem_cons.1 hz with rfl | hz
        · exact hlt
        · exact List.lt_trans hlt (h.1 z hz)
    · rename_i hle
      rw [List.pairwise_cons]
      refine ⟨fun z hz => ?_, ih h.2⟩
      rcases (insS_mem s l z).1 hz with rfl | hz
      · exact List.not_le.1 hle
      · exact h.1 z hz
theorem asc_one {l : List Str} (h : l.Pairwise (· < ·)) (hs : ∀ x ∈ l, ∀ y ∈ l, x = y) : l.length ≤ 1 := by
  match l, h with
  | [], _ => simp
  | [_], _ => simp
  | x :: y :: r, h =>
    rw [List.pairwise_cons] at h
    have := h.1 y (List.mem_cons_self ..)
    rw [hs x (List.mem_cons_self ..) y (List.mem_cons_of_mem _ (List.mem_cons_self ..))] at this
    exact absurd this (List.lt_irrefl _)
end Go.Proofs.YtgfjmplifmbmlaaDoor
namespace Go.Proofs.YtgfjmplifmbmlaaDoor

theorem seen_mem : ∀ (l : List Rep) (o : BitVec 16) (i : Nat), (∀ r ∈ l, 0 ≤ r.server ∧ r.server < 12) → hasB (l.foldl seeR o) i = true → hasB o i = true ∨ ∃ r ∈ l, r.server = (i : Int) := by
  intro l
  induction l with
  | nil => intro o i _ h; exact .inl h
  | cons r l ih =>
    intro o i hr h
    rw [List.foldl_cons] at h
    rcases ih _ i (fun x hx => hr x (List.mem_cons_of_mem _ hx)) h with h | ⟨x, hx, he⟩
    · unfold seeR at h
      have h0 := hr r (List.mem_cons_self ..)
      rw [hasB_or, Bool.or_eq_true, hasB_bit _ _ (by omega), decide_eq_true_eq] at h
      rcases h with h | h
      · exact .inl h
      · exact .inr ⟨r, List.mem_cons_self .., by omega⟩
    · exact .inr ⟨x, List.mem_cons_of_mem _ hx, he⟩
theorem seen_has : ∀ (l : List Rep) (o : BitVec 16) (r : Rep), (∀ r ∈ l, 0 ≤ r.server ∧ r.server < 12) → r ∈ l → hasB (l.foldl seeR o) r.server.toNat = true := by
  have mono : ∀ (l : List Rep) (o : BitVec 16) (i : Nat), hasB o i = true → hasB (l.foldl seeR o) i = true := by
    intro l
    induction l with
    | nil => intro o i h; exact h
    | cons r l ih => intro o i h; rw [List.foldl_cons]; exact ih _ _ (by unfold seeR; rw [hasB_or, h]; rfl)
  intro l
  induction l with
  | nil => intro o r _ h; cases h
  | cons y l ih =>
    intro o r hr h
    rw [List.foldl_cons]
    rcases List.mem_cons.1 h with rfl | h
    · refine mono _ _ _ ?_
      have h0 := hr r (List.mem_cons_self ..)
      unfold seeR
      rw [hasB_or, hasB_bit _ _ (by omega)]; simp
    · exact ih _ _ (fun x hx => hr x (List.mem_cons_of_mem _ hx)) h
theorem inv_nil (n : Nat) : Inv n [] := by
  have h0 : ∀ s : Int, atS (repA n []) s = acc0 := by
    intro s
    unfold atS repA
    simp only [List.foldl_nil]
    rw [List.getD, List.getElem?_replicate]
    split <;> rfl
  refine ⟨fun e he => (by cases he), fun s _ _ => ?_, fun s _ _ h => ?_, fun b r hr => ?_, fun b => rfl, fun b v h => ?_⟩
  · rw [h0]; exact ⟨by decide, by decide⟩
  · rw [h0] at h; exact absurd h (by decide)
  · simp [repS, repTo] at hr
  · cases h
theorem okP_okD {read : List (BitVec 16)} {n : Nat} {l : List Ev} (hi : Inv n l) {b : Int} (hb : 1 ≤ b) (v : ByteArray) : okP (valP read (stOf n l) b) v = okD (demS read n l b) v := by
  unfold valP demS
  show okP (match valF l b with | some v => (v, false, true) | none => ((bestR (repS n l b)).2, (bestR (repS n l b)).1 == 0, accS read (seenR (repS n l b)))) v = _
  cases valF l b with
  | some x => simp [okP, okD]
  | none =>
    simp only
    unfold pickS
    rw [if_neg (by omega), hi.seen b]
    simp only [Bool.false_eq_true, if_false]
    cases ha : accS read (seenR (repS n l b))
    · simp [okP, okD]
    · simp only [Bool.true_eq_false, if_false]
      by_cases h0 : (bestR (repS n l b)).1 = 0
      · rw [if_pos h0]; simp [okP, okD, h0]
      · rw [if_neg h0]
        have : ((bestR (repS n l b)).1 == 0) = false := by simpa using h0
        simp [okP, okD, this]
theorem atS_repA {n : Nat} {l : List Ev} {e : Ev} (hs : 0 ≤ e.server) (hs2 : e.server < n) {a : Acc} (h : stepA (repA n l) e = (repA n l).set e.server.toNat a) {t : Int} (ht : 0 ≤ t) : atS (repA n (l ++ [e])) t = if t = e.server then a else atS (repA n l) t := by
  rw [repA_snoc, h]
  exact atS_set hs (by rw [repA_len]; exact hs2) ht
theorem fol_step {read : List (BitVec 16)} {n : Nat} {l : List Ev} {e : Ev} (hn : n ≤ 12) (hi : Inv n l) (hf : folS read n l e = true) : Inv n (l ++ [e]) ∧ addP read (stOf n l) e = some (stOf n (l ++ [e])) := by
  unfold folS at hf
  split at hf
  · cases hf
  · rename_i hr
    have hs0 : 0 ≤ e.server := by omega
    have hsn : e.server < n := by omega
    have hb1 : 1 ≤ e.ballot := by omega
    have hc : ¬ (e.server < 0 ∨ (((stOf n l).acc.length : Nat) : Int) ≤ e.server ∨ e.ballot < 1) := by
      show ¬ (e.server < 0 ∨ ((repA n l).length : Int) ≤ e.server ∨ e.ballot < 1)
      rw [repA_len]; exact hr
    split at hf
    · rename_i hk
      have hf0 := hf
      rw [Bool.and_eq_true] at hf
      obtain ⟨hp, hem⟩ := hf
      have hlt : (atS (repA n l) e.server).prom < e.ballot := by unfold promB at hp; simpa using hp
      have hst : stepA (repA n l) e = (repA n l).set e.server.toNat { atS (repA n l) e.server with prom := e.ballot } := by unfold stepA; rw [if_pos hk, if_pos hp]
      have hat := fun t ht => atS_repA (n := n) (l := l) (e := e) hs0 hsn hst (t := t) ht
      have hbal := hi.bal e.server hs0 hsn
      have hrepS : ∀ b, repS n (l ++ [e]) b = if b = e.ballot then repS n l b ++ [repOf e.server (atS (repA n l) e.server)] else repS n l b := by
        intro b
        rw [repS_snoc]
        by_cases h : b = e.ballot
        · rw [if_pos ⟨hk, h.symm⟩, if_pos h]
        · rw [if_neg (fun h2 => h h2.2.symm), if_neg h, List.append_nil]
      have hacc2 : ∀ b, isAcc b e = false := by intro b; unfold isAcc; rw [hk]; rfl
      have hval : ∀ b, valF (l ++ [e]) b = valF l b := by
        intro b; rw [valF_snoc, hacc2]; cases valF l b <;> rfl
      refine ⟨⟨?_, ?_, ?_, ?_, ?_, ?_⟩, ?_⟩
      · intro x hx
        rcases List.mem_append.1 hx with hx | hx
        · exact hi.srv x hx
        · rw [List.mem_singleton] at hx; subst hx; exact ⟨hs0, hsn, hb1, .inl hk⟩
      · intro s h0 h1
        rw [hat s h0]
        split
        · exact ⟨hbal.1, by show (atS (repA n l) e.server).bal ≤ e.ballot; have := hbal.2; omega⟩
        · exact hi.bal s h0 h1
      · intro s h0 h1 hb
        rw [hat s h0] at hb ⊢
        split at hb
        · rw [if_pos (by assumption)]; exact hi.val e.server hs0 hsn hb
        · rw [if_neg (by assumption)]; exact hi.val s h0 h1 hb
      · intro b r hrm
        rw [hrepS] at hrm
        have hold : r ∈ repS n l b → 0 ≤ r.server ∧ r.server < n ∧ 0 ≤ r.ballot ∧ r.ballot < b ∧ b ≤ (atS (repA n (l ++ [e])) r.server).prom ∧ (0 < r.ballot → emB r.value = false) := by
          intro h
          obtain ⟨a1, a2, a3, a4, a5, a6⟩ := hi.rep b r h
          refine ⟨a1, a2, a3, a4, ?_, a6⟩
          rw [hat _ a1]
          split
          · rename_i he; rw [he] at a5; show b ≤ e.ballot; omega
          · exact a5
        split at hrm
        · rename_i hbe
          rcases List.mem_append.1 hrm with h | h
          · exact hold h
          · rw [List.mem_singleton] at h
            subst h
            refine ⟨hs0, hsn, hbal.1, ?_, ?_, fun h => hi.val e.server hs0 hsn h⟩
            · show (atS (repA n l) e.server).bal < b; have := hbal.2; omega
            · show b ≤ (atS (repA n (l ++ [e])) e.server).prom
              rw [hat _ hs0, if_pos rfl, hbe]
              exact Int.le_refl _
        · exact hold hrm
      · intro b
        rw [hrepS]
        split
        · rename_i hbe
          rw [invR_app, hi.seen b, Bool.false_or]
          unfold invR
          rw [show invR b (seeR ((repS n l b).foldl seeR 0#16) (repOf e.server (atS (repA n l) e.server))) [] = false from rfl, Bool.or_false]
          unfold badR repOf
          simp only [Bool.or_eq_false_iff, decide_eq_false_iff_not]
          refine ⟨⟨⟨⟨by omega, by omega⟩, by have := hbal.1; omega⟩, by have := hbal.2; omega⟩, ?_⟩
          cases hq : hasB ((repS n l b).foldl seeR 0#16) e.server.toNat
          · rfl
          · exfalso
            rcases seen_mem _ _ _ (fun r hr => ⟨(hi.rep b r hr).1, by have := (hi.rep b r hr).2.1; omega⟩) hq with h | ⟨r, hr, he⟩
            · rw [hasB_zero] at h; cases h
            · have h5 := (hi.rep b r hr).2.2.2.2.1
              have : r.server = e.server := by omega
              rw [this] at h5
              omega
        · exact hi.seen b
      · intro b v hv; rw [hval] at hv; exact hi.vals b v hv
      · unfold addP
        rw [if_neg hc, if_pos hk, if_pos (by exact hf0)]
        congr 1
        unfold addP1 stOf
        simp only [St.mk.injEq]
        refine ⟨?_, ?_, ?_⟩
        · rw [repA_snoc, hst]
        · funext b
          rw [hrepS]
          unfold setF
          by_cases h : b = e.ballot
          · rw [if_pos h, if_pos h, h]
          · rw [if_neg h, if_neg h]
        · funext b; rw [hval]
    · rename_i hk1
      split at hf
      · rename_i hk
        have hf0 := hf
        rw [Bool.and_eq_true, Bool.and_eq_true, Bool.not_eq_true'] at hf
        obtain ⟨⟨hp, hem⟩, hd⟩ := hf
        have hle : (atS (repA n l) e.server).prom ≤ e.ballot := by unfold accpB at hp; simp at hp; exact hp.2
        have hst : stepA (repA n l) e = (repA n l).set e.server.toNat ⟨e.ballot, e.ballot, e.value⟩ := by unfold stepA; rw [if_neg hk1, if_pos hp]
        have hat := fun t ht => atS_repA (n := n) (l := l) (e := e) hs0 hsn hst (t := t) ht
        have hrepS : ∀ b, repS n (l ++ [e]) b = repS n l b := by
          intro b; rw [repS_snoc, if_neg (fun h => hk1 h.1), List.append_nil]
        have hok : okP (valP read (stOf n l) e.ballot) e.value = true := by rw [okP_okD hi hb1]; exact hd
        have hval : ∀ b, valF (l ++ [e]) b = if b = e.ballot then some e.value else valF l b := by
          intro b
          rw [valF_snoc]
          by_cases h : b = e.ballot
          · rw [if_pos h]
            have hia : isAcc b e = true := by unfold isAcc; simp [hk, h]
            cases hv : valF l b with
            | none => simp only; rw [if_pos hia]
            | some x =>
              simp only
              have : valP read (stOf n l) e.ballot = (x, false, true) := by
                unfold valP
                show (match valF l e.ballot with | some v => (v, false, true) | none => _) = _
                rw [← h, hv]
              rw [this] at hok
              have hx : x.toList = e.value.toList := by simpa [okP] using hok
              rw [bs_ext hx]
          · rw [if_neg h]
            have hia : isAcc b e = false := by unfold isAcc; simp; intro _ h2; exact h h2.symm
            cases valF l b with
            | none => simp only; rw [if_neg (by rw [hia]; decide)]
            | some x => rfl
        refine ⟨⟨?_, ?_, ?_, ?_, ?_, ?_⟩, ?_⟩
        · intro x hx
          rcases List.mem_append.1 hx with hx | hx
          · exact hi.srv x hx
          · rw [List.mem_singleton] at hx; subst hx; exact ⟨hs0, hsn, hb1, .inr hk⟩
        · intro s h0 h1
          rw [hat s h0]
          split
          · exact ⟨by show 0 ≤ e.ballot; omega, Int.le_refl _⟩
          · exact hi.bal s h0 h1
        · intro s h0 h1 hb
          rw [hat s h0] at hb ⊢
          split at hb
          · rw [if_pos (by assumption)]; exact hem
          · rw [if_neg (by assumption)]; exact hi.val s h0 h1 hb
        · intro b r hrm
          rw [hrepS] at hrm
          obtain ⟨a1, a2, a3, a4, a5, a6⟩ := hi.rep b r hrm
          refine ⟨a1, a2, a3, a4, ?_, a6⟩
          rw [hat _ a1]
          split
          · rename_i he; rw [he] at a5; show b ≤ e.ballot; omega
          · exact a5
        · intro b; rw [hrepS]; exact hi.seen b
        · intro b v hv
          rw [hval] at hv
          split at hv
          · injection hv with hv; rw [← hv]; exact hem
          · exact hi.vals b v hv
        · unfold addP
          rw [if_neg hc, if_neg hk1, if_pos hk, if_pos (by
            rw [hok, Bool.and_true, Bool.and_eq_true, Bool.not_eq_true']; exact ⟨hp, hem⟩)]
          congr 1
          unfold addP2 stOf
          simp only [St.mk.injEq]
          refine ⟨?_, ?_, ?_⟩
          · rw [repA_snoc, hst]
          · funext b; rw [hrepS]
          · funext b; rw [hval]; rfl
      · cases hf
theorem fol_none {read : List (BitVec 16)} {n : Nat} {l : List Ev} {e : Ev} (hi : Inv n l) (hf : folS read n l e = false) : addP read (stOf n l) e = none := by
  unfold folS at hf
  unfold addP
  have hc : ((e.server < 0 ∨ (((stOf n l).acc.length : Nat) : Int) ≤ e.server ∨ e.ballot < 1)) = (e.server < 0 ∨ (n : Int) ≤ e.server ∨ e.ballot < 1) := by
    show (e.server < 0 ∨ ((repA n l).length : Int) ≤ e.server ∨ e.ballot < 1) = _
    rw [repA_len]
  by_cases hr : e.server < 0 ∨ (n : Int) ≤ e.server ∨ e.ballot < 1
  · rw [if_pos (by rw [hc]; exact hr)]
  · rw [if_neg (by rw [hc]; exact hr)]
    rw [if_neg hr] at hf
    by_cases hk1 : e.kind = 1
    · rw [if_pos hk1]
      rw [if_pos hk1] at hf
      rw [if_neg (by show ¬ (promB (atS (repA n l) e.server) e.ballot && emB e.value) = true; rw [hf]; decide)]
    · rw [if_neg hk1]
      rw [if_neg hk1] at hf
      by_cases hk : e.kind = 2
      · rw [if_pos hk]
        rw [if_pos hk] at hf
        rw [if_neg]
        rw [okP_okD hi (by omega)]
        show ¬ (accpB (atS (repA n l) e.server) e.ballot && !emB e.value && okD (demS read n l e.ballot) e.value) = true
        rw [hf]; decide
      · rw [if_neg hk]
theorem good_inv {read : List (BitVec 16)} {n : Nat} (hn : n ≤ 12) {l : List Ev} (h : Good read n l) : Inv n l := by
  induction h with
  | nil => exact inv_nil n
  | snoc _ hf ih => exact (fol_step hn ih hf).1
end Go.Proofs.YtgfjmplifmbmlaaDoor
namespace Go.Proofs.YtgfjmplifmbmlaaDoor
open Go.RowKit Go.Maps

def keyI (b : Int) : Lit := .int .i64 b
def valL (st : St) : Lit → Option Value
  | .int _ b => (st.vals b).map Value.string
  | _ => none
/-- a run in memory: the acceptors at block B, the two maps behind it, the run behind these -/
structure StM (w : World) (B m cnt : Nat) (sl : Value) (st : St) (f : Lit → Option Value) : Prop where
  acc : w.heap[B]? = some (.cells (st.acc.flatMap accC).toArray 96 (0, 0))
  len : st.acc.length = m
  run : w.heap[B + 3]? = some (.cells #[sl, .slice (some ⟨B, 0, none⟩) m m, .map (some (B + 1)), .map (some (B + 2))] 94 (0, 0))
  reps : FM w Tryd.prog 3 (B + 1) cnt f
  vals : FM w Tryd.prog 3 (B + 2) cnt (valL st)
  rows : ∀ b, match f (keyI b) with
    | none => st.rep b = []
    | some v => w.ownsRow (B + 4) 33 3 v (st.rep b).length ((st.rep b).flatMap repC)
  apart : ∀ b b' v v', b ≠ b' → f (keyI b) = some v → f (keyI b') = some v' → ∀ g, v.ownBlock = some g → v'.ownBlock ≠ some g
  srv : ∀ b r, r ∈ st.rep b → 0 ≤ r.server ∧ r.server < 12

theorem StM.below {w w' : World} {B m cnt : Nat} {sl : Value} {st : St} {f : Lit → Option Value} (h : StM w B m cnt sl st f) (hb : Below w.heap.size w w') : StM w' B m cnt sl st f := by
  refine ⟨heap_below hb h.acc, h.len, heap_below hb h.run, h.reps.below hb, h.vals.below hb, fun b => ?_, h.apart, h.srv⟩
  have := h.rows b
  split
  · rename_i e; rw [e] at this; exact this
  · rename_i v e; rw [e] at this; exact rowK_below this hb
theorem kI : Keyed Tryd.prog 3 := int_keyed Tryd.underlying3
theorem zStr (w : World) : (zeroValue 9).run Tryd.prog w = .ok (.string ⟨#[]⟩) w := by kernel_rfl
theorem zSl (w : World) : (zeroValue 23).run Tryd.prog w = .ok (.slice none 0 0) w := by kernel_rfl
theorem kOf {b : Int} (hw : (Lit.int .i64 b).wf = true) : keyOf Tryd.prog 3 (.int .i64 b) = some (keyI b) := keyOf_int_mk Tryd.underlying3 hw
theorem StM.valLook {w : World} {B m cnt : Nat} {sl : Value} {st : St} {f : Lit → Option Value} (h : StM w B m cnt sl st f) {b : Int} (hw : (Lit.int .i64 b).wf = true) :
    (Instr.lookup 92 (.map (some (B + 2))) (.int .i64 b) true).run Tryd.prog w = .ok (.tuple #[((st.vals b).map Value.string).getD (.string ⟨#[]⟩), .bool (st.vals b).isSome]) w := by
  have := h.vals.look true kI Tryd.underlying92 (zStr w) (kOf hw)
  rw [this]
  unfold valL keyI
  simp
theorem fm_repLook {w : World} {B cnt : Nat} {f : Lit → Option Value} (h : FM w Tryd.prog 3 (B + 1) cnt f) {b : Int} (hw : (Lit.int .i64 b).wf = true) :
    (Instr.lookup 91 (.map (some (B + 1))) (.int .i64 b) false).run Tryd.prog w = .ok ((f (keyI b)).getD (.slice none 0 0)) w := by
  have := h.look false kI Tryd.underlying91 (zSl w) (kOf hw)
  rw [this]; rfl
/-- the reports of a ballot, read -/
theorem StM.repRd {w : World} {B m cnt : Nat} {sl : Value} {st : St} {f : Lit → Option Value} (h : StM w B m cnt sl st f) (b : Int) : ∃ a c, (f (keyI b)).getD (.slice none 0 0) = .slice a (st.rep b).length c ∧ RdK 3 w a (st.rep b).length c ((st.rep b).flatMap repC) := by
  have := h.rows b
  cases hf : f (keyI b) with
  | none => rw [hf] at this; have e : st.rep b = [] := this; rw [e]; exact ⟨none, 0, rfl, RdK.none_ _ _⟩
  | some v =>
    rw [hf] at this
    obtain ⟨a, c, rfl, hr⟩ := rdK_of_row this
    exact ⟨a, c, rfl, hr⟩
theorem open4 {w : World} {B : Nat} {x y z u : Value} {t : TypeId} (h : w.heap[B]? = some (.cells #[x, y, z, u] t (0, 0))) :
    w.cell? ⟨B, 0, none⟩ = some x ∧ w.cell? ⟨B, 1, none⟩ = some y ∧ w.cell? ⟨B, 2, none⟩ = some z ∧ w.cell? ⟨B, 3, none⟩ = some u :=
  ⟨cell_of_row _ _ 0 _ _ _ h, cell_of_row _ _ 1 _ _ _ h, cell_of_row _ _ 2 _ _ _ h, cell_of_row _ _ 3 _ _ _ h⟩

theorem Rd.drew {w : World} {a : Option Addr} {n c : Nat} {l : List Value} (h : Rd w a n c l) : Rd w.drew a n c l := ⟨h.len, h.le, h.max, h.nil, h.at'⟩
theorem blA (w : World) (o : Obj) : Below w.heap.size w (w.alloc o) := (Below.refl _ w).alloc (Nat.le_refl _) _
theorem fmA {w : World} {P : Program} {k : TypeId} {b n : Nat} {f : Lit → Option Value} {o : Obj} (h : FM w P k b n f) : FM (w.alloc o).drew P k b n f := (h.below (blA w o)).at rfl
theorem fmA1 {w : World} {P : Program} {k : TypeId} {b n : Nat} {f : Lit → Option Value} {o : Obj} (h : FM w P k b n f) : FM (w.alloc o) P k b n f := h.below (blA w o)
theorem fmS3 {w : World} {P : Program} {k : TypeId} {b n B' : Nat} {f : Lit → Option Value} {x y z : Value} (h : FM w P k b n f) (hne : b ≠ B') : FM (((w.setCell ⟨B', 0, none⟩ x).setCell ⟨B', 1, none⟩ y).setCell ⟨B', 2, none⟩ z) P k b n f :=
  h.at (by rw [Below.heap_setCell _ _ _ _ hne, Below.heap_setCell _ _ _ _ hne, Below.heap_setCell _ _ _ _ hne])
theorem RdK.drew {k : Nat} {w : World} {a : Option Addr} {n c : Nat} {l : List Value} (h : RdK k w a n c l) : RdK k w.drew a n c l := ⟨h.len, h.le, h.max, h.nil, h.at'⟩

set_option maxRecDepth 100000 in
set_option maxHeartbeats 2000000 in
theorem value_c (read : List (BitVec 16)) (a : Option Addr) (n c : Nat) (B m cnt : Nat) (st : St) (f : Lit → Option Value) (b : Int) (hw : (Lit.int .i64 b).wf = true) (w : World) (hr : Rd w a n c (read.map setV2)) (h : StM w B m cnt (.slice a n c) st f) :
    Calls Tryd.prog 59 #[.pointer (some ⟨B + 3, 0, none⟩), .int .i64 b] w fun e w' => e = .returned (.tuple #[.string (valP read st b).1, .bool (valP read st b).2.1, .bool (valP read st b).2.2]) ∧ Below w.heap.size w w' := by
  obtain ⟨h0, h1, h2, h3⟩ := open4 h.run
  have hl := h.valLook hw
  cases hv : st.vals b with
  | some v =>
    have hE : valP read st b = (v, false, true) := by unfold valP; rw [hv]
    rw [hE]
    rw [hv] at hl
    simp only [Option.map_some, Option.getD_some, Option.isSome_some] at hl
    clear hE hv h hr hw
    go_enter Tryd.func59, Tryd.ntmps59
    go_wp2_with fail
    go_ret3
    exact ⟨rfl, Below.refl _ _⟩
  | none =>
    have hE : valP read st b = ((bestR (st.rep b)).2, (bestR (st.rep b)).1 == 0, accS read (seenR (st.rep b))) := by unfold valP; rw [hv]
    rw [hE]
    rw [hv] at hl
    simp only [Option.map_none, Option.getD_none, Option.isSome_none] at hl
    obtain ⟨ar, cr, hrv, hrr⟩ := h.repRd b
    have hl2 := fm_repLook h.reps hw
    rw [hrv] at hl2
    have HP := Lib.hid (fun w h1 h2 => pick_c read (st.rep b) a n c ar (st.rep b).length cr w h1 h2 (fun r hr => h.srv b r hr))
    obtain ⟨⟨bb, bv⟩, hbb⟩ : ∃ p, bestR (st.rep b) = p := ⟨_, rfl⟩
    obtain ⟨ac, hac⟩ : ∃ p, accS read (seenR (st.rep b)) = p := ⟨_, rfl⟩
    rw [hbb, hac] at HP ⊢
    obtain ⟨L, hL⟩ : ∃ L, (st.rep b).flatMap repC = L := ⟨_, rfl⟩
    obtain ⟨nl, hnl⟩ : ∃ L, (st.rep b).length = L := ⟨_, rfl⟩
    rw [hL] at HP hrr
    rw [hnl] at HP hrr hl2
    have HP2 : Hid (∀ x : World, Below w.heap.size w x → Calls Tryd.prog 32 #[.slice a n c, .slice ar nl cr] x fun e w3 => ∃ sv : Int, e = .returned (.tuple #[.agg #[.int .i64 sv, .int .i64 bb, .string bv], .bool ac]) ∧ Below w.heap.size w w3 ∧ ∀ ob, x.heap[w.heap.size]? = some ob → w3.heap[w.heap.size]? = some ob) := Lib.hid (fun x hx => (HP.out x (hr.below hx) (hrr.below hx)).mono fun e w3 ⟨sv, h1, h2⟩ => ⟨sv, h1, Below.next hx h2, fun ob ho => heap_below h2 ho⟩)
    have KS : Hid (∀ x : World, Below w.heap.size w x → x.cell? ⟨B + 3, 0, none⟩ = some (.slice a n c) ∧ x.cell? ⟨B + 3, 2, none⟩ = some (.map (some (B + 1))) ∧ (Instr.lookup 91 (.map (some (B + 1))) (.int .i64 b) false).run Tryd.prog x = .ok (.slice ar nl cr) x) := Lib.hid (fun x hx => ⟨(hx.cell (p := ⟨B + 3, 0, none⟩) (cell_lt h0)).trans h0, (hx.cell (p := ⟨B + 3, 2, none⟩) (cell_lt h2)).trans h2, by rw [fm_repLook (h.reps.below hx) hw, hrv, hnl]⟩)
    clear HP hE hv h hr hrr hrv hbb hac hL hnl hw
    go_enter Tryd.func59, Tryd.ntmps59
    go_wp2_with fail
    go_region_held3 (fun w' => w'.cell? ⟨B + 3, 0, none⟩ = some (.slice a n c) ∧ w'.cell? ⟨B + 3, 2, none⟩ = some (.map (some (B + 1))) ∧ (Instr.lookup 91 (.map (some (B + 1))) (.int .i64 b) false).run Tryd.prog w' = .ok (.slice ar nl cr) w')
      (exact KS.out _ (by (repeat (first | with_reducible exact Below.refl _ _ | with_reducible exact hb3 | with_reducible refine below_drew ?_ | with_reducible refine Below.alloc ?_ ?_ _ | with_reducible refine Below.setCell ?_ ?_ _ | exact Nat.le_refl _ | exact hb3.size))))
      ((go_at_call 32; (refine (HP2.out _ (by (first | with_reducible exact below_drew (Below.refl _ _) | with_reducible exact below_drew (blA _ _)))).mono ?_); (rintro e w3 ⟨sv, rfl, hb3, hx⟩; first | (have hx2 := hx _ (heap_alloc_new w _); obtain ⟨⟨x0, x1, x2⟩, g0, g1, g2⟩ := open3 hx2; clear hx) | (clear hx))))
    all_goals
      go_wp2_with fail
      go_quiet (fail)
      go_wp2_with fail
      go_ret3
      exact ⟨rfl, below_drewN (by first | exact hb3.alloc hb3.size _ | exact ((hb3.setCell (Nat.le_refl _) _).setCell (Nat.le_refl _) _).setCell (Nat.le_refl _) _)⟩
end Go.Proofs.YtgfjmplifmbmlaaDoor
namespace Go.Proofs.YtgfjmplifmbmlaaDoor
open Go.RowKit Go.Maps Go.WideElems Go.ChangeMaps Go.MapKept

theorem step_put_fm {P : Program} {w : World} {ops : Array Oper} {o : Oper} {a : Act} {K' : Act → World → Prop} {Q : Exit → Act → World → Prop} {E : Prop} {dec : Decidable (Region.wanted o (yielded ops a.tmps) = true)} (hg : o.guard = none) (m x v : Operand) (t : TypeId) (hop : o.op = Op.mapUpdate t m x v)
    (k e : TypeId) (K : Keyed P k) (ht : P.underlying t = some (.map k e)) (b n : Nat) (f : Lit → Option Value)
    (hm : a.eval m = .map (some b)) (h : FM w P k b n f) (hn : n < maxLen) (key val : Value) (kl : Lit) (hx : a.eval x = key) (hv : a.eval v = val) (hkey : keyOf P k key = some kl)
    (hK : ∀ w', FM w' P k b (n + 1) (updF f kl val) → w.grownBy w' (some b) → w'.heap.size = w.heap.size → K' (a.put o.dst undef) w') :
    @ite Prop (Region.wanted o (yielded ops a.tmps) = true) dec (Oper.wp P o a w K' Q) E := by
  have hw : Region.wanted o (yielded ops a.tmps) = true := by simp [Region.wanted, hg]
  rw [if_pos hw]
  obtain ⟨D, ⟨es, clock, hb, F, hs, rfl⟩, hf⟩ := h
  obtain ⟨es', clock', hrun, F', hput, _⟩ := Maps.fit_store (R' := heldR) K ht hb F (Nat.lt_of_le_of_lt hs hn) (fun _ _ _ _ hz => hz) hkey (yv := (.held val, [])) rfl
  have ho : w.ownsMap P k heldR b n (.map ((es.toList.map (rg P k heldR)).foldr DataW.insert [])) := ⟨es, clock, hb, F, hs, rfl⟩
  obtain ⟨w', hrun2, r1, r2⟩ := ho.update K ht hn (val := val) hkey (d := .held val) (ps := []) rfl
  have e : w' = setBlock w b (.map es' clock') := by rw [hrun] at hrun2; injection hrun2 with _ h2; exact h2.symm
  unfold Oper.wp
  simp [execOp, hop, hm, hx, hv, hrun2, Result.andThen]
  exact hK w' (FM.putD K ho hf hkey r1) r2 (by rw [e]; simp [setBlock])

theorem FM.put {P : Program} {w : World} {t k e : TypeId} {b n : Nat} {f : Lit → Option Value} (h : FM w P k b n f) (K : Keyed P k) (ht : P.underlying t = some (.map k e)) (hn : n < maxLen) {key : Value} {kl : Lit} (hkey : keyOf P k key = some kl) (val : Value) :
    ∃ w', (Instr.mapUpdate t (.map (some b)) key val).run P w = .ok () w' ∧ FM w' P k b (n + 1) (updF f kl val) ∧ w.grownBy w' (some b) ∧ w'.heap.size = w.heap.size := by
  obtain ⟨D, ⟨es, clock, hb, F, hs, rfl⟩, hf⟩ := h
  obtain ⟨es', clock', hrun, F', hput, _⟩ := Maps.fit_store (R' := heldR) K ht hb F (Nat.lt_of_le_of_lt hs hn) (fun _ _ _ _ hz => hz) hkey (yv := (.held val, [])) rfl
  have ho : w.ownsMap P k heldR b n (.map ((es.toList.map (rg P k heldR)).foldr DataW.insert [])) := ⟨es, clock, hb, F, hs, rfl⟩
  obtain ⟨w', hrun2, r1, r2⟩ := ho.update K ht hn (val := val) hkey (d := .held val) (ps := []) rfl
  have e : w' = setBlock w b (.map es' clock') := by rw [hrun] at hrun2; injection hrun2 with _ h2; exact h2.symm
  exact ⟨w', hrun2, FM.putD K ho hf hkey r1, r2, by rw [e]; simp [setBlock]⟩

theorem entry_store {P : Program} {w : World} {t k e : TypeId} {R : Value → Option (DataW Value × List MemPlace)} {b : Nat} {es : Array MapEntry} {clock : Nat} (K : Keyed P k) (ht : P.underlying t = some (.map k e)) {z : Value} (hz : ∀ u : World, (zeroValue e).run P u = .ok z u) (hb : w.heap[b]? = some (.map es clock)) (F : Fit P k R es clock)
    {key : Value} {kl : Lit} (hkey : keyOf P k key = some kl) :
    ∃ (v0 : Value) (st : Nat) (es1 : Array MapEntry) (clock1 : Nat), (Instr.mapEntry t (.map (some b)) key).run P w = .ok (.tuple #[v0, goInt st]) (setBlock w b (.map es1 clock1)) ∧
      ∀ (w2 : World) (val : Value), w2.heap[b]? = some (.map es1 clock1) → ∃ es' clock', (Instr.entryStore t (.map (some b)) (goInt st) val).run P w2 = .ok () (setBlock w2 b (.map es' clock')) ∧
        (Instr.mapUpdate t (.map (some b)) key val).run P w = .ok () (setBlock w b (.map es' clock')) := by
  obtain ⟨s1, s2, _⟩ := F.stamped
  rcases K.find w hkey es.toList F.keys with ⟨h1, h2⟩ | ⟨j, e0, h1, h2, h3⟩
  · refine ⟨z, clock, es.push ⟨key, z, clock⟩, clock + 1, ?_, fun w2 val hw2 => ⟨es.push ⟨key, val, clock⟩, clock + 1, ?_, ?_⟩⟩
    · simp [Instr.mapEntry, run_underlying ht, MapKept.run_getObj_map hb, K.check w false hkey, h1, hz, MapKept.run_setObj_map _ hb, Result.andThen, setBlock]
    · have hidx : (es.push ⟨key, z, clock⟩).findIdx? (fun e => ((e.born : Nat) : Int) == ((clock : Nat) : Int)) = some es.size := by
        rw [findIdx_arr]
        exact findIdx_born (l := (es.push ⟨key, z, clock⟩).toList) (j := es.size) (e0 := ⟨key, z, clock⟩) (by
          simp only [Array.toList_push, List.map_append, List.map_cons, List.map_nil]
          refine List.nodup_append.2 ⟨s2, by simp, fun a ha c hc e1 => ?_⟩
          simp only [List.mem_singleton] at hc
          obtain ⟨x, hx, rfl⟩ := List.mem_map.1 ha
          have := s1 x hx
          omega) (by simp)
      have hmod : (es.push ⟨key, z, clock⟩).modify es.size (fun e => { e with val := val }) = es.push ⟨key, val, clock⟩ := by
        apply Array.ext'
        rw [Array.toList_modify, Array.toList_push, Array.toList_push, ← Array.length_toList, modify_last]
      simp [Instr.entryStore, MapKept.run_getObj_map hw2, asInt, asIntOf, goInt, hidx, hmod, MapKept.run_setObj_map _ hw2, Result.andThen, setBlock]
    · simp [Instr.mapUpdate, run_underlying ht, MapKept.run_getObj_map hb, K.check w false hkey, h1, MapKept.run_setObj_map _ hb, Result.andThen, setBlock]
  · have hj : es[j]? = some e0 := by simpa using h2
    have hsame : es.modify j (fun e => { e with key := key }) = es := by
      apply Array.ext'
      rw [Array.toList_modify, modify_eq_set _ _ _ _ h2]
      have : ({ e0 with key := key } : MapEntry) = e0 := by rw [← h3]
      rw [this]
      exact set_self _ _ _ h2
    refine ⟨e0.val, e0.born, es, clock, ?_, fun w2 val hw2 => ⟨es.modify j (fun e' => { e' with key := key, val := val }), clock, ?_, ?_⟩⟩
    · simp [Instr.mapEntry, run_underlying ht, MapKept.run_getObj_map hb, K.check w false hkey, h1, hj, h3, K.stays w hkey, hsame, MapKept.run_setObj_map _ hb, Result.andThen, setBlock]
    · have hidx : es.findIdx? (fun e => ((e.born : Nat) : Int) == ((e0.born : Nat) : Int)) = some j := by
        rw [findIdx_arr]
        exact findIdx_born s2 h2
      have hmod : es.modify j (fun e => { e with val := val }) = es.modify j (fun e' => { e' with key := key, val := val }) := by
        apply Array.ext'
        rw [Array.toList_modify, Array.toList_modify, modify_eq_set _ _ _ _ h2, modify_eq_set _ _ _ _ h2, ← h3]
      simp [Instr.entryStore, MapKept.run_getObj_map hw2, asInt, asIntOf, goInt, hidx, hmod, MapKept.run_setObj_map _ hw2, Result.andThen, setBlock]
    · simp [Instr.mapUpdate, run_underlying ht, MapKept.run_getObj_map hb, K.check w false hkey, h1, hj, h3, K.stays w hkey, MapKept.run_setObj_map _ hb, Result.andThen, setBlock]

/-- an entry stands ready to be filled -/
def Ent (w : World) (P : Program) (k t : TypeId) (b n : Nat) (f : Lit → Option Value) (kl : Lit) (st : Nat) : Prop :=
  ∃ es1 clock1, w.heap[b]? = some (.map es1 clock1) ∧ ∀ (w2 : World) (val : Value), w2.heap[b]? = some (.map es1 clock1) → ∃ w3, (Instr.entryStore t (.map (some b)) (goInt st) val).run P w2 = .ok () w3 ∧ FM w3 P k b n (updF f kl val) ∧ w2.grownBy w3 (some b) ∧ w3.heap.size = w2.heap.size
theorem Ent.at {w w' : World} {P : Program} {k t : TypeId} {b n st : Nat} {f : Lit → Option Value} {kl : Lit} (h : Ent w P k t b n f kl st) (hb : w'.heap[b]? = w.heap[b]?) : Ent w' P k t b n f kl st := by
  obtain ⟨es, clock, h1, h2⟩ := h; exact ⟨es, clock, hb.trans h1, h2⟩
theorem setBlock_grown {w : World} {b : Nat} {es : Array MapEntry} {clock : Nat} {o' : Obj} (h : w.heap[b]? = some (.map es clock)) : w.grownBy (setBlock w b o') (some b) :=
  ⟨rfl, rfl, rfl, by simp [setBlock], fun i _ hi => heap_setBlock_other h _ (fun e => hi (by rw [e]))⟩
theorem FM.entry {P : Program} {w : World} {t k e : TypeId} {b n : Nat} {f : Lit → Option Value} (h : FM w P k b n f) (K : Keyed P k) (ht : P.underlying t = some (.map k e)) {z : Value} (hz : ∀ u : World, (zeroValue e).run P u = .ok z u) (hn : n < maxLen) {key : Value} {kl : Lit} (hkey : keyOf P k key = some kl) :
    ∃ (v0 : Value) (st : Nat) (w1 : World), (Instr.mapEntry t (.map (some b)) key).run P w = .ok (.tuple #[v0, goInt st]) w1 ∧ Ent w1 P k t b (n + 1) f kl st ∧ w.grownBy w1 (some b) ∧ w1.heap.size = w.heap.size := by
  obtain ⟨D, ho, hf⟩ := h
  have ho' := ho
  obtain ⟨es, clock, hb, F, hs, rfl⟩ := ho'
  obtain ⟨v0, st, es1, clock1, h1, h2⟩ := entry_store K ht hz hb F hkey
  refine ⟨v0, st, _, h1, ⟨es1, clock1, heap_setBlock_same hb _, fun w2 val hw2 => ?_⟩, setBlock_grown hb, by simp [setBlock]⟩
  obtain ⟨es', clock', h3, h4⟩ := h2 w2 val hw2
  obtain ⟨w', hrun2, r1, r2⟩ := ho.update K ht hn (val := val) hkey (d := .held val) (ps := []) rfl
  have e : w' = setBlock w b (.map es' clock') := by rw [h4] at hrun2; injection hrun2 with _ h2; exact h2.symm
  refine ⟨_, h3, (FM.putD K ho hf hkey r1).at ?_, setBlock_grown hw2, by simp [setBlock]⟩
  rw [e, heap_setBlock_same hb, heap_setBlock_same hw2]
theorem step_entry_fm {P : Program} {w : World} {ops : Array Oper} {o : Oper} {a : Act} {K' : Act → World → Prop} {Q : Exit → Act → World → Prop} {E : Prop} {dec : Decidable (Region.wanted o (yielded ops a.tmps) = true)} (hg : o.guard = none) (m x : Operand) (t : TypeId) (hop : o.op = Op.mapEntry t m x)
    (k e : TypeId) (K : Keyed P k) (ht : P.underlying t = some (.map k e)) (b n : Nat) (f : Lit → Option Value) (z : Value) (hz : ∀ u : World, (zeroValue e).run P u = .ok z u)
    (hm : a.eval m = .map (some b)) (h : FM w P k b n f) (hn : n < maxLen) (key : Value) (kl : Lit) (hx : a.eval x = key) (hkey : keyOf P k key = some kl)
    (hK : ∀ v0 st w', Ent w' P k t b (n + 1) f kl st → w.grownBy w' (some b) → w'.heap.size = w.heap.size → K' (a.put o.dst (.tuple #[v0, .int .i64 (st : Nat)])) w') :
    @ite Prop (Region.wanted o (yielded ops a.tmps) = true) dec (Oper.wp P o a w K' Q) E := by
  have hw : Region.wanted o (yielded ops a.tmps) = true := by simp [Region.wanted, hg]
  rw [if_pos hw]
  obtain ⟨v0, st, w1, h1, h2, h3, h4⟩ := h.entry K ht hz hn hkey
  unfold Oper.wp
  simp [execOp, hop, hm, hx, h1, Result.andThen]
  exact hK v0 st w1 h2 h3 h4
theorem step_estore_fm {P : Program} {w : World} {ops : Array Oper} {o : Oper} {a : Act} {K' : Act → World → Prop} {Q : Exit → Act → World → Prop} {E : Prop} {dec : Decidable (Region.wanted o (yielded ops a.tmps) = true)} (hg : o.guard = none) (m s v : Operand) (t : TypeId) (hop : o.op = Op.entryStore t m s v)
    (k : TypeId) (b n st : Nat) (f : Lit → Option Value) (kl : Lit) (hm : a.eval m = .map (some b)) (h : Ent w P k t b n f kl st) (hs : a.eval s = .int .i64 (st : Nat)) (val : Value) (hv : a.eval v = val)
    (hK : ∀ w', FM w' P k b n (updF f kl val) → w.grownBy w' (some b) → w'.heap.size = w.heap.size → K' (a.put o.dst undef) w') :
    @ite Prop (Region.wanted o (yielded ops a.tmps) = true) dec (Oper.wp P o a w K' Q) E := by
  have hw : Region.wanted o (yielded ops a.tmps) = true := by simp [Region.wanted, hg]
  rw [if_pos hw]
  obtain ⟨es1, clock1, hb, h2⟩ := h
  obtain ⟨w3, h3, h4, h5, h6⟩ := h2 w val hb
  have h3' : (Instr.entryStore t (.map (some b)) (.int .i64 (st : Nat)) val).run P w = .ok () w3 := h3
  unfold Oper.wp
  simp [execOp, hop, hm, hs, hv, h3', Result.andThen]
  exact hK w3 h4 h5 h6
theorem upon_entry_fm {P : Program} {w : World} {o : Oper} {a : Act} {K' : Act → World → Prop} {Q : Exit → Act → World → Prop} (t k e : TypeId) (K : Keyed P k) (ht : P.underlying t = some (.map k e)) (b n : Nat) (f : Lit → Option Value) (z : Value) (hz : ∀ u : World, (zeroValue e).run P u = .ok z u)
    (h : FM w P k b n f) (hn : n < maxLen) (key : Value) (kl : Lit) (hkey : keyOf P k key = some kl)
    (hK : ∀ v0 st w', Ent w' P k t b (n + 1) f kl st → w.grownBy w' (some b) → w'.heap.size = w.heap.size → K' (a.put o.dst (.tuple #[v0, .int .i64 (st : Nat)])) w') :
    Oper.upon P o a K' Q ((Sem.run P (Instr.mapEntry t (.map (some b)) key) w).andThen fun a w' => Result.ok (Next.value a) w') := by
  obtain ⟨v0, st, w1, h1, h2, h3, h4⟩ := h.entry K ht hz hn hkey
  rw [h1]
  exact hK v0 st w1 h2 h3 h4
theorem upon_estore_fm {P : Program} {w : World} {o : Oper} {a : Act} {K' : Act → World → Prop} {Q : Exit → Act → World → Prop} (t k : TypeId) (b n st : Nat) (f : Lit → Option Value) (kl : Lit) (h : Ent w P k t b n f kl st) (val : Value)
    (hK : ∀ w', FM w' P k b n (updF f kl val) → w.grownBy w' (some b) → w'.heap.size = w.heap.size → K' (a.put o.dst undef) w') :
    Oper.upon P o a K' Q ((Sem.run P (Instr.entryStore t (.map (some b)) (.int .i64 (st : Nat)) val) w).andThen fun _ w' => Result.ok Next.skip w') := by
  obtain ⟨es1, clock1, hb, h2⟩ := h
  obtain ⟨w3, h3, h4, h5, h6⟩ := h2 w val hb
  have h3' : (Instr.entryStore t (.map (some b)) (.int .i64 (st : Nat)) val).run P w = .ok () w3 := h3
  rw [h3']
  exact hK w3 h4 h5 h6
end Go.Proofs.YtgfjmplifmbmlaaDoor
namespace Go.Proofs.YtgfjmplifmbmlaaDoor
open Go.RowKit Go.Maps

/-- what a lookup in the map behind block B gives -/
noncomputable def lkW (B : Nat) (b : Int) (w : World) : Value := match (Instr.lookup 91 (.map (some (B + 1))) (.int .i64 b) false).run Tryd.prog w with
  | .ok v _ => v
  | _ => undef
theorem lkW_eq {w : World} {B n : Nat} {f : Lit → Option Value} (h : FM w Tryd.prog 3 (B + 1) n f) {b : Int} (hw : (Lit.int .i64 b).wf = true) : lkW B b w = (f (keyI b)).getD (.slice none 0 0) := by
  unfold lkW; rw [fm_repLook h hw]
theorem lkW_run {w : World} {B n : Nat} {f : Lit → Option Value} (h : FM w Tryd.prog 3 (B + 1) n f) {b : Int} (hw : (Lit.int .i64 b).wf = true) :
    (Instr.lookup 91 (.map (some (B + 1))) (.int .i64 b) false).run Tryd.prog w = .ok (lkW B b w) w := by
  rw [lkW_eq h hw]; exact fm_repLook h hw
theorem set3 (x0 x1 x2 : Value) (a' : Acc) (ha : accC a' = [x0, x1, x2]) : ∀ (l : List Acc) (s : Nat), s < l.length → ((((l.flatMap accC).set (s * 3) x0).set (s * 3 + 1) x1).set (s * 3 + 2) x2) = (l.set s a').flatMap accC := by
  intro l
  induction l with
  | nil => intro s hs; simp at hs
  | cons y l ih =>
    intro s hs
    cases s with
    | zero =>
      have h := ha
      simp only [accC, List.cons.injEq, and_true] at h
      obtain ⟨rfl, rfl, rfl⟩ := h
      simp [List.flatMap_cons, accC]
    | succ s =>
      have := ih s (by simpa using hs)
      rw [List.flatMap_cons, List.set_cons_succ, List.flatMap_cons, ← this]
      have e : (s + 1) * 3 = (accC y).length + s * 3 := by rw [accC_len]; omega
      rw [e, Nat.add_assoc, Nat.add_assoc, List.set_append_right _ _ (by omega), List.set_append_right _ _ (by omega), List.set_append_right _ _ (by omega)]
      simp [Nat.add_sub_cancel_left]
theorem set3A (x0 x1 x2 : Value) (a' : Acc) (ha : accC a' = [x0, x1, x2]) (l : List Acc) (s : Nat) (hs : s < l.length) : ((((l.flatMap accC).toArray.setIfInBounds (s * 3) x0).setIfInBounds (s * 3 + 1) x1).setIfInBounds (s * 3 + 2) x2) = ((l.set s a').flatMap accC).toArray := by
  rw [← set3 x0 x1 x2 a' ha l s hs]
  simp
theorem rowK_at {k : Nat} {w w' : World} {B n : Nat} {e : TypeId} {v : Value} {l : List Value} (h : w.ownsRow B e k v n l) (hb : ∀ g, v.ownBlock = some g → w'.heap[g]? = w.heap[g]?) : w'.ownsRow B e k v n l := by
  obtain ⟨h1, h2⟩ := h
  refine ⟨h1, ?_⟩
  rcases h2 with h2 | ⟨g, cap, cur, hv, hb', hg, r⟩
  · exact .inl h2
  · exact .inr ⟨g, cap, cur, hv, hb', by rw [hb g (by rw [hv]; rfl)]; exact hg, r⟩
theorem keyI_ne {b b' : Int} (h : b' ≠ b) : (keyI b').sameKey (keyI b) = false := sameKey_ne (fun e => h (by unfold keyI at e; injection e))
theorem updF_same {f : Lit → Option Value} {b : Int} {v : Value} (hw : (Lit.int .i64 b).wf = true) : updF f (keyI b) v (keyI b) = some v := by
  unfold updF; rw [if_pos (WideAt.sameKey_self (kI.key (kOf hw)))]
theorem updF_other {f : Lit → Option Value} {b b' : Int} {v : Value} (h : b' ≠ b) : updF f (keyI b) v (keyI b') = f (keyI b') := by
  unfold updF; rw [if_neg (by rw [keyI_ne h]; decide)]
/-- the own block of a ballot's reports -/
theorem StM.rowLt {w : World} {B m cnt : Nat} {sl : Value} {st : St} {f : Lit → Option Value} (h : StM w B m cnt sl st f) {b : Int} {v : Value} (hf : f (keyI b) = some v) {g : Nat} (hg : v.ownBlock = some g) : B + 4 ≤ g ∧ g < w.heap.size := by
  have := h.rows b
  rw [hf] at this
  exact World.ownsRow.lt this g hg
theorem StM.rowRd {w : World} {B m cnt : Nat} {sl : Value} {st : St} {f : Lit → Option Value} (h : StM w B m cnt sl st f) (b : Int) : ∃ a c, (f (keyI b)).getD (.slice none 0 0) = .slice a (st.rep b).length c ∧ w.ownsRow (B + 4) 33 3 (.slice a (st.rep b).length c) (st.rep b).length ((st.rep b).flatMap repC) ∧ ∀ g, (Value.slice a (st.rep b).length c).ownBlock = some g → B + 4 ≤ g ∧ g < w.heap.size := by
  have := h.rows b
  cases hf : f (keyI b) with
  | none =>
    rw [hf] at this
    have e : st.rep b = [] := this
    rw [e]
    exact ⟨none, 0, rfl, World.ownsRow_nil _ _ _ _, fun g hg => by simp [Value.ownBlock] at hg⟩
  | some v =>
    rw [hf] at this
    have h2 : w.ownsRow (B + 4) 33 3 v (st.rep b).length ((st.rep b).flatMap repC) := this
    obtain ⟨a, c, rfl, _⟩ := rdK_of_row h2
    exact ⟨a, c, rfl, h2, fun g hg => World.ownsRow.lt h2 g hg⟩
theorem valL_upd {st : St} {b : Int} {x : ByteArray} {acc : List Acc} {rep : Int → List Rep} (hw : (Lit.int .i64 b).wf = true) : ∀ y : Int, valL ⟨acc, rep, setF st.vals b (some x)⟩ (keyI y) = updF (valL st) (keyI b) (.string x) (keyI y) := by
  intro y
  by_cases h : y = b
  · subst h; rw [updF_same hw]; unfold valL keyI setF; simp
  · rw [updF_other h]; unfold valL keyI setF; simp [h]
theorem FM.congr {w : World} {b n : Nat} {f f' : Lit → Option Value} (h : FM w Tryd.prog 3 b n f) (he : ∀ y, f (keyI y) = f' (keyI y)) : FM w Tryd.prog 3 b n f' := by
  obtain ⟨D, h1, h2⟩ := h
  refine ⟨D, h1, fun key kl hk z => ?_⟩
  obtain ⟨x, rfl, rfl, _⟩ := Maps.keyOf_int_inv Tryd.underlying3 hk
  rw [h2 _ _ hk]
  have := he x
  unfold keyI at this
  rw [this]

/-- what an event of a run leaves as it was: blocks that are neither the run's three nor a row's; and whose the rows are behind it -/
structure Frm (B : Nat) (f f' : Lit → Option Value) (w w' : World) : Prop where
  keep : ∀ k, k < w.heap.size → k ≠ B → k ≠ B + 1 → k ≠ B + 2 → (∀ (b : Int) v, f (keyI b) = some v → v.ownBlock ≠ some k) → w'.heap[k]? = w.heap[k]?
  own : ∀ (b : Int) v', f' (keyI b) = some v' → ∀ g, v'.ownBlock = some g → w.heap.size ≤ g ∨ ∃ (b0 : Int) (v : Value), f (keyI b0) = some v ∧ v.ownBlock = some g
theorem Frm.pre {B : Nat} {f f' : Lit → Option Value} {w W1 w2 : World} (hb : Below w.heap.size w W1) (h : Frm B f f' W1 w2) : Frm B f f' w w2 :=
  ⟨fun k h1 h2 h3 h4 h5 => (h.keep k (by have := hb.size; omega) h2 h3 h4 h5).trans (hb.block k h1), fun b v hv g hg => (h.own b v hv g hg).imp (fun h9 => by have := hb.size; omega) id⟩

theorem add1_fin {B m cnt : Nat} {sl : Value} {st : St} {f : Lit → Option Value} {s : Nat} {b p q : Int} {v : ByteArray} (hs : s < m) (hm : m ≤ 12) (hw : (Lit.int .i64 b).wf = true) (hacc : atS st.acc s = ⟨p, q, v⟩)
    {W1 X wA wB : World} (h : StM W1 B m cnt sl st f) (hX : Below W1.heap.size W1 X) {gg cap : Nat} {hlt : gg < wA.heap.size}
    (hown : wA.ownsRow (B + 4) 33 3 (.slice (some ⟨gg, 0, none⟩) ((st.rep b).length + 1) cap) ((st.rep b).length + 1) ((st.rep b).flatMap repC ++ [.int .i64 s, .int .i64 q, .string v]))
    (hgA : X.grownBy wA ((f (keyI b)).getD (.slice none 0 0)).ownBlock) (hat : ((f (keyI b)).getD (.slice none 0 0)).ownBlock = some gg ∨ W1.heap.size ≤ gg)
    (hfm : FM wB Tryd.prog 3 (B + 1) (cnt + 1) (updF f (keyI b) (.slice (some ⟨gg, 0, none⟩) ((st.rep b).length + 1) cap))) (hgB : wA.grownBy wB (some (B + 1))) :
    StM (((wB.setCell ⟨B, s * 3, none⟩ (.int .i64 b)).setCell ⟨B, s * 3 + 1, none⟩ (.int .i64 q)).setCell ⟨B, s * 3 + 2, none⟩ (.string v)) B m (cnt + 1) sl (addP1 st ⟨1, s, b, ⟨#[]⟩⟩) (updF f (keyI b) (.slice (some ⟨gg, 0, none⟩) ((st.rep b).length + 1) cap)) ∧ Below B W1 (((wB.setCell ⟨B, s * 3, none⟩ (.int .i64 b)).setCell ⟨B, s * 3 + 1, none⟩ (.int .i64 q)).setCell ⟨B, s * 3 + 2, none⟩ (.string v))  ∧ Frm B f (updF f (keyI b) (.slice (some ⟨gg, 0, none⟩) ((st.rep b).length + 1) cap)) W1 (((wB.setCell ⟨B, s * 3, none⟩ (.int .i64 b)).setCell ⟨B, s * 3 + 1, none⟩ (.int .i64 q)).setCell ⟨B, s * 3 + 2, none⟩ (.string v)) := by
  have hB : B < W1.heap.size := (Array.getElem?_eq_some_iff.1 h.acc).1
  have hB3 : B + 3 < W1.heap.size := (Array.getElem?_eq_some_iff.1 h.run).1
  have hB1 := h.reps.lt
  have hB2 := h.vals.lt
  have hov : ∀ g, ((f (keyI b)).getD (.slice none 0 0)).ownBlock = some g → B + 4 ≤ g ∧ g < W1.heap.size := by
    intro g hg
    cases hf : f (keyI b) with
    | none => rw [hf] at hg; simp [Value.ownBlock] at hg
    | some u => rw [hf] at hg; exact h.rowLt hf hg
  have hgg : B + 4 ≤ gg := by
    rcases hat with h1 | h1
    · exact (hov gg h1).1
    · omega
  have hXs := hX.size
  -- a block below W1's size that is neither the row nor one of the maps is as it was
  have key : ∀ k, k < W1.heap.size → ((f (keyI b)).getD (.slice none 0 0)).ownBlock ≠ some k → k ≠ B + 1 → wB.heap[k]? = W1.heap[k]? := by
    intro k hk h1 h2
    rw [hgB.block k (by have := hgA.size; omega) (by simpa using h2), hgA.block k (by omega) (fun e => h1 e.symm), hX.block k hk]
  have kA : wB.heap[B]? = W1.heap[B]? := key B hB (fun e => by have := (hov B e).1; omega) (by omega)
  have kR : wB.heap[B + 3]? = W1.heap[B + 3]? := key (B + 3) hB3 (fun e => by have := (hov _ e).1; omega) (by omega)
  have kV : wB.heap[B + 2]? = W1.heap[B + 2]? := key (B + 2) hB2 (fun e => by have := (hov _ e).1; omega) (by omega)
  have hset : ∀ k, k ≠ B → (((wB.setCell ⟨B, s * 3, none⟩ (.int .i64 b)).setCell ⟨B, s * 3 + 1, none⟩ (.int .i64 q)).setCell ⟨B, s * 3 + 2, none⟩ (.string v)).heap[k]? = wB.heap[k]? := by
    intro k hk
    rw [Below.heap_setCell _ _ _ _ hk, Below.heap_setCell _ _ _ _ hk, Below.heap_setCell _ _ _ _ hk]
  constructor
  · refine ⟨?_, ?_, ?_, ?_, ?_, ?_, ?_, ?_⟩
    · have := heap_set_at (heap_set_at (heap_set_at (kA.trans h.acc) (s * 3) (.int .i64 b)) (s * 3 + 1) (.int .i64 q)) (s * 3 + 2) (.string v)
      rw [this]
      congr 2
      rw [set3A _ _ _ ⟨b, q, v⟩ rfl st.acc s (by rw [h.len]; exact hs)]
      unfold addP1
      simp only [Int.toNat_natCast, hacc]
    · show (st.acc.set _ _).length = m
      rw [List.length_set]; exact h.len
    · rw [hset _ (by omega), kR]; exact h.run
    · exact hfm.at (hset _ (by omega))
    · have e : valL (addP1 st ⟨1, s, b, ⟨#[]⟩⟩) = valL st := by funext y; cases y <;> rfl
      rw [e]
      exact (h.vals.at (by rw [hset _ (by omega), kV])).mono (by omega)
    · intro b'
      by_cases hbb : b' = b
      · subst hbb
        rw [updF_same hw]
        simp only
        have er : (addP1 st ⟨1, s, b', ⟨#[]⟩⟩).rep b' = st.rep b' ++ [⟨s, q, v⟩] := by
          unfold addP1 setF repOf; simp only [if_true, hacc]
        rw [er]
        have hown' : wA.ownsRow (B + 4) 33 3 (.slice (some ⟨gg, 0, none⟩) ((st.rep b').length + 1) cap) ((st.rep b' ++ [(⟨s, q, v⟩ : Rep)]).length) ((st.rep b' ++ [(⟨s, q, v⟩ : Rep)]).flatMap repC) := by
          have e1 : (st.rep b' ++ [(⟨s, q, v⟩ : Rep)]).length = (st.rep b').length + 1 := by simp
          have e2 : (st.rep b' ++ [(⟨s, q, v⟩ : Rep)]).flatMap repC = (st.rep b').flatMap repC ++ [.int .i64 s, .int .i64 q, .string v] := by simp [repC]
          rw [e1, e2]; exact hown
        refine rowK_at hown' fun g hg => ?_
        have : g = gg := by simp [Value.ownBlock] at hg; exact hg.symm
        subst this
        rw [hset _ (by omega), hgB.block _ hlt (by simp; omega)]
      · rw [updF_other hbb]
        have er : (addP1 st ⟨1, s, b, ⟨#[]⟩⟩).rep b' = st.rep b' := by
          unfold addP1 setF; simp only [if_neg hbb]
        rw [er]
        have h1 := h.rows b'
        cases hf : f (keyI b') with
        | none => rw [hf] at h1; exact h1
        | some u =>
          rw [hf] at h1
          refine rowK_at h1 fun g hg => ?_
          have h2 := h.rowLt hf hg
          rw [hset _ (by omega)]
          refine key g h2.2 (fun e => ?_) (by omega)
          cases hf2 : f (keyI b) with
          | none => rw [hf2] at e; simp [Value.ownBlock] at e
          | some u2 =>
            rw [hf2] at e
            exact h.apart b' b u u2 hbb hf hf2 g hg e
    · intro b1 b2 v1 v2 hne h1 h2 g hg1 hg2
      have fresh : ∀ b' u, b' ≠ b → f (keyI b') = some u → u.ownBlock ≠ some gg := by
        intro b' u hb' hu e
        have h3 := h.rowLt hu e
        rcases hat with h4 | h4
        · cases hf2 : f (keyI b) with
          | none => rw [hf2] at h4; simp [Value.ownBlock] at h4
          | some u2 => rw [hf2] at h4; exact h.apart b' b u u2 hb' hu hf2 gg e h4
        · omega
      by_cases e1 : b1 = b
      · subst e1
        rw [updF_same hw] at h1
        rw [updF_other (fun e => hne e.symm)] at h2
        cases h1
        have : g = gg := by simp [Value.ownBlock] at hg1; exact hg1.symm
        subst this
        exact fresh b2 v2 (fun e => hne e.symm) h2 hg2
      · rw [updF_other e1] at h1
        by_cases e2 : b2 = b
        · subst e2
          rw [updF_same hw] at h2
          cases h2
          have : g = gg := by simp [Value.ownBlock] at hg2; exact hg2.symm
          subst this
          exact fresh b1 v1 e1 h1 hg1
        · rw [updF_other e2] at h2
          exact h.apart b1 b2 v1 v2 hne h1 h2 g hg1 hg2
    · intro b' r hr
      unfold addP1 setF at hr
      simp only at hr
      split at hr
      · rename_i hbb
        rcases List.mem_append.1 hr with hr | hr
        · exact h.srv b r hr
        · rw [List.mem_singleton] at hr; subst hr; unfold repOf; simp only; omega
      · exact h.srv b' r hr
  · refine ⟨⟨?_, ?_, ?_, ?_, ?_⟩, ⟨fun k h1 h2 h3 h4 h5 => ?_, fun b' v' hv g hg => ?_⟩⟩
    · show wB.os = _; rw [hgB.os, hgA.os, hX.os]
    · show wB.tape = _; rw [hgB.tape, hgA.tape, hX.tape]
    · show wB.output = _; rw [hgB.output, hgA.output, hX.output]
    · have := hgA.size; have := hgB.size; simp [World.setCell]; omega
    · intro k hk
      rw [hset k (by omega)]
      exact key k (by omega) (fun e => by have := (hov k e).1; omega) (by omega)
    · rw [hset k h2]
      refine key k h1 (fun e => ?_) h3
      cases hf2 : f (keyI b) with
      | none => rw [hf2] at e; simp [Value.ownBlock] at e
      | some u2 => rw [hf2] at e; exact h5 b u2 hf2 e
    · by_cases hbb : b' = b
      · subst hbb
        rw [updF_same hw] at hv
        cases hv
        have : g = gg := by simp [Value.ownBlock] at hg; exact hg.symm
        subst this
        rcases hat with h1 | h1
        · cases hf2 : f (keyI b') with
          | none => rw [hf2] at h1; simp [Value.ownBlock] at h1
          | some u2 => rw [hf2] at h1; exact .inr ⟨b', u2, hf2, h1⟩
        · exact .inl h1
      · rw [updF_other hbb] at hv
        exact .inr ⟨b', v', hv, hg⟩

theorem add2_fin {B m cnt : Nat} {sl : Value} {st : St} {f : Lit → Option Value} {s : Nat} {b k : Int} {x : ByteArray} (hs : s < m) (hw : (Lit.int .i64 b).wf = true)
    {W1 wF : World} (h : StM W1 B m cnt sl st f)
    (hA : wF.heap[B]? = some (.cells ((((st.acc.flatMap accC).toArray.setIfInBounds (s * 3) (.int .i64 b)).setIfInBounds (s * 3 + 1) (.int .i64 b)).setIfInBounds (s * 3 + 2) (.string x)) 96 (0, 0)))
    (hV : FM wF Tryd.prog 3 (B + 2) (cnt + 1) (updF (valL st) (keyI b) (.string x)))
    (hk : ∀ j, j < W1.heap.size → j ≠ B → j ≠ B + 2 → wF.heap[j]? = W1.heap[j]?) (hsz : W1.heap.size ≤ wF.heap.size) (h1 : wF.os = W1.os) (h2 : wF.tape = W1.tape) (h3 : wF.output = W1.output) :
    StM wF B m (cnt + 1) sl (addP2 st ⟨k, s, b, x⟩) f ∧ Below B W1 wF ∧ Frm B f f W1 wF := by
  have hB : B < W1.heap.size := (Array.getElem?_eq_some_iff.1 h.acc).1
  have hB3 : B + 3 < W1.heap.size := (Array.getElem?_eq_some_iff.1 h.run).1
  have hB1 := h.reps.lt
  refine ⟨⟨?_, ?_, ?_, ?_, ?_, ?_, h.apart, h.srv⟩, ⟨h1, h2, h3, hsz, fun j hj => hk j (by omega) (by omega) (by omega)⟩, ⟨fun k h1 h2 _ h4 _ => hk k h1 h2 h4, fun b v hv g hg => .inr ⟨b, v, hv, hg⟩⟩⟩
  · rw [hA]
    congr 2
    rw [set3A _ _ _ ⟨b, b, x⟩ rfl st.acc s (by rw [h.len]; exact hs)]
    unfold addP2
    simp only [Int.toNat_natCast]
  · show (st.acc.set _ _).length = m
    rw [List.length_set]; exact h.len
  · rw [hk _ hB3 (by omega) (by omega)]; exact h.run
  · exact (h.reps.at (hk _ hB1 (by omega) (by omega))).mono (by omega)
  · exact hV.congr fun y => (valL_upd hw y).symm
  · intro b'
    have h4 := h.rows b'
    show match f (keyI b') with
      | none => st.rep b' = []
      | some v => wF.ownsRow (B + 4) 33 3 v (st.rep b').length ((st.rep b').flatMap repC)
    cases hf : f (keyI b') with
    | none => rw [hf] at h4; exact h4
    | some u =>
      rw [hf] at h4
      exact rowK_at h4 fun g hg => by
        have h5 := h.rowLt hf hg
        exact hk g h5.2 (by omega) (by omega)
/-- the cells of an acceptor -/
theorem acc_cells {w : World} {B : Nat} {l : List Acc} {s : Nat} (h : w.heap[B]? = some (.cells (l.flatMap accC).toArray 96 (0, 0))) (hs : s < l.length) :
    (w.cell? ⟨B, s * 3, none⟩ = some (.int .i64 (atS l s).prom) ∧ w.cell? ⟨B, s * 3 + 1, none⟩ = some (.int .i64 (atS l s).bal) ∧ w.cell? ⟨B, s * 3 + 2, none⟩ = some (.string (atS l s).val)) ∧ ∀ i, w.frozen? ⟨B, i, none⟩ = false := by
  have hx : l[s]? = some (atS l s) := by unfold atS; rw [Int.toNat_natCast, List.getD, List.getElem?_eq_getElem hs]; rfl
  have key : ∀ j, j < 3 → w.cell? ⟨B, s * 3 + j, none⟩ = (accC (atS l s))[j]? := by
    intro j hj
    rw [cell_of_row _ _ _ _ _ _ h]
    have := flat_at 3 accC accC_len l s j _ hx hj
    simpa using this
  refine ⟨⟨key 0 (by decide), key 1 (by decide), key 2 (by decide)⟩, fun i => by simp [World.frozen?, h]⟩

end Go.Proofs.YtgfjmplifmbmlaaDoor
