/- Texts laid together. Package broadcast: Clone, IndexFunc and DeleteFunc of nodes. Package broadcast: DeleteFunc of nodes. Package broadcast: honest, Delivered, Consistent. Package broadcast: Consistent. expr.holds, Eval; intersect.satisfied, support. The prover: add. The subsets with k members, by numbers with k bits. Plain. The subsets of a set: how many, and which; the length of a family. Plain, no program. The expression of a description, plain. No program. Drafts in memory; nodes whose lists lie where nothing is being built. Plain lemmas over the model, no program. Nodes that lie in a range of blocks: they read the same in every world that agrees there. Plain lemmas over the model, no program. Nodes under way: what finished nodes read lies in a set of blocks that nobody writes. Plain lemmas over the model, no program. -/
import Derived.Test.YtmjgdnpfgkpaoaaGreatDoorGC1
import Derived.Test.YtmjgdnpfgkpaoaaGreatDoorGC3
import Derived.Test.YtmjgdnpfgkpaoaaGreatDoorGC6
import Derived.Lib.SliceRun
import Derived.Deep.AppendLies
import Derived.Deep.RegionLaw
namespace Go.Proofs.YtmjgdnpfgkpaoaaGreatDoor
open Go.RowKit Go.Shelf

set_option maxRecDepth 100000 in
set_option maxHeartbeats 1000000 in
theorem cloneCas_c (l : List NodQ) (a : Option Addr) (n c : Nat) (w : World) (h : RdK 9 w a n c (l.flatMap nodQ)) (hb : n ≤ 1000000) :
    Calls Tryz.prog 78 #[.slice a n c] w fun e w' => ∃ v, e = .returned v ∧ w'.ownsRow w.heap.size 97 9 v n (l.flatMap nodQ) ∧ Below w.heap.size w w' := by
  cases a with
  | none =>
    have hc := h.nil rfl
    have hn : n = 0 := by have := h.le; omega
    subst hc hn
    have hl : l.flatMap nodQ = [] := List.eq_nil_of_length_eq_zero (by rw [← h.len])
    rw [hl]
    clear h hb hl
    have q : ∀ (w : World) (a : Option Addr) (n c n' c' : Nat), (binOp .eql 31 (.slice a n c) (.slice none n' c')).run Tryz.prog w = .ok (.bool a.isNone) w := fun w a n c n' c' => Lib.run_eql_slice_nil w _ _ a n c n' c' Tryz.underlying31
    go_enter Tryz.func78, Tryz.ntmps78
    go_wp2
    go_ret
    exact ⟨_, rfl, World.ownsRow_nil _ _ _ _, Below.refl _ _⟩
  | some ad =>
    have hh := Lib.hid h
    clear h
    have q : ∀ (w : World) (a : Option Addr) (n c n' c' : Nat), (binOp .eql 31 (.slice a n c) (.slice none n' c')).run Tryz.prog w = .ok (.bool a.isNone) w := fun w a n c n' c' => Lib.run_eql_slice_nil w _ _ a n c n' c' Tryz.underlying31
    go_enter Tryz.func78, Tryz.ntmps78
    go_wp2_with (at_builtin; go_must (refine wpList_appsK 9 _ _ 31 128 (.agg #[.int .i64 0, .string ⟨#[]⟩, .bool false, .string ⟨#[]⟩, .bool false, .string ⟨#[]⟩, .bool false, .slice none 0 0, .slice none 0 0]) _ _ _ (l.flatMap nodQ) Tryz.underlying31 Tryz.infoCas rfl (by decide) (World.ownsRow_made w #[] 0 (Nat.le_refl _) (Nat.zero_le _) rfl) ((Below.refl _ w).alloc (Nat.le_refl _) _) (Nat.le_refl _) (hh.out.below ((Below.refl _ w).alloc (Nat.le_refl _) _)) (nod_one l) rfl rfl rfl rfl (by unfold maxLen; simp; omega) (by simp; omega) ?_))
    intro v' w1 hown1 hb1 _
    have hown2 : w1.ownsRow w.heap.size 97 9 v' n (l.flatMap nodQ) := by simpa using hown1
    clear hb hown1
    go_wp2
    go_ret
    exact ⟨_, rfl, hown2, hb1⟩

def nodA (x : NodQ) : Value := .agg #[.int .i64 x.1.id, .string x.1.echoed, .bool x.1.hasE, .string x.1.readied, .bool x.1.hasR, .string x.1.delivered, .bool x.1.hasD, slV x.2.1, slV x.2.2]
theorem RdK.open9 {w : World} {b o n c : Nat} {l : List NodQ} (h : RdK 9 w (some ⟨b, o, none⟩) n c (l.flatMap nodQ)) {k : Nat} {x : NodQ} (hx : l[k]? = some x) (hn : 0 < n) :
    w.cell? ⟨b, o + k * 9, none⟩ = some (.int .i64 x.1.id) ∧ w.cell? ⟨b, o + k * 9 + 1, none⟩ = some (.string x.1.echoed) ∧ w.cell? ⟨b, o + k * 9 + 2, none⟩ = some (.bool x.1.hasE) ∧ w.cell? ⟨b, o + k * 9 + 3, none⟩ = some (.string x.1.readied) ∧ w.cell? ⟨b, o + k * 9 + 4, none⟩ = some (.bool x.1.hasR) ∧ w.cell? ⟨b, o + k * 9 + 5, none⟩ = some (.string x.1.delivered) ∧ w.cell? ⟨b, o + k * 9 + 6, none⟩ = some (.bool x.1.hasD) ∧ w.cell? ⟨b, o + k * 9 + 7, none⟩ = some (.slice x.2.1.1 x.2.1.2.1 x.2.1.2.2) ∧ w.cell? ⟨b, o + k * 9 + 8, none⟩ = some (.slice x.2.2.1 x.2.2.2.1 x.2.2.2.2) := by
  obtain ⟨b', o', e, hc⟩ := RdK.cells h nodQ_len hn
  cases e
  exact ⟨hc k x hx 0 (by omega), hc k x hx 1 (by omega), hc k x hx 2 (by omega), hc k x hx 3 (by omega), hc k x hx 4 (by omega), hc k x hx 5 (by omega), hc k x hx 6 (by omega), hc k x hx 7 (by omega), hc k x hx 8 (by omega)⟩

set_option maxRecDepth 100000 in
set_option maxHeartbeats 2000000 in
theorem idxCas_c (g : Nat) (lb : Array Value) (eg : ∀ args w, (callFunc g args).run Tryz.prog w = .ok (.enter g args) w) (p : NodQ → Bool) (l : List NodQ) (a : Option Addr) (n c : Nat) (w : World)
    (h : RdK 9 w a n c (l.flatMap nodQ)) (hp : PrL Tryz.prog g lb nodA p l w) :
    Calls Tryz.prog 109 #[.slice a n c, .func (.func g) #[] lb] w fun e w' => e = .returned (.int .i64 (idxG p l)) ∧ Below w.heap.size w w' := by
  have hnl : l.length = n := by have := h.len; rw [flat_len 9 nodQ nodQ_len] at this; omega
  have hm := h.max
  have hle := h.le
  unfold maxLen at hm
  have HP := Lib.hid hp
  have HR := Lib.hid h
  have HN := Lib.hid hnl
  clear hp h hnl
  go_enter Tryz.func109, Tryz.ntmps109
  go_wp2_with fail
  go_loopw [8] (fun i wr => ∃ k : Nat, k ≤ n ∧ i = .int .i64 k ∧ Hid (∀ (j : Nat) y, j < k → l[j]? = some y → p y = false) ∧ Below w.heap.size w wr) (fun i _ => n - (intOf i).toNat)
  case atStart => exact ⟨0, Nat.zero_le _, rfl, Lib.hid (fun j y hj => by omega), Below.refl _ _⟩
  case round =>
    obtain ⟨k, hk, rfl, hno, hb⟩ := hrel
    by_cases hlt : k < n
    · obtain ⟨b, o, ha, _⟩ := (HR.out.below hb).at' (by omega)
      obtain ⟨x, hx⟩ : ∃ x, l[k]? = some x := ⟨_, List.getElem?_eq_getElem (by have := HN.out; omega)⟩
      subst ha
      obtain ⟨q0, q1, q2, q3, q4, q5, q6, q7, q8⟩ := (HR.out.below hb).open9 hx (by omega)
      have HF : Hid (Calls Tryz.prog g (#[nodA x] ++ lb) wr fun e w' => e = .returned (.bool (p x)) ∧ Below wr.heap.size wr w') := HP.out wr x (List.mem_of_getElem? hx) hb
      unfold nodA slV at HF
      have HX := Lib.hid hx
      clear hx
      cases hq : p x
      · have hno' : Hid (∀ (j : Nat) y, j < k + 1 → l[j]? = some y → p y = false) := Lib.hid (fun j y hj hy => by
          by_cases h1 : j < k
          · exact hno.out j y h1 hy
          · obtain rfl : j = k := by omega
            rw [HX.out] at hy; cases hy; exact hq)
        rw [hq] at HF
        clear hq hno
        go_wp2_with (go_at_fn g; refine HF.out.mono ?_; rintro e w' ⟨rfl, hbw⟩)
        go_roundw
        case rel => exact ⟨k + 1, by omega, by go_num, hno', Below.next hb hbw⟩
        case measure => simp [intOf]; omega
      · have hI : Hid (idxG p l = k) := idxG_hit HX.out hno.out hq
        rw [hq] at HF
        clear hq hno
        go_wp2_with (go_at_fn g; refine HF.out.mono ?_; rintro e w' ⟨rfl, hbw⟩)
        go_ret
        exact ⟨ret_int hI.out.symm, Below.next hb hbw⟩
    · have hI : Hid (idxG p l = -1) := idxG_none (fun j y hy => hno.out j y (by have := (List.getElem?_eq_some_iff.1 hy).1; have := HN.out; omega) hy)
      clear hno
      go_wp2_with fail
      go_ret
      exact ⟨ret_int hI.out.symm, hb⟩
end Go.Proofs.YtmjgdnpfgkpaoaaGreatDoor
namespace Go.Proofs.YtmjgdnpfgkpaoaaGreatDoor
open Go.RowKit Go.Shelf

/-- a closure that reads one block alone -/
def PrX {α : Type} (P : Program) (g : Nat) (lb : Array Value) (enc : α → Value) (p : α → Bool) (l : List α) (X : Nat) (ob : Obj) : Prop :=
  ∀ W x, x ∈ l → W.heap[X]? = some ob → Calls P g (#[enc x] ++ lb) W fun e w' => e = .returned (.bool (p x)) ∧ Below W.heap.size W w'
theorem own_cut {w : World} {B n g c i : Nat} {L : List NodQ} {Z : List Value} (h : w.ownsRow B 97 9 (.slice (some ⟨g, 0, none⟩) n c) n (L.flatMap nodQ)) (hi : i ≤ n) (hZ : Z.length = (n - i) * 9) :
    (w.setCells g (i * 9) Z).ownsRow B 97 9 (.slice (some ⟨g, 0, none⟩) i c) (L.take i).length ((L.take i).flatMap nodQ) := by
  have hL : L.length = n := by have := h.1; rw [flat_len 9 nodQ nodQ_len] at this; omega
  refine ⟨by rw [flat_len 9 nodQ nodQ_len], ?_⟩
  rcases h.2 with ⟨h1, _⟩ | ⟨g', cap, cur, hv, hb, hg, hle, hm, hs, ht⟩
  · cases h1
  · cases hv
    obtain ⟨cs', h1, h2⟩ := heap_setCells_at Z (i * 9) w g cur _ _ hg
    have hlen : i * 9 + Z.length ≤ cur.toList.length := by rw [hZ, Array.length_toList, hs]; omega
    rw [putL_eq _ _ _ hlen] at h2
    have hl : (L.take i).length = i := by rw [List.length_take]; omega
    refine .inr ⟨g, c, cs', by rw [hl], hb, h1, by omega, hm, ?_, ?_⟩
    · have h3 := congrArg List.length h2
      rw [Array.length_toList] at h3
      rw [h3]
      simp only [List.length_append, List.length_take, List.length_drop, Array.length_toList, hs] at hlen ⊢; omega
    · rw [hl, h2, List.append_assoc, List.take_append_of_le_length (by rw [List.length_take]; omega), List.take_take, Nat.min_self, ← flat_takeQ 9 nodQ nodQ_len, ← ht, List.take_take]
      congr 1; omega
theorem Tryz.zeroCas (w : World) : (zeroValue 97).run Tryz.prog w = .ok (.agg #[.int .i64 0, .string ⟨#[]⟩, .bool false, .string ⟨#[]⟩, .bool false, .string ⟨#[]⟩, .bool false, .slice none 0 0, .slice none 0 0]) w := by
  have h : Tryz.t97.zero = some (.agg #[.int .i64 0, .string ⟨#[]⟩, .bool false, .string ⟨#[]⟩, .bool false, .string ⟨#[]⟩, .bool false, .slice none 0 0, .slice none 0 0]) := by kernel_rfl
  simp [zeroValue]
  rw [h]; rfl

set_option maxRecDepth 100000 in
set_option maxHeartbeats 4000000 in
theorem delCas_c (fn : Nat) (lb : Array Value) (eg : ∀ args w, (callFunc fn args).run Tryz.prog w = .ok (.enter fn args) w) (p : NodQ → Bool) (l : List NodQ) (X : Nat) (ob : Obj) (n : Nat) (v : Value) (w0 w : World) (h0 : Below w0.heap.size w0 w) (hX : w.heap[X]? = some ob) (hXv : v.ownBlock ≠ some X)
    (h : w.ownsRow w0.heap.size 97 9 v n (l.flatMap nodQ)) (hp : PrX Tryz.prog fn lb nodA p l X ob) :
    Calls Tryz.prog 77 #[v, .func (.func fn) #[] lb] w fun e w' => ∃ v', e = .returned v' ∧ w'.ownsRow w0.heap.size 97 9 v' (l.filter fun x => !p x).length ((l.filter fun x => !p x).flatMap nodQ) ∧ Below w0.heap.size w0 w' := by
  obtain ⟨a, c, rfl, hr⟩ := rdK_of_row h
  have hl : l.length = n := by have := h.1; rw [flat_len 9 nodQ nodQ_len] at this; omega
  have HIX := Lib.hid (idxCas_c fn lb eg p l a n c w hr (fun W x hx hb => hp W x hx (heap_below hb hX)))
  have HH := Lib.hid h
  have HX := Lib.hid hX
  have HP := Lib.hid hp
  have H0 := Lib.hid h0
  have HL := Lib.hid hl
  have HXV := Lib.hid hXv
  have hcn := hr.le
  have hcm := hr.max
  unfold maxLen at hcm
  clear h hX hp h0 hr hXv
  by_cases hany : l.any p = true
  · obtain ⟨k, hkl⟩ : ∃ k, l.findIdx p = k := ⟨_, rfl⟩
    have hkn : k < l.length := by rw [← hkl]; exact List.findIdx_lt_length_of_exists (by simpa using hany)
    have hI : idxG p l = k := by unfold idxG; rw [hany, hkl]; rfl
    have hpk : p l[k] = true := by subst hkl; exact List.findIdx_getElem
    have hbef : ∀ i, (hi : i < k) → p (l[i]'(by omega)) = false := fun i hi => by
      subst hkl
      have := List.not_of_lt_findIdx hi
      simpa using this
    have hpre : (l.take (k + 1)).filter (fun x => !p x) = l.take k := by
      rw [List.take_add_one, List.getElem?_eq_getElem hkn, List.filter_append]
      simp only [Option.toList_some]
      rw [show ([l[k]] : List NodQ).filter (fun x => !p x) = [] by simp [hpk], List.append_nil]
      rw [List.filter_eq_self]
      intro x hx
      obtain ⟨i, hi, rfl⟩ := List.getElem_of_mem hx
      rw [List.length_take] at hi
      rw [List.getElem_take]
      rw [hbef i (by omega)]; rfl
    rw [hI] at HIX
    have HPRE := Lib.hid hpre
    clear hI hkl hpk hbef hany hpre
    rcases HH.out.2 with ⟨hv, hn0⟩ | ⟨g, cap, cur, hv, hgb, hblk, hle, hmx, hsz, htk⟩
    · omega
    cases hv
    have hXg : X ≠ g := fun e => HXV.out (by rw [e]; rfl)
    have hkn2 : k < n := by omega
    clear hblk hle hmx hsz htk
    go_enter Tryz.func77, Tryz.ntmps77
    go_wp2_with fail
    refine HIX.out.mono ?_
    rintro e w1 ⟨rfl, hb1⟩
    have HX1 := Lib.hid (heap_below hb1 HX.out)
    have HR1 := Lib.hid (rowK_below HH.out hb1)
    have HB1 := Lib.hid (Below.next H0.out hb1)
    have hkm1 : ((k : Int) == -1) = false := by simp
    have hwr : IntKind.i64.wrap ((k : Int) + 1) = (k : Int) + 1 := by rw [IntKind.wrap_i64]; omega
    clear hb1 HIX
    go_wp2_with fail
    go_loopw [5, 6] (fun vi vj wr => ∃ i j : Nat, i < j ∧ j ≤ n ∧ vi = .int .i64 i ∧ vj = .int .i64 j ∧ Hid (∃ L : List NodQ, L.length = n ∧ L.take i = (l.take j).filter (fun x => !p x) ∧ L.drop j = l.drop j ∧ wr.ownsRow w0.heap.size 97 9 (.slice (some ⟨g, 0, none⟩) n c) n (L.flatMap nodQ) ∧ wr.heap[X]? = some ob ∧ Below w0.heap.size w0 wr)) (fun _ vj _ => n - (intOf vj).toNat)
    case atStart => exact ⟨k, k + 1, by omega, by omega, rfl, by go_num, Lib.hid ⟨l, HL.out, HPRE.out.symm, rfl, HR1.out, HX1.out, HB1.out⟩⟩
    case round =>
      obtain ⟨i, j, hij, hjn, rfl, rfl, hin⟩ := hrel
      obtain ⟨L, hLn, hLt, hLd, hrow, hXr, hbr⟩ := hin.out
      clear hin
      by_cases hlt : j < n
      · obtain ⟨x, hx⟩ : ∃ x, l[j]? = some x := ⟨_, List.getElem?_eq_getElem (by have := HL.out; omega)⟩
        have hxL : L[j]? = some x := by
          have h1 : (L.drop j)[0]? = (l.drop j)[0]? := by rw [hLd]
          rw [List.getElem?_drop, List.getElem?_drop, Nat.add_zero] at h1
          rw [h1]; exact hx
        obtain ⟨y, hy⟩ : ∃ y, L[i]? = some y := ⟨_, List.getElem?_eq_getElem (by omega)⟩
        obtain ⟨_, _, e, hrd⟩ := rdK_of_row hrow
        cases e
        obtain ⟨q0, q1, q2, q3, q4, q5, q6, q7, q8⟩ := hrd.open9 hxL (by omega)
        rw [Nat.zero_add] at q0 q1 q2 q3 q4 q5 q6 q7 q8
        obtain ⟨W7, hW7⟩ : ∃ W7, W7 = wr.alloc (.cells #[.int .i64 x.1.id, .string x.1.echoed, .bool x.1.hasE, .string x.1.readied, .bool x.1.hasR, .string x.1.delivered, .bool x.1.hasD, .slice x.2.1.1 x.2.1.2.1 x.2.1.2.2, .slice x.2.2.1 x.2.2.2.1 x.2.2.2.2] 97) := ⟨_, rfl⟩
        have hb7 : Below wr.heap.size wr W7 := by rw [hW7]; exact (Below.refl _ wr).alloc (Nat.le_refl _) _
        have HG7 : Hid (W7.heap[wr.heap.size]? = some (.cells #[.int .i64 x.1.id, .string x.1.echoed, .bool x.1.hasE, .string x.1.readied, .bool x.1.hasR, .string x.1.delivered, .bool x.1.hasD, .slice x.2.1.1 x.2.1.2.1 x.2.1.2.2, .slice x.2.2.1 x.2.2.2.1 x.2.2.2.2] 97 (0, 0))) := Lib.hid (by rw [hW7]; exact heap_alloc_new _ _)
        have HX7 := Lib.hid (heap_below hb7 hXr)
        have HR7 := Lib.hid (rowK_below hrow hb7)
        have HB7 := Lib.hid (Below.next hbr hb7)
        have HF : Hid (Calls Tryz.prog fn (#[nodA x] ++ lb) W7 fun e w' => e = .returned (.bool (p x)) ∧ Below W7.heap.size W7 w') := HP.out W7 x (List.mem_of_getElem? hx) HX7.out
        unfold nodA slV at HF
        have hstep : (l.take (j + 1)).filter (fun x => !p x) = (l.take j).filter (fun x => !p x) ++ (if p x then [] else [x]) := by
          rw [List.take_add_one, hx, List.filter_append]
          simp only [Option.toList_some]
          cases hq : p x <;> simp [hq]
        have hds : ∀ M : List NodQ, M.drop j = l.drop j → M.drop (j + 1) = l.drop (j + 1) := fun M hM => by
          rw [← List.drop_drop, ← List.drop_drop, hM]
        have HST := Lib.hid hstep
        have HDS := Lib.hid hds
        have HLT := Lib.hid hLt
        have HLD := Lib.hid hLd
        have HLN := Lib.hid hLn
        have HY := Lib.hid hy
        clear hb7 hrow hXr hbr hrd hstep hds hLt hLd hLn hy hx hxL
        go_upto_region 8 with fail
        rw [← hW7]
        clear hW7 q0 q1 q2 q3 q4 q5 q6 q7 q8
        obtain ⟨b0, b1, b2, b3, b4, b5, b6, b7, b8, _⟩ := open9 HG7.out
        cases hq : p x
        · rw [hq] at HF HST
          go_wp2_with fail
          go_at_fn fn
          refine HF.out.mono ?_
          rintro e w8 ⟨rfl, hb8⟩
          have HG8 := Lib.hid (heap_below hb8 HG7.out)
          have HX8 := Lib.hid (heap_below hb8 HX7.out)
          have HR8 := Lib.hid (rowK_below HR7.out hb8)
          have HB8 := Lib.hid (Below.next HB7.out hb8)
          clear hb8 b0 b1 b2 b3 b4 b5 b6 b7 b8 HF
          obtain ⟨b0, b1, b2, b3, b4, b5, b6, b7, b8, _⟩ := open9 HG8.out
          obtain ⟨_, _, e, hrd⟩ := rdK_of_row HR8.out
          cases e
          obtain ⟨q0, q1, q2, q3, q4, q5, q6, q7, q8⟩ := hrd.open9 HY.out (by omega)
          rw [Nat.zero_add] at q0 q1 q2 q3 q4 q5 q6 q7 q8
          obtain ⟨cs, hgc⟩ := own_type HR8.out (g := g) rfl
          have f0 := frozenB hgc (i * 9)
          have f1 := frozenB hgc (i * 9 + 1)
          have f2 := frozenB hgc (i * 9 + 2)
          have f3 := frozenB hgc (i * 9 + 3)
          have f4 := frozenB hgc (i * 9 + 4)
          have f5 := frozenB hgc (i * 9 + 5)
          have f6 := frozenB hgc (i * 9 + 6)
          have f7 := frozenB hgc (i * 9 + 7)
          have f8 := frozenB hgc (i * 9 + 8)
          have hin2 : i < n := by omega
          clear hrd hgc
          go_wp2_with fail
          go_roundw
          case rel =>
            have hset := own_set nodQ_len HR8.out HLN.out i hin2 x
            refine ⟨i + 1, j + 1, by omega, by omega, by go_num, by go_num, Lib.hid ⟨L.set i x, by rw [List.length_set]; exact HLN.out, ?b1, ?b2, hset, ?b3, ?b4⟩⟩
            case b1 =>
              rw [HST.out, ← HLT.out, List.take_add_one, List.getElem?_set_self (by rw [HLN.out]; omega), List.take_set_of_le (Nat.le_refl _)]
              rfl
            case b2 =>
              refine HDS.out _ ?_
              rw [List.drop_set_of_lt hij]; exact HLD.out
            case b3 => exact (World.heap_setCells_other w8 g (i * 9) (nodQ x) (Array.getElem?_eq_some_iff.1 HX8.out).1 hXg).trans HX8.out
            case b4 =>
              have hgr := grown_setCells w8 g (i * 9) (nodQ x)
              exact ⟨hgr.os.trans HB8.out.os, hgr.tape.trans HB8.out.tape, hgr.output.trans HB8.out.output, Nat.le_trans HB8.out.size hgr.size, fun z hz => (World.heap_setCells_other w8 g (i * 9) (nodQ x) (Nat.lt_of_lt_of_le hz HB8.out.size) (by omega)).trans (HB8.out.block z hz)⟩
          case measure => simp [intOf]; omega
        · rw [hq] at HF HST
          go_wp2_with fail
          go_at_fn fn
          refine HF.out.mono ?_
          rintro e w8 ⟨rfl, hb8⟩
          have HX8 := Lib.hid (heap_below hb8 HX7.out)
          have HR8 := Lib.hid (rowK_below HR7.out hb8)
          have HB8 := Lib.hid (Below.next HB7.out hb8)
          clear hb8 b0 b1 b2 b3 b4 b5 b6 b7 b8 HF
          go_wp2_with fail
          go_roundw
          case rel =>
            refine ⟨i, j + 1, by omega, by omega, rfl, by go_num, Lib.hid ⟨L, HLN.out, ?_, HDS.out _ HLD.out, HR8.out, HX8.out, HB8.out⟩⟩
            rw [HST.out, ← HLT.out]; simp
          case measure => simp [intOf]; omega
      · obtain rfl : j = n := by omega
        have hin2 : i < j := hij
        have hall : L.take i = l.filter (fun x => !p x) := by rw [hLt, List.take_of_length_le (by rw [HL.out]; exact Nat.le_refl _)]
        obtain ⟨cs, hgc⟩ := own_type hrow (g := g) rfl
        have hsz : cs.size = c * 9 := by
          rcases hrow.2 with ⟨hv, _⟩ | ⟨g', cap', cur', hv, _, hg', _, _, hs', _⟩
          · cases hv
          · cases hv; rw [hgc] at hg'; cases hg'; exact hs'
        have hcr : ∀ ty, (Builtin.clear_ #[31] ty #[.slice (some ⟨g, i * 9, none⟩) (j - i) (c - i)]).run Tryz.prog wr = .ok (.tuple #[]) (wr.setCells g (i * 9) (Builtin.zeroCells #[.int .i64 0, .string ⟨#[]⟩, .bool false, .string ⟨#[]⟩, .bool false, .string ⟨#[]⟩, .bool false, .slice none 0 0, .slice none 0 0] (j - i)).toList) := fun ty =>
          run_clear_k wr _ _ ty _ 9 Tryz.underlying31 Tryz.zeroCas rfl (by intro v hv; simp [Value.cells] at hv; rcases hv with rfl | rfl | rfl | rfl | rfl | rfl | rfl | rfl <;> rfl) (by omega) g _ _ _ (by omega) (fun z hz => (cells_there hgc (by omega)).1) (fun z hz => (cells_there hgc (by omega)).2)
        have hzl : (Builtin.zeroCells #[.int .i64 0, .string ⟨#[]⟩, .bool false, .string ⟨#[]⟩, .bool false, .string ⟨#[]⟩, .bool false, .slice none 0 0, .slice none 0 0] (j - i)).toList.length = (j - i) * 9 := by simp [Builtin.zeroCells]
        obtain ⟨Z, hZ⟩ : ∃ Z, (Builtin.zeroCells #[.int .i64 0, .string ⟨#[]⟩, .bool false, .string ⟨#[]⟩, .bool false, .string ⟨#[]⟩, .bool false, .slice none 0 0, .slice none 0 0] (j - i)).toList = Z := ⟨_, rfl⟩
        rw [hZ] at hcr hzl
        have hcut := own_cut hrow (i := i) (by omega) hzl
        rw [hall] at hcut
        have hgr := grown_setCells wr g (i * 9) Z
        have HBF : Hid (Below w0.heap.size w0 (wr.setCells g (i * 9) Z)) := Lib.hid ⟨hgr.os.trans hbr.os, hgr.tape.trans hbr.tape, hgr.output.trans hbr.output, Nat.le_trans hbr.size hgr.size, fun z hz => (World.heap_setCells_other wr g (i * 9) Z (Nat.lt_of_lt_of_le hz hbr.size) (by omega)).trans (hbr.block z hz)⟩
        have HCUT := Lib.hid hcut
        have hci : ¬ c = i := by omega
        clear hrow hbr hXr hLt hLd hLn hgc hsz hzl hZ hcut hgr hall
        go_wp2_with fail
        go_ret
        exact ⟨_, rfl, HCUT.out, HBF.out⟩
  · have hno : l.any p = false := by simpa using hany
    have hI : idxG p l = -1 := by unfold idxG; rw [hno]; rfl
    have hall : l.filter (fun x => !p x) = l := by
      rw [List.filter_eq_self]
      intro x hx
      have := List.any_eq_false.1 hno x hx
      simpa using this
    rw [hI] at HIX
    have HALL := Lib.hid hall
    clear hI hno hall hany
    go_enter Tryz.func77, Tryz.ntmps77
    go_wp2_with fail
    refine HIX.out.mono ?_
    rintro e w1 ⟨rfl, hb1⟩
    have HR1 := Lib.hid (rowK_below HH.out hb1)
    have HB1 := Lib.hid (Below.next H0.out hb1)
    clear hb1 HIX
    go_wp2_with fail
    go_ret
    exact ⟨_, rfl, by rw [HALL.out, HL.out]; exact HR1.out, HB1.out⟩
end Go.Proofs.YtmjgdnpfgkpaoaaGreatDoor
namespace Go.Proofs.YtmjgdnpfgkpaoaaGreatDoor
open Go.RowKit Go.Shelf

def byzB (byz : BitVec 16) (p : NodQ) : Bool := hasB byz p.1.id.toNat
set_option maxRecDepth 100000 in
set_option maxHeartbeats 1000000 in
theorem honest1_at (byz : BitVec 16) (n src : Int) (vN vF : Value) (X : Nat) (l : List NodQ) (hl : ∀ p ∈ l, ∃ i : Nat, p.1.id = i ∧ i < 16) :
    PrX Tryz.prog 79 #[.pointer (some ⟨X, 0, none⟩)] nodA (byzB byz) l X (.cells #[.int .i64 n, .int .u16 (U byz), .int .i64 src, vN, vF] 34 (0, 0)) := fun W x hx hX => by
  obtain ⟨⟨xid, xed, xhe, xrd, xhr, xdl, xhd, xec, xrs⟩, ⟨ae, ne, ce⟩, ⟨ar, nr, cr⟩⟩ := x
  obtain ⟨i, h1, hi⟩ := hl _ hx
  simp only at h1
  subst h1
  unfold nodA byzB slV
  simp only [Int.toNat_natCast]
  have c1 : ∀ ob, (W.alloc ob).cell? ⟨X, 1, none⟩ = some (.int .u16 (U byz)) := fun ob => cell_of_row _ _ 1 _ _ _ (heap_alloc_at hX ob)
  have i0 : (0 : Int) ≤ (i : Int) := by omega
  have i16 : (i : Int) < 16 := by omega
  clear hx hX hl
  go_enter Tryz.func79, Tryz.ntmps79
  go_wp2_with fail
  go_ret
  exact ⟨rfl, (Below.refl _ _).alloc (Nat.le_refl _) _⟩

set_option maxRecDepth 100000 in
set_option maxHeartbeats 1000000 in
theorem honest_c (byz : BitVec 16) (m src : Int) (a : Option Addr) (n c : Nat) (vF : Value) (hvF : ∃ a n c, vF = .slice a n c) (ns : List NodQ) (hl : ∀ p ∈ ns, ∃ i : Nat, p.1.id = i ∧ i < 16) (w : World) (h : RdK 9 w a n c (ns.flatMap nodQ)) (hn : n ≤ 1000) :
    Calls Tryz.prog 43 #[.agg #[.int .i64 m, .int .u16 (U byz), .int .i64 src, .slice a n c, vF]] w fun e w' => ∃ v, e = .returned v ∧ w'.ownsRow w.heap.size 97 9 v (ns.filter fun x => !byzB byz x).length ((ns.filter fun x => !byzB byz x).flatMap nodQ) ∧ Below w.heap.size w w' := by
  obtain ⟨fa, fn, fc, rfl⟩ := hvF
  obtain ⟨W, hW⟩ : ∃ W, W = w.alloc (.cells #[.int .i64 m, .int .u16 (U byz), .int .i64 src, .slice a n c, .slice fa fn fc] 34) := ⟨_, rfl⟩
  have hbW : Below w.heap.size w W := by rw [hW]; exact (Below.refl _ w).alloc (Nat.le_refl _) _
  have hX : W.heap[w.heap.size]? = some (.cells #[.int .i64 m, .int .u16 (U byz), .int .i64 src, .slice a n c, .slice fa fn fc] 34 (0, 0)) := by rw [hW]; exact heap_alloc_new _ _
  have HC := Lib.hid (cloneCas_c ns a n c W (h.below hbW) (by omega))
  have HX := Lib.hid hX
  have HBW := Lib.hid hbW
  have HHL := Lib.hid hl
  have x3 := cell_of_row _ _ 3 _ _ _ hX
  have hsW : W.heap.size = w.heap.size + 1 := by rw [hW]; simp
  have HSW := Lib.hid hsW
  clear h hbW hX hl hsW
  go_enter Tryz.func43, Tryz.ntmps43
  go_upto_region 1 with fail
  rw [← hW]
  clear hW
  go_wp2_with fail
  refine HC.out.mono ?_
  rintro e w1 ⟨v1, rfl, hown, hb1⟩
  have HX1 := Lib.hid (heap_below hb1 HX.out)
  have HB1 := Lib.hid (Below.next HBW.out hb1)
  have hne : v1.ownBlock ≠ some w.heap.size := fun e => by have := (hown.lt _ e).1; have := HSW.out; omega
  have hown2 := rowK_mono hown (B' := w.heap.size) (by have := HSW.out; omega)
  have HD := Lib.hid (delCas_c 79 #[.pointer (some ⟨w.heap.size, 0, none⟩)] (enters_of Tryz.func79 (by kernel_rfl) rfl) (byzB byz) ns w.heap.size _ n v1 w w1 HB1.out HX1.out hne hown2 (honest1_at byz m src _ _ w.heap.size ns HHL.out))
  obtain ⟨a1, c1, rfl, _⟩ := rdK_of_row hown
  clear hown hown2 hb1 hne HC x3
  go_wp2_with fail
  refine HD.out.mono ?_
  rintro e w2 ⟨v2, rfl, hrow, hb2⟩
  obtain ⟨a2, c2, rfl, _⟩ := rdK_of_row hrow
  have HR := Lib.hid hrow
  have HB2 := Lib.hid hb2
  clear hrow hb2 HD
  go_wp2_with fail
  go_ret
  exact ⟨_, rfl, HR.out, HB2.out⟩

/-- what correct nodes have delivered -/
def dlvS (byz : BitVec 16) (ns : List NodQ) : List ByteArray := ((ns.filter fun x => !byzB byz x).filter fun x => x.1.hasD).map fun x => x.1.delivered
theorem Tryz.infoStrQ : (Tryz.prog.info? 9).map (fun i => (i.zero, i.size, i.bytes)) = some (some (.string ⟨#[]⟩), 1, 16) := by kernel_rfl

set_option maxRecDepth 100000 in
set_option maxHeartbeats 2000000 in
theorem delivered_c (byz : BitVec 16) (m src : Int) (a : Option Addr) (n c : Nat) (vF : Value) (hvF : ∃ a n c, vF = .slice a n c) (ns : List NodQ) (hl : ∀ p ∈ ns, ∃ i : Nat, p.1.id = i ∧ i < 16) (w : World) (h : RdK 9 w a n c (ns.flatMap nodQ)) (hn : n ≤ 1000) :
    Calls Tryz.prog 12 #[.agg #[.int .i64 m, .int .u16 (U byz), .int .i64 src, .slice a n c, vF]] w fun e w' => ∃ v, e = .returned v ∧ w'.ownsRow w.heap.size 9 1 v (dlvS byz ns).length ((dlvS byz ns).map Value.string) ∧ Below w.heap.size w w' := by
  obtain ⟨W, hW⟩ : ∃ W, W = w.alloc (.cells #[.int .i64 m, .int .u16 (U byz), .int .i64 src, .slice a n c, vF] 34) := ⟨_, rfl⟩
  have hbW : Below w.heap.size w W := by rw [hW]; exact (Below.refl _ w).alloc (Nat.le_refl _) _
  have hX : W.heap[w.heap.size]? = some (.cells #[.int .i64 m, .int .u16 (U byz), .int .i64 src, .slice a n c, vF] 34 (0, 0)) := by rw [hW]; exact heap_alloc_new _ _
  have hnl : ns.length = n := by have := h.len; rw [flat_len 9 nodQ nodQ_len] at this; omega
  have HC := Lib.hid (honest_c byz m src a n c vF hvF ns hl W (h.below hbW) hn)
  obtain ⟨fa, fn, fc, rfl⟩ := hvF
  obtain ⟨hs, hhs⟩ : ∃ hs, (ns.filter fun x => !byzB byz x) = hs := ⟨_, rfl⟩
  rw [hhs] at HC
  have hlen : hs.length ≤ 1000 := by rw [← hhs]; exact Nat.le_trans (List.length_filter_le _ _) (by omega)
  have HDL : Hid (dlvS byz ns = (hs.filter fun x => x.1.hasD).map fun x => x.1.delivered) := Lib.hid (by unfold dlvS; rw [hhs])
  have x0 := cell_of_row _ _ 0 _ _ _ hX
  have x1 := cell_of_row _ _ 1 _ _ _ hX
  have x2 := cell_of_row _ _ 2 _ _ _ hX
  have x3 := cell_of_row _ _ 3 _ _ _ hX
  have x4 := cell_of_row _ _ 4 _ _ _ hX
  have HBW := Lib.hid hbW
  clear h hbW hX hl hhs hnl
  go_enter Tryz.func12, Tryz.ntmps12
  go_upto_region 1 with fail
  rw [← hW]
  clear hW
  go_wp2_with fail
  refine HC.out.mono ?_
  rintro e w1 ⟨v1, rfl, hown, hb1⟩
  obtain ⟨a1, c1, rfl, hr1⟩ := rdK_of_row hown
  obtain ⟨nh, hnh⟩ : ∃ nh, hs.length = nh := ⟨_, rfl⟩
  rw [hnh] at hr1 hlen
  have hc1 := hr1.le
  have hm1 := hr1.max
  unfold maxLen at hm1
  have HR1 := Lib.hid (rowK_mono hown (B' := w.heap.size) HBW.out.size)
  rw [hnh] at HR1
  have HNH := Lib.hid hnh
  have HB1 := Lib.hid (Below.next HBW.out hb1)
  clear hown hb1 hr1 HC x0 x1 x2 x3 x4
  rw [hnh]
  clear hnh
  go_wp2_with fail
  go_loopw [3, 9] (fun v i wr => ∃ k : Nat, k ≤ nh ∧ i = .int .i64 k ∧ wr.ownsRow w.heap.size 9 1 v (((hs.take k).filter fun x => x.1.hasD).map fun x => x.1.delivered).length ((((hs.take k).filter fun x => x.1.hasD).map fun x => x.1.delivered).map Value.string) ∧ Below w.heap.size w wr ∧ Hid (wr.ownsRow w.heap.size 97 9 (.slice a1 nh c1) nh (hs.flatMap nodQ))) (fun _ i _ => nh - (intOf i).toNat)
  case atStart => exact ⟨0, Nat.zero_le _, rfl, World.ownsRow_nil _ _ _ _, HB1.out, Lib.hid HR1.out⟩
  case round =>
    obtain ⟨k, hk, rfl, hown, hb, hin⟩ := hrel
    by_cases hlt : k < nh
    · obtain ⟨x, hx⟩ : ∃ x, hs[k]? = some x := ⟨_, List.getElem?_eq_getElem (by rw [HNH.out]; exact hlt)⟩
      obtain ⟨_, _, e, hrd⟩ := rdK_of_row hin.out
      cases e
      obtain ⟨bo, oo, e, _⟩ := hrd.at' (by omega)
      subst e
      obtain ⟨q0, q1, q2, q3, q4, q5, q6, q7, q8⟩ := hrd.open9 hx (by omega)
      have htk : hs.take (k + 1) = hs.take k ++ [x] := by rw [List.take_add_one, hx]; rfl
      obtain ⟨W7, hW7⟩ : ∃ W7, W7 = wr.alloc (.cells #[.int .i64 x.1.id, .string x.1.echoed, .bool x.1.hasE, .string x.1.readied, .bool x.1.hasR, .string x.1.delivered, .bool x.1.hasD, .slice x.2.1.1 x.2.1.2.1 x.2.1.2.2, .slice x.2.2.1 x.2.2.2.1 x.2.2.2.2] 97) := ⟨_, rfl⟩
      have hb7 : Below wr.heap.size wr W7 := by rw [hW7]; exact (Below.refl _ wr).alloc (Nat.le_refl _) _
      have hG7 : W7.heap[wr.heap.size]? = some (.cells #[.int .i64 x.1.id, .string x.1.echoed, .bool x.1.hasE, .string x.1.readied, .bool x.1.hasR, .string x.1.delivered, .bool x.1.hasD, .slice x.2.1.1 x.2.1.2.1 x.2.1.2.2, .slice x.2.2.1 x.2.2.2.1 x.2.2.2.2] 97 (0, 0)) := by rw [hW7]; exact heap_alloc_new _ _
      have HIN := Lib.hid (rowK_below hin.out hb7)
      have HOWN := Lib.hid (rowK_below hown hb7)
      have HB7 := Lib.hid (Below.next hb hb7)
      have d5 := cell_of_row _ _ 5 _ _ _ hG7
      have d6 := cell_of_row _ _ 6 _ _ _ hG7
      have HTK := Lib.hid htk
      clear hb7 hG7 hrd hx htk hin hown hb
      go_upto_region 5 with fail
      rw [← hW7]
      clear hW7 q0 q1 q2 q3 q4 q5 q6 q7 q8
      cases hq : x.1.hasD
      · rw [hq] at d6
        have hE : Hid ((hs.take (k + 1)).filter (fun x => x.1.hasD) = (hs.take k).filter (fun x => x.1.hasD)) := Lib.hid (by rw [HTK.out, List.filter_append]; simp [hq])
        go_wp2_with fail
        go_roundw
        case rel => exact ⟨k + 1, by omega, by go_num, by rw [hE.out]; exact HOWN.out, HB7.out, Lib.hid HIN.out⟩
        case measure => simp [intOf]; omega
      · rw [hq] at d6
        have hE : Hid (((hs.take (k + 1)).filter (fun x => x.1.hasD)).map (fun x => x.1.delivered) = ((hs.take k).filter (fun x => x.1.hasD)).map (fun x => x.1.delivered) ++ [x.1.delivered]) := Lib.hid (by rw [HTK.out, List.filter_append, List.map_append]; simp [hq])
        obtain ⟨M, hM⟩ : ∃ M, ((hs.take k).filter (fun x => x.1.hasD)).map (fun x => x.1.delivered) = M := ⟨_, rfl⟩
        have hMl : M.length ≤ 1000 := by rw [← hM, List.length_map]; exact Nat.le_trans (List.length_filter_le _ _) (by rw [List.length_take]; omega)
        rw [hM] at HOWN hE
        clear hM
        have hne := fun g hg => own_ne HIN.out (g := g) (cs := (own_type HOWN.out hg).choose) (own_type HOWN.out hg).choose_spec (by decide)
        have HNE : Hid (∀ g, u3.ownBlock = some g → (Value.slice (some ⟨bo, oo, none⟩) nh c1).ownBlock ≠ some g) := Lib.hid hne
        clear hne
        go_wp2_with (at_builtin; go_must (refine wpList_app _ _ 41 16 (.string ⟨#[]⟩) (.string x.1.delivered) _ Tryz.underlying41 Tryz.infoStrQ rfl HOWN.out HB7.out (Nat.le_refl _) rfl rfl rfl rfl rfl (by unfold maxLen; omega) (by omega) ?_))
        intro v' w8 hown8 hb8 hgr8 _
        have HG8 := Lib.hid hgr8
        clear hgr8
        go_wp2_with fail
        go_roundw
        case rel =>
          refine ⟨k + 1, by omega, by go_num, ?_, hb8, Lib.hid ?_⟩
          · rw [hE.out, List.map_append, List.length_append]; exact hown8
          · exact own_at HIN.out fun g hg => HG8.out.block g (HIN.out.lt g hg).2 (fun e => HNE.out g e.symm hg)
        case measure => simp [intOf]; omega
    · obtain rfl : k = nh := by omega
      rw [List.take_of_length_le (by rw [HNH.out]; exact Nat.le_refl _)] at hown
      have HOWN := Lib.hid hown
      clear hown hin
      go_wp2_with fail
      go_ret
      exact ⟨_, rfl, by rw [HDL.out]; exact HOWN.out, hb⟩
end Go.Proofs.YtmjgdnpfgkpaoaaGreatDoor
namespace Go.Proofs.YtmjgdnpfgkpaoaaGreatDoor
open Go.RowKit Go.Shelf

set_option maxRecDepth 100000 in
set_option maxHeartbeats 1000000 in
theorem idxStr_c (g : Nat) (lb : Array Value) (eg : ∀ args w, (callFunc g args).run Tryz.prog w = .ok (.enter g args) w) (p : ByteArray → Bool) (l : List ByteArray) (a : Option Addr) (n c : Nat) (w : World)
    (h : Rd w a n c (l.map Value.string)) (hp : PrL Tryz.prog g lb Value.string p l w) :
    Calls Tryz.prog 76 #[.slice a n c, .func (.func g) #[] lb] w fun e w' => e = .returned (.int .i64 (idxG p l)) ∧ Below w.heap.size w w' := by
  have hnl : l.length = n := by have := h.len; simp at this; omega
  have hm := h.max
  have hle := h.le
  unfold maxLen at hm
  have HP := Lib.hid hp
  have HR := Lib.hid h
  have HN := Lib.hid hnl
  clear hp h hnl
  go_enter Tryz.func76, Tryz.ntmps76
  go_wp2_with fail
  go_loopw [8] (fun i wr => ∃ k : Nat, k ≤ n ∧ i = .int .i64 k ∧ Hid (∀ (j : Nat) y, j < k → l[j]? = some y → p y = false) ∧ Below w.heap.size w wr) (fun i _ => n - (intOf i).toNat)
  case atStart => exact ⟨0, Nat.zero_le _, rfl, Lib.hid (fun j y hj => by omega), Below.refl _ _⟩
  case round =>
    obtain ⟨k, hk, rfl, hno, hb⟩ := hrel
    by_cases hlt : k < n
    · obtain ⟨b, o, ha, hcell⟩ := (HR.out.below hb).at' (by omega)
      obtain ⟨x, hx⟩ : ∃ x, l[k]? = some x := ⟨_, List.getElem?_eq_getElem (by have := HN.out; omega)⟩
      have hc0 : wr.cell? ⟨b, o + k, none⟩ = some (.string x) := hcell k _ (by rw [List.getElem?_map, hx]; rfl)
      subst ha
      have HF : Hid (Calls Tryz.prog g (#[.string x] ++ lb) wr fun e w' => e = .returned (.bool (p x)) ∧ Below wr.heap.size wr w') := HP.out wr x (List.mem_of_getElem? hx) hb
      have HX := Lib.hid hx
      clear hcell hx
      cases hq : p x
      · have hno' : Hid (∀ (j : Nat) y, j < k + 1 → l[j]? = some y → p y = false) := Lib.hid (fun j y hj hy => by
          by_cases h1 : j < k
          · exact hno.out j y h1 hy
          · obtain rfl : j = k := by omega
            rw [HX.out] at hy; cases hy; exact hq)
        rw [hq] at HF
        clear hq hno
        go_wp2_with (go_at_fn g; refine HF.out.mono ?_; rintro e w' ⟨rfl, hbw⟩)
        go_roundw
        case rel => exact ⟨k + 1, by omega, by go_num, hno', Below.next hb hbw⟩
        case measure => simp [intOf]; omega
      · have hI : Hid (idxG p l = k) := idxG_hit HX.out hno.out hq
        rw [hq] at HF
        clear hq hno
        go_wp2_with (go_at_fn g; refine HF.out.mono ?_; rintro e w' ⟨rfl, hbw⟩)
        go_ret
        exact ⟨ret_int hI.out.symm, Below.next hb hbw⟩
    · have hI : Hid (idxG p l = -1) := idxG_none (fun j y hy => hno.out j y (by have := (List.getElem?_eq_some_iff.1 hy).1; have := HN.out; omega) hy)
      clear hno
      go_wp2_with fail
      go_ret
      exact ⟨ret_int hI.out.symm, hb⟩

set_option maxRecDepth 100000 in
set_option maxHeartbeats 1000000 in
theorem conStr_c (g : Nat) (lb : Array Value) (eg : ∀ args w, (callFunc g args).run Tryz.prog w = .ok (.enter g args) w) (p : ByteArray → Bool) (l : List ByteArray) (a : Option Addr) (n c : Nat) (w : World)
    (h : Rd w a n c (l.map Value.string)) (hp : PrL Tryz.prog g lb Value.string p l w) :
    Calls Tryz.prog 41 #[.slice a n c, .func (.func g) #[] lb] w fun e w' => e = .returned (.bool (l.any p)) ∧ Below w.heap.size w w' := by
  have HC := Lib.hid (idxStr_c g lb eg p l a n c w h hp)
  have hi := idxG_ge p l
  clear h hp eg
  obtain ⟨i, hi2⟩ : ∃ i, idxG p l = i := ⟨_, rfl⟩
  rw [hi2] at HC hi
  have HI := Lib.hid hi
  clear hi hi2
  go_enter Tryz.func41, Tryz.ntmps41
  go_wp2_with fail
  refine HC.out.mono ?_
  rintro e w1 ⟨rfl, hb⟩
  go_wp2_with fail
  go_ret
  exact ⟨ret_bool HI.out, hb⟩

/-- another value than the first -/
def othB (v : ByteArray) (s : ByteArray) : Bool := !(s.toList == v.toList)
set_option maxRecDepth 100000 in
set_option maxHeartbeats 1000000 in
theorem con1_at (l : List ByteArray) (v : ByteArray) (hv : l[0]? = some v) (a : Option Addr) (n c : Nat) (X : Nat) (w : World) (hX : w.cell? ⟨X, 0, none⟩ = some (.slice a n c)) (h : Rd w a n c (l.map Value.string)) :
    PrL Tryz.prog 42 #[.pointer (some ⟨X, 0, none⟩)] Value.string (othB v) l w := fun W x hx hb => by
  have hX1 : W.cell? ⟨X, 0, none⟩ = some (.slice a n c) := (hb.cell (p := ⟨X, 0, none⟩) (cell_lt hX)).trans hX
  have hn : 0 < n := by have := h.len; have := (List.getElem?_eq_some_iff.1 hv).1; simp at *; omega
  obtain ⟨b, o, ha, hcell⟩ := (h.below hb).at' hn
  subst ha
  have c0 : W.cell? ⟨b, o, none⟩ = some (.string v) := hcell 0 _ (by rw [List.getElem?_map, hv]; rfl)
  have hn1 : (0 : Int) < (n : Int) := by omega
  unfold othB
  clear hcell hb hX h hx
  go_enter Tryz.func42, Tryz.ntmps42
  go_wp2_with fail
  go_ret
  exact ⟨rfl, Below.refl _ _⟩
/-- all have delivered the same -/
def conS (l : List ByteArray) : Bool := match l with
  | [] => true
  | v :: _ => !l.any (othB v)

set_option maxRecDepth 100000 in
set_option maxHeartbeats 2000000 in
theorem consistent_c (byz : BitVec 16) (m src : Int) (a : Option Addr) (n c : Nat) (vF : Value) (hvF : ∃ a n c, vF = .slice a n c) (ns : List NodQ) (hl : ∀ p ∈ ns, ∃ i : Nat, p.1.id = i ∧ i < 16) (w : World) (h : RdK 9 w a n c (ns.flatMap nodQ)) (hn : n ≤ 1000) :
    Calls Tryz.prog 11 #[.agg #[.int .i64 m, .int .u16 (U byz), .int .i64 src, .slice a n c, vF]] w fun e w' => e = .returned (.bool (conS (dlvS byz ns))) ∧ Below w.heap.size w w' := by
  obtain ⟨W, hW⟩ : ∃ W, W = w.alloc (.cells #[.int .i64 m, .int .u16 (U byz), .int .i64 src, .slice a n c, vF] 34) := ⟨_, rfl⟩
  have hbW : Below w.heap.size w W := by rw [hW]; exact (Below.refl _ w).alloc (Nat.le_refl _) _
  have hX : W.heap[w.heap.size]? = some (.cells #[.int .i64 m, .int .u16 (U byz), .int .i64 src, .slice a n c, vF] 34 (0, 0)) := by rw [hW]; exact heap_alloc_new _ _
  have HC := Lib.hid (delivered_c byz m src a n c vF hvF ns hl W (h.below hbW) hn)
  obtain ⟨fa, fn, fc, rfl⟩ := hvF
  obtain ⟨L, hL⟩ : ∃ L, dlvS byz ns = L := ⟨_, rfl⟩
  rw [hL] at HC
  rw [hL]
  have x0 := cell_of_row _ _ 0 _ _ _ hX
  have x1 := cell_of_row _ _ 1 _ _ _ hX
  have x2 := cell_of_row _ _ 2 _ _ _ hX
  have x3 := cell_of_row _ _ 3 _ _ _ hX
  have x4 := cell_of_row _ _ 4 _ _ _ hX
  have HBW := Lib.hid hbW
  clear h hbW hX hl hL
  go_enter Tryz.func11, Tryz.ntmps11
  go_upto_region 1 with fail
  rw [← hW]
  clear hW
  go_wp2_with fail
  refine HC.out.mono ?_
  rintro e w1 ⟨v1, rfl, hown, hb1⟩
  obtain ⟨a1, c1, rfl, hr1⟩ := rd_of_row hown
  obtain ⟨W2, hW2⟩ : ∃ W2, W2 = w1.alloc (.cells #[.slice a1 L.length c1] 41) := ⟨_, rfl⟩
  have hb2 : Below w1.heap.size w1 W2 := by rw [hW2]; exact (Below.refl _ w1).alloc (Nat.le_refl _) _
  have hX2 : W2.heap[w1.heap.size]? = some (.cells #[.slice a1 L.length c1] 41 (0, 0)) := by rw [hW2]; exact heap_alloc_new _ _
  have HB2 := Lib.hid (Below.next (Below.next HBW.out hb1) hb2)
  have HR2 := Lib.hid (hr1.below hb2)
  have l0 := cell_of_row _ _ 0 _ _ _ hX2
  clear hown hb1 hr1 hb2 HC x0 x1 x2 x3 x4 hX2
  cases L with
  | nil =>
    simp only [List.length_nil] at hW2 l0
    go_upto_region 2 with fail
    rw [← hW2]
    clear hW2
    go_wp2_with fail
    go_ret
    exact ⟨rfl, HB2.out⟩
  | cons v L =>
    have HCS := Lib.hid (conStr_c 42 #[.pointer (some ⟨w1.heap.size, 0, none⟩)] (enters_of Tryz.func42 (by kernel_rfl) rfl) (othB v) (v :: L) a1 (v :: L).length c1 W2 HR2.out (con1_at (v :: L) v rfl a1 (v :: L).length c1 w1.heap.size W2 l0 HR2.out))
    have HE : Hid (conS (v :: L) = !(v :: L).any (othB v)) := Lib.hid rfl
    obtain ⟨r, hr⟩ : ∃ r, (v :: L).any (othB v) = r := ⟨_, rfl⟩
    obtain ⟨nl, hnl⟩ : ∃ nl, (v :: L).length = nl := ⟨_, rfl⟩
    have hn0 : ((nl : Int) == 0) = false := by have : 0 < nl := by rw [← hnl]; simp
                                               simp; omega
    rw [hr] at HCS HE
    rw [hnl] at HCS l0 hW2
    rw [hnl]
    clear hr hnl
    go_upto_region 2 with fail
    rw [← hW2]
    clear hW2
    go_wp2_with fail
    refine HCS.out.mono ?_
    rintro e w3 ⟨rfl, hb3⟩
    have HB3 := Lib.hid (Below.next HB2.out hb3)
    clear hb3 HCS
    go_wp2_with fail
    go_ret
    exact ⟨by rw [HE.out]; rfl, HB3.out⟩
end Go.Proofs.YtmjgdnpfgkpaoaaGreatDoor
namespace Go.Proofs.YtmjgdnpfgkpaoaaGreatDoor
open Go.RowKit Go.Shelf

/-- expressions with few kids -/
def XprFew (x : Xpr) : Prop := ∀ (k : Nat) nd, x.nodes[k]? = some nd → nd.kids.length ≤ 1000
/-- sixty places, the first ones filled -/
def isA (l : List Bool) : Array Value := ((l ++ List.replicate (60 - l.length) false).map Value.bool).toArray
theorem isA_at {l : List Bool} (h : l.length ≤ 60) {i : Nat} (hi : i < 60) : (isA l)[i]? = some (.bool (l.getD i false)) := by
  unfold isA
  rw [List.getElem?_toArray, List.getElem?_map, List.getD_eq_getElem?_getD]
  by_cases h1 : i < l.length
  · rw [List.getElem?_append_left h1, List.getElem?_eq_getElem h1]; rfl
  · rw [List.getElem?_append_right (by omega), List.getElem?_replicate, if_pos (by omega), List.getElem?_eq_none (by omega)]; rfl
theorem isA_set {l : List Bool} (h : l.length < 60) (v : Bool) : (isA l).setIfInBounds l.length (.bool v) = isA (l ++ [v]) := by
  unfold isA
  rw [List.setIfInBounds_toArray]
  congr 1
  have e : 60 - l.length = (60 - (l ++ [v]).length) + 1 := by simp; omega
  rw [e, List.replicate_succ, List.map_append, List.map_append, List.map_append, List.map_cons, List.set_append_right _ _ (by simp)]
  simp

theorem frozen_row {w : World} {B : Nat} {cs : Array Value} {t : TypeId} (h : w.heap[B]? = some (.cells cs t (0, 0))) (i : Nat) : w.frozen? ⟨B, i, none⟩ = false := by simp [World.frozen?, h]

end Go.Proofs.YtmjgdnpfgkpaoaaGreatDoor
namespace Go.Proofs.YtmjgdnpfgkpaoaaGreatDoor
open Go.RowKit Go.Shelf

theorem rowK_at {k : Nat} {w w' : World} {B n : Nat} {e : TypeId} {v : Value} {l : List Value} (h : w.ownsRow B e k v n l) (hb : ∀ g, v.ownBlock = some g → w'.heap[g]? = w.heap[g]?) : w'.ownsRow B e k v n l := by
  obtain ⟨h1, h2⟩ := h
  refine ⟨h1, ?_⟩
  rcases h2 with h2 | ⟨g, cap, cur, hv, hb', hg, r⟩
  · exact .inl h2
  · exact .inr ⟨g, cap, cur, hv, hb', by rw [hb g (by rw [hv]; rfl)]; exact hg, r⟩
end Go.Proofs.YtmjgdnpfgkpaoaaGreatDoor
namespace Go.Proofs.YtmjgdnpfgkpaoaaGreatDoor

/-- the numbers below N with k bits -/
def numsTo (k : Int) (N : Nat) : List Nat := (List.range N).filter fun n => (popR 32 n : Int) == k
theorem numsTo_sorted (k : Int) (N : Nat) : (numsTo k N).Pairwise (· < ·) := List.Pairwise.filter _ List.pairwise_lt_range

theorem popR_32 (x : BitVec 16) (n : Nat) (h : n < 2 ^ cnt x) : popR 32 n = popR (cnt x) n := by
  have hc := cnt_le x
  obtain ⟨M, hM⟩ : ∃ M, 32 = cnt x + M := ⟨32 - cnt x, by omega⟩
  rw [hM]; exact popR_pad M (cnt x) n h

theorem chooseS_dep (x : BitVec 16) (k : Int) : chooseS x k = (numsTo k (2 ^ cnt x)).map (dep (memS x)) := by
  have h16 := memS_16 x
  have hso := memS_sorted x
  refine ext_sorted (fun y => y.toNat) _ _ ?_ ?_ fun y => ?_
  · unfold chooseS pickTo
    rw [List.pairwise_map]
    refine List.Pairwise.imp_of_mem ?_ (List.Pairwise.filter _ (List.pairwise_lt_range (n := 65536)))
    intro a b ha hb hab
    have ha' := List.mem_range.1 (List.mem_filter.1 ha).1
    have hb' := List.mem_range.1 (List.mem_filter.1 hb).1
    simp only [BitVec.toNat_ofNat]
    rw [Nat.mod_eq_of_lt ha', Nat.mod_eq_of_lt hb']
    exact hab
  · rw [List.pairwise_map]
    refine List.Pairwise.imp_of_mem ?_ (numsTo_sorted k _)
    intro a b ha hb hab
    have hb' := List.mem_range.1 (List.mem_filter.1 hb).1
    exact dep_mono _ h16 hso a b hab hb'
  · constructor
    · intro hy
      obtain ⟨n, hn, rfl⟩ := List.mem_map.1 hy
      obtain ⟨hr, hp⟩ := List.mem_filter.1 hn
      unfold pickB at hp
      rw [Bool.and_eq_true] at hp
      have hsub := (sub_iff x _).1 hp.1
      have hinv := dep_inv x _ hsub
      have hlt := inv_lt (memS x) (BitVec.ofNat 16 n)
      refine List.mem_map.2 ⟨inv (memS x) (BitVec.ofNat 16 n), List.mem_filter.2 ⟨List.mem_range.2 hlt, ?_⟩, hinv⟩
      have hc := cnt_dep (memS x) h16 hso (inv (memS x) (BitVec.ofNat 16 n))
      rw [hinv] at hc
      rw [popR_32 x _ hlt]
      have e : popR (cnt x) (inv (memS x) (BitVec.ofNat 16 n)) = cnt (BitVec.ofNat 16 n) := hc.symm
      rw [e]; exact hp.2
    · intro hy
      obtain ⟨n, hn, rfl⟩ := List.mem_map.1 hy
      obtain ⟨hr, hp⟩ := List.mem_filter.1 hn
      have hlt := List.mem_range.1 hr
      refine List.mem_map.2 ⟨(dep (memS x) n).toNat, List.mem_filter.2 ⟨List.mem_range.2 (dep (memS x) n).isLt, ?_⟩, by simp⟩
      unfold pickB
      rw [BitVec.ofNat_toNat, BitVec.setWidth_eq, Bool.and_eq_true]
      refine ⟨(sub_iff x _).2 fun p hp => dep_sub x n p hp, ?_⟩
      have hc := cnt_dep (memS x) h16 hso n
      rw [hc]
      rw [popR_32 x n hlt] at hp
      exact hp

/-- where the loop stands: what has come up to n -/
theorem numsTo_next (k : Int) (n : BitVec 32) (h0 : n ≠ 0#32) (hlt : n.toNat < 2 ^ 16) (hk : (popR 32 n.toNat : Int) = k) :
    n.toNat < (nextV n).toNat ∧ (popR 32 (nextV n).toNat : Int) = k ∧ numsTo k (nextV n).toNat = numsTo k n.toNat ++ [n.toNat] := by
  obtain ⟨h1, h2, h3⟩ := next_spec n h0 hlt
  refine ⟨h1, by rw [h2]; exact hk, ?_⟩
  obtain ⟨d, hd⟩ : ∃ d, (nextV n).toNat = n.toNat + (1 + d) := ⟨(nextV n).toNat - n.toNat - 1, by omega⟩
  unfold numsTo
  rw [hd, List.range_add, List.filter_append, List.range_add, List.map_append, List.filter_append]
  congr 1
  have e1 : List.map (fun x => n.toNat + x) (List.range 1) = [n.toNat] := by simp [List.range_succ]
  rw [e1]
  have e2 : List.filter (fun n => (popR 32 n : Int) == k) [n.toNat] = [n.toNat] := by simp [hk]
  rw [e2]
  have e3 : List.filter (fun n => (popR 32 n : Int) == k) (List.map (fun x => n.toNat + x) (List.map (fun x => 1 + x) (List.range d))) = [] := by
    rw [List.filter_eq_nil_iff]
    intro a ha
    rw [List.map_map] at ha
    obtain ⟨t, ht, rfl⟩ := List.mem_map.1 ha
    have ht' := List.mem_range.1 ht
    simp only [Function.comp_def]
    have := h3 (n.toNat + (1 + t)) (by omega) (by omega)
    rw [beq_iff_eq]
    intro e
    apply this
    omega
  rw [e3, List.append_nil]
theorem numsTo_first (k : Nat) (hk : k ≤ 16) : (popR 32 (2 ^ k - 1) : Int) = k ∧ numsTo k (2 ^ k - 1) = [] := by
  obtain ⟨M, hM⟩ : ∃ M, 32 = k + M := ⟨32 - k, by omega⟩
  have hp : 0 < 2 ^ k := Nat.two_pow_pos k
  constructor
  · rw [hM, popR_pad M k _ (by omega), popR_ones]
  · unfold numsTo
    rw [List.filter_eq_nil_iff]
    intro a ha
    have ha' := List.mem_range.1 ha
    have h1 := popR_lt k a ha'
    rw [hM, popR_pad M k a (by omega), beq_iff_eq]
    omega
theorem numsTo_cut (k : Int) (N n : Nat) (h : N ≤ n) (hn : ∀ m, N ≤ m → m < n → (popR 32 m : Int) ≠ k) : numsTo k n = numsTo k N := by
  obtain ⟨d, rfl⟩ : ∃ d, n = N + d := ⟨n - N, by omega⟩
  unfold numsTo
  rw [List.range_add, List.filter_append]
  have e3 : List.filter (fun n => (popR 32 n : Int) == k) (List.map (fun x => N + x) (List.range d)) = [] := by
    rw [List.filter_eq_nil_iff]
    intro a ha
    obtain ⟨t, ht, rfl⟩ := List.mem_map.1 ha
    have ht' := List.mem_range.1 ht
    rw [beq_iff_eq]
    exact hn _ (by omega) (by omega)
  rw [e3, List.append_nil]
end Go.Proofs.YtmjgdnpfgkpaoaaGreatDoor
namespace Go.Proofs.YtmjgdnpfgkpaoaaGreatDoor

theorem popR_cntM (x : BitVec 16) (n : Nat) (h : n < 2 ^ cnt x) : popR 32 n < cnt x + 1 := by
  rw [popR_32 x n h]; have := popR_le (cnt x) n; omega
theorem sumM_zero (K a : Nat) (h : K ≤ a) : ((List.range K).map fun k => if a = k then 1 else 0).sum = 0 := by
  induction K with
  | zero => rfl
  | succ K ih => rw [List.range_succ, List.map_append, List.sum_append, ih (by omega)]; simp; omega
theorem sumM_one (K a : Nat) (h : a < K) : ((List.range K).map fun k => if a = k then 1 else 0).sum = 1 := by
  induction K with
  | zero => omega
  | succ K ih =>
    rw [List.range_succ, List.map_append, List.sum_append]
    by_cases e : a = K
    · subst e; rw [sumM_zero a a (Nat.le_refl _)]; simp
    · rw [ih (by omega)]; simp [e]
theorem sumM_add (l : List Nat) (f g : Nat → Nat) : (l.map fun k => f k + g k).sum = (l.map f).sum + (l.map g).sum := by
  induction l with
  | nil => rfl
  | cons a l ih => simp [ih]; omega
theorem sumM_parts (f : Nat → Nat) (K : Nat) : ∀ l : List Nat, (∀ n ∈ l, f n < K) → ((List.range K).map fun (k : Nat) => (l.filter fun n => (f n : Int) == (k : Int)).length).sum = l.length := by
  intro l
  induction l with
  | nil => intro _; simp [List.map_const']
  | cons a l ih =>
    intro h
    have e : ∀ k : Nat, ((a :: l).filter fun n => (f n : Int) == (k : Int)).length = (if f a = k then 1 else 0) + (l.filter fun n => (f n : Int) == (k : Int)).length := by
      intro k
      rw [List.filter_cons]
      by_cases h : f a = k
      · simp [h]; omega
      · have : ((f a : Int) == (k : Int)) = false := by simp; omega
        simp [h, this]
    simp only [e]
    rw [sumM_add, sumM_one K (f a) (h a (by simp)), ih (fun n hn => h n (by simp [hn]))]
    simp; omega
theorem subsM_dep (x : BitVec 16) : subsS x = (List.range (cnt x + 1)).flatMap fun (k : Nat) => (numsTo k (2 ^ cnt x)).map (dep (memS x)) := by
  unfold subsS subsTo
  simp only [chooseS_dep]
theorem subsM_len (x : BitVec 16) : (subsS x).length = 2 ^ cnt x := by
  rw [subsM_dep, List.length_flatMap]
  simp only [List.length_map, numsTo]
  rw [sumM_parts (popR 32) (cnt x + 1) (List.range (2 ^ cnt x)) (fun n hn => popR_cntM x n (List.mem_range.1 hn)), List.length_range]
/-- each part of a set is among its subsets -/
theorem mem_subs {x s : BitVec 16} (h : ∀ p, hasB s p = true → hasB x p = true) : s ∈ subsS x := by
  have hd := dep_inv x s h
  have hl := inv_lt (memS x) s
  rw [subsM_dep]
  refine List.mem_flatMap.2 ⟨popR 32 (inv (memS x) s), List.mem_range.2 (popR_cntM x _ hl), ?_⟩
  exact List.mem_map.2 ⟨_, List.mem_filter.2 ⟨List.mem_range.2 hl, by simp⟩, hd⟩
/-- and these alone -/
theorem subs_mem {x s : BitVec 16} (hs : s ∈ subsS x) : ∀ p, hasB s p = true → hasB x p = true := by
  rw [subsM_dep] at hs
  obtain ⟨k, _, h2⟩ := List.mem_flatMap.1 hs
  obtain ⟨n, _, rfl⟩ := List.mem_map.1 h2
  intro p hp
  exact mem_memS.1 (sel_mem _ _ _ ((hasB_dep (memS x) (memS_16 x) n p).1 hp))
theorem cnt_six {x : BitVec 16} (h : ∀ p, hasB x p = true → p < 6) : cnt x ≤ 6 := by
  unfold cnt memS
  rw [show List.range 16 = List.range 6 ++ [6, 7, 8, 9, 10, 11, 12, 13, 14, 15] from rfl, List.filter_append]
  have : List.filter (hasB x) [6, 7, 8, 9, 10, 11, 12, 13, 14, 15] = [] := by
    rw [List.filter_eq_nil_iff]
    intro p hp hc
    have h1 := h p hc
    simp at hp
    omega
  rw [this, List.append_nil]
  exact Nat.le_trans (List.length_filter_le _ _) (by simp)

theorem famStep_le (x : Xpr) (o : List (BitVec 16)) (s : BitVec 16) : (famStep x o s).length ≤ o.length + 1 := by
  unfold famStep
  split
  · omega
  · split
    · simp
    · omega
theorem famFold_le (x : Xpr) : ∀ (l o : List (BitVec 16)), (l.foldl (famStep x) o).length ≤ o.length + l.length := by
  intro l
  induction l with
  | nil => intro o; simp
  | cons s l ih =>
    intro o
    rw [List.foldl_cons, List.length_cons]
    have := ih (famStep x o s)
    have := famStep_le x o s
    omega
/-- the family of an expression, its error -/
def famS (x : Xpr) : List (BitVec 16) := famOf x (subsS (srvX x))
def famE (x : Xpr) : List (BitVec 16) × Int := if xprE x ≠ 0 then ([], xprE x) else if 400 < (famS x).length then ([], 3) else (famS x, 0)
theorem famS_holds {x : Xpr} (h : XprOk x) (s : BitVec 16) : accS (famS x) s = holdX x s := fam_holds h (fun _s hs => mem_subs hs) s
theorem famS_in {x : Xpr} {F : BitVec 16} (hF : F ∈ famS x) : ∀ i, hasB F i = true → hasB (srvX x) i = true := by
  rcases fam_only x _ [] F hF with h | h
  · cases h
  · exact subs_mem h.1
theorem famS_le (x : Xpr) : (famS x).length ≤ 2 ^ cnt (srvX x) := by
  have := famFold_le x (subsS (srvX x)) []
  rw [subsM_len, List.length_nil, Nat.zero_add] at this
  exact this
theorem famE_six {x : Xpr} (h : xprE x = 0) (h6 : ∀ p, hasB (srvX x) p = true → p < 6) : famE x = (famS x, 0) := by
  have h1 := famS_le x
  have h2 : 2 ^ cnt (srvX x) ≤ 2 ^ 6 := Nat.pow_le_pow_right (by decide) (cnt_six h6)
  unfold famE
  rw [if_neg (by simpa using h), if_neg (by omega)]
end Go.Proofs.YtmjgdnpfgkpaoaaGreatDoor
namespace Go.Proofs.YtmjgdnpfgkpaoaaGreatDoor

/-- a piece of a description -/
structure Pce where
  kind : Int
  server : Int
  need : Int
  heavy : Bool
  kids : List Int
def Pce.ok (p : Pce) : Prop := ((0 ≤ p.kind ∧ p.kind < 256) ∧ (0 ≤ p.server ∧ p.server < 256) ∧ (0 ≤ p.need ∧ p.need < 256)) ∧ ∀ z ∈ p.kids, 0 ≤ z ∧ z < 256
def pce0 : Pce := ⟨0, 0, 0, false, []⟩

/-- the sum of the weights of the first k kids -/
def sumTo (nd : Nod) : Nat → Int
  | 0 => 0
  | k + 1 => sumTo nd k + wgtN nd k
def sumN (nd : Nod) : Int := sumTo nd nd.kids.length
/-- the kids and weights of a piece at an index, of the first k -/
def mkdTo (p : Pce) (i k : Nat) : List Int := (p.kids.take k).map fun z => z % (i : Int)
def mwtTo (p : Pce) (k : Nat) : List Int := if p.heavy = true then (p.kids.take k).map fun z => 1 + z / 16 % 4 else []
def mk5 (p : Pce) : Nat := min p.kids.length 5
def madK (p : Pce) (i : Nat) : Nod := ⟨2, 0, 0, mwtTo p (mk5 p), mkdTo p i (mk5 p)⟩
def madN (p : Pce) (i : Nat) : Nod := if i = 0 ∨ p.kind % 3 = 0 then ⟨1, p.server % 6, 0, [], []⟩ else ⟨2, 0, p.need % (sumN (madK p i) + 2), mwtTo p (mk5 p), mkdTo p i (mk5 p)⟩
def madT (ps : List Pce) (k : Nat) : List Nod := (List.range k).map fun i => madN (ps.getD i pce0) i
def mad9 (ps : List Pce) : Nat := min ps.length 9
def srv0 : Nod := ⟨1, 0, 0, [], []⟩
def madX (ps : List Pce) : Xpr := if ps = [] then ⟨[srv0], 0⟩ else ⟨madT ps (mad9 ps), (mad9 ps : Int) - 1⟩

theorem mkdTo_succ {p : Pce} {i k : Nat} {z : Int} (h : p.kids[k]? = some z) : mkdTo p i (k + 1) = mkdTo p i k ++ [z % (i : Int)] := by
  unfold mkdTo; rw [List.take_add_one, h]; simp
theorem mwtTo_succ {p : Pce} {k : Nat} {z : Int} (h : p.kids[k]? = some z) (hh : p.heavy = true) : mwtTo p (k + 1) = mwtTo p k ++ [1 + z / 16 % 4] := by
  unfold mwtTo; rw [if_pos hh, if_pos hh, List.take_add_one, h]; simp
theorem mwtTo_light {p : Pce} (k : Nat) (hh : p.heavy = false) : mwtTo p k = [] := by unfold mwtTo; rw [if_neg (by rw [hh]; decide)]
theorem madT_succ (ps : List Pce) (k : Nat) : madT ps (k + 1) = madT ps k ++ [madN (ps.getD k pce0) k] := by
  unfold madT; rw [List.range_succ, List.map_append]; rfl
theorem madT_len (ps : List Pce) (k : Nat) : (madT ps k).length = k := by unfold madT; rw [List.length_map, List.length_range]
theorem mkdTo_len (p : Pce) (i k : Nat) (h : k ≤ p.kids.length) : (mkdTo p i k).length = k := by unfold mkdTo; rw [List.length_map, List.length_take]; omega
theorem madT_at {ps : List Pce} {k i : Nat} {nd : Nod} (h : (madT ps k)[i]? = some nd) : i < k ∧ nd = madN (ps.getD i pce0) i := by
  have h1 := (List.getElem?_eq_some_iff.1 h).1
  rw [madT_len] at h1
  unfold madT at h
  rw [List.getElem?_map, List.getElem?_range h1] at h
  simp at h
  exact ⟨h1, h.symm⟩
theorem sum_bd {nd : Nod} (h : ∀ w ∈ nd.weights, 1 ≤ w ∧ w ≤ 4) (hl : nd.weights = [] ∨ nd.weights.length = nd.kids.length) : ∀ k, k ≤ nd.kids.length → (k : Int) ≤ sumTo nd k ∧ sumTo nd k ≤ 4 * k := by
  intro k
  induction k with
  | zero => intro _; exact ⟨by simp [sumTo], by simp [sumTo]⟩
  | succ k ih =>
    intro hk
    have h1 := ih (by omega)
    have h2 : 1 ≤ wgtN nd k ∧ wgtN nd k ≤ 4 := by
      unfold wgtN
      split
      · omega
      · rename_i hw
        have hkl : k < nd.weights.length := by rcases hl with h3 | h3
                                               · exact absurd h3 hw
                                               · omega
        rw [List.getD_eq_getElem?_getD, List.getElem?_eq_getElem hkl]
        exact h _ (List.getElem_mem hkl)
    unfold sumTo
    omega
theorem mwt_rng (p : Pce) (hp : ∀ z ∈ p.kids, 0 ≤ z ∧ z < 256) (k : Nat) : ∀ w ∈ mwtTo p k, 1 ≤ w ∧ w ≤ 4 := by
  intro w hw
  unfold mwtTo at hw
  split at hw
  · obtain ⟨z, hz, rfl⟩ := List.mem_map.1 hw
    have := hp z (List.mem_of_mem_take hz)
    omega
  · cases hw
theorem mwt_len (p : Pce) (i : Nat) (k : Nat) : mwtTo p k = [] ∨ (mwtTo p k).length = (mkdTo p i k).length := by
  unfold mwtTo mkdTo
  split
  · right; rw [List.length_map, List.length_map]
  · left; rfl
theorem sum_madK (p : Pce) (hp : ∀ z ∈ p.kids, 0 ≤ z ∧ z < 256) (i : Nat) : 0 ≤ sumN (madK p i) ∧ sumN (madK p i) ≤ 20 := by
  have h := sum_bd (nd := madK p i) (mwt_rng p hp _) (mwt_len p i _) (madK p i).kids.length (Nat.le_refl _)
  have hl : (madK p i).kids.length = mk5 p := mkdTo_len p i _ (Nat.min_le_left _ _)
  have : mk5 p ≤ 5 := Nat.min_le_right _ _
  unfold sumN
  omega
theorem madN_ok (p : Pce) (hp : p.ok) (i : Nat) : nodE (madN p i) i = 0 := by
  obtain ⟨⟨h1, h2, h3⟩, h4⟩ := hp
  unfold madN
  by_cases hc : i = 0 ∨ p.kind % 3 = 0
  · rw [if_pos hc]
    have a1 : 0 ≤ p.server % 6 := Int.emod_nonneg _ (by decide)
    have a2 : p.server % 6 < 6 := Int.emod_lt_of_pos _ (by decide)
    unfold nodE
    simp
    omega
  · rw [if_neg hc]
    have hs := sum_madK p h4 i
    have a1 : 0 ≤ p.need % (sumN (madK p i) + 2) := Int.emod_nonneg _ (by omega)
    have a2 : p.need % (sumN (madK p i) + 2) < sumN (madK p i) + 2 := Int.emod_lt_of_pos _ (by omega)
    have hv : (mwtTo p (mk5 p)).any hvyB = false := by
      rw [List.any_eq_false]
      intro w hw
      have := mwt_rng p h4 _ w hw
      unfold hvyB
      simp; omega
    have hk : (mkdTo p i (mk5 p)).any (unkB i) = false := by
      rw [List.any_eq_false]
      intro w hw
      unfold mkdTo at hw
      obtain ⟨z, hz, rfl⟩ := List.mem_map.1 hw
      have b1 : 0 ≤ z % (i : Int) := Int.emod_nonneg _ (by omega)
      have b2 : z % (i : Int) < (i : Int) := Int.emod_lt_of_pos _ (by omega)
      unfold unkB
      simp; omega
    unfold nodE
    rw [if_neg (by simp), if_neg (by rw [hv]; simp; omega), if_neg ?_, if_neg (by rw [hk]; decide)]
    rintro ⟨c1, c2⟩
    rcases mwt_len p i (mk5 p) with h | h
    · exact c1 h
    · exact c2 h
theorem nodsE_zero : ∀ (l : List Nod) (i : Nat), (∀ (k : Nat) nd, l[k]? = some nd → nodE nd (i + k) = 0) → nodsE l i = 0 := by
  intro l
  induction l with
  | nil => intro i _; rfl
  | cons y l ih =>
    intro i h
    have h0 := h 0 y rfl
    unfold nodsE
    rw [if_neg (by simpa using h0)]
    exact ih (i + 1) fun k nd hk => by
      have := h (k + 1) nd (by simpa using hk)
      rw [show i + 1 + k = i + (k + 1) by omega]; exact this
theorem madX_ok {ps : List Pce} (h : ∀ p ∈ ps, p.ok) : xprE (madX ps) = 0 ∧ (madX ps).nodes.length ≤ 9 ∧ ∀ q, hasB (srvX (madX ps)) q = true → q < 6 := by
  unfold madX
  by_cases h0 : ps = []
  · rw [if_pos h0]
    refine ⟨by decide, by simp, fun q hq => ?_⟩
    have e : srvX ⟨[srv0], 0⟩ = 1#16 := by decide
    rw [e] at hq
    have hq16 := hasB_lt hq
    have : ∀ q : Fin 16, hasB 1#16 q.val = true → q.val < 6 := by decide
    exact this ⟨q, hq16⟩ hq
  · rw [if_neg h0]
    have hl : 1 ≤ mad9 ps ∧ mad9 ps ≤ 9 ∧ mad9 ps ≤ ps.length := by
      unfold mad9
      have : ps.length ≠ 0 := fun hc => h0 (List.eq_nil_of_length_eq_zero hc)
      omega
    have hlen := madT_len ps (mad9 ps)
    have hall : ∀ (k : Nat) nd, (madT ps (mad9 ps))[k]? = some nd → ∃ p, p.ok ∧ nd = madN p k := fun k nd hk => by
      obtain ⟨h1, h2⟩ := madT_at hk
      refine ⟨_, ?_, h2⟩
      rw [List.getD_eq_getElem?_getD, List.getElem?_eq_getElem (by omega)]
      exact h _ (List.getElem_mem _)
    have hE : nodsE (madT ps (mad9 ps)) 0 = 0 := nodsE_zero _ _ fun k nd hk => by
      obtain ⟨p, hp, rfl⟩ := hall k nd hk
      rw [Nat.zero_add]; exact madN_ok p hp k
    have hX : xprE ⟨madT ps (mad9 ps), (mad9 ps : Int) - 1⟩ = 0 := by
      unfold xprE
      show (if madT ps (mad9 ps) = [] then 9 else if 60 < (madT ps (mad9 ps)).length then 3 else if nodsE (madT ps (mad9 ps)) 0 ≠ 0 then nodsE (madT ps (mad9 ps)) 0 else if (mad9 ps : Int) - 1 < 0 ∨ ((madT ps (mad9 ps)).length : Int) ≤ (mad9 ps : Int) - 1 then 4 else 0) = 0
      rw [if_neg (fun hc => by rw [hc] at hlen; simp at hlen; omega), hlen, if_neg (by omega), hE, if_neg (by simp), if_neg (by omega)]
    refine ⟨hX, by show (madT ps (mad9 ps)).length ≤ 9; omega, fun q hq => ?_⟩
    obtain ⟨nd, hnd, hk, hs⟩ := (srvX_has (xprE_ok hX)).1 hq
    obtain ⟨k, hk2⟩ := List.mem_iff_getElem?.1 hnd
    obtain ⟨p, hp, rfl⟩ := hall k nd hk2
    have a1 : p.server % 6 < 6 := Int.emod_lt_of_pos _ (by decide)
    unfold madN at hk hs
    split at hk
    · rename_i hc
      rw [if_pos hc] at hs
      have : p.server % 6 = (q : Int) := hs
      omega
    · exact absurd (show (2 : Int) = 1 from hk) (by decide)
end Go.Proofs.YtmjgdnpfgkpaoaaGreatDoor
namespace Go.Proofs.YtmjgdnpfgkpaoaaGreatDoor
open Go.RowKit

/-- the five cells of a piece -/
structure PceM (w : World) (b o : Nat) (p : Pce) : Prop where
  c0 : w.cell? ⟨b, o, none⟩ = some (.int .u8 p.kind)
  c1 : w.cell? ⟨b, o + 1, none⟩ = some (.int .u8 p.server)
  c2 : w.cell? ⟨b, o + 2, none⟩ = some (.int .u8 p.need)
  c3 : w.cell? ⟨b, o + 3, none⟩ = some (.bool p.heavy)
  ks : ∃ a n c, w.cell? ⟨b, o + 4, none⟩ = some (.slice a n c) ∧ Rd w a n c (p.kids.map (Value.int .u8))
structure PM (w : World) (a : Option Addr) (n c : Nat) (ps : List Pce) : Prop where
  len : ps.length = n
  le : n ≤ c
  max : c ≤ maxLen
  at' : 0 < n → ∃ b o, a = some ⟨b, o, none⟩ ∧ ∀ i p, ps[i]? = some p → PceM w b (o + i * 5) p
theorem PceM.below {w w' : World} {b o : Nat} {p : Pce} (h : PceM w b o p) (hb : Below w.heap.size w w') : PceM w' b o p := by
  obtain ⟨a, n, c, h4, r4⟩ := h.ks
  exact ⟨cell_keep hb h.c0, cell_keep hb h.c1, cell_keep hb h.c2, cell_keep hb h.c3, ⟨a, n, c, cell_keep hb h4, r4.below hb⟩⟩
theorem PM.below {w w' : World} {a : Option Addr} {n c : Nat} {ps : List Pce} (h : PM w a n c ps) (hb : Below w.heap.size w w') : PM w' a n c ps := by
  refine ⟨h.len, h.le, h.max, fun hn => ?_⟩
  obtain ⟨b, o, ha, hc⟩ := h.at' hn
  exact ⟨b, o, ha, fun i p hi => (hc i p hi).below hb⟩

/-- a block as a value whose own block it is -/
def blkV (X : Nat) : Value := .slice (some ⟨X, 0, none⟩) 1 1
theorem blkV_own (X : Nat) : (blkV X).ownBlock = some X := rfl
theorem Rd.setOther {w : World} {a : Option Addr} {n c : Nat} {l : List Value} {X : Nat} (h : Rd w a n c l) (hc : Clear n (blkV X) a) (j : Nat) (u : Value) : Rd (w.setCell ⟨X, j, none⟩ u) a n c l := by
  refine ⟨h.len, h.le, h.max, h.nil, fun hn => ?_⟩
  obtain ⟨b, o, ha, hcell⟩ := h.at' hn
  refine ⟨b, o, ha, fun i v hv => ?_⟩
  have hne : b ≠ X := fun e => hc hn b o ha (by rw [blkV_own, e])
  have := hcell i v hv
  rw [World.cell?_of_block (w := w) (w' := w.setCell ⟨X, j, none⟩ u) (a := ⟨b, o + i, none⟩) (Below.heap_setCell _ _ _ _ hne)]
  exact this

/-- a node's value reads as the node, and its lists lie apart from a block and from the row of a value -/
structure NodC (w : World) (X : Nat) (v : Value) (p : NodV) (nd : Nod) : Prop where
  e0 : p.kind = nd.kind
  e1 : p.server = nd.server
  e2 : p.need = nd.need
  ws : ∃ a n c, p.wv = .slice a n c ∧ Rd w a n c (nd.weights.map (Value.int .i64)) ∧ Clear n v a ∧ ∀ Y, Y ≤ X → Clear n (blkV Y) a
  ks : ∃ a n c, p.kv = .slice a n c ∧ Rd w a n c (nd.kids.map (Value.int .i64)) ∧ Clear n v a ∧ ∀ Y, Y ≤ X → Clear n (blkV Y) a
theorem NodC.toR {w : World} {X : Nat} {v : Value} {p : NodV} {nd : Nod} (h : NodC w X v p nd) : NodR w p nd := by
  obtain ⟨a, n, c, h3, r3, _, _⟩ := h.ws
  obtain ⟨a', n', c', h4, r4, _, _⟩ := h.ks
  exact ⟨h.e0, h.e1, h.e2, ⟨a, n, c, h3, r3⟩, ⟨a', n', c', h4, r4⟩⟩
theorem NodC.below {w w' : World} {X : Nat} {v : Value} {p : NodV} {nd : Nod} (h : NodC w X v p nd) (hb : Below w.heap.size w w') : NodC w' X v p nd := by
  obtain ⟨a, n, c, h3, r3, k1, k2⟩ := h.ws
  obtain ⟨a', n', c', h4, r4, k3, k4⟩ := h.ks
  exact ⟨h.e0, h.e1, h.e2, ⟨a, n, c, h3, r3.below hb, k1, k2⟩, ⟨a', n', c', h4, r4.below hb, k3, k4⟩⟩
theorem NodC.grown {w w' : World} {X : Nat} {v v' : Value} {p : NodV} {nd : Nod} (h : NodC w X v p nd) (hg : w.grownBy w' v.ownBlock) (hv : ∀ g, v'.ownBlock = some g → v.ownBlock = some g ∨ w.heap.size ≤ g) : NodC w' X v' p nd := by
  obtain ⟨a, n, c, h3, r3, k1, k2⟩ := h.ws
  obtain ⟨a', n', c', h4, r4, k3, k4⟩ := h.ks
  exact ⟨h.e0, h.e1, h.e2, ⟨a, n, c, h3, r3.grown hg k1, k1.step r3 hv, k2⟩, ⟨a', n', c', h4, r4.grown hg k3, k3.step r4 hv, k4⟩⟩
theorem NodC.setAt {w : World} {X : Nat} {v : Value} {p : NodV} {nd : Nod} (h : NodC w X v p nd) (Y : Nat) (hY : Y ≤ X) (j : Nat) (u : Value) : NodC (w.setCell ⟨Y, j, none⟩ u) X v p nd := by
  obtain ⟨a, n, c, h3, r3, k1, k2⟩ := h.ws
  obtain ⟨a', n', c', h4, r4, k3, k4⟩ := h.ks
  exact ⟨h.e0, h.e1, h.e2, ⟨a, n, c, h3, r3.setOther (k2 Y hY) j u, k1, k2⟩, ⟨a', n', c', h4, r4.setOther (k4 Y hY) j u, k3, k4⟩⟩
theorem Clear.none (n : Nat) (v : Value) : Clear n v none := fun _ _ _ h => by cases h
/-- a row of the call's own lies above what lies below its base -/
theorem Clear.lower {w : World} {B k m n c : Nat} {e : TypeId} {a : Option Addr} {xs : List Value} {v : Value} (h : w.ownsRow B e k (.slice a n c) m xs) (hlt : ∀ g, v.ownBlock = some g → g < B) : Clear n v a := by
  intro hn b o ha he
  have h1 := (h.lt b (by rw [ha]; rfl)).1
  have h2 := hlt b he
  omega
/-- a server's node -/
theorem NodC.srv (w : World) (X : Nat) (v : Value) (k s : Int) : NodC w X v ⟨k, s, 0, .slice none 0 0, .slice none 0 0⟩ ⟨k, s, 0, [], []⟩ :=
  ⟨rfl, rfl, rfl, ⟨none, 0, 0, rfl, Rd.none_ _, Clear.none _ _, fun _ _ => Clear.none _ _⟩, ⟨none, 0, 0, rfl, Rd.none_ _, Clear.none _ _, fun _ _ => Clear.none _ _⟩⟩
/-- the nodes made so far, in the row of a field of a block -/
structure XW (w : World) (X : Nat) (v : Value) (t : TypeId) (nodes : List Nod) : Prop where
  row : ∃ V : List NodV, V.length = nodes.length ∧ w.ownsRow (X + 1) t 5 v nodes.length (V.flatMap nodVC) ∧ ∀ (i : Nat) p nd, V[i]? = some p → nodes[i]? = some nd → NodC w X v p nd
theorem XW.nil (w : World) (X : Nat) (t : TypeId) : XW w X (.slice none 0 0) t [] := ⟨[], rfl, World.ownsRow_nil _ _ _ _, fun i p nd h => by simp at h⟩
theorem XW.below {w w' : World} {X : Nat} {v : Value} {t : TypeId} {nodes : List Nod} (h : XW w X v t nodes) (hb : Below w.heap.size w w') : XW w' X v t nodes := by
  obtain ⟨V, h1, h2, h3⟩ := h.row
  exact ⟨V, h1, rowK_below h2 hb, fun i p nd hp hn => (h3 i p nd hp hn).below hb⟩
theorem XW.setAt {w : World} {X : Nat} {v : Value} {t : TypeId} {nodes : List Nod} (h : XW w X v t nodes) (Y : Nat) (hY : Y ≤ X) (j : Nat) (u : Value) : XW (w.setCell ⟨Y, j, none⟩ u) X v t nodes := by
  obtain ⟨V, h1, h2, h3⟩ := h.row
  exact ⟨V, h1, rowK_at h2 fun g hg => Below.heap_setCell _ _ _ _ (by have := (h2.lt g hg).1; show g ≠ Y; omega), fun i p nd hp hn => (h3 i p nd hp hn).setAt Y hY j u⟩
theorem XW.set {w : World} {X : Nat} {v : Value} {t : TypeId} {nodes : List Nod} (h : XW w X v t nodes) (j : Nat) (u : Value) : XW (w.setCell ⟨X, j, none⟩ u) X v t nodes := h.setAt X (Nat.le_refl _) j u
/-- a node more -/
theorem XW.push {w w' : World} {X : Nat} {v v' : Value} {t : TypeId} {nodes : List Nod} {p : NodV} {nd : Nod} {V : List NodV} (hV : V.length = nodes.length) (h3 : ∀ (i : Nat) p nd, V[i]? = some p → nodes[i]? = some nd → NodC w X v p nd) (hr : w'.ownsRow (X + 1) t 5 v' (nodes.length + 1) (V.flatMap nodVC ++ nodVC p))
    (hp : NodC w X v p nd) (hg : w.grownBy w' v.ownBlock) (hv : ∀ g, v'.ownBlock = some g → v.ownBlock = some g ∨ w.heap.size ≤ g) : XW w' X v' t (nodes ++ [nd]) := by
  refine ⟨V ++ [p], by simp [hV], ?_, fun i q m hq hm => ?_⟩
  · rw [List.flatMap_append, List.length_append, List.flatMap_cons, List.flatMap_nil, List.append_nil]; exact hr
  · by_cases hi : i < V.length
    · rw [List.getElem?_append_left hi] at hq
      rw [List.getElem?_append_left (by omega)] at hm
      exact (h3 i q m hq hm).grown hg hv
    · have hq2 := (List.getElem?_eq_some_iff.1 hq).1
      have : i = V.length := by simp at hq2; omega
      subst this
      rw [List.getElem?_append_right (Nat.le_refl _), Nat.sub_self] at hq
      rw [hV, List.getElem?_append_right (Nat.le_refl _), Nat.sub_self] at hm
      cases hq; cases hm
      exact hp.grown hg hv
theorem XW.xm {w : World} {X : Nat} {v : Value} {t : TypeId} {nodes : List Nod} (h : XW w X v t nodes) : ∃ a c, v = .slice a nodes.length c ∧ XM w a nodes.length c nodes := by
  obtain ⟨V, h1, h2, h3⟩ := h.row
  exact XM.of_row h2 h1 fun i p nd hp hn => (h3 i p nd hp hn).toR
end Go.Proofs.YtmjgdnpfgkpaoaaGreatDoor
namespace Go.Proofs.YtmjgdnpfgkpaoaaGreatDoor
open Go.RowKit

def XMR (lo hi : Nat) (w : World) (a : Option Addr) (n c : Nat) (nodes : List Nod) : Prop :=
  ∀ w2 : World, (∀ g, lo ≤ g → g < hi → w2.heap[g]? = w.heap[g]?) → XM w2 a n c nodes
theorem XMR.xm {lo hi : Nat} {w : World} {a : Option Addr} {n c : Nat} {nodes : List Nod} (h : XMR lo hi w a n c nodes) : XM w a n c nodes := h w fun _ _ _ => rfl
theorem XMR.mono {lo hi lo' hi' : Nat} {w : World} {a : Option Addr} {n c : Nat} {nodes : List Nod} (h : XMR lo hi w a n c nodes) (h1 : lo' ≤ lo) (h2 : hi ≤ hi') : XMR lo' hi' w a n c nodes :=
  fun w2 hg => h w2 fun g g1 g2 => hg g (by omega) (by omega)
theorem XMR.agree {lo hi : Nat} {w w' : World} {a : Option Addr} {n c : Nat} {nodes : List Nod} (h : XMR lo hi w a n c nodes) (hg : ∀ g, lo ≤ g → g < hi → w'.heap[g]? = w.heap[g]?) : XMR lo hi w' a n c nodes :=
  fun w2 h2 => h w2 fun g g1 g2 => (h2 g g1 g2).trans (hg g g1 g2)
theorem cell_blk_lt {w : World} {b o : Nat} {v : Value} (h : w.cell? ⟨b, o, none⟩ = some v) : b < w.heap.size := by
  by_cases hb : b < w.heap.size
  · exact hb
  · have h0 : w.heap[b]? = none := Array.getElem?_eq_none (by omega)
    simp [World.cell?, h0] at h
theorem Rd.agree {w w2 : World} {a : Option Addr} {n c X : Nat} {l : List Value} (h : Rd w a n c l) (hc : ∀ Y, Y ≤ X → Clear n (blkV Y) a) (hg : ∀ g, X + 1 ≤ g → g < w.heap.size → w2.heap[g]? = w.heap[g]?) : Rd w2 a n c l := by
  refine ⟨h.len, h.le, h.max, h.nil, fun hn => ?_⟩
  obtain ⟨b, o, ha, hcell⟩ := h.at' hn
  refine ⟨b, o, ha, fun i v hv => ?_⟩
  have h1 := hcell i v hv
  have hX : X + 1 ≤ b := by
    by_cases h2 : b ≤ X
    · exact absurd (blkV_own b) (hc b h2 hn b o ha)
    · omega
  rw [World.cell?_of_block (w := w) (w' := w2) (a := ⟨b, o + i, none⟩) (hg b hX (cell_blk_lt h1))]
  exact h1
theorem NodC.agree {w w2 : World} {X : Nat} {v : Value} {p : NodV} {nd : Nod} (h : NodC w X v p nd) (hg : ∀ g, X + 1 ≤ g → g < w.heap.size → w2.heap[g]? = w.heap[g]?) : NodR w2 p nd := by
  obtain ⟨a, n, c, h3, r3, _, k2⟩ := h.ws
  obtain ⟨a', n', c', h4, r4, _, k4⟩ := h.ks
  exact ⟨h.e0, h.e1, h.e2, ⟨a, n, c, h3, r3.agree k2 hg⟩, ⟨a', n', c', h4, r4.agree k4 hg⟩⟩
theorem XW.xmr {w : World} {X : Nat} {v : Value} {t : TypeId} {nodes : List Nod} (h : XW w X v t nodes) : ∃ a c, v = .slice a nodes.length c ∧ XMR (X + 1) w.heap.size w a nodes.length c nodes := by
  obtain ⟨V, h1, h2, h3⟩ := h.row
  obtain ⟨a, c, rfl, _⟩ := rdK_of_row h2
  refine ⟨a, c, rfl, fun w2 hg => ?_⟩
  obtain ⟨a', c', e, hx⟩ := XM.of_row (rowK_at h2 fun g hgv => hg g (h2.lt g hgv).1 (h2.lt g hgv).2) h1 fun i p nd hp hn => (h3 i p nd hp hn).agree hg
  cases e
  exact hx
end Go.Proofs.YtmjgdnpfgkpaoaaGreatDoor
namespace Go.Proofs.YtmjgdnpfgkpaoaaGreatDoor
open Go.RowKit

def Ag (S : Nat → Prop) (w w2 : World) : Prop := ∀ g, S g → w2.heap[g]? = w.heap[g]?
def NodS (S : Nat → Prop) (w : World) (p : NodV) (nd : Nod) : Prop := ∀ w2 : World, Ag S w w2 → NodR w2 p nd
theorem Ag.refl (S : Nat → Prop) (w : World) : Ag S w w := fun _ _ => rfl
theorem NodS.r {S : Nat → Prop} {w : World} {p : NodV} {nd : Nod} (h : NodS S w p nd) : NodR w p nd := h w (Ag.refl _ _)
theorem NodS.move {S : Nat → Prop} {w w' : World} {p : NodV} {nd : Nod} (h : NodS S w p nd) (ha : Ag S w w') : NodS S w' p nd := fun w2 h2 => h w2 fun g hg => (h2 g hg).trans (ha g hg)
theorem NodS.mono {S S' : Nat → Prop} {w : World} {p : NodV} {nd : Nod} (h : NodS S w p nd) (hs : ∀ g, S g → S' g) : NodS S' w p nd := fun w2 h2 => h w2 fun g hg => h2 g (hs g hg)
/-- a row of one-cell values reads by its block alone -/
theorem row_alone {w : World} {B n : Nat} {e : TypeId} {v : Value} {l : List Value} (h : w.ownsRow B e 1 v n l) (w2 : World) (ha : ∀ g, v.ownBlock = some g → w2.heap[g]? = w.heap[g]?) : ∃ a c, v = .slice a n c ∧ Rd w2 a n c l := by
  have h2 := rowK_at h ha
  exact rd_of_row h2

structure XB (S : Nat → Prop) (B : Nat) (w : World) (v : Value) (t : TypeId) (nodes : List Nod) : Prop where
  row : ∃ V : List NodV, V.length = nodes.length ∧ w.ownsRow B t 5 v nodes.length (V.flatMap nodVC) ∧ ∀ (i : Nat) p nd, V[i]? = some p → nodes[i]? = some nd → NodS S w p nd
  lt : ∀ g, S g → g < w.heap.size
  own : ∀ g, v.ownBlock = some g → ¬ S g
theorem XB.nil (S : Nat → Prop) (B : Nat) (w : World) (t : TypeId) (h : ∀ g, S g → g < w.heap.size) : XB S B w (.slice none 0 0) t [] :=
  ⟨⟨[], rfl, World.ownsRow_nil _ _ _ _, fun i p nd h => by simp at h⟩, h, fun g h => by cases h⟩
theorem XB.lt_own {S : Nat → Prop} {B : Nat} {w : World} {v : Value} {t : TypeId} {nodes : List Nod} (h : XB S B w v t nodes) : ∀ g, v.ownBlock = some g → B ≤ g ∧ g < w.heap.size := by
  obtain ⟨V, _, h2, _⟩ := h.row
  exact fun g hg => h2.lt g hg
theorem XB.shape {S : Nat → Prop} {B : Nat} {w : World} {v : Value} {t : TypeId} {nodes : List Nod} (h : XB S B w v t nodes) : ∃ a c, v = .slice a nodes.length c ∧ XM w a nodes.length c nodes := by
  obtain ⟨V, h1, h2, h3⟩ := h.row
  exact XM.of_row h2 h1 fun i p nd hp hn => (h3 i p nd hp hn).r
/-- other blocks may change -/
theorem XB.move {S : Nat → Prop} {B : Nat} {w w' : World} {v : Value} {t : TypeId} {nodes : List Nod} (h : XB S B w v t nodes) (ha : Ag S w w') (hv : ∀ g, v.ownBlock = some g → w'.heap[g]? = w.heap[g]?) (hs : w.heap.size ≤ w'.heap.size) : XB S B w' v t nodes := by
  obtain ⟨V, h1, h2, h3⟩ := h.row
  exact ⟨⟨V, h1, rowK_at h2 hv, fun i p nd hp hn => (h3 i p nd hp hn).move ha⟩, fun g hg => Nat.lt_of_lt_of_le (h.lt g hg) hs, h.own⟩
theorem XB.below {S : Nat → Prop} {B : Nat} {w w' : World} {v : Value} {t : TypeId} {nodes : List Nod} (h : XB S B w v t nodes) (hb : Below w.heap.size w w') : XB S B w' v t nodes :=
  h.move (fun g hg => hb.block g (h.lt g hg)) (fun g hg => hb.block g (h.lt_own g hg).2) hb.size
theorem XB.mono {S S' : Nat → Prop} {B : Nat} {w : World} {v : Value} {t : TypeId} {nodes : List Nod} (h : XB S B w v t nodes) (hs : ∀ g, S g → S' g) (hlt : ∀ g, S' g → g < w.heap.size) (hown : ∀ g, v.ownBlock = some g → ¬ S' g) : XB S' B w v t nodes := by
  obtain ⟨V, h1, h2, h3⟩ := h.row
  exact ⟨⟨V, h1, h2, fun i p nd hp hn => (h3 i p nd hp hn).mono hs⟩, hlt, hown⟩
/-- a node more -/
theorem XB.push {S : Nat → Prop} {B : Nat} {w w' : World} {v v' : Value} {t : TypeId} {nodes : List Nod} {p : NodV} {nd : Nod} {V : List NodV} (hV : V.length = nodes.length) (h3 : ∀ (i : Nat) p nd, V[i]? = some p → nodes[i]? = some nd → NodS S w p nd) (hlt : ∀ g, S g → g < w.heap.size) (hown : ∀ g, v.ownBlock = some g → ¬ S g)
    (hr : w'.ownsRow B t 5 v' (nodes.length + 1) (V.flatMap nodVC ++ nodVC p)) (hp : NodS S w p nd) (hg : w.grownBy w' v.ownBlock) (hv : ∀ g, v'.ownBlock = some g → v.ownBlock = some g ∨ w.heap.size ≤ g) (hs : w.heap.size ≤ w'.heap.size) : XB S B w' v' t (nodes ++ [nd]) := by
  have ha : Ag S w w' := fun g hg' => hg.block g (hlt g hg') (fun e => hown g e.symm hg')
  refine ⟨⟨V ++ [p], by simp [hV], ?_, fun i q m hq hm => ?_⟩, fun g hg => Nat.lt_of_lt_of_le (hlt g hg) hs, fun g hg' hS => ?_⟩
  · rw [List.flatMap_append, List.length_append, List.flatMap_cons, List.flatMap_nil, List.append_nil]; exact hr
  · by_cases hi : i < V.length
    · rw [List.getElem?_append_left hi] at hq
      rw [List.getElem?_append_left (by omega)] at hm
      exact (h3 i q m hq hm).move ha
    · have hq2 := (List.getElem?_eq_some_iff.1 hq).1
      have : i = V.length := by simp at hq2; omega
      subst this
      rw [List.getElem?_append_right (Nat.le_refl _), Nat.sub_self] at hq
      rw [hV, List.getElem?_append_right (Nat.le_refl _), Nat.sub_self] at hm
      cases hq; cases hm
      exact hp.move ha
  · rcases hv g hg' with h1 | h1
    · exact hown g h1 hS
    · have := hlt g hS; omega
/-- what a call that writes nodes leaves as it was: all but the box and the nodes' row -/
structure KB (OB : Nat) (B : Nat) (v v' : Value) (w w' : World) : Prop where
  bel : Below B w w'
  blk : ∀ k, k < w.heap.size → k ≠ OB → v.ownBlock ≠ some k → w'.heap[k]? = w.heap[k]?
  own : ∀ g, v'.ownBlock = some g → v.ownBlock = some g ∨ w.heap.size ≤ g
theorem KB.refl (OB B : Nat) (v : Value) (w : World) : KB OB B v v w w := ⟨Below.refl _ _, fun _ _ _ _ => rfl, fun _ h => .inl h⟩
theorem KB.trans {OB B : Nat} {v v' v'' : Value} {w w' w'' : World} (h : KB OB B v v' w w') (k : KB OB B v' v'' w' w'') : KB OB B v v'' w w'' := by
  refine ⟨h.bel.trans k.bel, fun j hj hB hv => ?_, fun g hg => ?_⟩
  · rw [k.blk j (Nat.lt_of_lt_of_le hj h.bel.size) hB (fun e => ?_), h.blk j hj hB hv]
    rcases h.own j e with h1 | h1
    · exact hv h1
    · omega
  · rcases k.own g hg with h1 | h1
    · exact h.own g h1
    · exact .inr (Nat.le_trans h.bel.size h1)
theorem KB.of_below {OB B : Nat} (v : Value) {w w' : World} (hB : B ≤ w.heap.size) (h : Below w.heap.size w w') : KB OB B v v w w' := ⟨h.mono hB, fun k hk _ _ => h.block k hk, fun _ e => .inl e⟩
/-- .. where blocks of the call's own (from s on) may have been written -/
structure KBs (s OB B : Nat) (v v' : Value) (w w' : World) : Prop where
  bel : Below B w w'
  blk : ∀ k, k < s → k ≠ OB → v.ownBlock ≠ some k → w'.heap[k]? = w.heap[k]?
  own : ∀ g, v'.ownBlock = some g → v.ownBlock = some g ∨ s ≤ g
theorem KB.s {s OB B : Nat} {v v' : Value} {w w' : World} (h : KB OB B v v' w w') (hs : s ≤ w.heap.size) : KBs s OB B v v' w w' :=
  ⟨h.bel, fun k hk ho hv => h.blk k (by omega) ho hv, fun g hg => (h.own g hg).imp id (fun h1 => by omega)⟩
theorem KBs.k {OB B : Nat} {v v' : Value} {w w' : World} (h : KBs w.heap.size OB B v v' w w') : KB OB B v v' w w' := ⟨h.bel, h.blk, h.own⟩
theorem KBs.trans {s OB B : Nat} {v v' v'' : Value} {w w' w'' : World} (h : KBs s OB B v v' w w') (k : KBs s OB B v' v'' w' w'') : KBs s OB B v v'' w w'' := by
  refine ⟨h.bel.trans k.bel, fun j hj hB hv => ?_, fun g hg => ?_⟩
  · rw [k.blk j hj hB (fun e => ?_), h.blk j hj hB hv]
    rcases h.own j e with h1 | h1
    · exact hv h1
    · omega
  · rcases k.own g hg with h1 | h1
    · exact h.own g h1
    · exact .inr h1
theorem KBs.refl (s OB B : Nat) (v : Value) (w : World) : KBs s OB B v v w w := ⟨Below.refl _ _, fun _ _ _ _ => rfl, fun _ h => .inl h⟩
/-- a store into the box or into a block of the call's own -/
theorem KBs.store {s OB B N : Nat} (v : Value) (w : World) (hs : s ≤ N ∨ N = OB) (hB : B ≤ N) (j : Nat) (u : Value) : KBs s OB B v v w (w.setCell ⟨N, j, none⟩ u) :=
  ⟨(Below.refl B w).setCell (p := ⟨N, j, none⟩) hB u, fun k hk ho _ => Below.heap_setCell _ _ _ _ (by show k ≠ N; omega), fun _ e => .inl e⟩
end Go.Proofs.YtmjgdnpfgkpaoaaGreatDoor
