/- Texts laid together. Contracts of Go's library over this seat's dump: laid by the kit's shelf tools (plain mode), cut down to those that are used. Sorting and compacting a list of strings that the call itself has made. The reference of layer 5: Same. The reference of layer 37: insert. The reference of layer 37: Chosen. Layer 37, plain: what the map of acceptances holds; what is collected out of it. Maps as functions from keys: an entry that is made first, and read before it is filled. Over any program. Layer 37: Chosen of the program. The reference of layer 9: Hits and Cross. The reference of layer 37: Short. The law SingleAny, walked. The reference of layer 9: Disjoint. The reference of layer 37: Attack. The law SingleAttack, walked. -/
import Derived.Test.YtgfjmplifmbmlaaDoorGSingleAttack2
import Derived.Test.YtgfjmplifmbmlaaDoorGSingleAttack3
import Derived.Test.YtgfjmplifmbmlaaDoorGSingleAttack4
import Derived.Test.YtgfjmplifmbmlaaDoorGSingleAttack5
import Derived.Test.YtgfjmplifmbmlaaDoorGSingleAttack8
import Derived.Test.YtgfjmplifmbmlaaDoorGSingleAttack9
import Derived.Test.YtgfjmplifmbmlaaDoorProg
import Derived.Shelf.Small.Bits
import Derived.Shelf.Strconv.Itoa0
import Derived.Shelf.Strconv.Itoa1
import Derived.Shelf.LaysM
import Derived.Shelf.Strconv.Itoa2
import Derived.Shelf.Strconv.Itoa3
import Derived.Shelf.Sort.Plain
import Derived.Shelf.Slices.CompactS
import Derived.Ground.Names2Prog
import Derived.Shelf.Slices.SearchI
import Derived.Shelf.Slices.In.SortNone
import Derived.Sort.OwnSorted
import Derived.Deep.RegionHeld3
import Derived.Laws.Cover1
import Derived.Sort.Walk0
import Derived.Deep.QuietTactic
import Derived.BigQuiet
namespace Go.Proofs
open Go.Shelf

def Tryd.lays190_ren : Go.Shelf.Ren := ⟨fun | 190 => 49 | 125 => 69 | 258 => 68 | 128 => 90 | 129 => 91 | 302 => 81 | 303 => 82 | 304 => 83 | 305 => 84 | 306 => 85 | 307 => 86 | 308 => 87 | 309 => 88 | 310 => 89 | 333 => 101 | 329 => 102 | 330 => 103 | 334 => 104 | 335 => 105 | 336 => 106 | 344 => 114 | n => n, fun | 31 => 57 | 9 => 9 | 3 => 3 | 46 => 109 | 0 => 0 | 51 => 117 | 53 => 131 | 4 => 4 | 183 => 122 | 182 => 121 | 131 => 127 | 5 => 5 | 218 => 138 | 222 => 142 | 228 => 150 | 229 => 151 | n => n, fun | n => n⟩

theorem Tryd.lays190 : Go.Proofs.Lays.n190 Tryd.prog Tryd.lays190_ren := {
  mixed := by kernel_rfl
  f125 := Tryd.func69.trans (congrArg some (by kernel_rfl))
  f128 := Tryd.func90.trans (congrArg some (by kernel_rfl))
  f129 := Tryd.func91.trans (congrArg some (by kernel_rfl))
  f190 := Tryd.func49.trans (congrArg some (by kernel_rfl))
  f258 := Tryd.func68.trans (congrArg some (by kernel_rfl))
  f302 := Tryd.func81.trans (congrArg some (by kernel_rfl))
  f303 := Tryd.func82.trans (congrArg some (by kernel_rfl))
  f304 := Tryd.func83.trans (congrArg some (by kernel_rfl))
  f305 := Tryd.func84.trans (congrArg some (by kernel_rfl))
  f306 := Tryd.func85.trans (congrArg some (by kernel_rfl))
  f307 := Tryd.func86.trans (congrArg some (by kernel_rfl))
  f308 := Tryd.func87.trans (congrArg some (by kernel_rfl))
  f309 := Tryd.func88.trans (congrArg some (by kernel_rfl))
  f310 := Tryd.func89.trans (congrArg some (by kernel_rfl))
  f329 := Tryd.func102.trans (congrArg some (by kernel_rfl))
  f330 := Tryd.func103.trans (congrArg some (by kernel_rfl))
  f333 := Tryd.func101.trans (congrArg some (by kernel_rfl))
  f334 := Tryd.func104.trans (congrArg some (by kernel_rfl))
  f335 := Tryd.func105.trans (congrArg some (by kernel_rfl))
  f336 := Tryd.func106.trans (congrArg some (by kernel_rfl))
  f344 := Tryd.func114.trans (congrArg some (by kernel_rfl))
  t0 := Tryd.underlying0
  a0 := Tryd.isAgg0
  z0 := Tryd.sizeOf0
  v0 := Tryd.zeroValue0
  t3 := Tryd.underlying3
  a3 := Tryd.isAgg3
  z3 := Tryd.sizeOf3
  v3 := Tryd.zeroValue3
  t4 := Tryd.underlying4
  a4 := Tryd.isAgg4
  z4 := Tryd.sizeOf4
  v4 := Tryd.zeroValue4
  t5 := Tryd.underlying5
  a5 := Tryd.isAgg5
  z5 := Tryd.sizeOf5
  v5 := Tryd.zeroValue5
  t9 := Tryd.underlying9
  a9 := Tryd.isAgg9
  z9 := Tryd.sizeOf9
  v9 := Tryd.zeroValue9
  t31 := Tryd.underlying57
  a31 := Tryd.isAgg57
  z31 := Tryd.sizeOf57
  v31 := Tryd.zeroValue57
  t46 := Tryd.underlying109
  a46 := Tryd.isAgg109
  z46 := Tryd.sizeOf109
  v46 := Tryd.zeroValue109
  t51 := Tryd.underlying117
  a51 := Tryd.isAgg117
  z51 := Tryd.sizeOf117
  v51 := Tryd.zeroValue117
  t53 := Tryd.underlying131
  a53 := Tryd.isAgg131
  z53 := Tryd.sizeOf131
  v53 := Tryd.zeroValue131
  t131 := Tryd.underlying127
  a131 := Tryd.isAgg127
  z131 := Tryd.sizeOf127
  v131 := Tryd.zeroValue127
  t182 := Tryd.underlying121
  a182 := Tryd.isAgg121
  z182 := Tryd.sizeOf121
  v182 := Tryd.zeroValue121
  t183 := Tryd.underlying122
  a183 := Tryd.isAgg122
  z183 := Tryd.sizeOf122
  v183 := Tryd.zeroValue122
  t218 := Tryd.underlying138
  a218 := Tryd.isAgg138
  z218 := Tryd.sizeOf138
  v218 := Tryd.zeroValue138
  t222 := Tryd.underlying142
  a222 := Tryd.isAgg142
  z222 := Tryd.sizeOf142
  v222 := Tryd.zeroValue142
  t228 := Tryd.underlying150
  a228 := Tryd.isAgg150
  z228 := Tryd.sizeOf150
  v228 := Tryd.zeroValue150
  t229 := Tryd.underlying151
  a229 := Tryd.isAgg151
  z229 := Tryd.sizeOf151
  v229 := Tryd.zeroValue151 }

open Go.Sort Go.RowKit in
theorem Tryd.slices_Sort_string (blk off cap : Nat) (ss : List (List UInt8)) (w : World) (hH : Holds encStr w blk off ss.toArray) (hblk : blk < w.heap.size) (hsz : ss.length < 4611686018427387904) :
    Calls Tryd.prog 49 #[.slice (some ⟨blk, off, none⟩) ss.length cap] w fun e w' =>
      e = .returned (.tuple #[]) ∧ ∃ n os, w' = grow (putRow encStr (Sort.ahead w n) blk off (ss.mergeSort fun x y => decide (x ≤ y)).toArray) os := Any.slices_Sort_string Tryd.lays190 blk off cap ss w hH hblk hsz

def Tryd.lays194_ren : Go.Shelf.Ren := ⟨fun | 194 => 50 | n => n, fun | 31 => 57 | 9 => 9 | 3 => 3 | 4 => 4 | 0 => 0 | n => n, fun | n => n⟩

theorem Tryd.lays194 : Go.Proofs.Lays.n194 Tryd.prog Tryd.lays194_ren := {
  mixed := by kernel_rfl
  f194 := Tryd.func50.trans (congrArg some (by kernel_rfl))
  t0 := Tryd.underlying0
  a0 := Tryd.isAgg0
  z0 := Tryd.sizeOf0
  v0 := Tryd.zeroValue0
  t3 := Tryd.underlying3
  a3 := Tryd.isAgg3
  z3 := Tryd.sizeOf3
  v3 := Tryd.zeroValue3
  t4 := Tryd.underlying4
  a4 := Tryd.isAgg4
  z4 := Tryd.sizeOf4
  v4 := Tryd.zeroValue4
  t9 := Tryd.underlying9
  a9 := Tryd.isAgg9
  z9 := Tryd.sizeOf9
  v9 := Tryd.zeroValue9
  t31 := Tryd.underlying57
  a31 := Tryd.isAgg57
  z31 := Tryd.sizeOf57
  v31 := Tryd.zeroValue57 }

open Go.RowKit Go.Lib Go.Sort in
theorem Tryd.slices_Compact_string (blk off cap : Nat) (zs : List (List UInt8)) (w : World) (hH : Holds encStr w blk off zs.toArray) (hsz : zs.length ≤ 9223372036854775807) (hcap : zs.length ≤ cap) :
    Calls Tryd.prog 50 #[.slice (some ⟨blk, off, none⟩) zs.length cap] w fun e w' => e = .returned (.slice (some ⟨blk, off, none⟩) (Lib.compact zs).length cap) ∧ ∃ q, w' = putRow encStr (Sort.ahead w q) blk off (Lib.compact zs ++ List.replicate (zs.length - (Lib.compact zs).length) []).toArray := Any.slices_Compact_string Tryd.lays194 blk off cap zs w hH hsz hcap

open Go.RowKit Go.Lib Go.Sort in
theorem Tryd.slices_Compact_string_empty (a : Option Addr) (cap : Nat) (w : World) :
    Calls Tryd.prog 50 #[.slice a 0 cap] w fun e w' => e = .returned (.slice a 0 cap) ∧ w' = w := Any.slices_Compact_string_empty Tryd.lays194 a cap w

open Go.RowKit Go.Sort in
theorem Tryd.slices_Sort_string_none (p : Option Addr) (cap : Nat) (w : World) :
    Calls Tryd.prog 49 #[.slice p 0 cap] w fun e w' => e = .returned (.tuple #[]) ∧ w' = w := Any.slices_Sort_string_none Tryd.lays190 p cap w

end Go.Proofs
namespace Go.Proofs.YtgfjmplifmbmlaaDoor
open Go.RowKit Go.Shelf Go.Sort

theorem Tryd.infoStr : (Tryd.prog.info? 9).map (fun i => (i.zero, i.size, i.bytes)) = some (some (.string ⟨#[]⟩), 1, 16) := by kernel_rfl

theorem sortT_c (B : Nat) (v : Value) (zs : List Str) (w : World) (h : w.ownsRow B 9 1 v zs.length (zs.map encStr)) (hsz : zs.length ≤ 1000) :
    Calls Tryd.prog 49 #[v] w fun e w' => e = .returned (.tuple #[]) ∧ w'.ownsRow B 9 1 v zs.length ((zs.mergeSort fun x y => decide (x ≤ y)).map encStr) ∧ w.grownBy w' v.ownBlock := by
  have hl : (zs.mergeSort fun x y => decide (x ≤ y)).length = zs.length := List.length_mergeSort _
  rcases h.2 with ⟨rfl, h0⟩ | ⟨g, cap, cur, rfl, hbase, hb, h1, h2, h3, h4⟩
  · have hz : zs = [] := List.eq_nil_of_length_eq_zero h0
    subst hz
    refine (Tryd.slices_Sort_string_none none 0 w).mono ?_
    rintro e w' ⟨rfl, rfl⟩
    exact ⟨rfl, by simpa using World.ownsRow_nil _ _ _ _, World.grownBy.refl _ _⟩
  · refine (Tryd.slices_Sort_string g 0 cap zs w (holds_of_block hb (by simpa using h4)) (Array.getElem?_eq_some_iff.1 hb).1 (by omega)).mono ?_
    rintro e w' ⟨rfl, n, os, rfl⟩
    exact ⟨rfl, ownsRow_sorted hl hbase hb h1 h2 h3, grownBy_sorted _⟩

theorem compact_len (zs : List Str) : (Lib.compact zs).length ≤ zs.length := by
  unfold Lib.compact Lib.compactUpTo
  rw [List.length_map]
  exact Nat.le_trans (List.length_filter_le _ _) (by simp)
/-- what Compact hands back is read, and lies in the row that it was given (or is nil) -/
theorem compactT_c (B : Nat) (v : Value) (zs : List Str) (w : World) (h : w.ownsRow B 9 1 v zs.length (zs.map encStr)) (hsz : zs.length ≤ 1000) :
    Calls Tryd.prog 50 #[v] w fun e w' => ∃ a c, e = .returned (.slice a (Lib.compact zs).length c) ∧ Rd w' a (Lib.compact zs).length c ((Lib.compact zs).map encStr) ∧ w.grownBy w' v.ownBlock := by
  rcases h.2 with ⟨rfl, h0⟩ | ⟨g, cap, cur, rfl, hbase, hb, h1, h2, h3, h4⟩
  · have hz : zs = [] := List.eq_nil_of_length_eq_zero h0
    subst hz
    refine (Tryd.slices_Compact_string_empty none 0 w).mono ?_
    rintro e w' ⟨rfl, rfl⟩
    exact ⟨none, 0, rfl, Rd.none_ _, World.grownBy.refl _ _⟩
  · refine (Tryd.slices_Compact_string g 0 cap zs w (holds_of_block hb (by simpa using h4)) (by omega) h1).mono ?_
    rintro e w' ⟨rfl, q, rfl⟩
    have hcl := compact_len zs
    have hl : (Lib.compact zs ++ List.replicate (zs.length - (Lib.compact zs).length) []).length = zs.length := by rw [List.length_append, List.length_replicate]; omega
    have ho := ownsRow_sorted (n := q) (os := #[]) hl hbase hb h1 h2 h3
    have hg := grownBy_sorted (w := w) (g := g) (n := q) (os := #[]) (Lib.compact zs ++ List.replicate (zs.length - (Lib.compact zs).length) []).toArray
    rw [grow_empty] at ho hg
    obtain ⟨a, c, hv, hr⟩ := rd_of_row ho
    injection hv with hv1 hv2 hv3
    subst hv1 hv3
    have hr2 := hr.take (Lib.compact zs).length hcl
    rw [List.map_append, List.take_append_of_le_length (by simp), List.take_of_length_le (by simp)] at hr2
    exact ⟨_, _, rfl, hr2, hg⟩
end Go.Proofs.YtgfjmplifmbmlaaDoor
namespace Go.Proofs.YtgfjmplifmbmlaaDoor
open Go.RowKit Go.Shelf

theorem str_at {l : List Str} {k : Nat} {x : Str} (h : l[k]? = some x) : (l.map encStr)[k]? = some (.string ⟨x.toArray⟩) := by rw [List.getElem?_map, h]; rfl
theorem takeS {l m : List Str} {k : Nat} {x y : Str} (hl : l.length = m.length) (hx : l[k]? = some x) (hy : m[k]? = some y) (h : l.take k = m.take k) : (x = y → l.take (k + 1) = m.take (k + 1)) ∧ (x ≠ y → l ≠ m) := by
  constructor
  · rintro rfl; rw [List.take_add_one, List.take_add_one, hx, hy, h]
  · rintro hne rfl; rw [hx] at hy; cases hy; exact hne rfl

set_option maxRecDepth 100000 in
set_option maxHeartbeats 2000000 in
theorem same5_c (l m : List Str) (a : Option Addr) (n c : Nat) (a2 : Option Addr) (n2 c2 : Nat) (w : World) (h : Rd w a n c (l.map encStr)) (h2 : Rd w a2 n2 c2 (m.map encStr)) :
    Calls Tryd.prog 29 #[.slice a n c, .slice a2 n2 c2] w fun e w' => e = .returned (.bool (decide (l = m))) ∧ Below w.heap.size w w' := by
  have hnl : l.length = n := by have := h.len; simp at this; omega
  have hnl2 : m.length = n2 := by have := h2.len; simp at this; omega
  have hm := h.max
  have hle := h.le
  have hm2 := h2.max
  have hle2 := h2.le
  unfold maxLen at hm hm2
  have HR := Lib.hid h
  have HN := Lib.hid hnl
  have HR2 := Lib.hid h2
  have HN2 := Lib.hid hnl2
  clear h hnl h2 hnl2
  by_cases hnn : n = n2
  · subst hnn
    go_enter Tryd.func29, Tryd.ntmps29
    go_wp2_with fail
    go_loopw [5] (fun i wr => ∃ k : Nat, k ≤ n ∧ i = .int .i64 k ∧ Hid (l.take k = m.take k) ∧ Below w.heap.size w wr) (fun i _ => n - (intOf i).toNat)
    case atStart => exact ⟨0, Nat.zero_le _, rfl, rfl, Below.refl _ _⟩
    case round =>
      obtain ⟨k, hk, rfl, ht, hb⟩ := hrel
      by_cases hlt : k < n
      · obtain ⟨p, hp⟩ : ∃ r, l[k]? = some r := ⟨l[k]'(by have := HN.out; omega), List.getElem?_eq_getElem _⟩
        obtain ⟨q, hq⟩ : ∃ r, m[k]? = some r := ⟨m[k]'(by have := HN2.out; omega), List.getElem?_eq_getElem _⟩
        obtain ⟨b, o, ha, hcell⟩ := (HR.out.below hb).at' (by omega)
        have c0 := hcell k _ (str_at hp)
        obtain ⟨b2, o2, ha2, hcell2⟩ := (HR2.out.below hb).at' (by omega)
        have d0 := hcell2 k _ (str_at hq)
        obtain ⟨s1, s2⟩ := takeS (by rw [HN.out, HN2.out]) hp hq ht.out
        obtain ⟨x, hx⟩ : ∃ x, (⟨p.toArray⟩ : ByteArray) = x := ⟨_, rfl⟩
        obtain ⟨y, hy⟩ : ∃ y, (⟨q.toArray⟩ : ByteArray) = y := ⟨_, rfl⟩
        have hpx : x.toList = p := by rw [← hx]; exact bs_list p
        have hqy : y.toList = q := by rw [← hy]; exact bs_list q
        rw [hx] at c0
        rw [hy] at d0
        have S1 := Lib.hid s1
        have S2 := Lib.hid s2
        subst ha ha2
        clear hcell hcell2 hp hq s1 s2 hx hy
        by_cases he : p = q
        · have ht2 : Hid (l.take (k + 1) = m.take (k + 1)) := S1.out he
          have hxy : (x.toList == y.toList) = true := by rw [hpx, hqy, he]; simp
          have hxy2 : (x.toList != y.toList) = false := by rw [hpx, hqy, he]; simp
          clear S1 S2 ht hpx hqy he
          go_wp2_with fail
          go_quiet (fail)
          go_wp2_with fail
          go_roundw
          case rel => exact ⟨k + 1, by omega, by go_num, ht2, below_drewN hb⟩
          case measure => simp [intOf]; omega
        · have hE : Hid (decide (l = m) = false) := decide_eq_false (S2.out he)
          have hxy : (x.toList == y.toList) = false := by rw [hpx, hqy]; simpa using he
          have hxy2 : (x.toList != y.toList) = true := by rw [hpx, hqy]; simpa using he
          clear S1 S2 ht hpx hqy he
          go_wp2_with fail
          go_quiet (fail)
          go_wp2_with fail
          go_ret
          exact ⟨ret_bool hE.out.symm, below_drewN hb⟩
      · have hE : Hid (decide (l = m) = true) := by
          show _ = _
          rw [decide_eq_true_iff]
          have := ht.out
          rw [List.take_of_length_le (by have := HN.out; omega), List.take_of_length_le (by have := HN2.out; omega)] at this
          exact this
        clear ht
        go_wp2_with fail
        go_ret
        exact ⟨ret_bool hE.out.symm, hb⟩
  · have hE : Hid (decide (l = m) = false) := by
      show _ = _
      rw [decide_eq_false_iff_not]
      rintro rfl
      exact hnn (by rw [← HN.out, HN2.out])
    have hne : ((n : Int) != (n2 : Int)) = true := by rw [bne_iff_ne]; omega
    clear hnn
    go_enter Tryd.func29, Tryd.ntmps29
    go_wp2_with fail
    go_ret
    exact ⟨ret_bool hE.out.symm, Below.refl _ _⟩
end Go.Proofs.YtgfjmplifmbmlaaDoor
namespace Go.Proofs.YtgfjmplifmbmlaaDoor
open Go.RowKit Go.Shelf Go.Sort

theorem less_le' (x y : Str) : (Op.bytesLess x y || x == y) = decide (x ≤ y) := by
  rw [bytesLess_eq, Bool.eq_iff_iff, Bool.or_eq_true, decide_eq_true_eq, decide_eq_true_eq, beq_iff_eq]
  constructor
  · rintro (h | rfl)
    · exact List.not_lt.1 (fun h2 => List.lt_irrefl _ (List.lt_trans h h2))
    · exact List.le_refl _
  · intro h
    by_cases he : x = y
    · exact .inr he
    · exact .inl (List.not_le.1 (fun h2 => he (List.le_antisymm h h2)))
/-- what insert has built behind k elements -/
def insStep (s : Str) (o : List Str × Bool) (x : Str) : List Str × Bool := if o.2 = true then (o.1 ++ [x], true) else if s ≤ x then (if s = x then (o.1 ++ [x], true) else (o.1 ++ [s, x], true)) else (o.1 ++ [x], false)
def insTo (s : Str) (l : List Str) (k : Nat) : List Str × Bool := (l.take k).foldl (insStep s) ([], false)
theorem insTo_succ' {s : Str} {l : List Str} {k : Nat} {x : Str} (h : l[k]? = some x) : insTo s l (k + 1) = insStep s (insTo s l k) x := by
  unfold insTo; rw [List.take_add_one, h]; simp
theorem insTo_succ {s : Str} {l : List Str} {k : Nat} {x : Str} (h : l[k]? = some x) : insTo s l (k + 1) = if (insTo s l k).2 = true then ((insTo s l k).1 ++ [x], true) else if s ≤ x then (if s = x then ((insTo s l k).1 ++ [x], true) else ((insTo s l k).1 ++ [s, x], true)) else ((insTo s l k).1 ++ [x], false) := insTo_succ' h
theorem ins_true (s : Str) : ∀ (l o : List Str), l.foldl (insStep s) (o, true) = (o ++ l, true) := by
  intro l
  induction l with
  | nil => intro o; simp
  | cons x l ih => intro o; rw [List.foldl_cons, show insStep s (o, true) x = (o ++ [x], true) from rfl, ih]; simp
def insEnd (s : Str) (r : List Str × Bool) : List Str := if r.2 = true then r.1 else r.1 ++ [s]
theorem ins_fold (s : Str) : ∀ (l o : List Str), insEnd s (l.foldl (insStep s) (o, false)) = o ++ insS s l := by
  intro l
  induction l with
  | nil => intro o; simp [insS, insEnd]
  | cons x l ih =>
    intro o
    rw [List.foldl_cons]
    have e : insStep s (o, false) x = if s ≤ x then (if s = x then (o ++ [x], true) else (o ++ [s, x], true)) else (o ++ [x], false) := rfl
    rw [e]
    unfold insS
    by_cases h1 : s ≤ x
    · rw [if_pos h1, if_pos h1]
      by_cases h2 : s = x
      · rw [if_pos h2, if_pos h2, ins_true]; simp [insEnd]
      · rw [if_neg h2, if_neg h2, ins_true]; simp [insEnd]
    · rw [if_neg h1, if_neg h1, ih]; simp
theorem insTo_all (s : Str) (l : List Str) : (if (insTo s l l.length).2 = true then (insTo s l l.length).1 else (insTo s l l.length).1 ++ [s]) = insS s l := by
  have := ins_fold s l []
  unfold insTo
  rw [List.take_length]
  simpa [insEnd] using this
theorem insTo_len (s : Str) (l : List Str) : ∀ k, (insTo s l k).1.length ≤ 2 * k := by
  intro k
  induction k with
  | zero => simp [insTo]
  | succ k ih =>
    cases h : l[k]? with
    | none => unfold insTo at ih ⊢; rw [List.take_add_one, h]; simp at ih ⊢; omega
    | some x =>
      rw [insTo_succ h]
      split
      · simp; omega
      · split
        · split
          · simp; omega
          · simp; omega
        · simp; omega
theorem insS_len (s : Str) : ∀ l : List Str, (insS s l).length ≤ l.length + 1 := by
  intro l
  induction l with
  | nil => simp [insS]
  | cons x l ih => unfold insS; split
                   · split <;> simp
                   · simp; omega

set_option maxRecDepth 100000 in
set_option maxHeartbeats 4000000 in
theorem insert_c (l : List Str) (s : ByteArray) (a : Option Addr) (n c : Nat) (w : World) (h : Rd w a n c (l.map encStr)) (hl : n ≤ 1000) :
    Calls Tryd.prog 52 #[.slice a n c, .string s] w fun e w' => ∃ v, e = .returned v ∧ w'.ownsRow w.heap.size 9 1 v (insS s.toList l).length ((insS s.toList l).map encStr) ∧ Below w.heap.size w w' := by
  have hnl : l.length = n := by have := h.len; simp at this; omega
  have hm := h.max
  have hle := h.le
  unfold maxLen at hm
  have HR := Lib.hid h
  have HN := Lib.hid hnl
  have hsE : encStr s.toList = .string s := by unfold encStr; rw [bs_mk]
  have HSE := Lib.hid hsE
  clear h hnl hsE
  go_enter Tryd.func52, Tryd.ntmps52
  go_wp2_with fail
  go_loopw [5, 6, 7] (fun v d i wr => ∃ k : Nat, k ≤ n ∧ i = .int .i64 k ∧ ∃ (f : Bool) (m : Nat), d = .bool f ∧ m ≤ 2 * k ∧ Hid ((insTo s.toList l k).1.length = m ∧ (insTo s.toList l k).2 = f) ∧ wr.ownsRow w.heap.size 9 1 v m ((insTo s.toList l k).1.map encStr) ∧ Below w.heap.size w wr) (fun _ _ i _ => n - (intOf i).toNat)
  case atStart => exact ⟨0, Nat.zero_le _, rfl, false, 0, rfl, by omega, ⟨rfl, rfl⟩, World.ownsRow_nil _ _ _ _, Below.refl _ _⟩
  case round =>
    obtain ⟨k, hk, rfl, f, m, rfl, hmk, hmf, hown, hb⟩ := hrel
    by_cases hlt : k < n
    · obtain ⟨x, hx⟩ : ∃ x, l[k]? = some x := ⟨_, List.getElem?_eq_getElem (by have := HN.out; omega)⟩
      obtain ⟨b, o, ha, hcell⟩ := HR.out.at' (by omega)
      have hc0 := hcell k _ (str_at hx)
      have hst := insTo_succ (s := s.toList) hx
      rw [hmf.out.2] at hst
      obtain ⟨y, hy⟩ : ∃ y, (⟨x.toArray⟩ : ByteArray) = y := ⟨_, rfl⟩
      have hyx : y.toList = x := by rw [← hy]; exact bs_list x
      have hye : encStr x = .string y := by unfold encStr; rw [hy]
      have HYE := Lib.hid hye
      rw [hy] at hc0
      have HC0 := Lib.hid hc0
      have hc := (hb.cell (p := ⟨b, o + k, none⟩) (cell_lt hc0)).trans hc0
      subst ha
      rw [← hyx] at hst HYE
      clear hcell hy hyx hye hx hc0
      cases f
      · rw [if_neg (by decide)] at hst
        have hle2 := less_le' s.toList y.toList
        cases hq : (Op.bytesLess s.toList y.toList || s.toList == y.toList)
        · rw [hq] at hle2
          rw [if_neg (of_decide_eq_false hle2.symm)] at hst
          have HST := Lib.hid hst
          clear hst hle2
          go_wp2_with (at_builtin; go_must (refine wpList_app _ _ 57 16 (.string ⟨#[]⟩) (.string y) _ Tryd.underlying57 Tryd.infoStr rfl hown hb (Nat.le_refl _) rfl rfl rfl rfl rfl (by unfold maxLen; omega) (by omega) ?_))
          intro v' w1 hown1 hb1 _ _
          clear hown hb hc
          go_wp2_with fail
          go_roundw
          case rel => exact ⟨k + 1, by omega, by go_num, false, m + 1, rfl, by omega, ⟨by rw [HST.out]; simp [hmf.out.1], by rw [HST.out]⟩, by rw [HST.out]; simpa [HYE.out] using hown1, hb1⟩
          case measure => simp [intOf]; omega
        · rw [hq] at hle2
          rw [if_pos (of_decide_eq_true hle2.symm)] at hst
          cases hq2 : (s.toList == y.toList)
          · rw [if_neg (by simpa using hq2)] at hst
            have hq3 : (s.toList != y.toList) = true := by simpa using hq2
            have hbl : Op.bytesLess s.toList y.toList = true := by rw [hq2, Bool.or_false] at hq; exact hq
            clear hq
            have HST := Lib.hid hst
            clear hst hle2
            go_wp2_with (at_builtin; go_must (refine wpList_app _ _ 57 16 (.string ⟨#[]⟩) (.string s) _ Tryd.underlying57 Tryd.infoStr rfl hown hb (Nat.le_refl _) rfl rfl rfl rfl rfl (by unfold maxLen; omega) (by omega) ?_))
            intro v' w1 hown1 hb1 _ _
            have hc1 := (hb1.cell (p := ⟨b, o + k, none⟩) (cell_lt HC0.out)).trans HC0.out
            clear hown hb hc
            go_wp2_with (at_builtin; go_must (refine wpList_app _ _ 57 16 (.string ⟨#[]⟩) (.string y) _ Tryd.underlying57 Tryd.infoStr rfl hown1 hb1 (Nat.le_refl _) rfl rfl rfl rfl rfl (by unfold maxLen; omega) (by omega) ?_))
            intro v'' w2 hown2 hb2 _ _
            clear hown1 hb1 hc1
            go_wp2_with fail
            go_roundw
            case rel => exact ⟨k + 1, by omega, by go_num, true, m + 1 + 1, rfl, by omega, ⟨by rw [HST.out]; simp [hmf.out.1], by rw [HST.out]⟩, by rw [HST.out]; simpa [HYE.out, HSE.out] using hown2, hb2⟩
            case measure => simp [intOf]; omega
          · rw [if_pos (by simpa using hq2)] at hst
            have hq3 : (s.toList != y.toList) = false := by simpa using hq2
            have HST := Lib.hid hst
            clear hst hle2
            go_wp2_with (at_builtin; go_must (refine wpList_app _ _ 57 16 (.string ⟨#[]⟩) (.string y) _ Tryd.underlying57 Tryd.infoStr rfl hown hb (Nat.le_refl _) rfl rfl rfl rfl rfl (by unfold maxLen; omega) (by omega) ?_))
            intro v' w1 hown1 hb1 _ _
            clear hown hb hc
            go_wp2_with fail
            go_roundw
            case rel => exact ⟨k + 1, by omega, by go_num, true, m + 1, rfl, by omega, ⟨by rw [HST.out]; simp [hmf.out.1], by rw [HST.out]⟩, by rw [HST.out]; simpa [HYE.out] using hown1, hb1⟩
            case measure => simp [intOf]; omega
      · rw [if_pos rfl] at hst
        have HST := Lib.hid hst
        clear hst
        go_wp2_with (at_builtin; go_must (refine wpList_app _ _ 57 16 (.string ⟨#[]⟩) (.string y) _ Tryd.underlying57 Tryd.infoStr rfl hown hb (Nat.le_refl _) rfl rfl rfl rfl rfl (by unfold maxLen; omega) (by omega) ?_))
        intro v' w1 hown1 hb1 _ _
        clear hown hb hc
        go_wp2_with fail
        go_roundw
        case rel => exact ⟨k + 1, by omega, by go_num, true, m + 1, rfl, by omega, ⟨by rw [HST.out]; simp [hmf.out.1], by rw [HST.out]⟩, by rw [HST.out]; simpa [HYE.out] using hown1, hb1⟩
        case measure => simp [intOf]; omega
    · obtain rfl : k = n := by omega
      have hal := insTo_all s.toList l
      rw [HN.out, hmf.out.2] at hal
      cases f
      · rw [if_neg (by decide)] at hal
        have HAL := Lib.hid hal
        clear hal
        go_wp2_with (at_builtin; go_must (refine wpList_app _ _ 57 16 (.string ⟨#[]⟩) (.string s) _ Tryd.underlying57 Tryd.infoStr rfl hown hb (Nat.le_refl _) rfl rfl rfl rfl rfl (by unfold maxLen; omega) (by omega) ?_))
        intro v' w1 hown1 hb1 _ _
        clear hown hb
        go_wp2_with fail
        go_ret
        exact ⟨_, rfl, by rw [← HAL.out]; simpa [hmf.out.1, HSE.out] using hown1, hb1⟩
      · rw [if_pos rfl] at hal
        have HAL := Lib.hid hal
        clear hal
        go_wp2_with fail
        go_ret
        exact ⟨_, rfl, by rw [← HAL.out]; simpa [hmf.out.1] using hown, hb⟩
end Go.Proofs.YtgfjmplifmbmlaaDoor
namespace Go.Proofs.YtgfjmplifmbmlaaDoor
open Go.RowKit Go.Shelf Go.Sort

/-- an acceptance of a ballot and value, decided test by test -/
theorem isV_ways (n : Nat) (b : Int) (v : ByteArray) (e : Ev) :
    (isV n b v e = false ∧ ((e.kind == 2) = false ∨ ((e.kind == 2) = true ∧ (e.ballot == b) = false) ∨ ((e.kind == 2) = true ∧ (e.ballot == b) = true ∧ (e.value.toList == v.toList) = false) ∨
      ((e.kind == 2) = true ∧ (e.ballot == b) = true ∧ (e.value.toList == v.toList) = true ∧ decide (e.server < 0) = true ∧ decide (0 ≤ e.server) = false) ∨
      ((e.kind == 2) = true ∧ (e.ballot == b) = true ∧ (e.value.toList == v.toList) = true ∧ decide (e.server < 0) = false ∧ decide (0 ≤ e.server) = true ∧ decide (e.server < n) = false ∧ decide ((n : Int) ≤ e.server) = true))) ∨
    (isV n b v e = true ∧ (e.kind == 2) = true ∧ (e.ballot == b) = true ∧ (e.value.toList == v.toList) = true ∧ 0 ≤ e.server ∧ e.server < n) := by
  unfold isV inB
  cases h1 : (e.kind == 2)
  · left; refine ⟨?_, .inl rfl⟩
    rw [show decide (e.kind = 2) = false by simpa using h1]; rfl
  · rw [show decide (e.kind = 2) = true by simpa using h1]
    cases h2 : (e.ballot == b)
    · left; refine ⟨?_, .inr (.inl ⟨rfl, rfl⟩)⟩
      rw [show decide (e.ballot = b) = false by simpa using h2]; rfl
    · rw [show decide (e.ballot = b) = true by simpa using h2]
      cases h3 : (e.value.toList == v.toList)
      · left; exact ⟨rfl, .inr (.inr (.inl ⟨rfl, rfl, rfl⟩))⟩
      · by_cases h4 : e.server < 0
        · left
          have h4' : decide (0 ≤ e.server) = false := decide_eq_false (by omega)
          exact ⟨by rw [h4']; rfl, .inr (.inr (.inr (.inl ⟨rfl, rfl, rfl, decide_eq_true h4, h4'⟩)))⟩
        · by_cases h5 : e.server < n
          · right; exact ⟨by rw [decide_eq_true (show 0 ≤ e.server by omega), decide_eq_true h5]; rfl, rfl, rfl, rfl, by omega, h5⟩
          · left
            exact ⟨by rw [decide_eq_false h5]; simp, .inr (.inr (.inr (.inr ⟨rfl, rfl, rfl, decide_eq_false h4, decide_eq_true (by omega), decide_eq_false h5, decide_eq_true (by omega)⟩)))⟩
theorem accI_ways (n : Nat) (e : Ev) :
    (accI n e = false ∧ ((e.kind == 2) = false ∨ ((e.kind == 2) = true ∧ decide (e.server < 0) = true) ∨ ((e.kind == 2) = true ∧ decide (e.server < 0) = false ∧ decide ((n : Int) ≤ e.server) = true))) ∨
    (accI n e = true ∧ (e.kind == 2) = true ∧ 0 ≤ e.server ∧ e.server < n) := by
  unfold accI inB
  cases h1 : (e.kind == 2)
  · left; refine ⟨?_, .inl rfl⟩
    rw [show decide (e.kind = 2) = false by simpa using h1]; rfl
  · rw [show decide (e.kind = 2) = true by simpa using h1]
    by_cases h4 : e.server < 0
    · left; exact ⟨by rw [decide_eq_false (show ¬ 0 ≤ e.server by omega)]; rfl, .inr (.inl ⟨rfl, decide_eq_true h4⟩)⟩
    · by_cases h5 : e.server < n
      · right; exact ⟨by rw [decide_eq_true (show 0 ≤ e.server by omega), decide_eq_true h5]; rfl, rfl, by omega, h5⟩
      · left; exact ⟨by rw [decide_eq_false h5]; simp, .inr (.inr ⟨rfl, decide_eq_false h4, decide_eq_true (by omega)⟩)⟩
theorem chrTo_len (write : List (BitVec 16)) (n : Nat) (l : List Ev) : ∀ k, (chrTo write n l k).length ≤ k := by
  intro k
  induction k with
  | zero => simp [chrTo]
  | succ k ih =>
    cases h : l[k]? with
    | none => unfold chrTo at ih ⊢; rw [List.take_add_one, h]; simp at ih ⊢; omega
    | some x =>
      rw [chrTo_succ h]
      unfold chrStep
      split
      · have := insS_len x.value.toList (chrTo write n l k); omega
      · omega

set_option maxRecDepth 100000 in
set_option maxHeartbeats 4000000 in
theorem rchosen_c (write : List (BitVec 16)) (m : Nat) (l : List Ev) (a : Option Addr) (n c : Nat) (a2 : Option Addr) (n2 c2 : Nat) (w : World) (h : Rd w a n c (write.map setV2)) (h2 : RdK 4 w a2 n2 c2 (l.flatMap evC)) (hl : l.length ≤ 900) (hm : m ≤ 12) :
    Calls Tryd.prog 30 #[.slice a n c, .int .i64 m, .slice a2 n2 c2] w fun e w' => ∃ a3 c3, e = .returned (.slice a3 (chrS write m l).length c3) ∧ Rd w' a3 (chrS write m l).length c3 ((chrS write m l).map encStr) ∧ Below w.heap.size w w' := by
  have hnl : l.length = n2 := by have := h2.len; rw [flat_len 4 evC evC_len] at this; omega
  have hmx := h2.max
  have hle := h2.le
  unfold maxLen at hmx
  have HW := Lib.hid h
  have HR := Lib.hid h2
  have HN := Lib.hid hnl
  rw [hnl] at hl
  clear h h2 hnl
  go_enter Tryd.func30, Tryd.ntmps30
  go_wp2_with fail
  go_loopw [7, 8] (fun v i wr => ∃ k : Nat, k ≤ n2 ∧ i = .int .i64 k ∧ ∃ (a3 : Option Addr) (m3 c3 : Nat), v = .slice a3 m3 c3 ∧ m3 ≤ k ∧ Rd wr a3 m3 c3 ((chrTo write m l k).map encStr) ∧ Below w.heap.size w wr) (fun _ i _ => n2 - (intOf i).toNat)
  case atStart => exact ⟨0, Nat.zero_le _, rfl, none, 0, 0, rfl, by omega, Rd.none_ _, Below.refl _ _⟩
  case round =>
    obtain ⟨k, hk, rfl, a3, m3, c3, rfl, hm3, hrd, hb⟩ := hrel
    by_cases hlt : k < n2
    · obtain ⟨b, o, ha, hcell⟩ := RdK.cells HR.out evC_len (by omega)
      obtain ⟨e, he⟩ : ∃ e, l[k]? = some e := ⟨_, List.getElem?_eq_getElem (by have := HN.out; omega)⟩
      have g0 : w.cell? ⟨b, o + k * 4, none⟩ = some (.int .i64 e.kind) := hcell k e he 0 (by omega)
      have g1 : w.cell? ⟨b, o + k * 4 + 1, none⟩ = some (.int .i64 e.server) := hcell k e he 1 (by omega)
      have g2 : w.cell? ⟨b, o + k * 4 + 2, none⟩ = some (.int .i64 e.ballot) := hcell k e he 2 (by omega)
      have g3 : w.cell? ⟨b, o + k * 4 + 3, none⟩ = some (.string e.value) := hcell k e he 3 (by omega)
      have q0 := (hb.cell (p := ⟨b, o + k * 4, none⟩) (cell_lt g0)).trans g0
      have q1 := (hb.cell (p := ⟨b, o + k * 4 + 1, none⟩) (cell_lt g1)).trans g1
      have hst := chrTo_succ (write := write) (n := m) he
      unfold chrStep at hst
      subst ha
      rcases accI_ways m e with ⟨hA, hw⟩ | ⟨hA, hk2, hs0, hsm⟩
      · rw [hA, Bool.false_and, if_neg (by decide)] at hst
        have HST := Lib.hid hst
        have HRD := Lib.hid hrd
        clear hcell he hst hA hrd g0 g1 g2 g3
        obtain ⟨ek, es, eb, ev⟩ := e
        simp only at hw q0 q1
        rcases hw with h1 | ⟨h1, h2⟩ | ⟨h1, h2, h3⟩
        all_goals
          first | (have h9 : (ek != 2) = false := by (simp only [bne, h1, Bool.not_true])) | (have h9 : (ek != 2) = true := by (simp only [bne, h1, Bool.not_false]))
          go_wp2_with fail
          go_roundw
          case rel => exact ⟨k + 1, by omega, by go_num, a3, m3, c3, rfl, by omega, by rw [HST.out]; exact HRD.out, hb⟩
          case measure => simp [intOf]; omega
      · rw [hA, Bool.true_and] at hst
        have HST := Lib.hid hst
        have HRD := Lib.hid hrd
        have HB := Lib.hid hb
        have HG : Hid (w.cell? ⟨b, o + k * 4 + 2, none⟩ = some (.int .i64 e.ballot) ∧ w.cell? ⟨b, o + k * 4 + 3, none⟩ = some (.string e.value)) := ⟨g2, g3⟩
        clear he hst hA hrd g0 g1 g2 g3 hcell
        obtain ⟨ek, es, eb, ev⟩ := e
        simp only at hk2 hs0 hsm q0 q1 HG HST
        have hk3 : (ek != 2) = false := by simpa using hk2
        have hs1 : decide (es < 0) = false := decide_eq_false (by omega)
        have hs2 : decide ((m : Int) ≤ es) = false := decide_eq_false (by omega)
        go_wp2_with fail
        clear q0 q1 hk2 hk3 hs1 hs2
        go_loopw [9, 10] (fun v i wr => ∃ (j : Nat) (x : BitVec 16), j ≤ n2 ∧ i = .int .i64 j ∧ v = .int .u16 (U x) ∧ Hid (x = byTo m l eb ev j) ∧ Below w.heap.size w wr ∧ Rd wr a3 m3 c3 ((chrTo write m l k).map encStr)) (fun _ i _ => n2 - (intOf i).toNat)
        case atStart => exact ⟨0, 0#16, Nat.zero_le _, rfl, rfl, rfl, HB.out, HRD.out⟩
        case round =>
          clear hb
          obtain ⟨j, x, hj, rfl, rfl, hx, hb, hrd⟩ := hrel
          by_cases hlt2 : j < n2
          · obtain ⟨b2, o2, ha2, hcell⟩ := RdK.cells HR.out evC_len (by omega)
            have ha3 := ha2
            simp only [Option.some.injEq, Addr.mk.injEq, and_true] at ha3
            obtain ⟨rfl, rfl⟩ := ha3
            obtain ⟨y, hy⟩ : ∃ y, l[j]? = some y := ⟨_, List.getElem?_eq_getElem (by have := HN.out; omega)⟩
            have g0 : w.cell? ⟨b, o + j * 4, none⟩ = some (.int .i64 y.kind) := hcell j y hy 0 (by omega)
            have g1 : w.cell? ⟨b, o + j * 4 + 1, none⟩ = some (.int .i64 y.server) := hcell j y hy 1 (by omega)
            have g2 : w.cell? ⟨b, o + j * 4 + 2, none⟩ = some (.int .i64 y.ballot) := hcell j y hy 2 (by omega)
            have g3 : w.cell? ⟨b, o + j * 4 + 3, none⟩ = some (.string y.value) := hcell j y hy 3 (by omega)
            have d0 := (hb.cell (p := ⟨b, o + j * 4, none⟩) (cell_lt g0)).trans g0
            have d1 := (hb.cell (p := ⟨b, o + j * 4 + 1, none⟩) (cell_lt g1)).trans g1
            have d2 := (hb.cell (p := ⟨b, o + j * 4 + 2, none⟩) (cell_lt g2)).trans g2
            have d3 := (hb.cell (p := ⟨b, o + j * 4 + 3, none⟩) (cell_lt g3)).trans g3
            have e2 := (hb.cell (p := ⟨b, o + k * 4 + 2, none⟩) (cell_lt HG.out.1)).trans HG.out.1
            have e3 := (hb.cell (p := ⟨b, o + k * 4 + 3, none⟩) (cell_lt HG.out.2)).trans HG.out.2
            have hbs := byTo_succ (n := m) (b := eb) (v := ev) hy
            rw [← hx.out] at hbs
            rcases isV_ways m eb ev y with ⟨hA, hw⟩ | ⟨hA, hw1, hw2, hw3, hw4, hw5⟩
            · rw [hA, if_neg (by decide)] at hbs
              have HBS := Lib.hid hbs
              have HRD2 := Lib.hid hrd
              clear hcell hy hbs hA hrd hx g0 g1 g2 g3 ha2
              obtain ⟨yk, ys, yb, yv⟩ := y
              simp only at hw d0 d1 d2 d3
              rcases hw with h1 | ⟨h1, h2⟩ | ⟨h1, h2, h3⟩ | ⟨h1, h2, h3, h4, h5⟩ | ⟨h1, h2, h3, h4, h5, h6, h7⟩
              all_goals
                go_wp2_with fail
                go_quiet (fail)
                go_wp2_with fail
                go_roundw
                case rel => exact ⟨j + 1, x, by omega, by go_num, rfl, Lib.hid HBS.out.symm, below_drewN hb, rd_drewN HRD2.out _⟩
                case measure => simp [intOf]; omega
            · rw [hA, if_pos rfl] at hbs
              obtain ⟨ns, hns⟩ := Int.eq_ofNat_of_zero_le hw4
              rw [hns] at hbs d1
              have hbs2 : byTo m l eb ev (j + 1) = x ||| bitS ns := hbs
              have HBS := Lib.hid hbs2
              have HRD2 := Lib.hid hrd
              have hns16 : ns < 12 := by omega
              have hnsm : ns < m := by omega
              clear hcell hy hbs hbs2 hA hrd hx g0 g1 g2 g3 ha2 hw4 hw5 hns
              obtain ⟨yk, ys, yb, yv⟩ := y
              simp only at hw1 hw2 hw3 d0 d1 d2 d3
              go_wp2_with fail
              go_quiet (fail)
              go_wp2_with fail
              go_roundw
              case rel => exact ⟨j + 1, x ||| bitS ns, by omega, by go_num, rfl, Lib.hid HBS.out.symm, below_drewN hb, rd_drewN HRD2.out _⟩
              case measure => simp [intOf]; omega
          · obtain rfl : j = n2 := by omega
            have HB2 := Lib.hid hb
            have HX : Hid (x = byS m l eb ev) := Lib.hid (by rw [hx.out]; unfold byS; rw [HN.out])
            have HAC := Lib.hid (accepts8_c write x a n c wr (HW.out.below hb))
            have e3 := (hb.cell (p := ⟨b, o + k * 4 + 3, none⟩) (cell_lt HG.out.2)).trans HG.out.2
            have HRD2 := Lib.hid hrd
            have hle3 := hrd.le
            have hmx3 := hrd.max
            unfold maxLen at hmx3
            have HIN := Lib.hid (fun wx h => insert_c (chrTo write m l k) ev a3 m3 c3 wx h (by omega))
            rw [← HX.out] at HST
            obtain ⟨ac, hac⟩ : ∃ ac, accS write x = ac := ⟨_, rfl⟩
            rw [hac] at HAC HST
            clear hx hb hrd hac
            go_wp2_with fail
            refine HAC.out.mono ?_
            rintro e w3 ⟨rfl, rfl⟩
            cases ac
            · have HST2 : Hid (chrTo write m l (k + 1) = chrTo write m l k) := Lib.hid (by rw [HST.out]; rfl)
              clear HST e3
              go_wp2_with fail
              go_roundw
              case rel => exact ⟨k + 1, by omega, by go_num, a3, m3, c3, rfl, by omega, by rw [HST2.out]; exact HRD2.out, HB2.out⟩
              case measure => simp [intOf]; omega
            · have HST2 : Hid (chrTo write m l (k + 1) = insS ev.toList (chrTo write m l k)) := Lib.hid (by rw [HST.out]; rfl)
              clear HST
              go_wp2_with fail
              refine (HIN.out _ HRD2.out).mono ?_
              rintro e w4 ⟨v, rfl, hown4, hb4⟩
              obtain ⟨a4, c4, rfl, hr4⟩ := rd_of_row hown4
              have hln : (insS ev.toList (chrTo write m l k)).length ≤ k + 1 := by rw [← HST2.out]; exact chrTo_len _ _ _ _
              obtain ⟨L, hL⟩ : ∃ L, (insS ev.toList (chrTo write m l k)).length = L := ⟨_, rfl⟩
              rw [hL] at hr4 hln ⊢
              rw [← HST2.out] at hr4
              have HR4 := Lib.hid hr4
              have HB4 := Lib.hid (Below.next HB2.out hb4)
              clear hown4 hb4 hr4 hL e3
              go_wp2_with fail
              go_roundw
              case rel => exact ⟨k + 1, by omega, by go_num, a4, L, c4, rfl, by omega, HR4.out, HB4.out⟩
              case measure => simp [intOf]; omega
    · obtain rfl : k = n2 := by omega
      have HE : Hid (chrTo write m l k = chrS write m l) := Lib.hid (by unfold chrS; rw [HN.out])
      have hln := hrd.len
      rw [List.length_map] at hln
      have HLN := Lib.hid hln
      have HRD := Lib.hid hrd
      clear hrd hln
      go_wp2_with fail
      go_ret
      exact ⟨a3, c3, by rw [← HE.out, ← HLN.out]; rfl, by rw [← HE.out, ← HLN.out]; exact HRD.out, hb⟩
end Go.Proofs.YtgfjmplifmbmlaaDoor
namespace Go.Proofs.YtgfjmplifmbmlaaDoor
open Go.RowKit Go.Maps

def anyV (m : Nat) (l : List Ev) (b : Int) (v : ByteArray) (k : Nat) : Bool := (l.take k).any (isV m b v)
theorem anyV_succ {m : Nat} {l : List Ev} {b : Int} {v : ByteArray} {k : Nat} {e : Ev} (h : l[k]? = some e) : anyV m l b v (k + 1) = (anyV m l b v k || isV m b v e) := by
  unfold anyV; rw [List.take_add_one, h]; simp
theorem byTo_none {m : Nat} {l : List Ev} {b : Int} {v : ByteArray} : ∀ k, anyV m l b v k = false → byTo m l b v k = 0#16 := by
  intro k
  induction k with
  | zero => intro _; simp [byTo]
  | succ k ih =>
    intro h
    cases he : l[k]? with
    | none => unfold byTo anyV at *; rw [List.take_add_one, he] at h ⊢; simp at h ⊢; exact ih (by simpa using h)
    | some e =>
      rw [anyV_succ he, Bool.or_eq_false_iff] at h
      rw [byTo_succ he, h.2, if_neg (by decide)]; exact ih h.1
theorem if_ff (a b : BitVec 16) : (if false = true then a else b) = b := rfl
/-- the map behind k events -/
def GM (f : Lit → Option Value) (m : Nat) (l : List Ev) (k : Nat) : Prop := ∀ b v, (Lit.int .i64 b).wf = true → v.size ≤ maxLen → f (klA b v) = if anyV m l b v k = true then some (.int .u16 (U (byTo m l b v k))) else none
theorem GM_zero (m : Nat) (l : List Ev) : GM (fun _ => none) m l 0 := fun b v _ _ => by simp [anyV]
theorem isV_accI {m : Nat} {b : Int} {v : ByteArray} {e : Ev} (h : accI m e = false) : isV m b v e = false := by
  unfold accI at h; unfold isV
  rw [Bool.and_eq_false_iff] at h
  rcases h with h | h
  · rw [h]; rfl
  · rw [h, Bool.and_false]
theorem GM_skip {f : Lit → Option Value} {m : Nat} {l : List Ev} {k : Nat} {e : Ev} (h : l[k]? = some e) (hg : GM f m l k) (ha : accI m e = false) : GM f m l (k + 1) := fun b v hb hv => by
  rw [hg b v hb hv, anyV_succ h, byTo_succ h, isV_accI ha, Bool.or_false, if_ff]
theorem isV_self {m : Nat} {e : Ev} (h : accI m e = true) : isV m e.ballot e.value e = true := by
  unfold accI at h; unfold isV
  rw [Bool.and_eq_true] at h
  rw [h.1, h.2, decide_eq_true (rfl : e.ballot = e.ballot)]; simp
theorem isV_other {m : Nat} {b : Int} {v : ByteArray} {e : Ev} (h : ¬(b = e.ballot ∧ v = e.value)) : isV m b v e = false := by
  cases hq : isV m b v e
  · rfl
  · exfalso
    unfold isV at hq
    rw [Bool.and_eq_true, Bool.and_eq_true, Bool.and_eq_true] at hq
    exact h ⟨(of_decide_eq_true hq.1.1.2).symm, (bs_ext (eq_of_beq hq.1.2)).symm⟩
theorem GM_old {f : Lit → Option Value} {m : Nat} {l : List Ev} {k : Nat} (hg : GM f m l k) {b : Int} {v : ByteArray} (hb : (Lit.int .i64 b).wf = true) (hv : v.size ≤ maxLen) : (f (klA b v)).getD (.int .u16 0) = .int .u16 (U (byTo m l b v k)) := by
  rw [hg b v hb hv]
  cases h : anyV m l b v k
  · rw [byTo_none k h]; rfl
  · rfl
theorem GM_put {f : Lit → Option Value} {m : Nat} {l : List Ev} {k : Nat} {e : Ev} (h : l[k]? = some e) (hg : GM f m l k) (ha : accI m e = true) (hb : (Lit.int .i64 e.ballot).wf = true) (hv : e.value.size ≤ maxLen) : GM (updF f (klA e.ballot e.value) (.int .u16 (U (byTo m l e.ballot e.value k ||| bitS e.server.toNat)))) m l (k + 1) := fun b v hb' hv' => by
  unfold updF
  rw [klA_same hb' hv' hb hv]
  by_cases hq : b = e.ballot ∧ v = e.value
  · rw [decide_eq_true hq, if_pos rfl, hq.1, hq.2, anyV_succ h, byTo_succ h, isV_self ha, Bool.or_true, if_pos rfl, if_pos rfl]
  · rw [decide_eq_false hq, if_neg (by decide), hg b v hb' hv', anyV_succ h, byTo_succ h, isV_other hq, Bool.or_false, if_ff]
theorem anyV_all {m : Nat} {l : List Ev} {b : Int} {v : ByteArray} : anyV m l b v l.length = true ↔ ∃ e ∈ l, accI m e = true ∧ e.ballot = b ∧ e.value = v := by
  unfold anyV
  rw [List.take_length, List.any_eq_true]
  constructor
  · rintro ⟨e, he, hi⟩
    unfold isV at hi
    rw [Bool.and_eq_true, Bool.and_eq_true, Bool.and_eq_true] at hi
    refine ⟨e, he, ?_, of_decide_eq_true hi.1.1.2, bs_ext (eq_of_beq hi.1.2)⟩
    unfold accI; rw [hi.1.1.1, hi.2]; rfl
  · rintro ⟨e, he, ha, rfl, rfl⟩
    exact ⟨e, he, isV_self ha⟩

/-- what has been collected when some keys are left -/
structure Coll (write : List (BitVec 16)) (m : Nat) (l : List Ev) (left : Lit → Bool) (out : List Str) : Prop where
  all : ∀ e ∈ l, accI m e = true → left (klA e.ballot e.value) = false → accS write (byS m l e.ballot e.value) = true → e.value.toList ∈ out
  only : ∀ x ∈ out, x ∈ chrS write m l
theorem Coll.start {write : List (BitVec 16)} {m : Nat} {l : List Ev} {D : DataW Value} {f : Lit → Option Value} (hD : ∀ key kl, keyOf Tryd.prog 84 key = some kl → ∀ z, D.atKey kl z = optD (f kl) z) (hg : GM f m l l.length) (hw : ∀ e ∈ l, e.value.size ≤ maxLen ∧ (Lit.int .i64 e.ballot).wf = true) : Coll write m l (Maps.has D) [] := by
  refine ⟨fun e he ha hl _ => ?_, fun x hx => by cases hx⟩
  exfalso
  obtain ⟨hv, hb⟩ := hw e he
  have h1 := Maps.atKey_of_not_has hl .nil
  rw [hD _ _ (keyA_of hb hv), hg _ _ hb hv, if_pos (anyV_all.2 ⟨e, he, ha, rfl, rfl⟩)] at h1
  cases h1
theorem Coll.no {write : List (BitVec 16)} {m : Nat} {l : List Ev} {left : Lit → Bool} {out : List Str} (h : Coll write m l left out) (hw : ∀ e ∈ l, e.value.size ≤ maxLen ∧ (Lit.int .i64 e.ballot).wf = true) {b : Int} {v : ByteArray} (hb : (Lit.int .i64 b).wf = true) (hv : v.size ≤ maxLen) (hn : accS write (byS m l b v) = false) : Coll write m l (fun z => left z && !z.sameKey (klA b v)) out := by
  refine ⟨fun e he ha hl hc => ?_, h.only⟩
  obtain ⟨hv', hb'⟩ := hw e he
  rw [klA_same hb' hv' hb hv] at hl
  by_cases hq : e.ballot = b ∧ e.value = v
  · rw [hq.1, hq.2, hn] at hc; cases hc
  · rw [decide_eq_false hq, Bool.not_false, Bool.and_true] at hl
    exact h.all e he ha hl hc
theorem Coll.yes {write : List (BitVec 16)} {m : Nat} {l : List Ev} {left : Lit → Bool} {out : List Str} (h : Coll write m l left out) (hw : ∀ e ∈ l, e.value.size ≤ maxLen ∧ (Lit.int .i64 e.ballot).wf = true) {b : Int} {v : ByteArray} (hb : (Lit.int .i64 b).wf = true) (hv : v.size ≤ maxLen) (hy : accS write (byS m l b v) = true) (hany : anyV m l b v l.length = true) : Coll write m l (fun z => left z && !z.sameKey (klA b v)) (out ++ [v.toList]) := by
  refine ⟨fun e he ha hl hc => ?_, fun x hx => ?_⟩
  · obtain ⟨hv', hb'⟩ := hw e he
    rw [klA_same hb' hv' hb hv] at hl
    by_cases hq : e.ballot = b ∧ e.value = v
    · rw [hq.2]; simp
    · rw [decide_eq_false hq, Bool.not_false, Bool.and_true] at hl
      exact List.mem_append_left _ (h.all e he ha hl hc)
  · rcases List.mem_append.1 hx with hx | hx
    · exact h.only x hx
    · rw [List.mem_singleton] at hx; subst hx
      obtain ⟨e, he, ha, rfl, rfl⟩ := anyV_all.1 hany
      exact (chrS_mem write m l _).2 ⟨e, he, ha, hy, rfl⟩
theorem Coll.done {write : List (BitVec 16)} {m : Nat} {l : List Ev} {left : Lit → Bool} {out : List Str} (h : Coll write m l left out) (hl : ∀ kl, left kl = false) : Lib.compact (out.mergeSort fun x y => decide (x ≤ y)) = chrS write m l := by
  have hc := compact_to (sort_pw out) (out.mergeSort fun x y => decide (x ≤ y)).length (Nat.le_refl _)
  rw [List.take_length] at hc
  have hcomp : Lib.compact (out.mergeSort fun x y => decide (x ≤ y)) = Lib.compactUpTo (out.mergeSort fun x y => decide (x ≤ y)).toArray (out.mergeSort fun x y => decide (x ≤ y)).length := by unfold Lib.compact; simp
  rw [hcomp]
  refine asc_ext _ _ hc.1 (chrS_asc write m l) fun x => ?_
  rw [hc.2 x, List.mem_mergeSort]
  constructor
  · exact h.only x
  · intro hx
    obtain ⟨e, he, ha, hacc, rfl⟩ := (chrS_mem write m l x).1 hx
    exact h.all e he ha (hl _) hacc
theorem ranges_le {H : Type} {P : Program} {k : TypeId} {R : Value → Option (DataW H × List MemPlace)} {w : World} {b r n : Nat} {D : DataW H} {left : Lit → Bool} {cnt : Nat} (h : w.ranges P k R b r n D left cnt) : cnt ≤ n := by
  obtain ⟨es, clock, since, seen, c0, _, _, hs, _, _, _, hc, _⟩ := h
  rw [← hc]
  refine Nat.le_trans ?_ hs
  unfold leftOf
  exact Array.size_filter_le ..
theorem upon_look_fm {P : Program} {w : World} {o : Oper} {a : Act} {K' : Act → World → Prop} {Q : Exit → Act → World → Prop} (t k e : TypeId) (K : Keyed P k) (ht : P.underlying t = some (.map k e)) (b n : Nat) (f : Lit → Option Value) (z : Value) (hz : ∀ u : World, (zeroValue e).run P u = .ok z u)
    (h : FM w P k b n f) (key : Value) (kl : Lit) (hkey : keyOf P k key = some kl) (hK : K' (a.put o.dst ((f kl).getD z)) w) :
    Oper.upon P o a K' Q ((Sem.run P (Instr.lookup t (.map (some b)) key false) w).andThen fun a w' => Result.ok (Next.value a) w') := by
  have := h.look false K ht (hz w) hkey
  rw [this]
  exact hK
end Go.Proofs.YtgfjmplifmbmlaaDoor
namespace Go.Proofs.YtgfjmplifmbmlaaDoor
open Go.RowKit Go.Maps Go.WideElems Go.ChangeMaps Go.MapKept

theorem entry_store2 {H : Type} {P : Program} {w : World} {t k e : TypeId} {R : Value → Option (DataW H × List MemPlace)} {b : Nat} {es : Array MapEntry} {clock : Nat} (K : Keyed P k) (ht : P.underlying t = some (.map k e)) {z : Value} (hz : ∀ u : World, (zeroValue e).run P u = .ok z u) (hb : w.heap[b]? = some (.map es clock)) (F : Fit P k R es clock)
    {key : Value} {kl : Lit} (hkey : keyOf P k key = some kl) :
    ∃ (v0 : Value) (st : Nat) (es1 : Array MapEntry) (clock1 : Nat), (Instr.mapEntry t (.map (some b)) key).run P w = .ok (.tuple #[v0, goInt st]) (setBlock w b (.map es1 clock1)) ∧
      (Instr.mapUpdate t (.map (some b)) key v0).run P w = .ok () (setBlock w b (.map es1 clock1)) ∧ (Instr.lookup t (.map (some b)) key false).run P w = .ok v0 w := by
  rcases K.find w hkey es.toList F.keys with ⟨h1, h2⟩ | ⟨j, e0, h1, h2, h3⟩
  · refine ⟨z, clock, es.push ⟨key, z, clock⟩, clock + 1, ?_, ?_, ?_⟩
    · simp [Instr.mapEntry, run_underlying ht, MapKept.run_getObj_map hb, K.check w false hkey, h1, hz, MapKept.run_setObj_map _ hb, Result.andThen, setBlock]
    · simp [Instr.mapUpdate, run_underlying ht, MapKept.run_getObj_map hb, K.check w false hkey, h1, MapKept.run_setObj_map _ hb, Result.andThen, setBlock]
    · have hc : ∀ em, (Instr.checkKey em 10000 k key).run P w = .ok () w := fun em => K.check w em hkey
      simp [Instr.lookup, run_underlying ht, MapKept.run_getObj_map hb, hc, h1, hz, Result.andThen]
  · have hj : es[j]? = some e0 := by simpa using h2
    have hsame : es.modify j (fun e => { e with key := key }) = es := by
      apply Array.ext'
      rw [Array.toList_modify, modify_eq_set _ _ _ _ h2]
      have : ({ e0 with key := key } : MapEntry) = e0 := by rw [← h3]
      rw [this]
      exact set_self _ _ _ h2
    have hsame2 : es.modify j (fun e => { e with key := key, val := e0.val }) = es := by
      apply Array.ext'
      rw [Array.toList_modify, modify_eq_set _ _ _ _ h2]
      have : ({ e0 with key := key, val := e0.val } : MapEntry) = e0 := by rw [← h3]
      rw [this]
      exact set_self _ _ _ h2
    refine ⟨e0.val, e0.born, es, clock, ?_, ?_, ?_⟩
    · simp [Instr.mapEntry, run_underlying ht, MapKept.run_getObj_map hb, K.check w false hkey, h1, hj, h3, K.stays w hkey, hsame, MapKept.run_setObj_map _ hb, Result.andThen, setBlock]
    · simp [Instr.mapUpdate, run_underlying ht, MapKept.run_getObj_map hb, K.check w false hkey, h1, hj, h3, K.stays w hkey, hsame2, MapKept.run_setObj_map _ hb, Result.andThen, setBlock]
    · have hc : ∀ em, (Instr.checkKey em 10000 k key).run P w = .ok () w := fun em => K.check w em hkey
      simp [Instr.lookup, run_underlying ht, MapKept.run_getObj_map hb, hc, h1, Result.andThen]
theorem upon_entry_fm3 {P : Program} {w : World} {o : Oper} {a : Act} {K' : Act → World → Prop} {Q : Exit → Act → World → Prop} (t k e : TypeId) (K : Keyed P k) (ht : P.underlying t = some (.map k e)) (b n : Nat) (f : Lit → Option Value) (z : Value) (hz : ∀ u : World, (zeroValue e).run P u = .ok z u)
    (h : FM w P k b n f) (hn : n < maxLen) (key : Value) (kl : Lit) (hkey : keyOf P k key = some kl)
    (hK : ∀ v0 st w', Ent w' P k t b (n + 1) f kl st → FM w' P k b (n + 1) (updF f kl ((f kl).getD z)) → w.grownBy w' (some b) → w'.heap.size = w.heap.size → K' (a.put o.dst (.tuple #[v0, .int .i64 (st : Nat)])) w') :
    Oper.upon P o a K' Q ((Sem.run P (Instr.mapEntry t (.map (some b)) key) w).andThen fun a w' => Result.ok (Next.value a) w') := by
  obtain ⟨v0, st, w1, h1, h2, h3, h4⟩ := h.entry K ht hz hn hkey
  have hl := h.look false K ht (hz w) hkey
  obtain ⟨D, ho, hf⟩ := h
  have ho' := ho
  obtain ⟨es, clock, hb, F, hs, rfl⟩ := ho'
  obtain ⟨v1, st1, es1, clock1, q1, q2, q3⟩ := entry_store2 K ht hz hb F hkey
  have hw1 : w1 = setBlock w b (.map es1 clock1) := by rw [h1] at q1; injection q1
  have hv1 : v1 = (f kl).getD z := by
    rw [hl] at q3
    injection q3 with q3
    exact q3.symm
  obtain ⟨w', hrun2, r1, r2⟩ := ho.update K ht hn (val := v1) hkey (d := .held v1) (ps := []) rfl
  have e : w' = w1 := by rw [hw1]; rw [q2] at hrun2; injection hrun2 with _ h2; exact h2.symm
  have hfm := FM.putD K ho hf hkey r1
  rw [h1]
  refine hK v0 st w1 h2 ?_ h3 h4
  rw [← hv1, ← e]; exact hfm
theorem updF_look {f : Lit → Option Value} {kl : Lit} {v z : Value} (h : kl.sameKey kl = true) : (updF f kl v kl).getD z = v := by unfold updF; rw [if_pos h]; rfl
end Go.Proofs.YtgfjmplifmbmlaaDoor
namespace Go.Proofs.YtgfjmplifmbmlaaDoor
open Go.RowKit Go.Maps Go.Shelf

theorem below_grow {w w' : World} (h : Below w.heap.size w w') : w.grownBy w' none := ⟨h.os, h.tape, h.output, h.size, fun k hk _ => h.block k hk⟩
theorem zSetV (w : World) : (zeroValue 30).run Tryd.prog w = .ok (.int .u16 0) w := by kernel_rfl

set_option maxRecDepth 100000 in
set_option maxHeartbeats 4000000 in
theorem pchosen_c (write : List (BitVec 16)) (m : Nat) (l : List Ev) (a : Option Addr) (n c : Nat) (a2 : Option Addr) (n2 c2 : Nat) (w : World) (h : Rd w a n c (write.map setV2)) (h2 : RdK 4 w a2 n2 c2 (l.flatMap evC)) (hwf : ∀ e ∈ l, e.value.size ≤ maxLen ∧ (Lit.int .i64 e.ballot).wf = true) (hl : l.length ≤ 900) (hm : m ≤ 12) :
    Calls Tryd.prog 27 #[.slice a n c, .int .i64 m, .slice a2 n2 c2] w fun e w' => ∃ a3 c3, e = .returned (.slice a3 (chrS write m l).length c3) ∧ Rd w' a3 (chrS write m l).length c3 ((chrS write m l).map encStr) ∧ Below w.heap.size w w' := by
  have hnl : l.length = n2 := by have := h2.len; rw [flat_len 4 evC evC_len] at this; omega
  have hmx := h2.max
  have hle := h2.le
  unfold maxLen at hmx
  have HW := Lib.hid h
  have HR := Lib.hid h2
  have HN := Lib.hid hnl
  have HWF := Lib.hid hwf
  rw [hnl] at hl
  have hmm := @run_makeMap Tryd.prog
  clear h h2 hnl hwf
  go_enter Tryd.func27, Tryd.ntmps27
  go_wp2_with fail
  have HF0 := Lib.hid (FM.made w Tryd.prog 84)
  have HB0 := Lib.hid (blA w (.map #[] 0))
  go_loopw [16] (fun i wr => ∃ k : Nat, k ≤ n2 ∧ i = .int .i64 k ∧ Below w.heap.size w wr ∧ Hid (∃ f, FM wr Tryd.prog 84 w.heap.size k f ∧ GM f m l k)) (fun i _ => n2 - (intOf i).toNat)
  case atStart => exact ⟨0, Nat.zero_le _, rfl, HB0.out, Lib.hid ⟨_, HF0.out, GM_zero m l⟩⟩
  case round =>
    obtain ⟨k, hk, rfl, hb, hf⟩ := hrel
    obtain ⟨f, hfm, hgm⟩ := hf.out
    have HB := Lib.hid hb
    have HFM := Lib.hid hfm
    have HGM := Lib.hid hgm
    by_cases hlt : k < n2
    · obtain ⟨b, o, ha, hcell⟩ := RdK.cells (HR.out.below hb) evC_len (by omega)
      obtain ⟨e, he⟩ : ∃ e, l[k]? = some e := ⟨_, List.getElem?_eq_getElem (by have := HN.out; omega)⟩
      have g0 : wr.cell? ⟨b, o + k * 4, none⟩ = some (.int .i64 e.kind) := hcell k e he 0 (by omega)
      have g1 : wr.cell? ⟨b, o + k * 4 + 1, none⟩ = some (.int .i64 e.server) := hcell k e he 1 (by omega)
      have g2 : wr.cell? ⟨b, o + k * 4 + 2, none⟩ = some (.int .i64 e.ballot) := hcell k e he 2 (by omega)
      have g3 : wr.cell? ⟨b, o + k * 4 + 3, none⟩ = some (.string e.value) := hcell k e he 3 (by omega)
      obtain ⟨hev, heb⟩ := HWF.out e (List.mem_of_getElem? he)
      subst ha
      rcases accI_ways m e with ⟨hA, hw⟩ | ⟨hA, hk2, hs0, hsm⟩
      · have HGM2 := Lib.hid (GM_skip he hgm hA)
        clear hcell he hA hfm hgm hf hev heb
        obtain ⟨ek, es, eb, ev⟩ := e
        simp only at hw g0 g1 g2 g3
        have HB2 := Lib.hid (hb.alloc hb.size (.cells #[.int .i64 ek, .int .i64 es, .int .i64 eb, .string ev] 48))
        have HFM2 := Lib.hid (fmA1 (o := .cells #[.int .i64 ek, .int .i64 es, .int .i64 eb, .string ev] 48) HFM.out)
        have hw2 : (ek == 2) = false ∨ ((ek == 2) = true ∧ decide (0 ≤ es) = false) ∨ ((ek == 2) = true ∧ decide (0 ≤ es) = true ∧ decide (es < (m : Int)) = false) := by
          rcases hw with h1 | ⟨h1, h2⟩ | ⟨h1, h2, h3⟩
          · exact .inl h1
          · exact .inr (.inl ⟨h1, decide_eq_false (by have := of_decide_eq_true h2; omega)⟩)
          · exact .inr (.inr ⟨h1, decide_eq_true (by have := of_decide_eq_false h2; omega), decide_eq_false (by have := of_decide_eq_true h3; omega)⟩)
        clear hw
        rcases hw2 with h1 | ⟨h1, h2⟩ | ⟨h1, h2, h3⟩
        all_goals
          go_wp2_with fail
          go_roundw
          case rel => exact ⟨k + 1, by omega, by go_num, HB2.out, Lib.hid ⟨f, HFM2.out.mono (by omega), HGM2.out⟩⟩
          case measure => simp [intOf]; omega
      · obtain ⟨ns, hns⟩ := Int.eq_ofNat_of_zero_le hs0
        rw [hns] at g1 hsm
        have hput := GM_put he hgm hA heb hev
        rw [show e.server.toNat = ns by omega] at hput
        have HOLD := Lib.hid (GM_old hgm heb hev)
        obtain ⟨x, hx⟩ : ∃ x, byTo m l e.ballot e.value k = x := ⟨_, rfl⟩
        rw [hx] at hput HOLD
        have HPUT := Lib.hid hput
        have hkey9 : keyOf Tryd.prog 84 (.agg #[.int .i64 e.ballot, .string e.value]) = some (klA e.ballot e.value) := keyA_of heb hev
        have HKEY := Lib.hid hkey9
        have HK9 : Hid (k < maxLen) := Lib.hid (by unfold maxLen; omega)
        clear hkey9
        have hns12 : ns < 12 := by omega
        have hnsm : ns < m := by omega
        clear hcell he hA hfm hgm hf hev heb hput hx hns hs0 hsm
        obtain ⟨ek, es, eb, ev⟩ := e
        simp only at hk2 g0 g1 g2 g3 HOLD HPUT HKEY
        go_wp2_with fail
        generalize hWA : wr.alloc (.cells #[.int .i64 ek, .int .i64 ns, .int .i64 eb, .string ev] 48) = WA
        have hBA : Below wr.heap.size wr WA := by rw [← hWA]; exact blA _ _
        have hbox : WA.heap[wr.heap.size]? = some (.cells #[.int .i64 ek, .int .i64 ns, .int .i64 eb, .string ev] 48 (0, 0)) := by rw [← hWA]; exact heap_alloc_new wr _
        obtain ⟨e0, e1, e2, e3⟩ := open4 hbox
        have HFA := Lib.hid (HFM.out.below hBA)
        have HBA := Lib.hid (Below.next HB.out hBA)
        have hszB : w.heap.size < wr.heap.size := HFM.out.lt
        obtain ⟨BX, hBX⟩ : ∃ BX, wr.heap.size = BX := ⟨_, rfl⟩
        rw [hBX] at e0 e1 e2 e3 hszB ⊢
        have hBXA : BX < WA.heap.size := cell_lt e0
        have HLK2 : Hid ((updF f (klA eb ev) (.int .u16 (U x)) (klA eb ev)).getD (.int .u16 0) = .int .u16 (U x)) := Lib.hid (updF_look (WideAt.sameKey_self (kAcc.key HKEY.out)))
        have KS : Hid (∀ y : World, (∀ j, j < WA.heap.size → j ≠ w.heap.size → y.heap[j]? = WA.heap[j]?) → y.cell? ⟨BX, 1, none⟩ = some (.int .i64 ns) ∧ y.cell? ⟨BX, 2, none⟩ = some (.int .i64 eb) ∧ y.cell? ⟨BX, 3, none⟩ = some (.string ev)) := Lib.hid (fun y hy => by
          have kc : ∀ i, y.cell? ⟨BX, i, none⟩ = WA.cell? ⟨BX, i, none⟩ := fun i => World.cell?_of_block (hy BX hBXA (by omega))
          exact ⟨(kc 1).trans e1, (kc 2).trans e2, (kc 3).trans e3⟩)
        clear hWA hBA hbox e0 g0 g1 g2 g3 hb hBX
        go_region_held3 (fun w' => w'.cell? ⟨BX, 1, none⟩ = some (.int .i64 ns) ∧ w'.cell? ⟨BX, 2, none⟩ = some (.int .i64 eb) ∧ w'.cell? ⟨BX, 3, none⟩ = some (.string ev))
          (first | exact hSF | exact hSE | (refine KS.out _ ?_; intro j _ _; rfl))
          (first
            | ((with_reducible refine upon_look_fm 82 84 30 kAcc Tryd.underlying82 w.heap.size k f (.int .u16 0) zSetV ?_ (.agg #[.int .i64 eb, .string ev]) (klA eb ev) HKEY.out ?_); (exact HFA.out.at rfl); rw [HOLD.out])
            | ((with_reducible refine upon_look_fm 82 84 30 kAcc Tryd.underlying82 w.heap.size (k + 1) (updF f (klA eb ev) (.int .u16 (U x))) (.int .u16 0) zSetV ?_ (.agg #[.int .i64 eb, .string ev]) (klA eb ev) HKEY.out ?_); (exact HFME.out.at rfl); rw [HLK2.out])
            | ((with_reducible refine upon_entry_fm3 82 84 30 kAcc Tryd.underlying82 w.heap.size k f (.int .u16 0) zSetV ?_ ?_ (.agg #[.int .i64 eb, .string ev]) (klA eb ev) HKEY.out ?_); (exact HFA.out.at rfl); (exact HK9.out); intro v0 sE wE hentE hfmE hgE hsE; have hszE : wE.heap.size = WA.heap.size := by { rw [hsE]; rfl }; rw [HOLD.out] at hfmE; have HFME := Lib.hid hfmE; have HFE : Hid (∀ j, j < WA.heap.size → j ≠ w.heap.size → wE.heap[j]? = WA.heap[j]?) := Lib.hid (fun j h1 h3 => hgE.block j (by simpa using h1) (by simpa using h3)); have hSE := KS.out wE HFE.out; have HEN := Lib.hid hentE; have HGE := Lib.hid hgE; clear hentE hgE hsE hfmE)
            | ((with_reducible refine upon_estore_fm 82 84 w.heap.size (k + 1) sE f (klA eb ev) ?_ (.int .u16 (U (x ||| bitS ns))) ?_); (exact HEN.out.at rfl); intro wF hfmF hgF hsF; have hSF := KS.out wF (fun j h1 h2 => (hgF.block j (by omega) (by simpa using h2)).trans (HFE.out j h1 h2)); have HFF := Lib.hid hfmF; have HGF := Lib.hid hgF; clear hfmF hgF))
        all_goals
          go_wp2_with fail
          have hbE : Below w.heap.size w wE := (below_drew HBA.out).grown HGE.out (by show w.heap.size ≤ WA.heap.size; omega) (fun j hj => by injection hj with hj; omega)
          have HBF := Lib.hid (hbE.grown HGF.out (by omega) (fun j hj => by injection hj with hj; omega))
          clear hbE hSE hSF
          go_roundw
          case rel => exact ⟨k + 1, by omega, by go_num, HBF.out, Lib.hid ⟨_, HFF.out, HPUT.out⟩⟩
          case measure => simp [intOf]; omega
    · obtain rfl : k = n2 := by omega
      rw [← HN.out] at hgm
      have HGM := Lib.hid hgm
      obtain ⟨D, hD1, hD2⟩ := hfm
      have HD1 := Lib.hid hD1
      have HCO := Lib.hid (Coll.start (write := write) hD2 hgm HWF.out)
      have HD2 := Lib.hid hD2
      have HLT := Lib.hid hD1.lt
      clear hgm hf hb hD2 hD1
      have hown := HD1.out
      go_wp2_with (at_range; refine wpList_range_own _ rfl _ 82 rfl 84 30 kAcc Tryd.underlying82 heldR w.heap.size k D rfl hown ?_; intro w0 hrg0 hg0 hs0)
      go_frame
      have hbW0 : Below w.heap.size w w0 := HB.out.grown hg0 (by have := HLT.out; omega) (fun j hj => by cases hj)
      obtain ⟨R, hRe⟩ : ∃ R, wr.heap.size = R := ⟨_, rfl⟩
      rw [hRe] at hrg0 hs0 ⊢
      have HBR := Lib.hid hbW0
      have HRG := Lib.hid hrg0
      have HS0 := Lib.hid hs0
      have hwR : w.heap.size < R := by have := HLT.out; omega
      have HCL := Lib.hid (ranges_le hrg0)
      clear hrg0 hg0 hs0 hbW0 hown hRe
      go_loopw [10] (fun v wq => ∃ (left : Lit → Bool) (cnt : Nat) (out : List Str) (oz : Nat), wq.ranges Tryd.prog 84 heldR w.heap.size R k D left cnt ∧ wq.ownsRow (R + 1) 9 1 v oz (out.map encStr) ∧ Below w.heap.size w wq ∧ R + 1 ≤ wq.heap.size ∧ Hid (Coll write m l left out) ∧ oz + cnt ≤ k ∧ Hid (out.length = oz)) (fun _ wq => wq.rangeLeft w.heap.size R)
      case atStart => exact ⟨_, _, [], 0, HRG.out, World.ownsRow_nil _ _ _ _, HBR.out, by rw [HS0.out]; exact Nat.le_refl _, HCO, by rw [Nat.zero_add]; exact HCL.out, rfl⟩
      case round =>
        obtain ⟨left, cnt, out, oz, hrg, hown, hb, hsz, hco, hoz, hol⟩ := hrel
        go_wp2_with (at_next; refine wpList_next_ranges _ rfl _ rfl 84 kAcc heldR (fun p : Int × ByteArray => .agg #[.int .i64 p.1, .string p.2]) (fun v : Value => v) (fun key kl hkey => by obtain ⟨b, v, rfl, _⟩ := keyA_inv hkey; exact ⟨(b, v), rfl⟩) (fun v y _ => ⟨v, rfl⟩) w.heap.size R k D left cnt rfl hrg ?_ ?_)
        · intro hc0 hl0
          have hdone := hco.out.done hl0
          have hlen : oz ≤ 900 := by omega
          have hown' : wr.ownsRow (R + 1) 9 1 u10 out.length (out.map encStr) := by rw [hol.out]; exact hown
          obtain ⟨ao, co, rfl, hro⟩ := rd_of_row hown
          have HSO := Lib.hid (sortT_c (R + 1) _ out wr hown' (by rw [hol.out]; omega))
          have HOL := Lib.hid hown'.lt
          have HBW := Lib.hid hb
          have HDN := Lib.hid hdone
          have hsl : (out.mergeSort fun x y => decide (x ≤ y)).length = oz := (List.length_mergeSort _).trans hol.out
          have HSL := Lib.hid hsl
          have HOLN := Lib.hid hol.out
          clear hrg hown hown' hro hb hco hdone hsl hol hl0 hc0
          go_wp2_with fail
          refine HSO.out.mono ?_
          rintro e w1 ⟨rfl, hown1, hg1⟩
          have hb1 := HBW.out.grown hg1 HBW.out.size (fun j hj => by have := (HOL.out j hj).1; omega)
          rw [HOLN.out] at hown1
          have HCO2 := Lib.hid (compactT_c (R + 1) (.slice ao oz co) (out.mergeSort fun x y => decide (x ≤ y)) w1 (by rw [HSL.out]; exact hown1) (by rw [HSL.out]; omega))
          have HOL1 := Lib.hid hown1.lt
          rw [HDN.out] at HCO2
          have HB1 := Lib.hid hb1
          clear hb1 hown1 hg1 HSO
          go_wp2_with fail
          refine HCO2.out.mono ?_
          rintro e w2 ⟨a3, c3, rfl, hr3, hg3⟩
          have HB3 := Lib.hid (HB1.out.grown hg3 HB1.out.size (fun j hj => by have := (HOL1.out j hj).1; omega))
          have HR3 := Lib.hid hr3
          clear hr3 hg3 HCO2
          go_wp2_with fail
          go_ret
          exact ⟨a3, c3, rfl, HR3.out, HB3.out⟩
        · intro pb pv cv kl d pl w1 cnt1 hkey hlk hR hat hrg1 hlt1 hg1 hs1 hen
          obtain ⟨kb, kv, hk1, rfl, hkb, hkv⟩ := keyA_inv hkey
          unfold keyA at hk1
          simp only [Value.agg.injEq, Array.mk.injEq, List.cons.injEq, Value.int.injEq, Value.string.injEq, and_true, true_and] at hk1
          obtain ⟨rfl, rfl⟩ := hk1
          have hd : d = .held cv := by unfold heldR at hR; injection hR with hR; injection hR with hR _; exact hR.symm
          have h9 := HD2.out _ _ hkey .nil
          rw [hat, hd, HGM.out _ _ hkb hkv] at h9
          obtain ⟨hany, hcv⟩ : anyV m l pb pv l.length = true ∧ cv = .int .u16 (U (byS m l pb pv)) := by
            cases hq : anyV m l pb pv l.length
            · rw [hq, if_neg (by decide)] at h9; cases h9
            · rw [hq, if_pos rfl] at h9
              refine ⟨rfl, ?_⟩
              have h8 : DataW.held cv = DataW.held (.int .u16 (U (byTo m l pb pv l.length))) := h9
              injection h8
          obtain ⟨s, hs⟩ : ∃ s, byS m l pb pv = s := ⟨_, rfl⟩
          rw [hs] at hcv
          have HS := Lib.hid hs
          rw [hcv] at hen ⊢
          have hb1 := hb.grown hg1 (by omega) (fun j hj => by injection hj with hj; omega)
          have hown1 := rowK_at hown fun g hg => hg1.block g (hown.lt g hg).2 (fun e => by injection e with e; have := (hown.lt g hg).1; omega)
          have HAC := Lib.hid (fun wx h => accepts_c write s a n c wx h)
          obtain ⟨ac, hac⟩ : ∃ ac, accS write s = ac := ⟨_, rfl⟩
          rw [hac] at HAC
          have HCO3 : Hid (Coll write m l (fun z => left z && !z.sameKey (klA pb pv)) (if ac = true then out ++ [pv.toList] else out)) := Lib.hid (by
            cases ac
            · exact hco.out.no HWF.out hkb hkv (by rw [HS.out]; exact hac)
            · exact hco.out.yes HWF.out hkb hkv (by rw [HS.out]; exact hac) hany)
          have HRG1 := Lib.hid hrg1
          have HB1 := Lib.hid hb1
          have HO1 := Lib.hid hown1
          have HLE := Lib.hid (hrg.left_eq)
          have HOLN := Lib.hid hol.out
          have hs1a : wr.heap.size ≤ w1.heap.size := by omega
          clear hs1 hkey hlk hR hat hrg1 hg1 hd h9 hcv hs hac hrg hown hb hco hb1 hown1 hkb hkv hany hol
          go_wp2_with fail
          obtain ⟨W1, hW1⟩ : ∃ W1, w1.alloc (.cells #[.int .i64 pb, .string pv] 84) = W1 := ⟨_, rfl⟩
          have hbA : Below w1.heap.size w1 W1 := by rw [← hW1]; exact blA _ _
          have q1 : W1.cell? ⟨w1.heap.size, 1, none⟩ = some (.string pv) := by rw [← hW1]; exact cell_new w1 _ _ 1 _ rfl
          rw [hW1]
          obtain ⟨BX, hBX⟩ : ∃ BX, w1.heap.size = BX := ⟨_, rfl⟩
          rw [hBX] at q1 ⊢
          have HBX := Lib.hid hBX
          have HBA := Lib.hid hbA
          have Q1 := Lib.hid q1
          clear hW1 hbA hBX q1
          refine (HAC.out W1 (HW.out.below (Below.next HB1.out HBA.out))).mono ?_
          rintro e w4 ⟨rfl, hb4⟩
          have HB14 := Lib.hid (Below.next HBA.out hb4)
          have HRG4 := Lib.hid (HRG1.out.kept (below_grow HB14.out) (by simp) (by simp))
          have HO4 := Lib.hid (rowK_below HO1.out HB14.out)
          have HB4 := Lib.hid (Below.next HB1.out HB14.out)
          have q4 : w4.cell? ⟨BX, 1, none⟩ = some (.string pv) := (hb4.cell (p := ⟨BX, 1, none⟩) (cell_lt Q1.out)).trans Q1.out
          have hs4 := hb4.size
          have hsA := HBA.out.size
          clear hb4
          cases ac
          · clear q4
            go_wp2_with fail
            go_roundw
            case rel => exact ⟨_, cnt1, out, oz, HRG4.out, HO4.out, HB4.out, by omega, HCO3, by omega, HOLN⟩
            case measure => rw [HRG4.out.left_eq, HLE.out]; omega
          · have hown4 := HO4.out
            have hbr : Below (R + 1) w4 w4 := Below.refl _ _
            have hR4 : R + 1 ≤ w4.heap.size := by omega
            go_wp2_with (at_builtin; go_must (refine wpList_app _ _ 57 16 (.string ⟨#[]⟩) (.string pv) _ Tryd.underlying57 Tryd.infoStr rfl hown4 hbr hR4 rfl rfl rfl rfl rfl (by unfold maxLen; omega) (by omega) ?_))
            intro v' w6 hown6 hb6 hg6 hs6
            have HO6 : Hid (w6.ownsRow (R + 1) 9 1 v' (oz + 1) ((out ++ [pv.toList]).map encStr)) := Lib.hid (by
              have e : encStr pv.toList = .string pv := by unfold encStr; rw [bs_mk]
              rw [List.map_append, List.map_cons, List.map_nil, e]; exact hown6)
            have HRG6 := Lib.hid (HRG4.out.kept hg6 (fun e => by have := (HO4.out.lt _ e.symm).1; omega) (fun e => by have := (HO4.out.lt _ e.symm).1; omega))
            have HB6 := Lib.hid (HB4.out.trans (hb6.mono (by omega)))
            have HOL6 : Hid ((out ++ [pv.toList]).length = oz + 1) := Lib.hid (by rw [List.length_append, HOLN.out]; rfl)
            have hs66 : R + 1 ≤ w6.heap.size := by omega
            clear hown4 hbr hown6 hb6 hg6 q4
            go_wp2_with fail
            go_roundw
            case rel => exact ⟨_, cnt1, _, oz + 1, HRG6.out, HO6.out, HB6.out, hs66, HCO3, by omega, HOL6⟩
            case measure => rw [HRG6.out.left_eq, HLE.out]; omega
end Go.Proofs.YtgfjmplifmbmlaaDoor
namespace Go.Proofs.YtgfjmplifmbmlaaDoor
open Go.RowKit Go.Shelf

def hitS (f : List (BitVec 16)) (s : BitVec 16) : Bool := f.all fun x => !(x &&& s == 0#16)
def crossS (f g : List (BitVec 16)) : Bool := f.all fun x => hitS g x
theorem all_hit {α : Type} {p : α → Bool} {l : List α} {k : Nat} {x : α} (h : l[k]? = some x) (hp : p x = false) : l.all p = false := by
  rw [List.all_eq_false]; exact ⟨x, List.mem_of_getElem? h, by simp [hp]⟩
theorem all_none {α : Type} {p : α → Bool} {l : List α} (h : ∀ (j : Nat) (x : α), l[j]? = some x → p x = true) : l.all p = true := by
  rw [List.all_eq_true]; intro x hx; obtain ⟨i, hi⟩ := List.mem_iff_getElem?.1 hx; exact h i x hi
theorem cross_pairs {f g : List (BitVec 16)} (h : crossS f g = true) : ∀ x ∈ f, ∀ y ∈ g, (x &&& y == 0#16) = false := by
  intro x hx y hy
  have h1 := List.all_eq_true.1 h x hx
  have h2 := List.all_eq_true.1 h1 y hy
  rw [BitVec.and_comm]
  simpa using h2
theorem cross_dis (f g : List (BitVec 16)) : crossS f g = decide ((disS f g) = none) := by
  rw [Bool.eq_iff_iff, decide_eq_true_iff]
  constructor
  · intro h
    refine disS_none f g fun j hj i hi => ?_
    rw [List.getD_eq_getElem?_getD, List.getD_eq_getElem?_getD, List.getElem?_eq_getElem hj, List.getElem?_eq_getElem hi]
    exact cross_pairs h _ (List.getElem_mem hj) _ (List.getElem_mem hi)
  · intro h
    refine List.all_eq_true.2 fun x hx => List.all_eq_true.2 fun y hy => ?_
    cases hq : (y &&& x == 0#16)
    · rfl
    · exfalso
      unfold disS at h
      rw [List.find?_eq_none] at h
      have := h (x, y) (List.mem_flatMap.2 ⟨x, hx, List.mem_map.2 ⟨y, hy, rfl⟩⟩)
      rw [BitVec.and_comm] at hq
      exact this hq

set_option maxRecDepth 100000 in
set_option maxHeartbeats 2000000 in
theorem hits9_c (f : List (BitVec 16)) (s : BitVec 16) (a : Option Addr) (n c : Nat) (w : World) (h : Rd w a n c (f.map setV2)) :
    Calls Tryd.prog 47 #[.slice a n c, .int .u16 (U s)] w fun e w' => e = .returned (.bool (hitS f s)) ∧ w = w' := by
  have hnl : f.length = n := by have := h.len; simp at this; omega
  have hm := h.max
  have hle := h.le
  unfold maxLen at hm
  have HR := Lib.hid h
  have HN := Lib.hid hnl
  clear h hnl
  go_enter Tryd.func47, Tryd.ntmps47
  go_wp2_with fail
  go_loop [5] (fun i => ∃ k : Nat, k ≤ n ∧ i = .int .i64 k ∧ Hid (∀ (j : Nat) x, j < k → f[j]? = some x → (x &&& s == 0#16) = false)) (fun i => n - (intOf i).toNat)
  case atStart => exact ⟨0, Nat.zero_le _, rfl, Lib.hid (fun j x hj => by omega)⟩
  case round =>
    obtain ⟨k, hk, rfl, hno⟩ := hrel
    by_cases hlt : k < n
    · obtain ⟨b, o, ha, hcell⟩ := HR.out.at' (by omega)
      obtain ⟨x, hx⟩ : ∃ x, f[k]? = some x := ⟨_, List.getElem?_eq_getElem (by have := HN.out; omega)⟩
      have hc := hcell k (setV2 x) (by rw [List.getElem?_map, hx]; rfl)
      unfold setV2 at hc
      have HX := Lib.hid hx
      subst ha
      cases hq : (x &&& s == 0#16)
      · have hno3 : Hid (∀ (j : Nat) x, j < k + 1 → f[j]? = some x → (x &&& s == 0#16) = false) := Lib.hid (fun j y hj hy => by
          by_cases h1 : j < k
          · exact hno.out j y h1 hy
          · obtain rfl : j = k := by omega
            rw [HX.out] at hy; cases hy; exact hq)
        clear hcell hno hx
        go_wp2_with fail
        go_round
        case rel => exact ⟨k + 1, by omega, by go_num, hno3⟩
        case measure => simp [intOf]; omega
      · have hE : Hid (hitS f s = false) := Lib.hid (all_hit hx (by rw [hq]; rfl))
        clear hcell hno hx
        go_wp2_with fail
        go_ret
        exact ⟨ret_bool hE.out.symm, rfl⟩
    · have hE : Hid (hitS f s = true) := Lib.hid (all_none fun j x hj => by rw [hno.out j x (by have := (List.getElem?_eq_some_iff.1 hj).1; have := HN.out; omega) hj]; rfl)
      clear hno
      go_wp2_with fail
      go_ret
      exact ⟨ret_bool hE.out.symm, rfl⟩

set_option maxRecDepth 100000 in
set_option maxHeartbeats 2000000 in
theorem cross9_c (f g : List (BitVec 16)) (a : Option Addr) (n c : Nat) (a2 : Option Addr) (n2 c2 : Nat) (w : World) (h : Rd w a n c (f.map setV2)) (h2 : Rd w a2 n2 c2 (g.map setV2)) :
    Calls Tryd.prog 26 #[.slice a n c, .slice a2 n2 c2] w fun e w' => e = .returned (.bool (crossS f g)) ∧ w = w' := by
  have hnl : f.length = n := by have := h.len; simp at this; omega
  have hm := h.max
  have hle := h.le
  unfold maxLen at hm
  have HR := Lib.hid h
  have HN := Lib.hid hnl
  have HH := Lib.hid (fun s => hits9_c g s a2 n2 c2 w h2)
  clear h hnl h2
  go_enter Tryd.func26, Tryd.ntmps26
  go_wp2_with fail
  go_loop [5] (fun i => ∃ k : Nat, k ≤ n ∧ i = .int .i64 k ∧ Hid (∀ (j : Nat) x, j < k → f[j]? = some x → hitS g x = true)) (fun i => n - (intOf i).toNat)
  case atStart => exact ⟨0, Nat.zero_le _, rfl, Lib.hid (fun j x hj => by omega)⟩
  case round =>
    obtain ⟨k, hk, rfl, hno⟩ := hrel
    by_cases hlt : k < n
    · obtain ⟨b, o, ha, hcell⟩ := HR.out.at' (by omega)
      obtain ⟨x, hx⟩ : ∃ x, f[k]? = some x := ⟨_, List.getElem?_eq_getElem (by have := HN.out; omega)⟩
      have hc := hcell k (setV2 x) (by rw [List.getElem?_map, hx]; rfl)
      unfold setV2 at hc
      have HX := Lib.hid hx
      have HHX := Lib.hid (HH.out x)
      obtain ⟨q, hq⟩ : ∃ q, hitS g x = q := ⟨_, rfl⟩
      rw [hq] at HHX
      subst ha
      cases q
      · have hE : Hid (crossS f g = false) := Lib.hid (all_hit hx hq)
        clear hcell hno hx hq
        go_wp2_with fail
        refine HHX.out.mono ?_
        rintro e w' ⟨rfl, rfl⟩
        go_wp2_with fail
        go_ret
        exact ⟨ret_bool hE.out.symm, rfl⟩
      · have hno3 : Hid (∀ (j : Nat) x, j < k + 1 → f[j]? = some x → hitS g x = true) := Lib.hid (fun j y hj hy => by
          by_cases h1 : j < k
          · exact hno.out j y h1 hy
          · obtain rfl : j = k := by omega
            rw [HX.out] at hy; cases hy; exact hq)
        clear hcell hno hx hq
        go_wp2_with fail
        refine HHX.out.mono ?_
        rintro e w' ⟨rfl, rfl⟩
        go_wp2_with fail
        go_round
        case rel => exact ⟨k + 1, by omega, by go_num, hno3⟩
        case measure => simp [intOf]; omega
    · have hE : Hid (crossS f g = true) := Lib.hid (all_none fun j x hj => hno.out j x (by have := (List.getElem?_eq_some_iff.1 hj).1; have := HN.out; omega) hj)
      clear hno
      go_wp2_with fail
      go_ret
      exact ⟨ret_bool hE.out.symm, rfl⟩
end Go.Proofs.YtgfjmplifmbmlaaDoor
namespace Go.Proofs.YtgfjmplifmbmlaaDoor
open Go.RowKit Go.Shelf

def shortS (l : List Ev) : Bool := (l.all fun e => decide (e.value.size ≤ 50)) && decide (l.length ≤ 30)
set_option maxRecDepth 100000 in
set_option maxHeartbeats 2000000 in
theorem short_c (l : List Ev) (a : Option Addr) (n c : Nat) (w : World) (h : RdK 4 w a n c (l.flatMap evC)) :
    Calls Tryd.prog 25 #[.slice a n c] w fun e w' => e = .returned (.bool (shortS l)) ∧ w = w' := by
  have hnl : l.length = n := by have := h.len; rw [flat_len 4 evC evC_len] at this; omega
  have hm := h.max
  have hle := h.le
  unfold maxLen at hm
  have HR := Lib.hid h
  have HN := Lib.hid hnl
  clear h hnl
  go_enter Tryd.func25, Tryd.ntmps25
  go_wp2_with fail
  go_loop [3] (fun i => ∃ k : Nat, k ≤ n ∧ i = .int .i64 k ∧ Hid (∀ (j : Nat) x, j < k → l[j]? = some x → x.value.size ≤ 50)) (fun i => n - (intOf i).toNat)
  case atStart => exact ⟨0, Nat.zero_le _, rfl, Lib.hid (fun j x hj => by omega)⟩
  case round =>
    obtain ⟨k, hk, rfl, hno⟩ := hrel
    by_cases hlt : k < n
    · obtain ⟨b, o, ha, hcell⟩ := RdK.cells HR.out evC_len (by omega)
      obtain ⟨x, hx⟩ : ∃ x, l[k]? = some x := ⟨_, List.getElem?_eq_getElem (by have := HN.out; omega)⟩
      have c3 : w.cell? ⟨b, o + k * 4 + 3, none⟩ = some (.string x.value) := hcell k x hx 3 (by omega)
      have HX := Lib.hid hx
      subst ha
      by_cases hq : x.value.size ≤ 50
      · have hno3 : Hid (∀ (j : Nat) x, j < k + 1 → l[j]? = some x → x.value.size ≤ 50) := Lib.hid (fun j y hj hy => by
          by_cases h1 : j < k
          · exact hno.out j y h1 hy
          · obtain rfl : j = k := by omega
            rw [HX.out] at hy; cases hy; exact hq)
        clear hcell hno hx
        go_wp2_with fail
        go_round
        case rel => exact ⟨k + 1, by omega, by go_num, hno3⟩
        case measure => simp [intOf]; omega
      · have hE : Hid (shortS l = false) := Lib.hid (by unfold shortS; rw [Bool.and_eq_false_iff]; left; rw [List.all_eq_false]; exact ⟨x, List.mem_of_getElem? hx, by simpa using hq⟩)
        clear hcell hno hx
        go_wp2_with fail
        go_ret
        exact ⟨ret_bool hE.out.symm, rfl⟩
    · obtain rfl : k = n := by omega
      have hE : Hid (shortS l = decide (k ≤ 30)) := Lib.hid (by
        unfold shortS; rw [HN.out]
        have : (l.all fun e => decide (e.value.size ≤ 50)) = true := by
          rw [List.all_eq_true]; intro x hx; obtain ⟨i, hi⟩ := List.mem_iff_getElem?.1 hx
          exact decide_eq_true (hno.out i x (by have := (List.getElem?_eq_some_iff.1 hi).1; have := HN.out; omega) hi)
        rw [this]; rfl)
      clear hno
      by_cases h30 : k ≤ 30
      · rw [decide_eq_true h30] at hE
        go_wp2_with fail
        go_ret
        exact ⟨ret_bool (by rw [hE.out]; simp; omega), rfl⟩
      · rw [decide_eq_false h30] at hE
        go_wp2_with fail
        go_ret
        exact ⟨ret_bool (by rw [hE.out]; simp; omega), rfl⟩
end Go.Proofs.YtgfjmplifmbmlaaDoor
namespace Go.Proofs.YtgfjmplifmbmlaaDoor
open Go.RowKit Go.Shelf

theorem short_le {l : List Ev} (h : shortS l = true) : l.length ≤ 30 := by
  unfold shortS at h; rw [Bool.and_eq_true] at h; exact of_decide_eq_true h.2
theorem chk_kinds (read : List (BitVec 16)) (m : Nat) (l : List Ev) : (chkR read m l).2 = 0 ∨ (chkR read m l).2 = 13 := by
  unfold chkR; split
  · exact .inl rfl
  · exact .inr rfl
/-- a value of a list, as a frame's fact -/
def EvsOk (l : List Ev) : Prop := ∀ e ∈ l, e.value.size ≤ maxLen ∧ (Lit.int .i64 e.ballot).wf = true

set_option maxRecDepth 100000 in
set_option maxHeartbeats 4000000 in
theorem singleAny_w (v : Value) (y z : List Int) (s : Int) (a1 : Option Addr) (len1 cap1 : Nat) (z1 : List Ev) (w : World) (ht : HasTab w) (w0 : IsSys w v y z s) (w1 : IsEvs w a1 len1 cap1 z1) :
    Calls Tryd.prog 6 #[v, .slice a1 len1 cap1] w fun e w' => e = .returned (.bool true) ∧ Below w.heap.size w w' := by
  obtain ⟨m, read, write, hm1, hm5, hchk, hrl, hwl, x0, x1, x2, x3, x4, x5, x6, rfl, hof⟩ := sys_open w0
  obtain ⟨hev, hok⟩ := w1
  have hlen : z1.length = len1 := by have := hev.len; rw [flat_len 4 evC evC_len] at this; omega
  have HT := Lib.hid ht
  have HOF := Lib.hid hof
  have HCHK := Lib.hid hchk
  have HEV := Lib.hid hev
  have HOK : Hid (EvsOk z1) := Lib.hid hok
  have HLEN := Lib.hid hlen
  have HA := Lib.hid (fun w h => awake37_c w h)
  have HSH := Lib.hid (fun a n c w h => short_c z1 a n c w h)
  have HCR := Lib.hid (fun a n c a2 n2 c2 w h h2 => cross9_c read write a n c a2 n2 c2 w h h2)
  have HCS := Lib.hid (fun l a n c w h hb => clones_c l a n c w h hb)
  have HC1 : Hid (chkS m [read] = 0) := Lib.hid (chk_one (by omega) HCHK.out)
  obtain ⟨rn, hrn⟩ : ∃ rn, read.length = rn := ⟨_, rfl⟩
  obtain ⟨wn, hwn⟩ : ∃ wn, write.length = wn := ⟨_, rfl⟩
  rw [hrn] at hrl
  rw [hwn] at hwl
  have HRN := Lib.hid hrn
  have HWN := Lib.hid hwn
  obtain ⟨sh, hsh⟩ : ∃ sh, shortS z1 = sh := ⟨_, rfl⟩
  obtain ⟨cr, hcr⟩ : ∃ cr, crossS read write = cr := ⟨_, rfl⟩
  rw [hsh] at HSH
  rw [hcr] at HCR
  have HSHE := Lib.hid hsh
  have HCRE := Lib.hid hcr
  clear w0 hof hchk hev hok hlen ht hrn hwn hsh hcr
  cases sh
  · go_enter Tryd.func6, Tryd.ntmps6
    go_wp2_with fail
    refine (HOF.out _ (blA w _)).mono ?_
    rintro e wa ⟨a3, c3, a4, c4, rfl, hr3, hr4, hba⟩
    have b1 := Below.next (blA w _) hba
    clear hr3 hr4 hba
    go_wp2_with fail
    refine (HA.out _ (HT.out.below b1)).mono ?_
    rintro e w1 ⟨rfl, b2⟩
    have b3 := Below.next b1 b2
    clear b1 b2
    go_wp2_with fail
    refine (HSH.out a1 len1 cap1 w1 (HEV.out.below b3)).mono ?_
    rintro e w2 ⟨rfl, rfl⟩
    go_wp2_with fail
    refine (HA.out w1 (HT.out.below b3)).mono ?_
    rintro e w2 ⟨rfl, b4⟩
    go_wp2_with fail
    go_ret
    exact ⟨rfl, Below.next b3 b4⟩
  · have hl30 : len1 ≤ 30 := by have := short_le HSHE.out; have := HLEN.out; omega
    cases cr
    · go_enter Tryd.func6, Tryd.ntmps6
      go_wp2_with fail
      refine (HOF.out _ (blA w _)).mono ?_
      rintro e wa ⟨a3, c3, a4, c4, rfl, hr3, hr4, hba⟩
      have b1 := Below.next (blA w _) hba
      have R3 := Lib.hid hr3
      have R4 := Lib.hid hr4
      clear hr3 hr4 hba
      go_wp2_with fail
      refine (HA.out _ (HT.out.below b1)).mono ?_
      rintro e w1 ⟨rfl, b2⟩
      have b3 := Below.next b1 b2
      have R3b := Lib.hid (R3.out.below b2)
      have R4b := Lib.hid (R4.out.below b2)
      clear b1 b2
      go_wp2_with fail
      refine (HSH.out a1 len1 cap1 w1 (HEV.out.below b3)).mono ?_
      rintro e w2 ⟨rfl, rfl⟩
      go_wp2_with fail
      refine (HCR.out a3 _ c3 a4 _ c4 w1 R3b.out R4b.out).mono ?_
      rintro e w2 ⟨rfl, rfl⟩
      go_wp2_with fail
      refine (HA.out w1 (HT.out.below b3)).mono ?_
      rintro e w2 ⟨rfl, b4⟩
      go_wp2_with fail
      go_ret
      exact ⟨rfl, Below.next b3 b4⟩
    · have HCK := Lib.hid (fun a n c a2 n2 c2 w h h2 => checkP_c read m z1 a n c a2 n2 c2 w h h2 (fun e he => (HOK.out e he).2) (by rw [HLEN.out]; omega) (by omega) HC1.out)
      have HCH := Lib.hid (fun a n c a2 n2 c2 w h h2 => pchosen_c write m z1 a n c a2 n2 c2 w h h2 HOK.out (by rw [HLEN.out]; omega) (by omega))
      have hkinds := chk_kinds read m z1
      have hone : (chkR read m z1).2 = 13 → (chrS write m z1).length ≤ 1 := fun h => chosen_one (by omega) (chkR_safe (by rw [h]; decide)) (cross_pairs HCRE.out)
      obtain ⟨⟨ci, ce⟩, hce⟩ : ∃ p, chkR read m z1 = p := ⟨_, rfl⟩
      rw [hce] at HCK hkinds hone
      obtain ⟨cn, hcn⟩ : ∃ cn, (chrS write m z1).length = cn := ⟨_, rfl⟩
      rw [hcn] at hone HCH
      have HONE := Lib.hid hone
      clear hce hcn hone
      simp only at hkinds
      rcases hkinds with rfl | rfl
      · go_enter Tryd.func6, Tryd.ntmps6
        go_wp2_with fail
        refine (HOF.out _ (blA w _)).mono ?_
        rintro e wa ⟨a3, c3, a4, c4, rfl, hr3, hr4, hba⟩
        have b1 := Below.next (blA w _) hba
        rw [HRN.out] at hr3 ⊢
        rw [HWN.out] at hr4 ⊢
        have R3 := Lib.hid hr3
        have R4 := Lib.hid hr4
        clear hr3 hr4 hba
        go_wp2_with fail
        refine (HA.out _ (HT.out.below b1)).mono ?_
        rintro e w1 ⟨rfl, b2⟩
        have b3 := Below.next b1 b2
        have R3b := Lib.hid (R3.out.below b2)
        have R4b := Lib.hid (R4.out.below b2)
        clear b1 b2
        go_wp2_with fail
        refine (HSH.out a1 len1 cap1 w1 (HEV.out.below b3)).mono ?_
        rintro e w2 ⟨rfl, rfl⟩
        go_wp2_with fail
        refine (HCR.out a3 _ c3 a4 _ c4 w1 R3b.out R4b.out).mono ?_
        rintro e w2 ⟨rfl, rfl⟩
        go_wp2_with fail
        refine (HCS.out read a3 rn c3 w1 R3b.out (by omega)).mono ?_
        rintro e w2 ⟨a5, c5, rfl, r5, b4⟩
        have b5 := Below.next b3 b4
        have R5 := Lib.hid r5
        clear b3 b4 r5
        go_wp2_with fail
        refine (clonee_c z1 a1 len1 cap1 w2 (HEV.out.below b5) (by omega)).mono ?_
        rintro e w3 ⟨a6, c6, rfl, r6, b6⟩
        have b7 := Below.next b5 b6
        have HC2 := Lib.hid (HCK.out a5 rn c5 a6 len1 c6 w3 (R5.out.below b6) r6)
        clear b5 b6 r6
        go_wp2_with fail
        refine HC2.out.mono ?_
        rintro e w4 ⟨rfl, b8⟩
        have b9 := Below.next b7 b8
        clear b7 b8
        go_wp2_with fail
        go_ret
        exact ⟨rfl, b9⟩
      · have hcn1 : cn ≤ 1 := HONE.out rfl
        go_enter Tryd.func6, Tryd.ntmps6
        go_wp2_with fail
        refine (HOF.out _ (blA w _)).mono ?_
        rintro e wa ⟨a3, c3, a4, c4, rfl, hr3, hr4, hba⟩
        have b1 := Below.next (blA w _) hba
        rw [HRN.out] at hr3 ⊢
        rw [HWN.out] at hr4 ⊢
        have R3 := Lib.hid hr3
        have R4 := Lib.hid hr4
        clear hr3 hr4 hba
        go_wp2_with fail
        refine (HA.out _ (HT.out.below b1)).mono ?_
        rintro e w1 ⟨rfl, b2⟩
        have b3 := Below.next b1 b2
        have R3b := Lib.hid (R3.out.below b2)
        have R4b := Lib.hid (R4.out.below b2)
        clear b1 b2
        go_wp2_with fail
        refine (HSH.out a1 len1 cap1 w1 (HEV.out.below b3)).mono ?_
        rintro e w2 ⟨rfl, rfl⟩
        go_wp2_with fail
        refine (HCR.out a3 _ c3 a4 _ c4 w1 R3b.out R4b.out).mono ?_
        rintro e w2 ⟨rfl, rfl⟩
        go_wp2_with fail
        refine (HCS.out read a3 rn c3 w1 R3b.out (by omega)).mono ?_
        rintro e w2 ⟨a5, c5, rfl, r5, b4⟩
        have b5 := Below.next b3 b4
        have R5 := Lib.hid r5
        have R4c := Lib.hid (R4b.out.below b4)
        clear b3 b4 r5
        go_wp2_with fail
        refine (clonee_c z1 a1 len1 cap1 w2 (HEV.out.below b5) (by omega)).mono ?_
        rintro e w3 ⟨a6, c6, rfl, r6, b6⟩
        have b7 := Below.next b5 b6
        have HC2 := Lib.hid (HCK.out a5 rn c5 a6 len1 c6 w3 (R5.out.below b6) r6)
        have R4d := Lib.hid (R4c.out.below b6)
        clear b5 b6 r6
        go_wp2_with fail
        refine HC2.out.mono ?_
        rintro e w4 ⟨rfl, b8⟩
        have b9 := Below.next b7 b8
        have R4e := Lib.hid (R4d.out.below b8)
        clear b7 b8
        go_wp2_with fail
        refine (HCS.out write a4 wn c4 w4 R4e.out (by omega)).mono ?_
        rintro e w5 ⟨a7, c7, rfl, r7, b10⟩
        have b11 := Below.next b9 b10
        have R7 := Lib.hid r7
        clear b9 b10 r7
        go_wp2_with fail
        refine (clonee_c z1 a1 len1 cap1 w5 (HEV.out.below b11) (by omega)).mono ?_
        rintro e w6 ⟨a8, c8, rfl, r8, b12⟩
        have b13 := Below.next b11 b12
        have HC3 := Lib.hid (HCH.out a7 wn c7 a8 len1 c8 w6 (R7.out.below b12) r8)
        clear b11 b12 r8
        go_wp2_with fail
        refine HC3.out.mono ?_
        rintro e w7 ⟨a9, c9, rfl, _, b14⟩
        have b15 := Below.next b13 b14
        clear b13 b14
        go_wp2_with fail
        go_ret
        exact ⟨ret_bool (decide_eq_true (by omega)), b15⟩
end Go.Proofs.YtgfjmplifmbmlaaDoor
namespace Go.Proofs.YtgfjmplifmbmlaaDoor
open Go.RowKit Go.Shelf

set_option maxRecDepth 100000 in
set_option maxHeartbeats 2000000 in
theorem disjoint9_c (f g : List (BitVec 16)) (a : Option Addr) (n c : Nat) (a2 : Option Addr) (n2 c2 : Nat) (w : World) (h : Rd w a n c (f.map setV2)) (h2 : Rd w a2 n2 c2 (g.map setV2)) :
    Calls Tryd.prog 53 #[.slice a n c, .slice a2 n2 c2] w fun e w' => e = .returned (.tuple #[.int .u16 (U (disT f g).1), .int .u16 (U (disT f g).2.1), .int .i64 (disT f g).2.2]) ∧ Below w.heap.size w w' := by
  have hnl : f.length = n := by have := h.len; simp at this; omega
  have hnl2 : g.length = n2 := by have := h2.len; simp at this; omega
  have hm := h.max
  have hle := h.le
  have hm2 := h2.max
  have hle2 := h2.le
  unfold maxLen at hm hm2
  have HR := Lib.hid h
  have HN := Lib.hid hnl
  have HR2 := Lib.hid h2
  have HN2 := Lib.hid hnl2
  clear h hnl h2 hnl2
  go_enter Tryd.func53, Tryd.ntmps53
  go_wp2_with fail
  go_loopw [7] (fun i wr => ∃ k : Nat, k ≤ n ∧ i = .int .i64 k ∧ Hid (∀ j, j < k → ∀ i, i < g.length → (f.getD j 0#16 &&& g.getD i 0#16 == 0#16) = false) ∧ Below w.heap.size w wr) (fun i _ => n - (intOf i).toNat)
  case atStart => exact ⟨0, Nat.zero_le _, rfl, Lib.hid (fun j hj => by omega), Below.refl _ _⟩
  case round =>
    obtain ⟨k, hk, rfl, hno, hb⟩ := hrel
    by_cases hlt : k < n
    · have HB := Lib.hid hb
      clear hb
      go_wp2_with fail
      go_loopw [8] (fun i wr => ∃ j : Nat, j ≤ n2 ∧ i = .int .i64 j ∧ Hid (∀ i, i < j → (f.getD k 0#16 &&& g.getD i 0#16 == 0#16) = false) ∧ Below w.heap.size w wr) (fun i _ => n2 - (intOf i).toNat)
      case atStart => exact ⟨0, Nat.zero_le _, rfl, Lib.hid (fun j hj => by omega), HB.out⟩
      case round =>
        obtain ⟨j, hj, rfl, hno2, hb⟩ := hrel
        by_cases hlt2 : j < n2
        · obtain ⟨b, o, ha, hcell⟩ := (HR.out.below hb).at' (by omega)
          have hc := hcell k _ (at_cell (by have := HN.out; omega))
          obtain ⟨x, hx⟩ : ∃ x, f.getD k 0#16 = x := ⟨_, rfl⟩
          rw [hx] at hc
          have HX := Lib.hid hx
          obtain ⟨b2, o2, ha2, hcell2⟩ := (HR2.out.below hb).at' (by omega)
          have hc2 := hcell2 j _ (at_cell (by have := HN2.out; omega))
          obtain ⟨y, hy⟩ : ∃ y, g.getD j 0#16 = y := ⟨_, rfl⟩
          rw [hy] at hc2
          have HY := Lib.hid hy
          subst ha ha2
          cases hq : (x &&& y == 0#16)
          · have hno3 : Hid (∀ i, i < j + 1 → (f.getD k 0#16 &&& g.getD i 0#16 == 0#16) = false) := Lib.hid (fun i hi => by
              by_cases h1 : i < j
              · exact hno2.out i h1
              · obtain rfl : i = j := by omega
                rw [HX.out, HY.out]; exact hq)
            clear hcell hcell2 hno2 hy hx
            go_wp2_with fail
            go_quiet (fail)
            go_wp2_with fail
            go_roundw
            case rel => exact ⟨j + 1, by omega, by go_num, hno3, below_drewN hb⟩
            case measure => simp [intOf]; omega
          · have hD : Hid (disT f g = (x, y, 0)) := by
              show _ = _
              unfold disT
              rw [disS_hit f g k j (by have := HN.out; omega) (by have := HN2.out; omega) hno.out hno2.out (by rw [HX.out, HY.out]; exact hq), HX.out, HY.out]
            clear hcell hcell2 hno2 hy hno hx
            go_wp2_with fail
            go_quiet (fail)
            go_wp2_with fail
            go_quiet (fail)
            go_wp2_with fail
            exact bodyPost_ret (v := .tuple #[.int .u16 (U x), .int .u16 (U y), .int .i64 0]) (by simp [results, Tryd.results53, go_sem]) rfl ⟨by rw [hD.out], below_drewN (below_drewN hb)⟩
        · have hno3 : Hid (∀ j, j < k + 1 → ∀ i, i < g.length → (f.getD j 0#16 &&& g.getD i 0#16 == 0#16) = false) := Lib.hid (fun j' hj' i hi => by
            by_cases h1 : j' < k
            · exact hno.out j' h1 i hi
            · obtain rfl : j' = k := by omega
              exact hno2.out i (by have := HN2.out; omega))
          clear hno hno2
          go_wp2_with fail
          go_roundw
          case rel => exact ⟨k + 1, by omega, by go_num, hno3, hb⟩
          case measure => simp [intOf]; omega
    · have hD : Hid (disT f g = (0#16, 0#16, 13)) := by
        show _ = _
        unfold disT
        rw [disS_none f g (fun j hj => hno.out j (by have := HN.out; omega))]
      clear hno
      go_wp2_with fail
      exact bodyPost_ret (v := .tuple #[.int .u16 0, .int .u16 0, .int .i64 13]) (by simp [results, Tryd.results53, go_sem]) rfl ⟨by rw [hD.out]; rfl, hb⟩
end Go.Proofs.YtgfjmplifmbmlaaDoor
namespace Go.Proofs.YtgfjmplifmbmlaaDoor
open Go.RowKit Go.Shelf

theorem memTo_all {x : BitVec 16} {m : Nat} (hm : m ≤ 16) (h : ∀ i, hasB x i = true → i < m) : memTo x m = memS x := by
  unfold memTo memS
  have e : List.range 16 = List.range m ++ (List.range (16 - m)).map (m + ·) := by
    rw [← List.range_add]; congr 1; omega
  rw [e, List.filter_append]
  have : ((List.range (16 - m)).map (m + ·)).filter (hasB x) = [] := by
    rw [List.filter_eq_nil_iff]
    intro i hi hq
    obtain ⟨j, _, rfl⟩ := List.mem_map.1 hi
    have := h _ hq
    omega
  rw [this, List.append_nil]
theorem memTo_map_succ {α : Type} (f : Nat → α) (x : BitVec 16) (k : Nat) : (memTo x (k + 1)).map f = if hasB x k = true then (memTo x k).map f ++ [f k] else (memTo x k).map f := by
  rw [memTo_succ]; split <;> simp

set_option maxRecDepth 100000 in
set_option maxHeartbeats 4000000 in
theorem rattack_yes (read write : List (BitVec 16)) (m : Nat) (a : Option Addr) (n c : Nat) (a2 : Option Addr) (n2 c2 : Nat) (w : World) (h : Rd w a n c (read.map setV2)) (h2 : Rd w a2 n2 c2 (write.map setV2)) (hm : m ≤ 12) (he : chkS m [read, write] = 0) (r q : BitVec 16) (hd : disS read write = some (r, q)) :
    Calls Tryd.prog 31 #[.slice a n c, .slice a2 n2 c2, .int .i64 m] w fun e w' => ∃ a' c', e = .returned (.tuple #[.slice a' (atkTo (read.getD 0 0#16) r q 2).length c', .int .i64 0]) ∧ RdK 4 w' a' (atkTo (read.getD 0 0#16) r q 2).length c' ((atkTo (read.getD 0 0#16) r q 2).flatMap evC) ∧ Below w.heap.size w w' := by
  have HG := Lib.hid (given_c read write m a n c a2 n2 c2 w h h2)
  rw [he] at HG
  have HD := Lib.hid (fun w h h2 => disjoint9_c read write a n c a2 n2 c2 w h h2)
  have hT : disT read write = (r, q, 0) := by unfold disT; rw [hd]
  rw [hT] at HD
  have HR := Lib.hid h
  have HR2 := Lib.hid h2
  obtain ⟨_, _, _, hrd, hwr, _, _⟩ := chk2_ok hm he
  obtain ⟨hrm, hqm, _⟩ := dis_mem hd
  have hl0 := List.length_pos_of_mem hrm
  have hn0 : 0 < n := by have := h.len; simp at this; omega
  have hx0 := at_cell (l := read) (k := 0) hl0
  have hq0m : read.getD 0 0#16 ∈ read := by rw [List.getD_eq_getElem?_getD, List.getElem?_eq_getElem hl0]; exact List.getElem_mem hl0
  obtain ⟨q0, hq0⟩ : ∃ q0, read.getD 0 0#16 = q0 := ⟨_, rfl⟩
  rw [hq0] at hx0 hq0m ⊢
  have HX0 := Lib.hid hx0
  have HM0 := Lib.hid (memTo_all (show m ≤ 16 by omega) (hrd q0 hq0m))
  have HMR := Lib.hid (memTo_all (show m ≤ 16 by omega) (hrd r hrm))
  have HMQ := Lib.hid (memTo_all (show m ≤ 16 by omega) (hwr q hqm))
  have hle0 := h.le
  have hmx0 := h.max
  unfold maxLen at hmx0
  clear h h2 hT hx0 hd he hq0 hrd hwr hrm hqm hl0 hq0m
  go_enter Tryd.func31, Tryd.ntmps31
  go_wp2_with fail
  refine HG.out.mono ?_
  rintro e w1 ⟨rfl, hb1⟩
  have HB1 := Lib.hid hb1
  clear hb1
  go_wp2_with fail
  refine (HD.out w1 (HR.out.below HB1.out) (HR2.out.below HB1.out)).mono ?_
  rintro e w2 ⟨rfl, hb2⟩
  have HB2 := Lib.hid (Below.next HB1.out hb2)
  obtain ⟨b, o, ha, hcell⟩ := HR.out.at' hn0
  have hc0 : w.cell? ⟨b, o, none⟩ = some (.int .u16 (U q0)) := hcell 0 _ HX0.out
  have HC0 := Lib.hid hc0
  subst ha
  clear hcell HD HG hb2 hc0
  go_wp2_with fail
  go_loopw [12, 13] (fun v i wr => ∃ (k mm : Nat), k ≤ 2 ∧ i = .int .i64 ((k : Int) + 1) ∧ mm ≤ 32 * k ∧ wr.ownsRow w.heap.size 48 4 v mm ((atkTo q0 r q k).flatMap evC) ∧ Hid ((atkTo q0 r q k).length = mm) ∧ Below w.heap.size w wr) (fun _ i _ => 3 - (intOf i).toNat)
  case atStart => exact ⟨0, 0, by omega, rfl, by omega, World.ownsRow_nil _ _ _ _, rfl, HB2.out⟩
  case round =>
    obtain ⟨k, mm, hk, rfl, hmm, hown, hml, hb⟩ := hrel
    by_cases hlt : k < 2
    · obtain ⟨x, hx⟩ : ∃ x, (if k = 0 then q0 else r) = x := ⟨_, rfl⟩
      have HMX : Hid (memTo x m = memS x) := Lib.hid (by rw [← hx]; split; exact HM0.out; exact HMR.out)
      have hstep := atkTo_succ q0 r q k hlt
      rw [hx] at hstep
      have HST := Lib.hid hstep
      have hc := (hb.cell (p := ⟨b, o, none⟩) (cell_lt HC0.out)).trans HC0.out
      have HOWN := Lib.hid hown
      have HB := Lib.hid hb
      have kb : decide ((k : Int) + 1 ≤ 2) = true := decide_eq_true (by omega)
      clear hstep hown hb
      have hway : (k = 0 ∧ q0 = x) ∨ (k = 1 ∧ r = x) := by
        rcases Nat.lt_or_ge k 1 with h | h
        · left; exact ⟨by omega, by rw [← hx, if_pos (by omega)]⟩
        · right; exact ⟨by omega, by rw [← hx, if_neg (by omega)]⟩
      clear hx
      rcases hway with ⟨hk0, hxe⟩ | ⟨hk0, hxe⟩
      · subst hxe
        have hb3 : ((k : Int) + 1 == 2) = false := by simp only [beq_eq_false_iff_ne, ne_eq]; omega
        clear hk0
        go_wp2_with fail
        go_loopw [12, 15] (fun v i wr => ∃ (j mj : Nat), j ≤ m ∧ i = .int .i64 j ∧ mj ≤ j ∧ wr.ownsRow w.heap.size 48 4 v (mm + mj) ((atkTo q0 r q k ++ (memTo q0 j).map (evP (k + 1))).flatMap evC) ∧ Hid ((memTo q0 j).length = mj) ∧ Below w.heap.size w wr) (fun _ i _ => m - (intOf i).toNat)
        case atStart => exact ⟨0, 0, by omega, rfl, by omega, by simpa [memTo] using HOWN.out, rfl, HB.out⟩
        case round =>
          clear hc
          obtain ⟨j, mj, hj, rfl, hmj, hown, hmjl, hb⟩ := hrel
          by_cases hlt2 : j < m
          · have hst := memTo_map_succ (evP (k + 1)) q0 j
            have hst2 := memTo_succ q0 j
            cases hh : hasB q0 j
            · rw [hh, if_neg (by decide)] at hst hst2
              have HS1 := Lib.hid hst
              have HS2 := Lib.hid hst2
              clear hst hst2
              go_wp2_with fail
              go_roundw
              case rel => exact ⟨j + 1, mj, by omega, by go_num, by omega, by rw [HS1.out]; exact hown, by rw [HS2.out]; exact hmjl, hb⟩
              case measure => simp [intOf]; omega
            · rw [hh, if_pos rfl] at hst hst2
              have HS1 := Lib.hid hst
              have HS2 := Lib.hid hst2
              clear hst hst2
              go_wp2_with (at_builtin; go_must (refine wpList_appK 4 _ _ 40 40 (.agg #[.int .i64 0, .int .i64 0, .int .i64 0, .string ⟨#[]⟩]) (evC (evP (k + 1) j)) _ Tryd.underlying40 Tryd.infoEv rfl (by decide) hown hb (Nat.le_refl _) rfl rfl rfl rfl rfl (by intro u hu; exact ev_one [evP (k + 1) j] u (by simpa using hu)) (by unfold maxLen; omega) (by omega) ?_))
              intro v' w4 hown4 hb4 _ _
              clear hown hb
              go_wp2_with fail
              go_roundw
              case rel => exact ⟨j + 1, mj + 1, by omega, by go_num, by omega, by rw [HS1.out, ← List.append_assoc, List.flatMap_append, ← Nat.add_assoc]; simpa using hown4, Lib.hid (by rw [HS2.out]; simp [hmjl.out]), hb4⟩
              case measure => simp [intOf]; omega
          · obtain rfl : j = m := by omega
            rw [HMX.out] at hown hmjl
            have HOWN2 := Lib.hid hown
            have HB2 := Lib.hid hb
            clear hown hb
            go_wp2_with fail
            go_loopw [12, 16] (fun v i wr => ∃ (j2 mk : Nat), j2 ≤ j ∧ i = .int .i64 j2 ∧ mk ≤ j2 ∧ wr.ownsRow w.heap.size 48 4 v (mm + mj + mk) ((atkTo q0 r q k ++ (memS q0).map (evP (k + 1)) ++ (memTo q j2).map (evA (k + 1))).flatMap evC) ∧ Hid ((memTo q j2).length = mk) ∧ Below w.heap.size w wr) (fun _ i _ => j - (intOf i).toNat)
            case atStart => exact ⟨0, 0, by omega, rfl, by omega, by simpa [memTo] using HOWN2.out, rfl, HB2.out⟩
            case round =>
              obtain ⟨j2, mk, hj2, rfl, hmk, hown, hmkl, hb⟩ := hrel
              by_cases hlt3 : j2 < j
              · have hst := memTo_map_succ (evA (k + 1)) q j2
                have hst2 := memTo_succ q j2
                cases hh : hasB q j2
                · rw [hh, if_neg (by decide)] at hst hst2
                  have HS1 := Lib.hid hst
                  have HS2 := Lib.hid hst2
                  clear hst hst2
                  go_wp2_with fail
                  go_roundw
                  case rel => exact ⟨j2 + 1, mk, by omega, by go_num, by omega, by rw [HS1.out]; exact hown, by rw [HS2.out]; exact hmkl, hb⟩
                  case measure => simp [intOf]; omega
                · rw [hh, if_pos rfl] at hst hst2
                  have HS1 := Lib.hid hst
                  have HS2 := Lib.hid hst2
                  have HI := Lib.hid (Tryd.strconv_Itoa_small (k + 1) (by omega))
                  have hdl := dec_small (k + 1) (by omega)
                  have HCAT := Lib.hid (cat2 [118] (Lib.decDigits (k + 1)))
                  have HVB : Hid (valB (k + 1) = (⟨#[118]⟩ : ByteArray) ++ (⟨(Lib.decDigits (k + 1)).toArray⟩ : ByteArray)) := by show _ = _; exact HCAT.out.symm
                  obtain ⟨dd, hdd⟩ : ∃ dd, Lib.decDigits (k + 1) = dd := ⟨_, rfl⟩
                  rw [hdd] at HI hdl HVB
                  clear hst hst2 HCAT hdd
                  go_wp2_with fail
                  refine (HI.out _).mono ?_
                  rintro e w6 ⟨rfl, rfl⟩
                  go_wp2_with (at_builtin; go_must (refine wpList_appK 4 _ _ 40 40 (.agg #[.int .i64 0, .int .i64 0, .int .i64 0, .string ⟨#[]⟩]) [.int .i64 2, .int .i64 j2, .int .i64 ((k + 1 : Nat) : Int), .string ((⟨#[118]⟩ : ByteArray) ++ (⟨dd.toArray⟩ : ByteArray))] _ Tryd.underlying40 Tryd.infoEv rfl (by decide) hown hb (Nat.le_refl _) rfl rfl rfl rfl rfl (by intro u hu; simp only [List.mem_cons, List.not_mem_nil, or_false] at hu; rcases hu with rfl | rfl | rfl | rfl <;> rfl) (by unfold maxLen; omega) (by omega) ?_))
                  intro v' w4 hown4 hb4 _ _
                  clear hown hb
                  go_wp2_with fail
                  go_roundw
                  case rel => exact ⟨j2 + 1, mk + 1, by omega, by go_num, by omega, by rw [HS1.out, ← List.append_assoc, List.flatMap_append, ← Nat.add_assoc]; simpa [evC, evA, HVB.out] using hown4, Lib.hid (by rw [HS2.out]; simp [hmkl.out]), hb4⟩
                  case measure => simp [intOf]; omega
              · obtain rfl : j2 = j := by omega
                rw [HMQ.out] at hown hmkl
                have HBK : Hid (atkTo q0 r q (k + 1) = atkTo q0 r q k ++ (memS q0).map (evP (k + 1)) ++ (memS q).map (evA (k + 1))) := Lib.hid (by rw [HST.out]; unfold blkS; rw [List.append_assoc])
                have HL2 : Hid ((atkTo q0 r q (k + 1)).length = mm + mj + mk) := Lib.hid (by rw [HBK.out]; simp [hml.out, hmjl.out, hmkl.out]; omega)
                have hk16 : mj ≤ 16 ∧ mk ≤ 16 := ⟨by omega, by omega⟩
                have HO3 := Lib.hid hown
                have HB3 := Lib.hid hb
                clear hown hb
                go_wp2_with fail
                go_roundw
                case rel => exact ⟨k + 1, mm + mj + mk, by omega, by go_num, by omega, by rw [HBK.out]; exact HO3.out, HL2, HB3.out⟩
                case measure => simp [intOf]; omega
      · subst hxe
        have hb3 : ((k : Int) + 1 == 2) = true := by simp only [beq_iff_eq]; omega
        clear hk0
        go_wp2_with fail
        go_loopw [12, 15] (fun v i wr => ∃ (j mj : Nat), j ≤ m ∧ i = .int .i64 j ∧ mj ≤ j ∧ wr.ownsRow w.heap.size 48 4 v (mm + mj) ((atkTo q0 r q k ++ (memTo r j).map (evP (k + 1))).flatMap evC) ∧ Hid ((memTo r j).length = mj) ∧ Below w.heap.size w wr) (fun _ i _ => m - (intOf i).toNat)
        case atStart => exact ⟨0, 0, by omega, rfl, by omega, by simpa [memTo] using HOWN.out, rfl, HB.out⟩
        case round =>
          clear hc
          obtain ⟨j, mj, hj, rfl, hmj, hown, hmjl, hb⟩ := hrel
          by_cases hlt2 : j < m
          · have hst := memTo_map_succ (evP (k + 1)) r j
            have hst2 := memTo_succ r j
            cases hh : hasB r j
            · rw [hh, if_neg (by decide)] at hst hst2
              have HS1 := Lib.hid hst
              have HS2 := Lib.hid hst2
              clear hst hst2
              go_wp2_with fail
              go_roundw
              case rel => exact ⟨j + 1, mj, by omega, by go_num, by omega, by rw [HS1.out]; exact hown, by rw [HS2.out]; exact hmjl, hb⟩
              case measure => simp [intOf]; omega
            · rw [hh, if_pos rfl] at hst hst2
              have HS1 := Lib.hid hst
              have HS2 := Lib.hid hst2
              clear hst hst2
              go_wp2_with (at_builtin; go_must (refine wpList_appK 4 _ _ 40 40 (.agg #[.int .i64 0, .int .i64 0, .int .i64 0, .string ⟨#[]⟩]) (evC (evP (k + 1) j)) _ Tryd.underlying40 Tryd.infoEv rfl (by decide) hown hb (Nat.le_refl _) rfl rfl rfl rfl rfl (by intro u hu; exact ev_one [evP (k + 1) j] u (by simpa using hu)) (by unfold maxLen; omega) (by omega) ?_))
              intro v' w4 hown4 hb4 _ _
              clear hown hb
              go_wp2_with fail
              go_roundw
              case rel => exact ⟨j + 1, mj + 1, by omega, by go_num, by omega, by rw [HS1.out, ← List.append_assoc, List.flatMap_append, ← Nat.add_assoc]; simpa using hown4, Lib.hid (by rw [HS2.out]; simp [hmjl.out]), hb4⟩
              case measure => simp [intOf]; omega
          · obtain rfl : j = m := by omega
            rw [HMX.out] at hown hmjl
            have HOWN2 := Lib.hid hown
            have HB2 := Lib.hid hb
            clear hown hb
            go_wp2_with fail
            go_loopw [12, 16] (fun v i wr => ∃ (j2 mk : Nat), j2 ≤ j ∧ i = .int .i64 j2 ∧ mk ≤ j2 ∧ wr.ownsRow w.heap.size 48 4 v (mm + mj + mk) ((atkTo q0 r q k ++ (memS r).map (evP (k + 1)) ++ (memTo q j2).map (evA (k + 1))).flatMap evC) ∧ Hid ((memTo q j2).length = mk) ∧ Below w.heap.size w wr) (fun _ i _ => j - (intOf i).toNat)
            case atStart => exact ⟨0, 0, by omega, rfl, by omega, by simpa [memTo] using HOWN2.out, rfl, HB2.out⟩
            case round =>
              obtain ⟨j2, mk, hj2, rfl, hmk, hown, hmkl, hb⟩ := hrel
              by_cases hlt3 : j2 < j
              · have hst := memTo_map_succ (evA (k + 1)) q j2
                have hst2 := memTo_succ q j2
                cases hh : hasB q j2
                · rw [hh, if_neg (by decide)] at hst hst2
                  have HS1 := Lib.hid hst
                  have HS2 := Lib.hid hst2
                  clear hst hst2
                  go_wp2_with fail
                  go_roundw
                  case rel => exact ⟨j2 + 1, mk, by omega, by go_num, by omega, by rw [HS1.out]; exact hown, by rw [HS2.out]; exact hmkl, hb⟩
                  case measure => simp [intOf]; omega
                · rw [hh, if_pos rfl] at hst hst2
                  have HS1 := Lib.hid hst
                  have HS2 := Lib.hid hst2
                  have HI := Lib.hid (Tryd.strconv_Itoa_small (k + 1) (by omega))
                  have hdl := dec_small (k + 1) (by omega)
                  have HCAT := Lib.hid (cat2 [118] (Lib.decDigits (k + 1)))
                  have HVB : Hid (valB (k + 1) = (⟨#[118]⟩ : ByteArray) ++ (⟨(Lib.decDigits (k + 1)).toArray⟩ : ByteArray)) := by show _ = _; exact HCAT.out.symm
                  obtain ⟨dd, hdd⟩ : ∃ dd, Lib.decDigits (k + 1) = dd := ⟨_, rfl⟩
                  rw [hdd] at HI hdl HVB
                  clear hst hst2 HCAT hdd
                  go_wp2_with fail
                  refine (HI.out _).mono ?_
                  rintro e w6 ⟨rfl, rfl⟩
                  go_wp2_with (at_builtin; go_must (refine wpList_appK 4 _ _ 40 40 (.agg #[.int .i64 0, .int .i64 0, .int .i64 0, .string ⟨#[]⟩]) [.int .i64 2, .int .i64 j2, .int .i64 ((k + 1 : Nat) : Int), .string ((⟨#[118]⟩ : ByteArray) ++ (⟨dd.toArray⟩ : ByteArray))] _ Tryd.underlying40 Tryd.infoEv rfl (by decide) hown hb (Nat.le_refl _) rfl rfl rfl rfl rfl (by intro u hu; simp only [List.mem_cons, List.not_mem_nil, or_false] at hu; rcases hu with rfl | rfl | rfl | rfl <;> rfl) (by unfold maxLen; omega) (by omega) ?_))
                  intro v' w4 hown4 hb4 _ _
                  clear hown hb
                  go_wp2_with fail
                  go_roundw
                  case rel => exact ⟨j2 + 1, mk + 1, by omega, by go_num, by omega, by rw [HS1.out, ← List.append_assoc, List.flatMap_append, ← Nat.add_assoc]; simpa [evC, evA, HVB.out] using hown4, Lib.hid (by rw [HS2.out]; simp [hmkl.out]), hb4⟩
                  case measure => simp [intOf]; omega
              · obtain rfl : j2 = j := by omega
                rw [HMQ.out] at hown hmkl
                have HBK : Hid (atkTo q0 r q (k + 1) = atkTo q0 r q k ++ (memS r).map (evP (k + 1)) ++ (memS q).map (evA (k + 1))) := Lib.hid (by rw [HST.out]; unfold blkS; rw [List.append_assoc])
                have HL2 : Hid ((atkTo q0 r q (k + 1)).length = mm + mj + mk) := Lib.hid (by rw [HBK.out]; simp [hml.out, hmjl.out, hmkl.out]; omega)
                have hk16 : mj ≤ 16 ∧ mk ≤ 16 := ⟨by omega, by omega⟩
                have HO3 := Lib.hid hown
                have HB3 := Lib.hid hb
                clear hown hb
                go_wp2_with fail
                go_roundw
                case rel => exact ⟨k + 1, mm + mj + mk, by omega, by go_num, by omega, by rw [HBK.out]; exact HO3.out, HL2, HB3.out⟩
                case measure => simp [intOf]; omega
    · obtain rfl : k = 2 := by omega
      obtain ⟨ar, cr, rfl, hr⟩ := rdK_of_row hown
      have HRR := Lib.hid hr
      clear hown hr
      go_wp2_with fail
      go_ret2
      exact ⟨ar, cr, by rw [hml.out]; rfl, by rw [hml.out]; exact HRR.out, hb⟩

set_option maxRecDepth 100000 in
set_option maxHeartbeats 1000000 in
theorem rattack_no (read write : List (BitVec 16)) (m : Nat) (a : Option Addr) (n c : Nat) (a2 : Option Addr) (n2 c2 : Nat) (w : World) (h : Rd w a n c (read.map setV2)) (h2 : Rd w a2 n2 c2 (write.map setV2)) (he : chkS m [read, write] = 0) (hd : disS read write = none) :
    Calls Tryd.prog 31 #[.slice a n c, .slice a2 n2 c2, .int .i64 m] w fun e w' => e = .returned (.tuple #[.slice none 0 0, .int .i64 13]) ∧ Below w.heap.size w w' := by
  have HG := Lib.hid (given_c read write m a n c a2 n2 c2 w h h2)
  rw [he] at HG
  have HD := Lib.hid (fun w h h2 => disjoint9_c read write a n c a2 n2 c2 w h h2)
  have hT : disT read write = (0#16, 0#16, 13) := by unfold disT; rw [hd]
  rw [hT] at HD
  have HR := Lib.hid h
  have HR2 := Lib.hid h2
  clear h h2 hT hd he
  go_enter Tryd.func31, Tryd.ntmps31
  go_wp2_with fail
  refine HG.out.mono ?_
  rintro e w1 ⟨rfl, hb1⟩
  have HB1 := Lib.hid hb1
  clear hb1
  go_wp2_with fail
  refine (HD.out w1 (HR.out.below HB1.out) (HR2.out.below HB1.out)).mono ?_
  rintro e w2 ⟨rfl, hb2⟩
  have HB2 := Lib.hid (Below.next HB1.out hb2)
  clear hb2
  go_wp2_with fail
  go_ret2
  exact ⟨rfl, HB2.out⟩
/-- the reference's Attack on given families -/
theorem rattack_c (read write : List (BitVec 16)) (m : Nat) (a : Option Addr) (n c : Nat) (a2 : Option Addr) (n2 c2 : Nat) (w : World) (h : Rd w a n c (read.map setV2)) (h2 : Rd w a2 n2 c2 (write.map setV2)) (hm : m ≤ 12) (he : chkS m [read, write] = 0) :
    Calls Tryd.prog 31 #[.slice a n c, .slice a2 n2 c2, .int .i64 m] w fun e w' => ∃ a' c', e = .returned (.tuple #[.slice a' (attS read write m).1.length c', .int .i64 (attS read write m).2]) ∧ RdK 4 w' a' (attS read write m).1.length c' ((attS read write m).1.flatMap evC) ∧ Below w.heap.size w w' := by
  cases hd : disS read write with
  | none =>
    have e1 : attS read write m = ([], 13) := by unfold attS; rw [if_neg (by rw [he]; decide), hd]
    rw [e1]
    exact (rattack_no read write m a n c a2 n2 c2 w h h2 he hd).mono fun e w' ⟨q1, q2⟩ => ⟨none, 0, q1, RdK.none_ _ _, q2⟩
  | some p =>
    obtain ⟨r, q⟩ := p
    have e1 : attS read write m = (atkTo (read.getD 0 0#16) r q 2, 0) := by unfold attS; rw [if_neg (by rw [he]; decide), hd]
    rw [e1]
    exact rattack_yes read write m a n c a2 n2 c2 w h h2 hm he r q hd
end Go.Proofs.YtgfjmplifmbmlaaDoor
namespace Go.Proofs.YtgfjmplifmbmlaaDoor
open Go.RowKit Go.Shelf

theorem sm_ok {l : List Ev} (hv : ∀ e ∈ l, e.value.size ≤ maxLen) (hb : ∀ e ∈ l, (Lit.int .i64 e.ballot).wf = true) : EvsOk l := fun e he => ⟨hv e he, hb e he⟩
theorem atk_ok (q0 r w : BitVec 16) : EvsOk (atkTo q0 r w 2) := by
  intro e he
  have he2 : e ∈ blkS q0 w 1 ++ blkS r w 2 := he
  have hv : ∀ b, b = 1 ∨ b = 2 → (valB b).size ≤ maxLen := by
    intro b hb
    have := dec_small b (by omega)
    unfold valB
    show (118 :: Lib.decDigits b).toArray.size ≤ _
    simp
    unfold maxLen; omega
  have hz : (⟨#[]⟩ : ByteArray).size ≤ maxLen := by show (0 : Nat) ≤ _; omega
  unfold blkS at he2
  rcases List.mem_append.1 he2 with h | h <;> rcases List.mem_append.1 h with h | h <;> obtain ⟨s, _, rfl⟩ := List.mem_map.1 h
  · exact ⟨hz, by show (Lit.int .i64 ((1 : Nat) : Int)).wf = true; decide⟩
  · exact ⟨hv 1 (.inl rfl), by show (Lit.int .i64 ((1 : Nat) : Int)).wf = true; decide⟩
  · exact ⟨hz, by show (Lit.int .i64 ((2 : Nat) : Int)).wf = true; decide⟩
  · exact ⟨hv 2 (.inr rfl), by show (Lit.int .i64 ((2 : Nat) : Int)).wf = true; decide⟩
theorem atk_len (q0 r w : BitVec 16) : (atkTo q0 r w 2).length ≤ 64 := by
  show (blkS q0 w 1 ++ blkS r w 2).length ≤ 64
  rw [List.length_append, blk_len, blk_len]
  have := cnt_le q0; have := cnt_le w; have := cnt_le r
  omega

theorem vB1 : valB 1 = ⟨#[118, 49]⟩ := bs_ext (by unfold valB; rw [bs_list, bs_list]; decide +kernel)
theorem vB2 : valB 2 = ⟨#[118, 50]⟩ := bs_ext (by unfold valB; rw [bs_list, bs_list]; decide +kernel)
theorem lit_v : [(valB 1).toList, (valB 2).toList].map encStr = [.string ⟨#[118, 49]⟩, .string ⟨#[118, 50]⟩] := by
  have e : ∀ b : ByteArray, encStr b.toList = .string b := fun b => by unfold encStr; rw [bs_mk]
  rw [List.map_cons, List.map_cons, List.map_nil, e, e, vB1, vB2]

set_option maxRecDepth 100000 in
set_option maxHeartbeats 4000000 in
theorem singleAttack_w (v : Value) (y z : List Int) (s : Int) (w : World) (ht : HasTab w) (w0 : IsSys w v y z s) :
    Calls Tryd.prog 8 #[v] w fun e w' => e = .returned (.bool true) ∧ Below w.heap.size w w' := by
  obtain ⟨m, read, write, hm1, hm5, hchk, hrl, hwl, x0, x1, x2, x3, x4, x5, x6, rfl, hof⟩ := sys_open w0
  have HT := Lib.hid ht
  have HOF := Lib.hid hof
  have HCHK := Lib.hid hchk
  have HA := Lib.hid (fun w h => awake37_c w h)
  have HCS := Lib.hid (fun l a n c w h hb => clones_c l a n c w h hb)
  have HAT := Lib.hid (fun a n c a2 n2 c2 w h h2 ht => attack_c read write m a n c a2 n2 c2 w h h2 ht)
  have HRA := Lib.hid (fun a n c a2 n2 c2 w h h2 => rattack_c read write m a n c a2 n2 c2 w h h2 (by omega) HCHK.out)
  have HCR := Lib.hid (fun a n c a2 n2 c2 w h h2 => cross9_c read write a n c a2 n2 c2 w h h2)
  rw [cross_dis] at HCR
  have HC1 : Hid (chkS m [read] = 0) := Lib.hid (chk_one (by omega) HCHK.out)
  obtain ⟨rn, hrn⟩ : ∃ rn, read.length = rn := ⟨_, rfl⟩
  obtain ⟨wn, hwn⟩ : ∃ wn, write.length = wn := ⟨_, rfl⟩
  rw [hrn] at hrl
  rw [hwn] at hwl
  have HRN := Lib.hid hrn
  have HWN := Lib.hid hwn
  cases hd : disS read write with
  | none =>
    have e1 : attS read write m = ([], 13) := by unfold attS; rw [if_neg (by rw [hchk]; decide), hd]
    rw [e1] at HAT HRA
    rw [hd, show decide ((none : Option (BitVec 16 × BitVec 16)) = none) = true by simp] at HCR
    have HSE := Lib.hid (fun a n c a2 n2 c2 w h h2 => sameE_c [] [] a n c a2 n2 c2 w h h2)
    rw [show decide (([] : List Ev) = []) = true by simp] at HSE
    clear w0 hof hchk ht hrn hwn hd e1
    go_enter Tryd.func8, Tryd.ntmps8
    go_wp2_with fail
    refine (HOF.out _ (blA w _)).mono ?_
    rintro e wa ⟨a3, c3, a4, c4, rfl, hr3, hr4, hba⟩
    have b1 := Below.next (blA w _) hba
    rw [HRN.out] at hr3 ⊢
    rw [HWN.out] at hr4 ⊢
    have R3 := Lib.hid hr3
    have R4 := Lib.hid hr4
    clear hr3 hr4 hba
    go_wp2_with fail
    refine (HA.out wa (HT.out.below b1)).mono ?_
    rintro e wv1 ⟨rfl, h1⟩
    have bv1 := Below.next b1 h1
    have R3_1 := Lib.hid (R3.out.below h1)
    have R4_1 := Lib.hid (R4.out.below h1)
    clear h1
    go_wp2_with fail
    refine (HCS.out read a3 rn c3 wv1 R3_1.out (by omega)).mono ?_
    rintro e wv2 ⟨a5, c5, rfl, rR5, h2⟩
    have bv2 := Below.next bv1 h2
    have R3_2 := Lib.hid (R3_1.out.below h2)
    have R4_2 := Lib.hid (R4_1.out.below h2)
    have R5 := Lib.hid rR5
    clear rR5 h2
    go_wp2_with fail
    refine (HCS.out write a4 wn c4 wv2 R4_2.out (by omega)).mono ?_
    rintro e wv3 ⟨a6, c6, rfl, rR6, h3⟩
    have bv3 := Below.next bv2 h3
    have R3_3 := Lib.hid (R3_2.out.below h3)
    have R4_3 := Lib.hid (R4_2.out.below h3)
    have R5_3 := Lib.hid (R5.out.below h3)
    have R6 := Lib.hid rR6
    clear rR6 h3
    go_wp2_with fail
    refine (HAT.out a5 rn c5 a6 wn c6 wv3 R5_3.out R6.out (HT.out.below bv3)).mono ?_
    rintro e wv4 ⟨a7, c7, rfl, rR7, h4⟩
    have bv4 := Below.next bv3 h4
    have R3_4 := Lib.hid (R3_3.out.below h4)
    have R4_4 := Lib.hid (R4_3.out.below h4)
    have R7 := Lib.hid rR7
    clear rR7 h4
    go_wp2_with fail
    refine (HRA.out a3 rn c3 a4 wn c4 wv4 R3_4.out R4_4.out).mono ?_
    rintro e wv5 ⟨a8, c8, rfl, rR8, h5⟩
    have bv5 := Below.next bv4 h5
    have R3_5 := Lib.hid (R3_4.out.below h5)
    have R4_5 := Lib.hid (R4_4.out.below h5)
    have R7_5 := Lib.hid (R7.out.below h5)
    have R8 := Lib.hid rR8
    clear rR8 h5
    go_wp2_with fail
    refine (HSE.out a7 _ c7 a8 _ c8 wv5 R7_5.out R8.out).mono ?_
    rintro e wv6 ⟨rfl, h6⟩
    have bv6 := Below.next bv5 h6
    have R3_6 := Lib.hid (R3_5.out.below h6)
    have R4_6 := Lib.hid (R4_5.out.below h6)
    clear h6
    go_wp2_with fail
    refine (HCR.out a3 rn c3 a4 wn c4 wv6 R3_6.out R4_6.out).mono ?_
    rintro e wz7 ⟨rfl, rfl⟩
    go_wp2_with fail
    go_ret
    exact ⟨ret_bool (by simp), bv6⟩
  | some p =>
    obtain ⟨r, q⟩ := p
    have e1 : attS read write m = (atkTo (read.getD 0 0#16) r q 2, 0) := by unfold attS; rw [if_neg (by rw [hchk]; decide), hd]
    rw [e1] at HAT HRA
    rw [hd, show decide ((some (r, q) : Option (BitVec 16 × BitVec 16)) = none) = false by simp] at HCR
    have hg := att_good (m := m) (by omega) hchk hd
    have hcho := att_chosen (m := m) (by omega) hchk hd (read.getD 0 0#16)
    obtain ⟨ev, hev⟩ : ∃ ev, atkTo (read.getD 0 0#16) r q 2 = ev := ⟨_, rfl⟩
    have hok : EvsOk ev := by rw [← hev]; exact atk_ok _ _ _
    have hevl : ev.length ≤ 64 := by rw [← hev]; exact atk_len _ _ _
    rw [hev] at HAT HRA hg hcho
    have HOK := Lib.hid hok
    have HG : Hid (chkR read m ev = (0, 13)) := Lib.hid (good_chk hg)
    have HSE := Lib.hid (fun a n c a2 n2 c2 w h h2 => sameE_c ev ev a n c a2 n2 c2 w h h2)
    rw [show decide (ev = ev) = true by simp] at HSE
    have HCK := Lib.hid (fun a n c a2 n2 c2 w h h2 => checkP_c read m ev a n c a2 n2 c2 w h h2 (fun e he => (HOK.out e he).2) (by omega) (by omega) HC1.out)
    rw [HG.out] at HCK
    have HCHO := Lib.hid (fun a n c a2 n2 c2 w h h2 => pchosen_c write m ev a n c a2 n2 c2 w h h2 HOK.out (by omega) (by omega))
    rw [hcho] at HCHO
    have HS5 := Lib.hid (fun a n c a2 n2 c2 w h h2 => same5_c [(valB 1).toList, (valB 2).toList] [(valB 1).toList, (valB 2).toList] a n c a2 n2 c2 w h h2)
    rw [show decide ([(valB 1).toList, (valB 2).toList] = [(valB 1).toList, (valB 2).toList]) = true by simp] at HS5
    obtain ⟨en, hen⟩ : ∃ en, ev.length = en := ⟨_, rfl⟩
    rw [hen] at HAT HRA hevl
    clear w0 hof hchk ht hrn hwn hd e1 hg hcho hev hok hen
    go_enter Tryd.func8, Tryd.ntmps8
    go_wp2_with fail
    refine (HOF.out _ (blA w _)).mono ?_
    rintro e wa ⟨a3, c3, a4, c4, rfl, hr3, hr4, hba⟩
    have b1 := Below.next (blA w _) hba
    rw [HRN.out] at hr3 ⊢
    rw [HWN.out] at hr4 ⊢
    have R3 := Lib.hid hr3
    have R4 := Lib.hid hr4
    clear hr3 hr4 hba
    go_wp2_with fail
    refine (HA.out wa (HT.out.below b1)).mono ?_
    rintro e wv1 ⟨rfl, h1⟩
    have bv1 := Below.next b1 h1
    have R3_1 := Lib.hid (R3.out.below h1)
    have R4_1 := Lib.hid (R4.out.below h1)
    clear h1
    go_wp2_with fail
    refine (HCS.out read a3 rn c3 wv1 R3_1.out (by omega)).mono ?_
    rintro e wv2 ⟨a5, c5, rfl, rR5, h2⟩
    have bv2 := Below.next bv1 h2
    have R3_2 := Lib.hid (R3_1.out.below h2)
    have R4_2 := Lib.hid (R4_1.out.below h2)
    have R5 := Lib.hid rR5
    clear rR5 h2
    go_wp2_with fail
    refine (HCS.out write a4 wn c4 wv2 R4_2.out (by omega)).mono ?_
    rintro e wv3 ⟨a6, c6, rfl, rR6, h3⟩
    have bv3 := Below.next bv2 h3
    have R3_3 := Lib.hid (R3_2.out.below h3)
    have R4_3 := Lib.hid (R4_2.out.below h3)
    have R5_3 := Lib.hid (R5.out.below h3)
    have R6 := Lib.hid rR6
    clear rR6 h3
    go_wp2_with fail
    refine (HAT.out a5 rn c5 a6 wn c6 wv3 R5_3.out R6.out (HT.out.below bv3)).mono ?_
    rintro e wv4 ⟨a7, c7, rfl, rR7, h4⟩
    have bv4 := Below.next bv3 h4
    have R3_4 := Lib.hid (R3_3.out.below h4)
    have R4_4 := Lib.hid (R4_3.out.below h4)
    have R7 := Lib.hid rR7
    clear rR7 h4
    go_wp2_with fail
    refine (HRA.out a3 rn c3 a4 wn c4 wv4 R3_4.out R4_4.out).mono ?_
    rintro e wv5 ⟨a8, c8, rfl, rR8, h5⟩
    have bv5 := Below.next bv4 h5
    have R3_5 := Lib.hid (R3_4.out.below h5)
    have R4_5 := Lib.hid (R4_4.out.below h5)
    have R7_5 := Lib.hid (R7.out.below h5)
    have R8 := Lib.hid rR8
    clear rR8 h5
    go_wp2_with fail
    refine (HSE.out a7 en c7 a8 en c8 wv5 R7_5.out R8.out).mono ?_
    rintro e wv6 ⟨rfl, h6⟩
    have bv6 := Below.next bv5 h6
    have R3_6 := Lib.hid (R3_5.out.below h6)
    have R4_6 := Lib.hid (R4_5.out.below h6)
    have R7_6 := Lib.hid (R7_5.out.below h6)
    clear h6
    go_wp2_with fail
    refine (HCR.out a3 rn c3 a4 wn c4 wv6 R3_6.out R4_6.out).mono ?_
    rintro e wz7 ⟨rfl, rfl⟩
    go_wp2_with fail
    refine (HCS.out read a3 rn c3 wv6 R3_6.out (by omega)).mono ?_
    rintro e wv8 ⟨a9, c9, rfl, rR9, h8⟩
    have bv8 := Below.next bv6 h8
    have R4_8 := Lib.hid (R4_6.out.below h8)
    have R7_8 := Lib.hid (R7_6.out.below h8)
    have R9 := Lib.hid rR9
    clear rR9 h8
    go_wp2_with fail
    refine (clonee_c ev a7 en c7 wv8 R7_8.out (by omega)).mono ?_
    rintro e wv9 ⟨a10, c10, rfl, rR10, h9⟩
    have bv9 := Below.next bv8 h9
    have R4_9 := Lib.hid (R4_8.out.below h9)
    have R7_9 := Lib.hid (R7_8.out.below h9)
    have R9_9 := Lib.hid (R9.out.below h9)
    have R10 := Lib.hid rR10
    clear rR10 h9
    go_wp2_with fail
    refine (HCK.out a9 rn c9 a10 en c10 wv9 R9_9.out R10.out).mono ?_
    rintro e wv10 ⟨rfl, h10⟩
    have bv10 := Below.next bv9 h10
    have R4_10 := Lib.hid (R4_9.out.below h10)
    have R7_10 := Lib.hid (R7_9.out.below h10)
    clear h10
    go_wp2_with fail
    refine (HCS.out write a4 wn c4 wv10 R4_10.out (by omega)).mono ?_
    rintro e wv11 ⟨a11, c11, rfl, rR11, h11⟩
    have bv11 := Below.next bv10 h11
    have R7_11 := Lib.hid (R7_10.out.below h11)
    have R11 := Lib.hid rR11
    clear rR11 h11
    go_wp2_with fail
    refine (clonee_c ev a7 en c7 wv11 R7_11.out (by omega)).mono ?_
    rintro e wv12 ⟨a12, c12, rfl, rR12, h12⟩
    have bv12 := Below.next bv11 h12
    have R11_12 := Lib.hid (R11.out.below h12)
    have R12 := Lib.hid rR12
    clear rR12 h12
    go_wp2_with fail
    refine (HCHO.out a11 wn c11 a12 en c12 wv12 R11_12.out R12.out).mono ?_
    rintro e wv13 ⟨a13, c13, rfl, rR13, h13⟩
    have bv13 := Below.next bv12 h13
    have R13 := Lib.hid rR13
    clear rR13 h13
    go_wp2_with fail
    obtain ⟨wL, hwL⟩ : ∃ wL, (wv13).alloc (.cells #[.string ⟨#[118, 49]⟩, .string ⟨#[118, 50]⟩] 9) = wL := ⟨_, rfl⟩
    have hbL : Below (wv13).heap.size wv13 wL := by rw [← hwL]; exact blA _ _
    have kL : Rd wL (some ⟨(wv13).heap.size, 0, none⟩) 2 2 ([(valB 1).toList, (valB 2).toList].map encStr) := by rw [← hwL, lit_v]; exact Rd.lit' _ _ _ 2 _ rfl rfl (by decide) rfl
    have HS9 := Lib.hid (HS5.out a13 2 c13 _ 2 2 wL (R13.out.below hbL) kL)
    have bL := Below.next bv13 hbL
    rw [hwL]
    clear hwL hbL kL
    refine HS9.out.mono ?_
    rintro e wM ⟨rfl, hbM⟩
    have bM := Below.next bL hbM
    clear hbM
    go_wp2_with fail
    go_ret
    exact ⟨rfl, bM⟩
end Go.Proofs.YtgfjmplifmbmlaaDoor
