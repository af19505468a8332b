/- The examples of layer 38. -/
import Derived.Test.YtopcejcfghdeeaaRfat
namespace Go.Proofs.Ytopcejcfghdeeaa
open Go.RowKit Go.Shelf

theorem pick_short (x : BitVec 16) (k : Int) (N : Nat) (h1 : x.toNat + 1 ≤ N) (h2 : N ≤ 65536) : pickTo x k N = pickTo x k (x.toNat + 1) := by
  obtain ⟨d, rfl⟩ := Nat.exists_eq_add_of_le h1
  induction d with
  | zero => rfl
  | succ d ih =>
    rw [← ih (by omega) (by omega), show x.toNat + 1 + (d + 1) = (x.toNat + 1 + d) + 1 by omega, pickTo_succ, if_neg]
    intro hp
    unfold pickB at hp
    rw [Bool.and_eq_true] at hp
    have h := eq_of_beq hp.1
    have h3 : BitVec.ofNat 16 (x.toNat + 1 + d) = BitVec.ofNat 16 (x.toNat + 1 + d) &&& x := by
      apply BitVec.eq_of_getLsbD_eq
      intro i hi
      have := congrArg (fun b => b.getLsbD i) h
      simp only [BitVec.getLsbD_and, BitVec.getLsbD_not, BitVec.getLsbD_zero] at this ⊢
      cases hx : x.getLsbD i
      · rw [hx] at this; simp [hi] at this ⊢; exact this
      · simp
    have h4 := congrArg BitVec.toNat h3
    rw [BitVec.toNat_and, BitVec.toNat_ofNat, Nat.mod_eq_of_lt (by omega)] at h4
    have h5 : (x.toNat + 1 + d) &&& x.toNat ≤ x.toNat := Nat.and_le_right
    omega
theorem choose_short (x : BitVec 16) (k : Int) : chooseS x k = pickTo x k (x.toNat + 1) := pick_short x k 65536 (by have := x.isLt; omega) (by omega)

theorem asc_eq : ∀ {l m : List Str}, l.Pairwise (· < ·) → m.Pairwise (· < ·) → (∀ s, s ∈ l ↔ s ∈ m) → l = m := by
  intro l
  induction l with
  | nil =>
    intro m _ _ h
    cases m with
    | nil => rfl
    | cons y m => exact absurd ((h y).2 (List.mem_cons_self ..)) (by simp)
  | cons x l ih =>
    intro m hl hm h
    cases m with
    | nil => exact absurd ((h x).1 (List.mem_cons_self ..)) (by simp)
    | cons y m =>
      rw [List.pairwise_cons] at hl hm
      have hxy : x = y := by
        have a1 := (h x).1 (List.mem_cons_self ..)
        have a2 := (h y).2 (List.mem_cons_self ..)
        rcases List.mem_cons.1 a1 with a1 | a1
        · exact a1
        · rcases List.mem_cons.1 a2 with a2 | a2
          · exact a2.symm
          · exact absurd (List.lt_trans (hl.1 y a2) (hm.1 x a1)) (List.lt_irrefl _)
      subst hxy
      rw [ih hl.2 hm.2]
      intro s
      constructor
      · intro hs
        rcases List.mem_cons.1 ((h s).1 (List.mem_cons_of_mem _ hs)) with h1 | h1
        · exact absurd (h1 ▸ hl.1 s hs) (List.lt_irrefl _)
        · exact h1
      · intro hs
        rcases List.mem_cons.1 ((h s).2 (List.mem_cons_of_mem _ hs)) with h1 | h1
        · exact absurd (h1 ▸ hm.1 s hs) (List.lt_irrefl _)
        · exact h1

def bX : ByteArray := ⟨#[120]⟩
def bY : ByteArray := ⟨#[121]⟩
def vXY : List ByteArray := [bX, bX, bX, bY]
def threeS : List (BitVec 16) := [7#16, 11#16, 13#16, 14#16]
def twoSS : List (BitVec 16) := [3#16, 5#16, 6#16, 9#16, 10#16, 12#16]
theorem ex_three : setsS 4 3 = threeS := by
  rw [setsS_eq _ _ (by decide), choose_short]; decide +kernel
theorem ex_two : setsS 4 2 = twoSS := by
  rw [setsS_eq _ _ (by decide), choose_short]; decide +kernel
theorem bX_list : bX.toList = [120] := by unfold bX; rw [ByteArray.toList_eq]
theorem bY_list : bY.toList = [121] := by unfold bY; rw [ByteArray.toList_eq]
theorem ex_val (h : BitVec 16) (h1 : hasB h 2 = true) (h3 : hasB h 3 = true) : valV vXY h = [[120], [121]] := by
  refine asc_eq (valV_asc _ _) (by decide) (fun s => ?_)
  rw [valV_mem]
  constructor
  · rintro ⟨j, hj, rfl, _, _⟩
    match j, hj with
    | 0, _ => show bX.toList ∈ _; rw [bX_list]; decide
    | 1, _ => show bX.toList ∈ _; rw [bX_list]; decide
    | 2, _ => show bX.toList ∈ _; rw [bX_list]; decide
    | 3, _ => show bY.toList ∈ _; rw [bY_list]; decide
  · intro hs
    simp only [List.mem_cons, List.not_mem_nil, or_false] at hs
    rcases hs with rfl | rfl
    · refine ⟨2, by decide, bX_list, ?_, h1⟩
      show (bX.toList == []) = false
      rw [bX_list]; decide
    · refine ⟨3, by decide, bY_list, ?_, h3⟩
      show (bY.toList == []) = false
      rw [bY_list]; decide
theorem ex_valB (h : BitVec 16) (h1 : hasB h 2 = true) (h3 : hasB h 3 = true) : valB vXY h = [bX, bY] := by
  unfold valB; rw [ex_val h h1 h3]; rfl
theorem ex_votX : votS vXY bX = 7#16 := by
  show votTo vXY bX 4 = _
  rw [votTo_succ, votTo_succ, votTo_succ, votTo_succ]
  show (if (bY.toList == bX.toList) = true then _ else (if (bX.toList == bX.toList) = true then _ else _)) = _
  rw [show votTo vXY bX 0 = 0#16 from rfl]
  simp only [bs_beq]
  decide +kernel
theorem ex_votY : votS vXY bY = 8#16 := by
  show votTo vXY bY 4 = _
  rw [votTo_succ, votTo_succ, votTo_succ, votTo_succ]
  rw [show votTo vXY bY 0 = 0#16 from rfl]
  simp only [bs_beq]
  decide +kernel
theorem ex_cho : choS threeS vXY = (bX, 0) := by
  have h0 : argS threeS vXY.length = 0 := by decide +kernel
  unfold choS
  rw [h0]
  show choM (choF threeS vXY) = _
  unfold choF
  rw [ex_valB _ (by decide +kernel) (by decide +kernel)]
  have h1 : choP threeS vXY bX = some bX := by
    unfold choP; rw [ex_votX]; decide +kernel
  rw [List.findSome?_cons, h1]; rfl
theorem ex_pos12 : posS threeS vXY 12#16 = [bX, bY] := by
  unfold posS
  rw [ex_valB _ (by decide +kernel) (by decide +kernel), List.filter_cons, List.filter_cons, ex_votX, ex_votY]
  decide +kernel
theorem ex_pos14 : posS threeS vXY 14#16 = [bX] := by
  unfold posS
  rw [ex_valB _ (by decide +kernel) (by decide +kernel), List.filter_cons, List.filter_cons, ex_votX, ex_votY]
  decide +kernel
theorem ex_pss : pssS threeS vXY 12#16 = ([bX, bY], 0) := by
  have h0 : argS threeS vXY.length = 0 := by decide +kernel
  unfold pssS
  rw [h0, ex_pos12]; rfl
theorem ex_rec : recS threeS vXY 14#16 = (bX, 0) := by
  have h0 : argS threeS vXY.length = 0 := by decide +kernel
  unfold recS
  rw [h0, ex_pos14]; rfl
theorem ex_cla : claT twoSS threeS = (7#16, 11#16, 12#16, 0) := by decide +kernel
theorem ex_safe : (claT threeS threeS).2.2.2 = 13 := by decide +kernel
theorem ex_fat : fatS 4 twoSS threeS = (vXY, 12#16, 0) := by
  have h0 : botS twoSS threeS = 0 := by decide +kernel
  have h1 : farB 4 twoSS threeS = false := by decide +kernel
  unfold fatS
  rw [if_neg (by rw [h0]; decide), if_neg (by rw [h1]; decide), ex_cla]
  decide +kernel
theorem ex_lea : leaS 4 1 = (3, 3, 0) := by decide +kernel
end Go.Proofs.Ytopcejcfghdeeaa
