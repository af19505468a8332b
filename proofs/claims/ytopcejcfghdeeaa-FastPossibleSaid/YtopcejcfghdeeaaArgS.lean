/- A handed slice of texts, as a law's frame opens it. -/
import Derived.Test.YtopcejcfghdeeaaLib
import Derived.Test.YtopcejcfghdeeaaProg
import Derived.Deep.Slices
import Derived.ChangeSame
namespace Go.Proofs.Ytopcejcfghdeeaa
open Go.RowKit Go.ChangeShapes Go.WideShapes Go.Deep

def IsStrs (W : World) (a : Option Addr) (n c : Nat) (L : List ByteArray) : Prop := Rd W a n c (L.map Value.string)
theorem strs_of {Q : Nat → ByteArray → Prop} : ∀ n, (∀ i, i < n → ∃ r, Q i r) → ∃ L : List ByteArray, L.length = n ∧ ∀ i r, L[i]? = some r → Q i r := by
  intro n
  induction n with
  | zero => intro _; exact ⟨[], rfl, fun i r h => by simp at h⟩
  | succ n ih =>
    intro h
    obtain ⟨L, hl, hL⟩ := ih (fun i hi => h i (by omega))
    obtain ⟨r, hr⟩ := h n (by omega)
    refine ⟨L ++ [r], by simp [hl], fun i q hq => ?_⟩
    by_cases hi : i < n
    · rw [List.getElem?_append_left (by omega)] at hq; exact hL i q hq
    · have := (List.getElem?_eq_some_iff.1 hq).1
      simp at this
      obtain rfl : i = n := by omega
      rw [List.getElem?_append_right (by omega), hl, Nat.sub_self] at hq
      cases hq; exact hr
theorem addr_plain1 {W : World} {a : Addr} {v : Value} (h : W.cell? (a.add 0) = some v) : a = ⟨a.block, a.off, none⟩ := by
  have : a.add 0 = a := by simp [Addr.add]
  rw [this] at h
  unfold World.cell? at h
  cases hs : a.spot with
  | none => cases a; simp_all
  | some s => rw [hs] at h; split at h <;> simp at h
theorem open_strs {H : Type} {enc : TypeId × Value → H} {w : World} {base : Nat} {spare : Nat → Bool} {held : Bool} {fuel : Nat} {cs : List Value} {x : DataW H × List MemPlace} (h : DataW.trod enc Try.prog w base spare held fuel 31 cs = some x) :
    ∃ a n c L, cs = [.slice a n c] ∧ IsStrs w a n c L := by
  have h1 : Try.prog.cellsOf 9 = 1 := by kernel_rfl
  rcases open_slice Try.underlying31 h with ⟨hcs, _⟩ | ⟨a, len, cap, m, n, D, Pl, hcs, _, hl, hm, hmm, _, hi⟩
  · exact ⟨none, 0, 0, [], hcs, Rd.none_ _⟩
  · have hlm : len ≤ m := by rw [hmm]; split <;> omega
    obtain ⟨L, hL1, hL2⟩ := strs_of (Q := fun i r => w.cell? (a.add i) = some (.string r)) len (fun i hil => by
      obtain ⟨cs', hc, ht'⟩ := hi i (by omega)
      rw [h1] at hc
      obtain ⟨_, hcl, hat⟩ := World.cells?_some hc
      obtain ⟨s, e, _, _⟩ := DataW.trod_string Try.underlying9 ht'
      have h2 := hat 0 (by decide)
      rw [e] at h2
      refine ⟨s, ?_⟩
      have e3 : (a.add (i * 1)).add 0 = a.add i := by simp [Addr.add]
      rw [e3] at h2
      exact h2)
    refine ⟨some a, len, cap, L, hcs, by rw [List.length_map, hL1], hl, hm, fun h => (by cases h), fun hn => ?_⟩
    obtain ⟨x0, hx0⟩ : ∃ x, L[0]? = some x := ⟨_, List.getElem?_eq_getElem (by omega)⟩
    have ha := addr_plain1 (hL2 0 x0 hx0)
    refine ⟨a.block, a.off, by rw [← ha], fun i v hv => ?_⟩
    rw [List.getElem?_map] at hv
    cases hg : L[i]? with
    | none => rw [hg] at hv; cases hv
    | some r =>
      rw [hg, Option.map_some] at hv
      have hv := Option.some.inj hv
      have h3 := hL2 i r hg
      rw [ha, Addr.add_lit] at h3
      rw [h3, ← hv]
end Go.Proofs.Ytopcejcfghdeeaa
