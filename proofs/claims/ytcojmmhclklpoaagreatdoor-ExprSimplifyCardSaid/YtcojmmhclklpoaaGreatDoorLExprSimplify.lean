/-
  sederunt/sederuntlaw10.ExprSimplify: for every argument the law returns true, and the arguments read as before: the tied card.
  Condition: the listed library tables hold what the program's text lays (tied by the given tie).
-/
import Derived.Test.YtcojmmhclklpoaaGreatDoorCards
import Derived.Test.YtcojmmhclklpoaaGreatDoorTie
import Derived.Test.YtcojmmhclklpoaaGreatDoorGExprSimplify2
import Derived.WalkKit
import Derived.ProofKit
import Derived.OpenShut
import Derived.ShutString
import Derived.ChangeOld
import Derived.Below
import Derived.Deep.DeepHandedRow
import Derived.Lib.LaidTab
import Derived.Lay
import Derived.Stop.LaidErr
import Derived.LaidMore
namespace Go.Proofs.YtcojmmhclklpoaaGreatDoor.exprSimplifyL
open Go.ChangeShapes Go.WideShapes Go.ChangeAt Go.RowKit
open Go.ChangeMaps (open_string shut_string)

theorem own : ownKnob Tryz.prog.godebug = none := by kernel_rfl
theorem laidOut : laidOutB Tryz.prog = true := by kernel_rfl
theorem gTab : Tryz.prog.globalNamed "math/bits.deBruijn32tab" = some 0 := by kernel_rfl
theorem gTabType : (Tryz.prog.globals[0]?).map (·.type) = some 146 := by kernel_rfl
theorem cellsT : Tryz.prog.cellsOf 146 = 32 := by kernel_rfl
theorem cellsE : Tryz.prog.cellsOf 5 = 1 := by kernel_rfl
set_option maxRecDepth 100000 in
theorem facts {W : World} (h : laidMetH Tryz.prog Rows.exprSimplifyRow.laid W) : HasTab W := fun i hi =>
  (Lib.tabIs_of_head (k := .u8) (zs := deB) (rest := Rows.exprSimplifyRow.laid.tail) gTab gTabType Tryz.underlying146 Tryz.underlying5 cellsE cellsT h).cell gTab i hi
theorem gP : Tryz.prog.globalNamed "internal/strconv.uint64pow10" = some 1 := by kernel_rfl
theorem gPType : (Tryz.prog.globals[1]?).map (·.type) = some 169 := by kernel_rfl
theorem cellsP : Tryz.prog.cellsOf 169 = 20 := by kernel_rfl
theorem cellsU : Tryz.prog.cellsOf 156 = 1 := by kernel_rfl
theorem powE : (Rows.laid_internal_strconv_uint64pow10 : DataW Unit) = Lib.tabData .u64 Lib.pow10Tab := by kernel_rfl
theorem factsP {W : World} (h : laidMetH Tryz.prog Rows.exprSimplifyRow.laid W) : HasPow W := by
  have h2 : laidMet Tryz.prog Rows.exprSimplifyRow.laid W := by rw [← MakeChecks.laidMetH_plain _ _ _ (by kernel_rfl)]; exact h
  have h3 : laidMet Tryz.prog (("internal/strconv.uint64pow10", Rows.laid_internal_strconv_uint64pow10) :: Rows.exprSimplifyRow.laid.tail.tail.tail) W := h2.tail.tail
  rw [powE] at h3
  exact Lib.tabIs_of_head gP gPType Tryz.underlying169 Tryz.underlying156 cellsU cellsP h3
theorem starE : "*" ++ "errors.errorString" = "*errors.errorString" := by decide
theorem rowE (u : TypeId) (h : Tryz.prog.typeName? 3 u = some "*errors.errorString") : u = 180 :=
  typeName_ptr_named (nm := "errors.errorString") (by rw [starE]; kernel_rfl) (by kernel_rfl) (by decide) u (by rw [starE]; exact h)
theorem cellsES : Tryz.prog.cellsOf 182 = 1 := by kernel_rfl
theorem cellsS : Tryz.prog.cellsOf 9 = 1 := by kernel_rfl
theorem gR : Tryz.prog.globalNamed "strconv.ErrRange" = some 3 := by kernel_rfl
theorem gRType : (Tryz.prog.globals[3]?).map (·.type) = some 126 := by kernel_rfl
theorem factsR {W : World} (h : laidMetH Tryz.prog Rows.exprSimplifyRow.laid W) : HasRng W := by
  have h2 : laidMet Tryz.prog Rows.exprSimplifyRow.laid W := by rw [← MakeChecks.laidMetH_plain _ _ _ (by kernel_rfl)]; exact h
  have h3 := h2.tail.tail.tail
  obtain ⟨a0, s0, hv0, _⟩ := laid_sentinel h3 gR gRType Tryz.underlying126 rowE Tryz.underlying180 Tryz.underlying182 rfl rfl Tryz.underlying9 cellsES cellsS
  exact ⟨_, World.var?_cell gR hv0 0, .inr ⟨_, _, rfl⟩⟩
theorem gY : Tryz.prog.globalNamed "strconv.ErrSyntax" = some 2 := by kernel_rfl
theorem gYType : (Tryz.prog.globals[2]?).map (·.type) = some 126 := by kernel_rfl
theorem factsY {W : World} (h : laidMetH Tryz.prog Rows.exprSimplifyRow.laid W) : HasSyn W := by
  have h2 : laidMet Tryz.prog Rows.exprSimplifyRow.laid W := by rw [← MakeChecks.laidMetH_plain _ _ _ (by kernel_rfl)]; exact h
  have h3 := h2.tail.tail.tail.tail
  obtain ⟨a0, s0, hv0, _⟩ := laid_sentinel h3 gY gYType Tryz.underlying126 rowE Tryz.underlying180 Tryz.underlying182 rfl rfl Tryz.underlying9 cellsES cellsS
  exact ⟨_, World.var?_cell gY hv0 0, .inr ⟨_, _, rfl⟩⟩

set_option maxRecDepth 100000 in
theorem contract (H : Type) (enc : TypeId × Value → H) (W : World) (base : Nat) (args : Array Value) (ds gs : List (DataW H)) (before : List MemPlace)
    (hval0 : ∀ (j : Nat) t v, Tryz.f10.params[j]? = some t → args[j]? = some v → Value.okWide Tryz.prog W .any base t v)
    (hW : DataW.Whole enc Tryz.prog Tryz.f10.params.toList Rows.exprSimplifySpec.vars false W args.toList ds gs before) (hL : laidMetH Tryz.prog Rows.exprSimplifyRow.laid W) :
    Calls Tryz.prog 10 args W fun e W' => ∃ v, e = .returned v ∧ Rows.exprSimplifySpec.post enc Tryz.prog Tryz.f10 false true false false W args v W' := by
  have hval := hval0
  have hW' := hW
  obtain ⟨p, q, hA0, hV, rfl, hfz, hnd⟩ := hW
  have hA : DataW.TrodAll enc Tryz.prog W 0 (fun _ => true) true Tryz.f10.params.toList args.toList ds p := hA0
  rw [Tryz.params10] at hA hval
  obtain ⟨v0, vs0, d0, ds0, p0, q0, hargs, rfl, rfl, h0, r0⟩ := trodAll_cons hA
  obtain ⟨rfl, rfl, rfl⟩ := trodAll_nil r0
  obtain rfl : args = #[v0] := by cases args; simp_all
  obtain ⟨rfl, rfl⟩ := trodVars_none hV
  have k0 := h0
  have lt0 : ∀ x ∈ p0, x.block < W.heap.size := by obtain ⟨m, hm⟩ := k0; exact DataW.trod_lt m _ _ _ hm
  obtain ⟨y0, w0⟩ : ∃ z, IsDraft W v0 z := open_draftv (hval 0 24 v0 rfl rfl) h0
  clear hA0 hval0
  refine (simps_w v0 y0 W (facts hL) (factsP hL) (factsR hL) (factsY hL) w0).mono fun e W' ⟨he, bel⟩ => ?_
  subst he
  exact ⟨_, rfl, _, _, _, [], _, [], hW', trodAll_mk1 (shut_bool Tryz.underlying4 _), (trodAll_cons_mk (Below.trod laidOut (by kernel_rfl) (of_decide_eq_true (by kernel_rfl)) k0 bel lt0) trodAll_mk0), rfl, bel.frame _, fun h => by cases h⟩

/-- A WORLD FOR THE WITNESS: the settled one, the listed tables holding what their initialisers lay. -/
noncomputable def laidWorld (os : Os) : World := World.laidAll Tryz.prog os Rows.exprSimplifyRow.laid
theorem laid_met (os : Os) : laidMet Tryz.prog Rows.exprSimplifyRow.laid ((laidWorld os).forCall (fun _ _ => 0) ⟨#[], #[.agg #[.slice none 0 0]], []⟩).memory :=
  laidMet_laidAll _ (by kernel_rfl) (by kernel_rfl)
theorem reads (os : Os) {H : Type} (enc : TypeId × Value → H) : ∃ places, DataW.whole enc Tryz.prog ((laidWorld os).forCall (fun _ _ => 0) ⟨#[], #[.agg #[.slice none 0 0]], []⟩).memory Tryz.f10.params.toList Rows.exprSimplifySpec.vars false #[Value.agg #[.slice none 0 0]].toList 8 = some ([.agg [.nil]], [], places) :=
  ⟨[], by kernel_rfl⟩

set_option maxRecDepth 100000 in
theorem lifted (os : Os) (started : os.Started) (H : Type) (enc : TypeId × Value → H) (F : Stop.Interp) :
    ReturnsInHanded {} Tryz.checked os 10 .any ((OpenSpec.ofChange Rows.exprSimplifySpec).preRow enc Tryz.prog Tryz.f10 Rows.exprSimplifyRow.domain false Rows.exprSimplifyRow.laid) (((OpenSpec.ofChange Rows.exprSimplifySpec).at F).post enc Tryz.prog Tryz.f10 false true false false) := by
  obtain ⟨places, hx⟩ := reads os enc
  refine returnsInHanded_of_row (C := Tryz.checked) (s := OpenSpec.ofChange Rows.exprSimplifySpec) own started (by kernel_rfl) Tryz.func10
    (witness_row_at (enc := enc) (C := Tryz.checked) false (laidWorld os) #[.agg #[.slice none 0 0]] (World.laidAll_os _ _ _) (by kernel_rfl) (by kernel_rfl) (by kernel_rfl)
      (OpenSpec.preRow_of_cond 8 hx (by kernel_rfl) (fun k hk => by cases hk) (by kernel_rfl) (laid_met os))) ?_
  intro W base args ds gs before hval hW _ _ _ hL _ _
  exact contract H enc W base args ds gs before hval hW hL

theorem said : Rows.ExprSimplifySaid :=
  OpenClaim.holds_of_cond 10 Tryz.f10 rfl rfl rfl rfl rfl rfl rfl ⟨rfl, rfl, rfl, rfl, rfl⟩ rfl rfl rfl rfl rfl (by kernel_rfl) Tryz.func10 (by kernel_rfl)
    (of_decide_eq_true (by kernel_rfl)) (by unfold Func.isWrapper; first | (rw [if_pos (by decide +kernel)]; kernel_rfl) | (rw [if_neg (by decide +kernel)]; exact ⟨rfl, rfl⟩))
    (fun os started H enc _ F => by rw [OpenClaim.pre_eq_preRow]; exact lifted os started H enc F)

theorem plain (f : FuncId) (fn : Func) (hf : Tryz.pinned.checked.prog.funcNamed "sederunt/sederuntlaw10.ExprSimplify" = some f) (hfn : Tryz.pinned.checked.prog.funcs[f]? = some fn) :
    true = Tryz.pinned.checked.prog.looks [] ∧ ∀ (j : Nat) t, fn.params[j]? = some t → Tryz.pinned.checked.prog.wantsStandIn t = false := by
  obtain rfl : f = 10 := Option.some.inj ((show Tryz.prog.funcNamed "sederunt/sederuntlaw10.ExprSimplify" = some 10 by kernel_rfl).symm.trans hf) |>.symm
  obtain rfl : fn = Tryz.f10 := (Option.some.inj (Tryz.func10.symm.trans hfn)).symm
  refine ⟨by kernel_rfl, fun j t ht => ?_⟩
  rw [Tryz.params10] at ht
  have hm : t ∈ [24] := by simpa using Array.mem_of_getElem? ht
  have hall : ([24].all fun u => !Tryz.prog.wantsStandIn u) = true := by kernel_rfl
  exact (show Tryz.prog.wantsStandIn t = false by simpa using List.all_eq_true.1 hall t hm)

/-- THE CARD -/
theorem card : Rows.ExprSimplifyCardSaid :=
  Claim7.holds_tied_plain_at .later [] _ _ _ _ said (fun _ h => by cases h) (by kernel_rfl) (fun _ h => by cases h) exprSimplify_row_tie rfl ⟨rfl, rfl⟩ (by kernel_rfl) rfl plain (by kernel_rfl)
end Go.Proofs.YtcojmmhclklpoaaGreatDoor.exprSimplifyL
