/-
  CgiNumbers: the row and its card, out of the walk.
-/
import Derived.Test.YtfbpiknckjgfnaaGreatDoorCgiNumWalk
import Derived.Test.YtfbpiknckjgfnaaGreatDoorFrameH
namespace Go.Proofs.YtfbpiknckjgfnaaGreatDoor.cardCgiNumbers
open Go.ChangeShapes Go.WideShapes Go.ChangeAt Go.RowKit
open Go.ChangeMaps (open_string)

set_option maxRecDepth 100000 in
theorem contract (H : Type) (enc : TypeId × Value → H) (W : World) (base : Nat) (args : Array Value) (ds gs : List (DataW H)) (before : List MemPlace)
    (hval : ∀ (j : Nat) t v, Tryz.f5.params[j]? = some t → args[j]? = some v → Value.okWide Tryz.prog W .any base t v)
    (hW : DataW.Whole enc Tryz.prog Tryz.f5.params.toList Rows.cgiNumbersSpec.vars false W args.toList ds gs before) (hSh : W.ShapedOpen Tryz.prog) (_hL : laidMetH Tryz.prog Rows.cgiNumbersRow.laid W) :
    Calls Tryz.prog 5 args W fun e W' => ∃ v, e = .returned v ∧ Rows.cgiNumbersSpec.post enc Tryz.prog Tryz.f5 false true false false W args v W' := by
  have hrd : ∀ t ∈ Tryz.f5.params.toList, Tryz.prog.readableRec t = true ∧ t < Tryz.prog.types.size := by
    have hall : ([42, 5].all fun t => Tryz.prog.readableRec t && decide (t < Tryz.prog.types.size)) = true := by kernel_rfl
    rw [Tryz.params5]
    intro t ht
    have := List.all_eq_true.1 hall t ht
    simpa using this
  have hE : Env W := ⟨maxLen_of_shaped hSh⟩
  have hW0 := hW
  obtain ⟨p, q, hA0, hV, rfl, _, _⟩ := hW
  have hA : DataW.TrodAll enc Tryz.prog W 0 (fun _ => true) true Tryz.f5.params.toList args.toList ds p := hA0
  rw [Tryz.params5] at hA hval
  obtain ⟨v0, vs0, d0, ds0, p0, q0, hargs, rfl, rfl, h0, r0⟩ := trodAll_cons hA
  obtain ⟨v1, vs1, d1, ds1, p1, q1, rfl, rfl, rfl, h1, r1⟩ := trodAll_cons r0
  obtain ⟨rfl, rfl, rfl⟩ := trodAll_nil r1
  obtain rfl : args = #[v0, v1] := by cases args; simp_all
  obtain ⟨x0, rfl, rfl, rfl, wx0⟩ := open_int Tryz.underlying42 (hval 0 42 v0 rfl rfl) h0
  obtain ⟨x1, rfl, rfl, rfl, wx1⟩ := open_int Tryz.underlying5 (hval 1 5 v1 rfl rfl) h1
  refine law_post Tryz.laidOutAll hrd rfl Tryz.underlying4 rfl ?_ hW0 (CgiNumbers_walk x0 x1 W (bounds_u16 wx0) (bounds_u8 wx1) hE (errT_of_laid (by simp [Rows.cgiNumbersRow, Rows.laid_errors_errorType]) _hL))
  simp [Rows.cgiNumbersSpec]

theorem laid_met (os : Os) : laidMetH Tryz.prog Rows.cgiNumbersRow.laid ((worldH os Rows.cgiNumbersRow.laid).forCall (fun _ _ => 0) ⟨#[], #[.int .u16 0, .int .u8 0], []⟩).memory := by
  exact laidMet_worldH os _ (by kernel_rfl) (by kernel_rfl) (by kernel_rfl)
theorem reads (os : Os) {H : Type} (enc : TypeId × Value → H) : ∃ places, DataW.whole enc Tryz.prog ((worldH os Rows.cgiNumbersRow.laid).forCall (fun _ _ => 0) ⟨#[], #[.int .u16 0, .int .u8 0], []⟩).memory Tryz.f5.params.toList Rows.cgiNumbersSpec.vars false #[Value.int .u16 0, Value.int .u8 0].toList 8 = some ([.lit (.int .u16 0), .lit (.int .u8 0)], [], places) :=
  ⟨[], by kernel_rfl⟩

set_option maxRecDepth 100000 in
theorem lifted (os : Os) (started : os.Started) (H : Type) (enc : TypeId × Value → H) (F : Stop.Interp) :
    ReturnsInHanded {} Tryz.checked os 5 .any ((OpenSpec.ofChange Rows.cgiNumbersSpec).preRow enc Tryz.prog Tryz.f5 Rows.cgiNumbersRow.domain false Rows.cgiNumbersRow.laid) (((OpenSpec.ofChange Rows.cgiNumbersSpec).at F).post enc Tryz.prog Tryz.f5 false true false false) := by
  obtain ⟨places, hx⟩ := reads os enc
  refine returnsInHanded_of_row (C := Tryz.checked) (s := OpenSpec.ofChange Rows.cgiNumbersSpec) Tryz.own started (by kernel_rfl) Tryz.func5
    (law_witnessW (enc := enc) (C := Tryz.checked) (worldH os Rows.cgiNumbersRow.laid) (worldH_os _ _) #[.int .u16 0, .int .u8 0] (by kernel_rfl) (by kernel_rfl) (by kernel_rfl) (OpenSpec.preRow_of_cond 8 hx (by kernel_rfl) (fun k hk => by cases hk) (by kernel_rfl) (laid_met os))) ?_
  intro W base args ds gs before hval hW _ _ _ hL hSh _
  exact contract H enc W base args ds gs before hval hW hSh hL

theorem said : Rows.CgiNumbersSaid :=
  OpenClaim.holds_of_cond 5 Tryz.f5 rfl rfl rfl rfl rfl rfl rfl ⟨rfl, rfl, rfl, rfl, rfl⟩ rfl rfl rfl rfl rfl (by kernel_rfl) Tryz.func5 (by kernel_rfl)
    (of_decide_eq_true (by kernel_rfl)) (by unfold Func.isWrapper; first | (rw [if_pos (by decide +kernel)]; kernel_rfl) | (rw [if_neg (by decide +kernel)]; exact ⟨rfl, rfl⟩))
    (fun os started H enc _ F => by rw [OpenClaim.pre_eq_preRow]; exact lifted os started H enc F)

theorem plain (f : FuncId) (fn : Func) (hf : Tryz.pinned.checked.prog.funcNamed "conduit/conduitlaw16.CgiNumbers" = some f) (hfn : Tryz.pinned.checked.prog.funcs[f]? = some fn) :
    true = Tryz.pinned.checked.prog.looks [] ∧ ∀ (j : Nat) t, fn.params[j]? = some t → Tryz.pinned.checked.prog.wantsStandIn t = false := by
  obtain rfl : f = 5 := Option.some.inj ((show Tryz.prog.funcNamed "conduit/conduitlaw16.CgiNumbers" = some 5 by kernel_rfl).symm.trans hf) |>.symm
  obtain rfl : fn = Tryz.f5 := (Option.some.inj (Tryz.func5.symm.trans hfn)).symm
  refine ⟨by kernel_rfl, fun j t ht => ?_⟩
  rw [Tryz.params5] at ht
  have hm : t ∈ [42, 5] := by simpa using Array.mem_of_getElem? ht
  have hall : ([42, 5].all fun u => !Tryz.prog.wantsStandIn u) = true := by kernel_rfl
  exact (show Tryz.prog.wantsStandIn t = false by simpa using List.all_eq_true.1 hall t hm)

/-- CgiNumbers, for every input: the tied card. -/
theorem card : Rows.CgiNumbersCardSaid :=
  Claim7.holds_tied_plain_at .later [] _ _ _ _ said (fun _ h => by cases h) (by kernel_rfl) (fun _ h => by cases h) cgiNumbers_row_tie rfl ⟨rfl, rfl⟩ (by kernel_rfl) rfl plain (by kernel_rfl)
#print axioms card
end Go.Proofs.YtfbpiknckjgfnaaGreatDoor.cardCgiNumbers
