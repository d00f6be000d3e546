/-
  The frame of a law's row whose condition lays errors.errorType, the handle of 'error': what the condition gives a walk; a world that meets it.
-/
import Derived.Test.YtfbpiknckjgfnaaGreatDoorFrame
import Derived.Test.YtfbpiknckjgfnaaGreatDoorAs
import Derived.LaidHandle
import Derived.LaidLaws
namespace Go.Proofs.YtfbpiknckjgfnaaGreatDoor
open Go.ChangeShapes Go.WideShapes Go.ChangeAt Go.RowKit

theorem Tryz.et : Tryz.prog.globalNamed "errors.errorType" = some 0 := by kernel_rfl
theorem Tryz.rt : (Tryz.prog.cutTypes.find? (·.1 == "internal/reflectlite.rtype")).map (·.2) = some 80 := by kernel_rfl
theorem Tryz.oneRow : ((List.range Tryz.prog.types.size).filter fun t => Tryz.prog.rowNamed t [101, 114, 114, 111, 114]) = [27] := by kernel_rfl

/-- What the condition gives a walk: the variable's one cell. -/
theorem errT_of_laid {laid : List (String × DataW Unit)} {W : World} (hm : (("errors.errorType", DataW.iface "internal/reflectlite.rtype" (.agg [.ptr (.lit (.string [101, 114, 114, 111, 114]))])) : String × DataW Unit) ∈ laid)
    (h : laidMetH Tryz.prog laid W) : ErrT W := by
  have hx : (("errors.errorType", DataW.iface "internal/reflectlite.rtype" (.agg [.ptr (.lit (.string [101, 114, 114, 111, 114]))])) : String × DataW Unit) ∈ laid.filter fun x => x.2.handleName?.isSome := List.mem_filter.2 ⟨hm, rfl⟩
  unfold laidMetH at h
  split at h
  · rename_i e
    rw [e] at hx
    cases hx
  · rename_i e
    rw [e] at hx
    obtain ⟨name, u, ty, e1, e2, e3, e4, e5⟩ := h.2 _ hx
    have en : name = [101, 114, 114, 111, 114] := (Option.some.inj e1).symm
    subst en
    obtain rfl := Option.some.inj (Tryz.rt.symm.trans e2)
    have hm2 : ty ∈ (List.range Tryz.prog.types.size).filter fun t => Tryz.prog.rowNamed t [101, 114, 114, 111, 114] := List.mem_filter.2 ⟨List.mem_range.2 e3, e4⟩
    rw [Tryz.oneRow] at hm2
    obtain rfl := List.mem_singleton.1 hm2
    have hh : typeHandle Tryz.prog 27 = .pointer (some ⟨9, 27, none⟩) := by kernel_rfl
    rw [hh] at e5
    have := World.var?_cell Tryz.et e5 0
    unfold ErrT
    simpa using this

/-- A world that meets the condition: the variable's cell laid, the listed data laid. -/
noncomputable def baseH (os : Os) : World :=
  let w0 := World.holding Tryz.prog os ⟨#[], #[], []⟩
  { w0 with heap := w0.heap.modify 0 fun
      | .cells _ t frozen => .cells #[.iface 80 (.agg #[.pointer (some ⟨9, 27, none⟩)])] t frozen
      | o => o }
noncomputable def worldH (os : Os) (laid : List (String × DataW Unit)) : World := (baseH os).layVars Tryz.prog (laid.filter fun x => x.2.handleName?.isNone)
theorem worldH_os (os : Os) (laid : List (String × DataW Unit)) : (worldH os laid).os = os := World.layVars_os _ _ _

theorem laidMet_layAll {P : Program} {w0 : World} {laid : List (String × DataW Unit)} (args : Array Value) (hf : w0.layFits P laid [] = true) (hi : w0.layIfaces P laid (w0.layVars P laid) = true) :
    laidMet P laid ((w0.layVars P laid).forCall (fun _ _ => 0) ⟨#[], args, []⟩).memory := by
  have e1 : (laid.filter fun x => (laid.map (·.1)).contains x.1) = laid := List.filter_eq_self.2 fun x hx => List.contains_iff_mem.2 (List.mem_map.2 ⟨x, hx, rfl⟩)
  have e2 : (laid.filter fun x => !(laid.map (·.1)).contains x.1) = [] := List.filter_eq_nil_iff.2 fun x hx => by rw [List.contains_iff_mem.2 (List.mem_map.2 ⟨x, hx, rfl⟩)]; simp
  have h : laidMet P laid (w0.layVars P laid) := laidMet_layVars (w0 := w0) (laid.map (·.1)) [] (by rw [e1]) (by rw [e1]; exact hf) (by rw [e1]; exact hi) (by rw [e2]; exact LaidIn.none)
  exact h.of_heap (by simp [World.memory, World.forCall, Input.heap])
theorem laidMet_worldH (os : Os) {laid : List (String × DataW Unit)} (args : Array Value) (hf : (baseH os).layFits Tryz.prog (laid.filter fun x => x.2.handleName?.isNone) [] = true)
    (hi : (baseH os).layIfaces Tryz.prog (laid.filter fun x => x.2.handleName?.isNone) (worldH os laid) = true)
    (hh : (laid.filter fun x => x.2.handleName?.isSome).all (handleAtB Tryz.prog ((worldH os laid).forCall (fun _ _ => 0) ⟨#[], args, []⟩).memory) = true) :
    laidMetH Tryz.prog laid ((worldH os laid).forCall (fun _ _ => 0) ⟨#[], args, []⟩).memory :=
  laidMetH_of_parts (laidMet_layAll args hf hi) hh

/-- One input that fits, in a world of one's own. -/
theorem law_witnessW {C : Checked} {os : Os} {fid : FuncId} {fn : Func} {s : OpenSpec} {H : Type} {enc : TypeId × Value → H} {laid : List (String × DataW Unit)} (w : World) (ho : w.os = os) (args : Array Value)
    (hv : (w.forCall (fun _ _ => 0) ⟨#[], args, []⟩).variablesZipB C.prog = true)
    (hr : ((w.forCall (fun _ _ => 0) ⟨#[], args, []⟩).heap.toList.drop C.prog.globals.size).take ((begin C.prog (fun _ _ => 0) default).world.heap.size - C.prog.globals.size) =
      (begin C.prog (fun _ _ => 0) default).world.heap.toList.drop C.prog.globals.size)
    (hok : Input.okWideB C.prog (w.forCall (fun _ _ => 0) ⟨#[], args, []⟩) fid ⟨#[], args, []⟩ = true)
    (hrow : s.preRow enc C.prog fn [] false laid (w.forCall (fun _ _ => 0) ⟨#[], args, []⟩).memory args) :
    ∃ (w : World) (tape : Tape) (i : Input), w.os = os ∧ (w.forCall tape i).Shaped C.prog ∧ i.vars = [] ∧ Input.okWide C.prog (w.forCall tape i) .any w.heap.size fid i ∧
      s.preRow enc C.prog fn [] false laid (w.forCall tape i).memory i.args ∧ ({} : Assume).holds C.prog (lone (Frame.enter C.prog fid i.args .normal) [] (w.forCall tape i)) :=
  ⟨w, fun _ _ => 0, ⟨#[], args, []⟩, ho, World.shaped_of_ZipB hv hr, (Input.okWide_of_okWideB (base := 0) hok).1, (Input.okWide_of_okWideB hok).2, hrow, by
    simp only [Assume.holds]
    exact ⟨by simp, by simp, fun _ => Modest.zero, by simp, by simp⟩⟩
end Go.Proofs.YtfbpiknckjgfnaaGreatDoor
