/-
  errors.Is where the target is one of the program's numbers: of nil it is false; of a number it is whether the two are one.
-/
import Derived.Test.YtfbpiknckjgfnaaGreatDoorChecked
import Derived.WalkKit
import Derived.LaidEql
import Derived.Stop.Asserts
import Derived.RowKitTokens
import Derived.Lib.Hide
namespace Go.Proofs.YtfbpiknckjgfnaaGreatDoor
open Go.RowKit Go.Extern.Stop Go.Stop Go.Extern

section
variable {P : Program} (w : World)
theorem run_equalIn_iface_int (d : Nat) {ti tn : TypeId} {ms : Array (String × TypeId)} {i : TypeInfo} {k : IntKind} (a b : Int)
    (hi : P.underlying ti = some (.interface ms)) (hn : P.underlying tn = some (.int k)) (hinfo : P.info? tn = some i) (hcomp : i.comparable = true) :
    (Op.equalIn (d + 2) ti (.iface tn (.int k a)) (.iface tn (.int k b))).run P w = .ok (a == b) w := by
  simp [Op.equalIn, run_underlying hi, run_underlying hn, typeInfo, hinfo, hcomp]
theorem run_eql_iface_int {ti tn : TypeId} {ms : Array (String × TypeId)} {i : TypeInfo} {k : IntKind} (a b : Int)
    (hi : P.underlying ti = some (.interface ms)) (hn : P.underlying tn = some (.int k)) (hinfo : P.info? tn = some i) (hcomp : i.comparable = true) :
    (binOp .eql ti (.iface tn (.int k a)) (.iface tn (.int k b))).run P w = .ok (.bool (a == b)) w := by
  simp only [binOp]
  simp [Op.equal, Op.maxDepth, run_equalIn_iface_int w 9998 a b hi hn hinfo hcomp]
end

theorem Tryz.isTypeOf (v : Value) (w : World) : (callFunc 21 #[.iface 38 v]).run Tryz.prog w = .ok (.value (.iface 80 (.agg #[.pointer (some ⟨9, 38, none⟩)]))) w := by kernel_rfl
theorem Tryz.isComparable (w : World) : (callFunc 129 #[.agg #[.pointer (some ⟨9, 38, none⟩)]]).run Tryz.prog w = .ok (.value (.bool true)) w := by kernel_rfl
theorem Tryz.isMethodComparable (v : Value) (w : World) : (Go.method 284 80 v "Comparable").run Tryz.prog w = .ok (129, v) w := by kernel_rfl
theorem Tryz.isComp : (Tryz.prog.info? 38).map (·.comparable) = some true := by kernel_rfl
theorem Tryz.noIsE (v : Value) (xT : TypeId) (w : World) : (Instr.typeAssert (.iface 38 v) xT 82 true).run Tryz.prog w = .ok (.tuple #[.nilIface, .bool false]) w := run_typeAssert_lacksB Tryz.underlying82 (by kernel_rfl) (by kernel_rfl) v xT w
theorem Tryz.noUnwrapE (v : Value) (xT : TypeId) (w : World) : (Instr.typeAssert (.iface 38 v) xT 85 true).run Tryz.prog w = .ok (.tuple #[.nilIface, .bool false]) w := run_typeAssert_lacksB Tryz.underlying85 (by kernel_rfl) (by kernel_rfl) v xT w
theorem Tryz.noUnwrapsE (v : Value) (xT : TypeId) (w : World) : (Instr.typeAssert (.iface 38 v) xT 86 true).run Tryz.prog w = .ok (.tuple #[.nilIface, .bool false]) w := run_typeAssert_lacksB Tryz.underlying86 (by kernel_rfl) (by kernel_rfl) v xT w

/-- An error as a value: nil (0), or the program's number. -/
def errV (n : Int) : Value := if n = 0 then .nilIface else .iface 38 (.int .i64 n)
theorem errV_zero : errV 0 = .nilIface := rfl
theorem errV_pos {n : Int} (h : n ≠ 0) : errV n = .iface 38 (.int .i64 n) := by unfold errV; rw [if_neg h]

theorem is_nil (b : Int) (w : World) :
    Calls Tryz.prog 13 #[.nilIface, .iface 38 (.int .i64 b)] w fun e w' => e = .returned (.bool false) ∧ w = w' := by
  have hn := run_eql_iface_nil_left (P := Tryz.prog) w 38 (.int .i64 b) Tryz.underlying27
  go_enter Tryz.func13, Tryz.ntmps13
  go_wp2
  go_ret
  exact ⟨rfl, rfl⟩
theorem is_num (a b : Int) (w : World) :
    Calls Tryz.prog 13 #[.iface 38 (.int .i64 a), .iface 38 (.int .i64 b)] w fun e w' => e = .returned (.bool (a == b)) ∧ w = w' := by
  obtain ⟨i, hi, hcmp⟩ := Option.map_eq_some_iff.1 Tryz.isComp
  have tT := Tryz.isTypeOf
  have cT := Tryz.isComparable
  have mR := Tryz.isMethodComparable
  have nE := Tryz.noIsE
  have uE := Tryz.noUnwrapE
  have vE := Tryz.noUnwrapsE
  have heq := run_eql_iface_int (P := Tryz.prog) w a b Tryz.underlying27 Tryz.underlying38 hi hcmp
  cases hab : (a == b)
  all_goals
    rw [hab] at heq
    have hab := Lib.hid hab
    go_enter Tryz.func13, Tryz.ntmps13
    go_wp2
    refine wp_loop_rounds 1 ?_
    rw [rounds_succ]
    go_wp2
    go_ret
    exact ⟨rfl, rfl⟩
/-- errors.Is(err, number), whatever the error. -/
theorem is_any (a b : Int) (w : World) :
    Calls Tryz.prog 13 #[errV a, .iface 38 (.int .i64 b)] w fun e w' => e = .returned (.bool (a != 0 && a == b)) ∧ w = w' := by
  by_cases ha : a = 0
  · subst ha; exact is_nil b w
  · rw [errV_pos ha]
    have e : (a != 0 && a == b) = (a == b) := by simp [ha]
    rw [e]; exact is_num a b w
end Go.Proofs.YtfbpiknckjgfnaaGreatDoor
