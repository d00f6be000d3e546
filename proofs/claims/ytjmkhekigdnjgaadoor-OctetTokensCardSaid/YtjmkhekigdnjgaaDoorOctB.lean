/-
  errors.Is where the target is one of the program's numbers: of nil it is false; of a number it is whether the two are one.
-/
import Derived.Test.YtjmkhekigdnjgaaDoorChecked
import Derived.WalkKit
import Derived.LaidEql
import Derived.Stop.Asserts
import Derived.RowKitTokens
import Derived.Lib.Hide
namespace Go.Proofs.YtjmkhekigdnjgaaDoor
open Go.RowKit Go.Extern.Stop Go.Stop Go.Extern

section
variable {P : Program} (w : World)
theorem run_equalIn_iface_int (d : Nat) {ti tn : TypeId} {ms : Array (String × TypeId)} {i : TypeInfo} {k : IntKind} (a b : Int)
    (hi : P.underlying ti = some (.interface ms)) (hn : P.underlying tn = some (.int k)) (hinfo : P.info? tn = some i) (hcomp : i.comparable = true) :
    (Op.equalIn (d + 2) ti (.iface tn (.int k a)) (.iface tn (.int k b))).run P w = .ok (a == b) w := by
  simp [Op.equalIn, run_underlying hi, run_underlying hn, typeInfo, hinfo, hcomp]
theorem run_eql_iface_int {ti tn : TypeId} {ms : Array (String × TypeId)} {i : TypeInfo} {k : IntKind} (a b : Int)
    (hi : P.underlying ti = some (.interface ms)) (hn : P.underlying tn = some (.int k)) (hinfo : P.info? tn = some i) (hcomp : i.comparable = true) :
    (binOp .eql ti (.iface tn (.int k a)) (.iface tn (.int k b))).run P w = .ok (.bool (a == b)) w := by
  simp only [binOp]
  simp [Op.equal, Op.maxDepth, run_equalIn_iface_int w 9998 a b hi hn hinfo hcomp]
end

theorem Tryd.isTypeOf (v : Value) (w : World) : (callFunc 21 #[.iface 29 v]).run Tryd.prog w = .ok (.value (.iface 57 (.agg #[.pointer (some ⟨8, 29, none⟩)]))) w := by kernel_rfl
theorem Tryd.isComparable (w : World) : (callFunc 103 #[.agg #[.pointer (some ⟨8, 29, none⟩)]]).run Tryd.prog w = .ok (.value (.bool true)) w := by kernel_rfl
theorem Tryd.isMethodComparable (v : Value) (w : World) : (Go.method 255 57 v "Comparable").run Tryd.prog w = .ok (103, v) w := by kernel_rfl
theorem Tryd.isComp : (Tryd.prog.info? 29).map (·.comparable) = some true := by kernel_rfl
theorem Tryd.noIsE (v : Value) (xT : TypeId) (w : World) : (Instr.typeAssert (.iface 29 v) xT 59 true).run Tryd.prog w = .ok (.tuple #[.nilIface, .bool false]) w := run_typeAssert_lacksB Tryd.underlying59 (by kernel_rfl) (by kernel_rfl) v xT w
theorem Tryd.noUnwrapE (v : Value) (xT : TypeId) (w : World) : (Instr.typeAssert (.iface 29 v) xT 62 true).run Tryd.prog w = .ok (.tuple #[.nilIface, .bool false]) w := run_typeAssert_lacksB Tryd.underlying62 (by kernel_rfl) (by kernel_rfl) v xT w
theorem Tryd.noUnwrapsE (v : Value) (xT : TypeId) (w : World) : (Instr.typeAssert (.iface 29 v) xT 64 true).run Tryd.prog w = .ok (.tuple #[.nilIface, .bool false]) w := run_typeAssert_lacksB Tryd.underlying64 (by kernel_rfl) (by kernel_rfl) v xT w

/-- An error as a value: nil (0), or the program's number. -/
def errV (n : Int) : Value := if n = 0 then .nilIface else .iface 29 (.int .i64 n)
theorem errV_zero : errV 0 = .nilIface := rfl
theorem errV_pos {n : Int} (h : n ≠ 0) : errV n = .iface 29 (.int .i64 n) := by unfold errV; rw [if_neg h]

theorem is_nil (b : Int) (w : World) :
    Calls Tryd.prog 10 #[.nilIface, .iface 29 (.int .i64 b)] w fun e w' => e = .returned (.bool false) ∧ w = w' := by
  have hn := run_eql_iface_nil_left (P := Tryd.prog) w 29 (.int .i64 b) Tryd.underlying24
  go_enter Tryd.func10, Tryd.ntmps10
  go_wp2
  go_ret
  exact ⟨rfl, rfl⟩
theorem is_num (a b : Int) (w : World) :
    Calls Tryd.prog 10 #[.iface 29 (.int .i64 a), .iface 29 (.int .i64 b)] w fun e w' => e = .returned (.bool (a == b)) ∧ w = w' := by
  obtain ⟨i, hi, hcmp⟩ := Option.map_eq_some_iff.1 Tryd.isComp
  have tT := Tryd.isTypeOf
  have cT := Tryd.isComparable
  have mR := Tryd.isMethodComparable
  have nE := Tryd.noIsE
  have uE := Tryd.noUnwrapE
  have vE := Tryd.noUnwrapsE
  have heq := run_eql_iface_int (P := Tryd.prog) w a b Tryd.underlying24 Tryd.underlying29 hi hcmp
  cases hab : (a == b)
  all_goals
    rw [hab] at heq
    have hab := Lib.hid hab
    go_enter Tryd.func10, Tryd.ntmps10
    go_wp2
    refine wp_loop_rounds 1 ?_
    rw [rounds_succ]
    go_wp2
    go_ret
    exact ⟨rfl, rfl⟩
/-- errors.Is(err, number), whatever the error. -/
theorem is_any (a b : Int) (w : World) :
    Calls Tryd.prog 10 #[errV a, .iface 29 (.int .i64 b)] w fun e w' => e = .returned (.bool (a != 0 && a == b)) ∧ w = w' := by
  by_cases ha : a = 0
  · subst ha; exact is_nil b w
  · rw [errV_pos ha]
    have e : (a != 0 && a == b) = (a == b) := by simp [ha]
    rw [e]; exact is_num a b w
end Go.Proofs.YtjmkhekigdnjgaaDoor
