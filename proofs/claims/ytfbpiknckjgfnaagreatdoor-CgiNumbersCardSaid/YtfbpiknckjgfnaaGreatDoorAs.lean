/-
  errors.As where the target is a number's variable: of nil it is false; of a number it is true, and the variable holds it. The laws' 'code': 0 of nil, else the number.
-/
import Derived.Test.YtfbpiknckjgfnaaGreatDoorEnv
import Derived.Test.YtfbpiknckjgfnaaGreatDoorOctB
namespace Go.Proofs.YtfbpiknckjgfnaaGreatDoor
open Go.RowKit Go.Extern.Stop Go.Stop Go.Extern

theorem as_nil (t : Value) (w : World) :
    Calls Tryz.prog 19 #[.nilIface, t] w fun e w' => e = .returned (.bool false) ∧ w = w' := by
  go_enter Tryz.func19, Tryz.ntmps19
  go_wp2
  go_ret
  exact ⟨rfl, rfl⟩

/-! ### Closed facts on the model's entries, at this program's types -/
theorem Tryz.asValueOfP (t : Addr) (w : World) : (callFunc 31 #[.iface 52 (.pointer (some t))]).run Tryz.prog w
    = .ok (.value (.agg #[.pointer (some ⟨9, 52, none⟩), .pointer (some ⟨w.heap.size, 0, none⟩), .int .u64 150])) (w.alloc (.cells #[.pointer (some t)] 52)) := by kernel_rfl
theorem Tryz.asTypeP (a : Addr) (w : World) : (callFunc 32 #[.agg #[.pointer (some ⟨9, 52, none⟩), .pointer (some a), .int .u64 150]]).run Tryz.prog w
    = .ok (.value (.iface 80 (.agg #[.pointer (some ⟨9, 52, none⟩)]))) w := by kernel_rfl
theorem Tryz.asMethodKind (h : Value) (w : World) : (Go.method 284 80 (.agg #[h]) "Kind").run Tryz.prog w = .ok (120, h) w := by kernel_rfl
theorem Tryz.asKindP (w : World) : (callFunc 120 #[.pointer (some ⟨9, 52, none⟩)]).run Tryz.prog w = .ok (.value (.int .u8 22)) w := by kernel_rfl
theorem Tryz.asKindE (w : World) : (callFunc 120 #[.pointer (some ⟨9, 38, none⟩)]).run Tryz.prog w = .ok (.value (.int .u8 2)) w := by kernel_rfl
theorem Tryz.asMethodElem (h : Value) (w : World) : (Go.method 284 80 (.agg #[h]) "Elem").run Tryz.prog w = .ok (130, .agg #[h]) w := by kernel_rfl
theorem Tryz.asElemP (w : World) : (callFunc 130 #[.agg #[.pointer (some ⟨9, 52, none⟩)]]).run Tryz.prog w = .ok (.value (.iface 80 (.agg #[.pointer (some ⟨9, 38, none⟩)]))) w := by kernel_rfl
theorem Tryz.asMethodImplements (h : Value) (w : World) : (Go.method 284 80 (.agg #[h]) "Implements").run Tryz.prog w = .ok (131, .agg #[h]) w := by kernel_rfl
theorem Tryz.asImplementsE (w : World) : (callFunc 131 #[.agg #[.pointer (some ⟨9, 38, none⟩)], .iface 80 (.agg #[.pointer (some ⟨9, 27, none⟩)])]).run Tryz.prog w = .ok (.value (.bool true)) w := by kernel_rfl
theorem Tryz.asMethodAssignable (h : Value) (w : World) : (Go.method 284 80 (.agg #[h]) "AssignableTo").run Tryz.prog w = .ok (128, .agg #[h]) w := by kernel_rfl
theorem Tryz.asAssignableE (w : World) : (callFunc 128 #[.agg #[.pointer (some ⟨9, 38, none⟩)], .iface 80 (.agg #[.pointer (some ⟨9, 38, none⟩)])]).run Tryz.prog w = .ok (.value (.bool true)) w := by kernel_rfl
theorem Tryz.asValueOfE (n : Int) (w : World) : (callFunc 31 #[.iface 38 (.int .i64 n)]).run Tryz.prog w
    = .ok (.value (.agg #[.pointer (some ⟨9, 38, none⟩), .pointer (some ⟨w.heap.size, 0, none⟩), .int .u64 130])) (w.alloc (.cells #[.int .i64 n] 38)) := by kernel_rfl

/-! ### The entries that read or write memory -/
theorem as_rlm (z : Sem Value) (f : TypeId → Addr → Nat → Nat → Sem Value) (v : Value) :
    ReflectliteValue.method z f #[v] = (do match ← ReflectliteValue.parts v with | none => z | some (t, a, fl) => f t a fl (fl % 32)) := rfl
theorem Tryz.asPartsP (a : Addr) (w : World) : (ReflectliteValue.parts (.agg #[.pointer (some ⟨9, 52, none⟩), .pointer (some a), .int .u64 150])).run Tryz.prog w = .ok (some (52, a, 150)) w := by kernel_rfl
theorem Tryz.asIsNilP (a p : Addr) (W : World) (ha : W.cell? a = some (.pointer (some p))) :
    (callFunc 33 #[.agg #[.pointer (some ⟨9, 52, none⟩), .pointer (some a), .int .u64 150]]).run Tryz.prog W = .ok (.value (.bool false)) W := by
  rw [@run_callFunc_extern Tryz.prog 33 _ (ReflectliteValue.method (ReflectliteValue.valueError "reflectlite.Value.IsNil" 0) ReflectliteValue.isNil) Tryz.func33 (by kernel_rfl) (by kernel_rfl) (by kernel_rfl) (by kernel_rfl), as_rlm]
  simp only [Sem.run_bind, Tryz.asPartsP, Result.andThen]
  simp [ReflectliteValue.isNil, loadVar, isAgg, underlying, Tryz.underlying52, ha, Result.andThen]
theorem Tryz.asElemOfP (w : World) : (Rtype.elem? 52).run Tryz.prog w = .ok (some 38) w := by kernel_rfl
theorem Tryz.asMkE (p : Addr) (w : World) : (ReflectliteValue.mk 38 p ReflectliteValue.flagAddr).run Tryz.prog w = .ok (.agg #[.pointer (some ⟨9, 38, none⟩), .pointer (some p), .int .u64 386]) w := by kernel_rfl
theorem Tryz.asElemV (a p : Addr) (W : World) (ha : W.cell? a = some (.pointer (some p))) :
    (callFunc 44 #[.agg #[.pointer (some ⟨9, 52, none⟩), .pointer (some a), .int .u64 150]]).run Tryz.prog W
      = .ok (.value (.agg #[.pointer (some ⟨9, 38, none⟩), .pointer (some p), .int .u64 386])) W := by
  rw [@run_callFunc_extern Tryz.prog 44 _ (ReflectliteValue.method (ReflectliteValue.valueError "reflectlite.Value.Elem" 0) ReflectliteValue.elem) Tryz.func44 (by kernel_rfl) (by kernel_rfl) (by kernel_rfl) (by kernel_rfl), as_rlm]
  simp only [Sem.run_bind, Tryz.asPartsP, Result.andThen]
  simp [ReflectliteValue.elem, loadVar, isAgg, underlying, Tryz.underlying52, ha, Result.andThen, Tryz.asElemOfP, Tryz.asMkE]
theorem as_rls (v x : Value) : ReflectliteValue.set #[v, x] = (do
    let (some (dst, a, fl), some (src, b, _)) := (← ReflectliteValue.parts v, ← ReflectliteValue.parts x)
      | unsupported (.noEntry "extern/(internal/reflectlite.Value).Set.zeroValue")
    if fl / ReflectliteValue.flagAddr % 2 == 0 then unsupported (.noEntry "extern/(internal/reflectlite.Value).Set.unaddressable")
    let val ← loadVar src b
    if ← Rtype.directlyAssignable dst src then storeVar dst a val
    else if ← Rtype.implements dst src then
      if (← Rtype.kind src) == 20 then
        match val with
        | .nilIface => unsupported (.noEntry "extern/reflectlite: a nil value of one interface type handed on as a value of another")
        | _ => storeVar dst a val
      else storeVar dst a (.iface src val)
    else panicString ("reflectlite.Set: value of type " ++ (← Rtype.spelt src) ++ " is not assignable to type " ++ (← Rtype.spelt dst))
    pure (.tuple #[])) := rfl
theorem Tryz.asPartsE (a : Addr) (w : World) : (ReflectliteValue.parts (.agg #[.pointer (some ⟨9, 38, none⟩), .pointer (some a), .int .u64 386])).run Tryz.prog w = .ok (some (38, a, 386)) w := by kernel_rfl
theorem Tryz.asPartsF (a : Addr) (w : World) : (ReflectliteValue.parts (.agg #[.pointer (some ⟨9, 38, none⟩), .pointer (some a), .int .u64 130])).run Tryz.prog w = .ok (some (38, a, 130)) w := by kernel_rfl
theorem Tryz.asDirectE (w : World) : (Rtype.directlyAssignable 38 38).run Tryz.prog w = .ok true w := by kernel_rfl
theorem Tryz.asSizeE (w : World) : (sizeOf 38).run Tryz.prog w = .ok 1 w := by kernel_rfl
theorem Tryz.asSet (ta b : Addr) (n : Int) (old : Value) (W : World) (hb : W.cell? b = some (.int .i64 n)) (ht : W.cell? ta = some old) (hf : W.frozen? ta = false) :
    (callFunc 45 #[.agg #[.pointer (some ⟨9, 38, none⟩), .pointer (some ta), .int .u64 386], .agg #[.pointer (some ⟨9, 38, none⟩), .pointer (some b), .int .u64 130]]).run Tryz.prog W
      = .ok (.value (.tuple #[])) (W.setCell ta (.int .i64 n)) := by
  rw [@run_callFunc_extern Tryz.prog 45 _ ReflectliteValue.set Tryz.func45 (by kernel_rfl) (by kernel_rfl) (by kernel_rfl) (by kernel_rfl), as_rls]
  simp only [Sem.run_bind, Tryz.asPartsE, Tryz.asPartsF, Result.andThen]
  simp [ReflectliteValue.flagAddr, loadVar, isAgg, underlying, Tryz.underlying38, hb, Result.andThen, Tryz.asDirectE, storeVar, Value.cells, storeCells, Addr.add]
  rw [run_store Tryz.prog W ta _ _ (by rfl)]
  simp [ht, hf]

/-- What is known of errors.errorType: the handle of 'error'. -/
def ErrT (w : World) : Prop := w.cell? ⟨0, 0, none⟩ = some (.iface 80 (.agg #[.pointer (some ⟨9, 27, none⟩)]))
theorem ErrT.below {w w' : World} (h : ErrT w) (hb : Below w.heap.size w w') : ErrT w' := (hb.cell (World.block_lt_of_cell? w _ h)).trans h

set_option maxHeartbeats 4000000 in
theorem as_hit (n : Int) (t : Addr) (old : Value) (w : World) (hT : ErrT w) (ht0 : w.cell? t = some old) (hf0 : w.frozen? t = false) :
    Calls Tryz.prog 19 #[.iface 38 (.int .i64 n), .iface 52 (.pointer (some t))] w fun ev w' => ev = .returned (.bool true) ∧ w'.cell? t = some (.int .i64 n) ∧ Below t.block w w' := by
  have f1 := Tryz.asValueOfP
  have f2 := Tryz.asTypeP
  have f3 := Tryz.asMethodKind
  have f4 := Tryz.asKindP
  have f5 := Tryz.asKindE
  have f6 := Tryz.asMethodElem
  have f7 := Tryz.asElemP
  have f8 := Tryz.asMethodImplements
  have f9 := Tryz.asImplementsE
  have f10 := Tryz.asMethodAssignable
  have f11 := Tryz.asAssignableE
  have f12 := Tryz.asValueOfE
  have f13 := Tryz.isTypeOf
  have htl : t.block < w.heap.size := by
    rcases Nat.lt_or_ge t.block w.heap.size with h | h
    · exact h
    · simp [World.cell?, Array.getElem?_eq_none h] at ht0
  have hlt : 0 < w.heap.size := World.block_lt_of_cell? w _ hT
  have n8 := Tryz.asIsNilP ⟨w.heap.size, 0, none⟩ t ((w.alloc (.cells #[.pointer (some t)] 52)).alloc (.cells #[.pointer (some ⟨9, 52, none⟩), .pointer (some ⟨w.heap.size, 0, none⟩), .int .u64 150] 72)) (by simp)
  have hg2 : ((w.alloc (.cells #[.pointer (some t)] 52)).alloc (.cells #[.pointer (some ⟨9, 52, none⟩), .pointer (some ⟨w.heap.size, 0, none⟩), .int .u64 150] 72)).cell? ⟨0, 0, none⟩ = some (.iface 80 (.agg #[.pointer (some ⟨9, 27, none⟩)])) := by
    rw [World.cell?_alloc_lt _ _ ⟨0, 0, none⟩ (by simp <;> omega), World.cell?_alloc_lt _ _ ⟨0, 0, none⟩ hlt]; exact hT
  have el := Tryz.asElemV ⟨w.heap.size, 0, none⟩ t (((w.alloc (.cells #[.pointer (some t)] 52)).alloc (.cells #[.pointer (some ⟨9, 52, none⟩), .pointer (some ⟨w.heap.size, 0, none⟩), .int .u64 150] 72)).alloc (.cells #[.pointer (some ⟨9, 52, none⟩), .pointer (some ⟨w.heap.size, 0, none⟩), .int .u64 150] 72)) (by rw [World.cell?_alloc_lt _ _ ⟨w.heap.size, 0, none⟩ (by simp; omega)]; simp)
  have ht4 : ((((w.alloc (.cells #[.pointer (some t)] 52)).alloc (.cells #[.pointer (some ⟨9, 52, none⟩), .pointer (some ⟨w.heap.size, 0, none⟩), .int .u64 150] 72)).alloc (.cells #[.pointer (some ⟨9, 52, none⟩), .pointer (some ⟨w.heap.size, 0, none⟩), .int .u64 150] 72)).alloc (.cells #[.int .i64 n] 38)).cell? t = some old := by rw [World.cell?_alloc_lt _ _ t (by simp; omega), World.cell?_alloc_lt _ _ t (by simp; omega), World.cell?_alloc_lt _ _ t (by simp; omega), World.cell?_alloc_lt _ _ t htl]; exact ht0
  have st := Tryz.asSet t ⟨w.heap.size + 1 + 1 + 1, 0, none⟩ n old ((((w.alloc (.cells #[.pointer (some t)] 52)).alloc (.cells #[.pointer (some ⟨9, 52, none⟩), .pointer (some ⟨w.heap.size, 0, none⟩), .int .u64 150] 72)).alloc (.cells #[.pointer (some ⟨9, 52, none⟩), .pointer (some ⟨w.heap.size, 0, none⟩), .int .u64 150] 72)).alloc (.cells #[.int .i64 n] 38))
    (by rw [World.cell?_alloc_at _ _ _ _ (by simp)]; rfl) ht4
    (by rw [World.frozen?_alloc_old _ _ t (by simp; omega), World.frozen?_alloc_old _ _ t (by simp; omega), World.frozen?_alloc_old _ _ t (by simp; omega), World.frozen?_alloc_old _ _ t (Nat.ne_of_lt htl)]; exact hf0)
  have hB : Below t.block w (((((w.alloc (.cells #[.pointer (some t)] 52)).alloc (.cells #[.pointer (some ⟨9, 52, none⟩), .pointer (some ⟨w.heap.size, 0, none⟩), .int .u64 150] 72)).alloc (.cells #[.pointer (some ⟨9, 52, none⟩), .pointer (some ⟨w.heap.size, 0, none⟩), .int .u64 150] 72)).alloc (.cells #[.int .i64 n] 38)).setCell t (.int .i64 n)) :=
    ((((((Below.refl t.block w).alloc (by omega) _).alloc (by simp; omega) _).alloc (by simp; omega) _).alloc (by simp; omega) _)).setCell (Nat.le_refl _) _
  have HB := Lib.hid hB; clear hB
  have HC : Hid ((((((w.alloc (.cells #[.pointer (some t)] 52)).alloc (.cells #[.pointer (some ⟨9, 52, none⟩), .pointer (some ⟨w.heap.size, 0, none⟩), .int .u64 150] 72)).alloc (.cells #[.pointer (some ⟨9, 52, none⟩), .pointer (some ⟨w.heap.size, 0, none⟩), .int .u64 150] 72)).alloc (.cells #[.int .i64 n] 38)).setCell t (.int .i64 n)).cell? t = some (.int .i64 n)) := Lib.hid (World.cell?_setCell_same' _ _ _ (by rw [ht4]; rfl))
  clear ht4
  go_enter Tryz.func19, Tryz.ntmps19
  go_wp2
  refine wp_loop_rounds 1 ?_
  rw [rounds_succ]
  go_wp2
  go_ret
  exact ⟨rfl, HC.out, HB.out⟩

/-! ### code -/
theorem code_nil (w : World) : Calls Tryz.prog 9 #[.nilIface] w fun e w' => e = .returned (.int .i64 0) ∧ Below w.heap.size w w' := by
  go_enter Tryz.func9, Tryz.ntmps9
  go_wp2
  go_ret
  exact ⟨rfl, (Below.refl _ _).alloc (Nat.le_refl _) _⟩
theorem code_num (n : Int) (w : World) (hT : ErrT w) : Calls Tryz.prog 9 #[.iface 38 (.int .i64 n)] w fun e w' => e = .returned (.int .i64 n) ∧ Below w.heap.size w w' := by
  have hb0 : Below w.heap.size w (w.alloc (.cells #[.int .i64 0] 38)) := (Below.refl _ _).alloc (Nat.le_refl _) _
  have H := Lib.hid (as_hit n ⟨w.heap.size, 0, none⟩ (.int .i64 0) (w.alloc (.cells #[.int .i64 0] 38)) (hT.below hb0) (by simp) (by simp))
  have HB := Lib.hid hb0; clear hb0 hT
  go_enter Tryz.func9, Tryz.ntmps9
  go_wp2_with (go_at_call 19; refine H.out.mono ?_; rintro e w1 ⟨rfl, hc1, hb1⟩; have HB1 := Lib.hid (HB.out.trans hb1); clear hb1)
  go_ret
  exact ⟨rfl, HB1.out⟩
end Go.Proofs.YtfbpiknckjgfnaaGreatDoor
