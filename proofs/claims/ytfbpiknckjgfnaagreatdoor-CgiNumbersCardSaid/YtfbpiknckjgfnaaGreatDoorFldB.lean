/-
  Package field: Is: what it answers.
-/
import Derived.Test.YtfbpiknckjgfnaaGreatDoorFldA
import Derived.Deep.RegionHeld3
namespace Go.Proofs.YtfbpiknckjgfnaaGreatDoor
open Go.RowKit Go.Shelf

section
variable {P : Program} (w : World)
theorem run_eql_iface_nil_right {ti : TypeId} {ms : Array (String × TypeId)} (tp : TypeId) (v : Value) (hi : P.underlying ti = some (.interface ms)) :
    (binOp .eql ti (.iface tp v) .nilIface).run P w = .ok (.bool false) w := by
  have h : ∀ d : Nat, (Op.equalIn (d + 1) ti (.iface tp v) .nilIface).run P w = .ok false w := fun d => by simp [Op.equalIn, run_underlying hi]
  simp only [binOp]
  simp [Op.equal, Op.maxDepth, h]
theorem run_neq_iface_nil_right {ti : TypeId} {ms : Array (String × TypeId)} (tp : TypeId) (v : Value) (hi : P.underlying ti = some (.interface ms)) :
    (binOp .neq ti (.iface tp v) .nilIface).run P w = .ok (.bool true) w := by
  have h : ∀ d : Nat, (Op.equalIn (d + 1) ti (.iface tp v) .nilIface).run P w = .ok false w := fun d => by simp [Op.equalIn, run_underlying hi]
  simp only [binOp]
  simp [Op.equal, Op.maxDepth, h]
end
theorem below_frozen {B : Nat} {w w' : World} (hb : Below B w w') (a : Addr) (h : a.block < B) : w'.frozen? a = w.frozen? a := by simp [World.frozen?, hb.block _ h]
theorem below_cell {B : Nat} {w w' : World} (hb : Below B w w') (a : Addr) (h : a.block < B) : w'.cell? a = w.cell? a := by simp [World.cell?, hb.block _ h]

/-- A world behind another: nothing below turned; what is new lies above. -/
structure Under (B : Nat) (W w : World) : Prop where
  below : Below B W w
  size : B ≤ w.heap.size
theorem Under.step {B : Nat} {W w w' : World} (h : Under B W w) (hb : Below w.heap.size w w') : Under B W w' := ⟨h.below.trans (hb.mono h.size), Nat.le_trans h.size hb.size⟩
theorem Under.drew {B : Nat} {W w : World} (h : Under B W w) : Under B W w.drew := ⟨h.below.drew, h.size⟩

theorem held2 {B : Nat} {W w w' : World} {a b : Addr} {va vb : Value} (h : w.cell? a = some va ∧ w.cell? b = some vb ∧ Under B W w) (hb : Below w.heap.size w w') : w'.cell? a = some va ∧ w'.cell? b = some vb ∧ Under B W w' :=
  ⟨(hb.cell (World.block_lt_of_cell? _ _ h.1)).trans h.1, (hb.cell (World.block_lt_of_cell? _ _ h.2.1)).trans h.2.1, h.2.2.step hb⟩

/-- Is a pair a field? -/
def fieldB (n v : List UInt8) : Bool := decide (nameC n = 0) && (decide (valueC v = 0) && decide (trimL v = v))
def pairV (n v : ByteArray) : Value := .agg #[.string n, .string v]

theorem Is_any (n v : ByteArray) (w : World) (hn : n.size ≤ maxLen) (hv : v.size ≤ maxLen) :
    Calls Tryz.prog 28 #[.agg #[.string n, .string v]] w fun e w' => e = .returned (.bool (fieldB n.data.toList v.data.toList)) ∧ Below w.heap.size w w' := by
  have HN : Hid (∀ W : World, Calls Tryz.prog 39 #[.string n] W fun e w' => e = .returned (errV (nameC n.data.toList)) ∧ w' = W) := Lib.hid fun W => (name_any n W hn).mono fun _ _ ⟨a, b⟩ => ⟨a, b.symm⟩
  have HV : Hid (∀ W : World, Calls Tryz.prog 40 #[.string v] W fun e w' => e = .returned (errV (valueC v.data.toList)) ∧ w' = W) := Lib.hid fun W => (value_any v W hv).mono fun _ _ ⟨a, b⟩ => ⟨a, b.symm⟩
  have HT : Hid (∀ W : World, Calls Tryz.prog 27 #[.string v] W fun e w' => e = .returned (.string ⟨(trimL v.data.toList).toArray⟩) ∧ Below W.heap.size W w') := Lib.hid fun W => Trim_any v W hv
  have hB := (Below.refl w.heap.size w).alloc (Nat.le_refl _) (.cells #[.string n, .string v] 60)
  have HB := Lib.hid hB; clear hB
  have hE : ∀ (W : World) (c : Int), (binOp .eql 27 (.iface 38 (.int .i64 c)) .nilIface).run Tryz.prog W = .ok (.bool false) W := fun W c => run_eql_iface_nil_right W _ _ Tryz.underlying27
  unfold fieldB
  clear hn hv
  by_cases h1 : nameC n.data.toList = 0
  · rw [h1, decide_eq_true rfl, Bool.true_and]
    rw [h1, errV_zero] at HN
    clear h1
    by_cases h2 : valueC v.data.toList = 0
    · rw [h2, decide_eq_true rfl, Bool.true_and]
      rw [h2, errV_zero] at HV
      clear h2
      obtain ⟨t, ht⟩ : ∃ t, t = trimL v.data.toList := ⟨_, rfl⟩
      rw [← ht] at HT ⊢
      have hcmp : Hid (((⟨t.toArray⟩ : ByteArray) = v) ↔ t = v.data.toList) := Lib.hid ⟨fun e => by rw [← e], fun e => by rw [e]⟩
      clear ht
      obtain ⟨W1, hW1⟩ : ∃ W1, W1 = w.alloc (.cells #[.string n, .string v] 60) := ⟨_, rfl⟩
      have c1 : W1.cell? ⟨w.heap.size, 0, none⟩ = some (.string n) := by rw [hW1]; simp
      have c2 : W1.cell? ⟨w.heap.size, 1, none⟩ = some (.string v) := by rw [hW1]; simp
      have c3 : Under (w.heap.size + 1) W1 W1 := ⟨Below.refl _ _, by rw [hW1]; simp⟩
      rw [← hW1] at HB
      by_cases hq : t = v.data.toList
      · rw [decide_eq_true hq]
        have hqe := hcmp.out.2 hq
        clear hcmp hq
        go_enter Tryz.func28, Tryz.ntmps28
        go_wp2
        rw [← hW1]
        clear hW1
        go_region_held3 (fun w' => w'.cell? ⟨w.heap.size, 0, none⟩ = some (.string n) ∧ w'.cell? ⟨w.heap.size, 1, none⟩ = some (.string v) ∧ Under (w.heap.size + 1) W1 w') (first | exact hS | exact ⟨c1, c2, c3.drew⟩ | go_keep)
          (first
            | (go_at_call 39; refine (HN.out _).mono ?_; rintro e w' ⟨rfl, rfl⟩)
            | (go_at_call 40; refine (HV.out _).mono ?_; rintro e w' ⟨rfl, rfl⟩)
            | (go_at_call 27; refine (HT.out _).mono ?_; rintro e w3 ⟨rfl, hb3⟩
               have hS := held2 (by assumption) hb3))
        go_wp2
        go_ret
        exact ⟨rfl, HB.out.trans (hS.2.2.below.mono (by omega))⟩
      · rw [decide_eq_false hq]
        have hqe : ¬ (⟨t.toArray⟩ : ByteArray) = v := fun e => hq (hcmp.out.1 e)
        have HQ := Lib.hid hq
        clear hcmp hq
        go_enter Tryz.func28, Tryz.ntmps28
        go_wp2
        rw [← hW1]
        clear hW1
        go_region_held3 (fun w' => w'.cell? ⟨w.heap.size, 0, none⟩ = some (.string n) ∧ w'.cell? ⟨w.heap.size, 1, none⟩ = some (.string v) ∧ Under (w.heap.size + 1) W1 w') (first | exact hS | exact ⟨c1, c2, c3.drew⟩ | go_keep)
          (first
            | (go_at_call 39; refine (HN.out _).mono ?_; rintro e w' ⟨rfl, rfl⟩)
            | (go_at_call 40; refine (HV.out _).mono ?_; rintro e w' ⟨rfl, rfl⟩)
            | (go_at_call 27; refine (HT.out _).mono ?_; rintro e w3 ⟨rfl, hb3⟩
               have hS := held2 (by assumption) hb3))
        go_wp2
        go_ret
        exact ⟨ret_bool (by simp; rw [ByteArray.toList_eq]; exact HQ.out), HB.out.trans (hS.2.2.below.mono (by omega))⟩
    · rw [decide_eq_false h2, Bool.false_and]
      rw [errV_pos h2] at HV
      generalize valueC v.data.toList = c at HV h2
      go_enter Tryz.func28, Tryz.ntmps28
      go_wp2
      go_quiet (first
        | (go_at_call 39; exact Calls.quiet_of_same (HN.out _))
        | (go_at_call 40; exact Calls.quiet_of_same (HV.out _)))
      go_wp2
      go_ret
      exact ⟨rfl, below_drewN HB.out _⟩
  · rw [decide_eq_false h1, Bool.false_and]
    rw [errV_pos h1] at HN
    generalize nameC n.data.toList = c at HN h1
    go_enter Tryz.func28, Tryz.ntmps28
    go_wp2
    go_quiet ((go_at_call 39; exact Calls.quiet_of_same (HN.out _)))
    go_wp2
    go_ret
    exact ⟨rfl, below_drewN HB.out _⟩
end Go.Proofs.YtfbpiknckjgfnaaGreatDoor
