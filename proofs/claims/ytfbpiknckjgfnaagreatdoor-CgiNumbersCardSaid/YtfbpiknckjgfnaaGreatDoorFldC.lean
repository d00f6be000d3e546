/-
  Package field: Parse: what it answers.
-/
import Derived.Test.YtfbpiknckjgfnaaGreatDoorFldB
import Derived.Laws.ResultCell
namespace Go.Proofs.YtfbpiknckjgfnaaGreatDoor
open Go.RowKit Go.Shelf

theorem cut_len (l sep : List UInt8) : (Lib.cut l sep).1.length ≤ l.length ∧ (Lib.cut l sep).2.1.length ≤ l.length := by
  unfold Lib.cut
  split
  · simp; omega
  · simp
theorem nameC_in (l : List UInt8) : nameC l = 0 ∨ nameC l = 10 ∨ nameC l = 12 := by unfold nameC; (repeat' split) <;> simp
theorem valueC_in (l : List UInt8) : valueC l = 0 ∨ valueC l = 10 ∨ valueC l = 12 := by unfold valueC; (repeat' split) <;> simp

/-- What Parse answers: of whether there is a colon, of what is wrong with the name, the value. -/
def parseV (f : Bool) (a b : Int) (n v : ByteArray) : Value :=
  if f = false ∨ a = 10 ∨ b = 10 then .tuple #[.agg #[.string ⟨#[]⟩, .string ⟨#[]⟩], .iface 38 (.int .i64 10)]
  else if a ≠ 0 ∨ b ≠ 0 then .tuple #[.agg #[.string ⟨#[]⟩, .string ⟨#[]⟩], .iface 38 (.int .i64 12)]
  else .tuple #[.agg #[.string n, .string v], .nilIface]
/-- The value of a line, trimmed. -/
def lineV (l : List UInt8) : List UInt8 := trimL (Lib.cut l [58]).2.1

theorem Cut_any (s : ByteArray) (c : UInt8) (w : World) (hs : s.size < 4294967281) (hE : Env w) :
    Calls Tryz.prog 25 #[.string s, .string ⟨#[c]⟩] w fun e w' => e = .returned (.tuple #[.string ⟨(Lib.cut s.data.toList [c]).1.toArray⟩, .string ⟨(Lib.cut s.data.toList [c]).2.1.toArray⟩, .bool (Lib.cut s.data.toList [c]).2.2]) ∧ Below w.heap.size w w' := by
  obtain ⟨m, hm⟩ := hE.maxLen
  exact (Any.strings_Cut Tryz.laysCut s ⟨#[c]⟩ m w hs hm).mono fun _ _ ⟨a, n, b⟩ => ⟨a, by rw [b]; exact below_drewN (Below.refl _ _) n⟩

set_option maxHeartbeats 2000000 in
theorem Parse_any (s : ByteArray) (w : World) (hs : s.size < 4294967281) (hE : Env w) :
    Calls Tryz.prog 43 #[.string s] w fun e w' =>
      e = .returned (parseV (Lib.cut s.data.toList [58]).2.2 (nameC (Lib.cut s.data.toList [58]).1) (valueC (lineV s.data.toList)) ⟨(Lib.cut s.data.toList [58]).1.toArray⟩ ⟨(lineV s.data.toList).toArray⟩) ∧ Below w.heap.size w w' := by
  have HC : Hid (∀ W : World, Env W → Calls Tryz.prog 25 #[.string s, .string ⟨#[58]⟩] W fun e w' => e = .returned (.tuple #[.string ⟨(Lib.cut s.data.toList [58]).1.toArray⟩, .string ⟨(Lib.cut s.data.toList [58]).2.1.toArray⟩, .bool (Lib.cut s.data.toList [58]).2.2]) ∧ Below W.heap.size W w') := Lib.hid fun W h => Cut_any s 58 W hs h
  obtain ⟨z1, z2⟩ := cut_len s.data.toList [58]
  rw [len_eq] at z1 z2
  have HN : Hid (∀ W : World, Calls Tryz.prog 39 #[.string ⟨(Lib.cut s.data.toList [58]).1.toArray⟩] W fun e w' => e = .returned (errV (nameC (Lib.cut s.data.toList [58]).1)) ∧ W = w') := Lib.hid fun W =>
    name_any ⟨(Lib.cut s.data.toList [58]).1.toArray⟩ W (by unfold maxLen; show (Lib.cut s.data.toList [58]).1.toArray.size ≤ _; simp; omega)
  have HT : Hid (∀ W : World, Calls Tryz.prog 27 #[.string ⟨(Lib.cut s.data.toList [58]).2.1.toArray⟩] W fun e w' => e = .returned (.string ⟨(lineV s.data.toList).toArray⟩) ∧ Below W.heap.size W w') := Lib.hid fun W =>
    Trim_any ⟨(Lib.cut s.data.toList [58]).2.1.toArray⟩ W (by unfold maxLen; show (Lib.cut s.data.toList [58]).2.1.toArray.size ≤ _; simp; omega)
  have z3 : (lineV s.data.toList).length ≤ s.size := by
    have := trimS_len (Lib.cut s.data.toList [58]).2.1 [32, 9]
    show (Lib.trimS (Lib.cut s.data.toList [58]).2.1 [32, 9]).length ≤ s.size
    omega
  have HV : Hid (∀ W : World, Calls Tryz.prog 40 #[.string ⟨(lineV s.data.toList).toArray⟩] W fun e w' => e = .returned (errV (valueC (lineV s.data.toList))) ∧ W = w') := Lib.hid fun W =>
    value_any ⟨(lineV s.data.toList).toArray⟩ W (by unfold maxLen; show (lineV s.data.toList).toArray.size ≤ _; simp; omega)
  have i1 := nameC_in (Lib.cut s.data.toList [58]).1
  have i2 := valueC_in (lineV s.data.toList)
  generalize nameC (Lib.cut s.data.toList [58]).1 = a at HN i1 ⊢
  generalize valueC (lineV s.data.toList) = b at HV i2 ⊢
  generalize (⟨(Lib.cut s.data.toList [58]).1.toArray⟩ : ByteArray) = n at HC HN ⊢
  generalize (⟨(Lib.cut s.data.toList [58]).2.1.toArray⟩ : ByteArray) = v0 at HC HT
  generalize (Lib.cut s.data.toList [58]).2.2 = f at HC ⊢
  generalize (⟨(lineV s.data.toList).toArray⟩ : ByteArray) = v at HV HT ⊢
  have hE1 : ∀ (W : World) (c : Int), (binOp .neq 27 (.iface 38 (.int .i64 c)) .nilIface).run Tryz.prog W = .ok (.bool true) W := fun W c => run_neq_iface_nil_right W _ _ Tryz.underlying27
  obtain ⟨W1, hW1⟩ : ∃ W1, W1 = w.alloc (.cells #[.string ⟨#[]⟩, .string ⟨#[]⟩] 60) := ⟨_, rfl⟩
  have hB0 : Below w.heap.size w W1 := by rw [hW1]; exact (Below.refl _ _).alloc (Nat.le_refl _) _
  have HB0 := Lib.hid hB0
  have HE0 := Lib.hid (hE.below hB0)
  have U1 : Hid (Under (w.heap.size + 1) W1 W1) := Lib.hid ⟨Below.refl _ _, by rw [hW1]; simp⟩
  have K : Hid (∀ W, Under (w.heap.size + 1) W1 W → W.cell? ⟨w.heap.size, 0, none⟩ = some (.string ⟨#[]⟩) ∧ W.cell? ⟨w.heap.size, 1, none⟩ = some (.string ⟨#[]⟩) ∧ W.frozen? ⟨w.heap.size, 0, none⟩ = false ∧ W.frozen? ⟨w.heap.size, 1, none⟩ = false) := Lib.hid fun W h => by
    rw [below_cell h.below _ (by simp), below_cell h.below _ (by simp), below_frozen h.below _ (by simp), below_frozen h.below _ (by simp), hW1]
    simp
  clear hE hB0 z1 z2 z3 hs
  cases f <;> rcases i1 with rfl | rfl | rfl <;> rcases i2 with rfl | rfl | rfl
  all_goals
    try rw [errV_zero] at HN
    try rw [errV_pos (by decide : (10 : Int) ≠ 0)] at HN
    try rw [errV_pos (by decide : (12 : Int) ≠ 0)] at HN
    try rw [errV_zero] at HV
    try rw [errV_pos (by decide : (10 : Int) ≠ 0)] at HV
    try rw [errV_pos (by decide : (12 : Int) ≠ 0)] at HV
    go_enter Tryz.func43, Tryz.ntmps43
    go_wp2_with fail
    rw [← hW1]
    clear hW1
    refine (HC.out _ HE0.out).mono ?_; rintro e w2 ⟨rfl, hb2⟩; have U2 := Lib.hid (U1.out.step hb2); clear hb2
    go_wp2_with fail
    refine (HT.out _).mono ?_; rintro e w3 ⟨rfl, hb3⟩; have U3 := Lib.hid (U2.out.step hb3); clear hb3
    obtain ⟨k1, k2, k3, k4⟩ := K.out w3 U3.out
    go_wp2_with (first
      | (go_at_call 39; refine (HN.out _).mono ?_; rintro e w' ⟨rfl, rfl⟩)
      | (go_at_call 40; refine (HV.out _).mono ?_; rintro e w' ⟨rfl, rfl⟩)
      | (go_at_call 13; with_reducible refine (is_nil _ _).mono ?_; rintro e w' ⟨rfl, rfl⟩)
      | (go_at_call 13; with_reducible refine (is_num _ _ _).mono ?_; rintro e w' ⟨rfl, rfl⟩))
    (try simp only [Exit.inBlock, Exit.then])
    refine bodyPost_ret (v := parseV _ _ _ n v) ?_ rfl ⟨rfl, ?_⟩
    · rw [results_cell_tmp rfl]
      simp only [parseV]
      go_simp
    · exact ((HB0.out.trans (U3.out.below.mono (by omega))).setCell (Nat.le_refl _) _).setCell (Nat.le_refl _) _
end Go.Proofs.YtfbpiknckjgfnaaGreatDoor
