/-
  Package field: isValue, name, value, same; package reply: Reason: what each answers.
-/
import Derived.Test.YtfbpiknckjgfnaaGreatDoorOctD
import Derived.Test.YtfbpiknckjgfnaaGreatDoorOctB
import Derived.Test.YtfbpiknckjgfnaaGreatDoorEnv
namespace Go.Proofs.YtfbpiknckjgfnaaGreatDoor
open Go.RowKit Go.Shelf

/-- A byte that may be in a value. -/
def valB (c : Int) : Bool := decide (c = 9) || (decide (32 ≤ c) && !decide (c = 127))
theorem isValue_any (c : Int) (w : World) :
    Calls Tryz.prog 57 #[.int .u8 c] w fun e w' => e = .returned (.bool (valB c)) ∧ w = w' := by
  have key : ∀ b, valB c = b → Calls Tryz.prog 57 #[.int .u8 c] w fun e w' => e = .returned (.bool b) ∧ w = w' := by
    intro b hb
    unfold valB at hb
    have hb := Lib.hid hb
    by_cases a1 : c = 9 <;> by_cases a2 : 32 ≤ c <;> by_cases a3 : c = 127 <;> first
     | (exfalso; omega)
     | (go_enter Tryz.func57, Tryz.ntmps57
        go_wp2
        go_ret
        exact ⟨ret_bool (by rw [← hb.out]; simp [*]), rfl⟩)
  exact key _ rfl

/-- Why a name isn't one; 0: it is. -/
def nameC (l : List UInt8) : Int := if allB tokenB l = true then (if 64 < l.length then 12 else 0) else 10
theorem name_any (s : ByteArray) (w : World) (hs : s.size ≤ maxLen) :
    Calls Tryz.prog 39 #[.string s] w fun e w' => e = .returned (errV (nameC s.data.toList)) ∧ w = w' := by
  have HT := Lib.hid (Token_any s w hs)
  unfold nameC
  rw [len_eq]
  unfold maxLen at hs
  cases ht : allB tokenB s.data.toList
  · rw [if_neg (by simp)]
    rw [ht] at HT
    clear ht
    go_enter Tryz.func39, Tryz.ntmps39
    go_wp2_with (go_at_call 56; refine HT.out.mono ?_; rintro e w' ⟨rfl, rfl⟩)
    go_ret
    exact ⟨rfl, rfl⟩
  · rw [if_pos rfl]
    rw [ht] at HT
    clear ht
    by_cases hl : 64 < s.size
    · rw [if_pos hl]
      go_enter Tryz.func39, Tryz.ntmps39
      go_wp2_with (go_at_call 56; refine HT.out.mono ?_; rintro e w' ⟨rfl, rfl⟩)
      go_ret
      exact ⟨rfl, rfl⟩
    · rw [if_neg hl]
      go_enter Tryz.func39, Tryz.ntmps39
      go_wp2_with (go_at_call 56; refine HT.out.mono ?_; rintro e w' ⟨rfl, rfl⟩)
      go_ret
      exact ⟨rfl, rfl⟩

/-- Why a value isn't one; 0: it is. -/
def valueC (l : List UInt8) : Int := if l.all (fun c => valB (c.toNat : Int)) = true then (if 512 < l.length then 12 else 0) else 10
theorem value_any (s : ByteArray) (w : World) (hs : s.size ≤ maxLen) :
    Calls Tryz.prog 40 #[.string s] w fun e w' => e = .returned (errV (valueC s.data.toList)) ∧ w = w' := by
  unfold maxLen at hs
  go_enter Tryz.func40, Tryz.ntmps40
  go_wp2
  go_loop [6] (fun i => ∃ k : Nat, k ≤ s.size ∧ i = .int .i64 k ∧ Hid ((s.data.toList.take k).all (fun c => valB (c.toNat : Int)) = true)) (fun i => s.size - (intOf i).toNat)
  case atStart => exact ⟨0, Nat.zero_le _, rfl, rfl⟩
  case round =>
    obtain ⟨k, hk, rfl, HA⟩ := hrel
    by_cases hlt : k < s.size
    · cases hp : valB (s[k].toNat : Int)
      · have H1 : Hid (errV (valueC s.data.toList) = .iface 38 (.int .i64 10)) := Lib.hid (by unfold valueC; rw [if_neg (by rw [all_false hlt hp]; simp)]; rfl)
        have hp2 := Lib.hid hp; clear hp
        go_wp2_with (go_at_call 57; refine (isValue_any _ _).mono ?_; rintro e w' ⟨rfl, rfl⟩; rw [hp2.out])
        go_ret
        exact ⟨congrArg Ending.returned H1.out.symm, rfl⟩
      · have h1 := Lib.hid (all_step hlt HA.out hp)
        have hp2 := Lib.hid hp; clear hp
        go_wp2_with (go_at_call 57; refine (isValue_any _ _).mono ?_; rintro e w' ⟨rfl, rfl⟩; rw [hp2.out])
        go_round
        case rel => exact ⟨k + 1, by omega, by go_num, h1⟩
        case measure => simp [intOf]; omega
    · have h1 := HA.out
      rw [take_all s k hk hlt] at h1
      by_cases hl : 512 < s.size
      · have H1 : Hid (errV (valueC s.data.toList) = .iface 38 (.int .i64 12)) := Lib.hid (by unfold valueC; rw [if_pos h1, len_eq, if_pos hl]; rfl)
        clear h1
        go_wp2
        go_ret
        exact ⟨congrArg Ending.returned H1.out.symm, rfl⟩
      · have H1 : Hid (errV (valueC s.data.toList) = .nilIface) := Lib.hid (by unfold valueC; rw [if_pos h1, len_eq, if_neg hl]; rfl)
        clear h1
        go_wp2
        go_ret
        exact ⟨congrArg Ending.returned H1.out.symm, rfl⟩

/-- Are names the same? -/
def sameB (a b : List UInt8) : Bool := decide (lowerL a = lowerL b)
theorem same_any (a b : ByteArray) (w : World) (ha : a.size ≤ maxLen) (hb : b.size ≤ maxLen) :
    Calls Tryz.prog 73 #[.string a, .string b] w fun e w' => e = .returned (.bool (sameB a.data.toList b.data.toList)) ∧ Below w.heap.size w w' := by
  have HA := Lib.hid (Lower_any a w ha)
  have HB : Hid (∀ W : World, Calls Tryz.prog 85 #[.string b] W fun e w' => e = .returned (.string ⟨(lowerL b.data.toList).toArray⟩) ∧ Below W.heap.size W w') := Lib.hid fun W => Lower_any b W hb
  unfold sameB
  clear ha hb
  generalize lowerL a.data.toList = p at HA ⊢
  generalize lowerL b.data.toList = q at HB ⊢
  by_cases h : p = q
  · subst h
    rw [decide_eq_true rfl]
    go_enter Tryz.func73, Tryz.ntmps73
    go_wp2_with fail
    refine HA.out.mono ?_; rintro e w1 ⟨rfl, hb1⟩; have HB1 := Lib.hid hb1; have hz1 := hb1.size; clear hb1
    go_wp2_with fail
    refine (HB.out _).mono ?_; rintro e w2 ⟨rfl, hb2⟩; have HB2 := Lib.hid (HB1.out.trans (hb2.mono hz1)); clear hb2
    go_wp2
    go_ret
    exact ⟨rfl, HB2.out⟩
  · rw [decide_eq_false h]
    go_enter Tryz.func73, Tryz.ntmps73
    go_wp2_with fail
    refine HA.out.mono ?_; rintro e w1 ⟨rfl, hb1⟩; have HB1 := Lib.hid hb1; have hz1 := hb1.size; clear hb1
    go_wp2_with fail
    refine (HB.out _).mono ?_; rintro e w2 ⟨rfl, hb2⟩; have HB2 := Lib.hid (HB1.out.trans (hb2.mono hz1)); clear hb2
    go_wp2
    go_ret
    exact ⟨ret_bool (by simp [h]), HB2.out⟩

/-! ### Reasons -/
def reasons : List (Int × List UInt8) := [(100, [67, 111, 110, 116, 105, 110, 117, 101]), (200, [79, 75]), (204, [78, 111, 32, 67, 111, 110, 116, 101, 110, 116]), (302, [70, 111, 117, 110, 100]), (304, [78, 111, 116, 32, 77, 111, 100, 105, 102, 105, 101, 100]), (400, [66, 97, 100, 32, 82, 101, 113, 117, 101, 115, 116]), (404, [78, 111, 116, 32, 70, 111, 117, 110, 100]), (405, [77, 101, 116, 104, 111, 100, 32, 78, 111, 116, 32, 65, 108, 108, 111, 119, 101, 100]), (413, [67, 111, 110, 116, 101, 110, 116, 32, 84, 111, 111, 32, 76, 97, 114, 103, 101]), (431, [82, 101, 113, 117, 101, 115, 116, 32, 72, 101, 97, 100, 101, 114, 32, 70, 105, 101, 108, 100, 115, 32, 84, 111, 111, 32, 76, 97, 114, 103, 101]), (500, [73, 110, 116, 101, 114, 110, 97, 108, 32, 83, 101, 114, 118, 101, 114, 32, 69, 114, 114, 111, 114]), (501, [78, 111, 116, 32, 73, 109, 112, 108, 101, 109, 101, 110, 116, 101, 100]), (502, [66, 97, 100, 32, 71, 97, 116, 101, 119, 97, 121]), (503, [83, 101, 114, 118, 105, 99, 101, 32, 85, 110, 97, 118, 97, 105, 108, 97, 98, 108, 101]), (504, [71, 97, 116, 101, 119, 97, 121, 32, 84, 105, 109, 101, 111, 117, 116]), (505, [72, 84, 84, 80, 32, 86, 101, 114, 115, 105, 111, 110, 32, 78, 111, 116, 32, 83, 117, 112, 112, 111, 114, 116, 101, 100])]
def unknownL : List UInt8 := [85, 110, 107, 110, 111, 119, 110]
def reasonL (n : Int) : List UInt8 := (reasons.lookup n).getD unknownL
theorem reason_none (n : Int) (h : ¬ (n = 100 ∨ n = 200 ∨ n = 204 ∨ n = 302 ∨ n = 304 ∨ n = 400 ∨ n = 404 ∨ n = 405 ∨ n = 413 ∨ n = 431 ∨ n = 500 ∨ n = 501 ∨ n = 502 ∨ n = 503 ∨ n = 504 ∨ n = 505)) : reasonL n = unknownL := by
  unfold reasonL
  have : reasons.lookup n = none := by
    simp only [not_or] at h
    obtain ⟨x100, x200, x204, x302, x304, x400, x404, x405, x413, x431, x500, x501, x502, x503, x504, x505⟩ := h
    have e : ∀ k : Int, ¬ n = k → (n == k) = false := fun k h => beq_eq_false_iff_ne.2 h
    simp only [reasons, List.lookup, e _ x100, e _ x200, e _ x204, e _ x302, e _ x304, e _ x400, e _ x404, e _ x405, e _ x413, e _ x431, e _ x500, e _ x501, e _ x502, e _ x503, e _ x504, e _ x505]
  rw [this]; rfl
theorem Reason_any (n : Int) (w : World) :
    Calls Tryz.prog 29 #[.int .i64 n] w fun e w' => e = .returned (.string ⟨(reasonL n).toArray⟩) ∧ w = w' := by
  by_cases h : n = 100 ∨ n = 200 ∨ n = 204 ∨ n = 302 ∨ n = 304 ∨ n = 400 ∨ n = 404 ∨ n = 405 ∨ n = 413 ∨ n = 431 ∨ n = 500 ∨ n = 501 ∨ n = 502 ∨ n = 503 ∨ n = 504 ∨ n = 505
  · rcases h with rfl | rfl | rfl | rfl | rfl | rfl | rfl | rfl | rfl | rfl | rfl | rfl | rfl | rfl | rfl | rfl <;>
     (go_enter Tryz.func29, Tryz.ntmps29
      go_wp2
      go_ret
      exact ⟨rfl, rfl⟩)
  · rw [reason_none n h]
    simp only [not_or] at h
    obtain ⟨x100, x200, x204, x302, x304, x400, x404, x405, x413, x431, x500, x501, x502, x503, x504, x505⟩ := h
    go_enter Tryz.func29, Tryz.ntmps29
    go_wp2
    go_ret
    exact ⟨rfl, rfl⟩
end Go.Proofs.YtfbpiknckjgfnaaGreatDoor
