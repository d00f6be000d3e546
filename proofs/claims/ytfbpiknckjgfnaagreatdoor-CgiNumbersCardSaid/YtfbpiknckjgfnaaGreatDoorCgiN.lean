/-
  CgiNumbers' plain side: what a status of a number and of what is behind it is read as, at each number and each of the five.
-/
import Derived.Test.YtfbpiknckjgfnaaGreatDoorCgiA
import Derived.Test.YtfbpiknckjgfnaaGreatDoorCgiR
namespace Go.Proofs.YtfbpiknckjgfnaaGreatDoor
open Go.RowKit Go.Shelf

/-- What is behind the number. -/
def sufL : Nat → List UInt8
  | 0 => []
  | 1 => [32]
  | 2 => [32, 83, 111, 109, 101, 32, 114, 101, 97, 115, 111, 110]
  | 3 => [120]
  | _ => [9]
def numGood (k j : Nat) : Bool := decide (200 ≤ k) && (decide (k ≤ 599) && decide (j < 3))
def numSaid (k j : Nat) : Bool :=
  bif numGood k j then decide (statusR (natF 4 k ++ sufL j) = ((k : Int), (bif decide (j = 2) then [83, 111, 109, 101, 32, 114, 101, 97, 115, 111, 110] else reasonL k), 0))
  else decide (statusR (natF 4 k ++ sufL j) = (0, [], 10))
set_option maxRecDepth 100000 in
theorem num0 : ((List.range 1100).all fun k => numSaid k 0) = true := by kernel_rfl
set_option maxRecDepth 100000 in
theorem num1 : ((List.range 1100).all fun k => numSaid k 1) = true := by kernel_rfl
set_option maxRecDepth 100000 in
theorem num2 : ((List.range 1100).all fun k => numSaid k 2) = true := by kernel_rfl
set_option maxRecDepth 100000 in
theorem num3 : ((List.range 1100).all fun k => numSaid k 3) = true := by kernel_rfl
set_option maxRecDepth 100000 in
theorem num4 : ((List.range 1100).all fun k => numSaid k 4) = true := by kernel_rfl
theorem num_all (k j : Nat) (hk : k < 1100) (hj : j < 5) : numSaid k j = true := by
  have hm : k ∈ List.range 1100 := List.mem_range.2 hk
  match j, hj with
  | 0, _ => exact List.all_eq_true.1 num0 k hm
  | 1, _ => exact List.all_eq_true.1 num1 k hm
  | 2, _ => exact List.all_eq_true.1 num2 k hm
  | 3, _ => exact List.all_eq_true.1 num3 k hm
  | 4, _ => exact List.all_eq_true.1 num4 k hm
theorem sufL_len (j : Nat) : (sufL j).length ≤ 12 := by
  unfold sufL
  split <;> simp
theorem num_good (k j : Nat) (hk : k < 1100) (hj : j < 5) (h : numGood k j = true) (s : ByteArray) (hs : s.data.toList = natF 4 k ++ sufL j) (w : World) (hE : Env w) :
    Calls Tryz.prog 16 #[.string s] w fun e w' => e = .returned (.tuple #[.int .i64 k, .string ⟨(bif decide (j = 2) then [83, 111, 109, 101, 32, 114, 101, 97, 115, 111, 110] else reasonL k).toArray⟩, .nilIface]) ∧ Below w.heap.size w w' := by
  have hl : s.size < 4294967281 := by
    rw [← len_eq, hs, List.length_append]
    have := natF_len 4 k
    have := sufL_len j
    omega
  have hq := num_all k j hk hj
  unfold numSaid at hq
  rw [h, cond_true, decide_eq_true_eq, ← hs] at hq
  have := Status_any s w hl hE
  rw [hq] at this
  exact this
theorem num_bad (k j : Nat) (hk : k < 1100) (hj : j < 5) (h : numGood k j = false) (s : ByteArray) (hs : s.data.toList = natF 4 k ++ sufL j) (w : World) (hE : Env w) :
    Calls Tryz.prog 16 #[.string s] w fun e w' => e = .returned (.tuple #[.int .i64 0, .string ⟨#[]⟩, .iface 38 (.int .i64 10)]) ∧ Below w.heap.size w w' := by
  have hl : s.size < 4294967281 := by
    rw [← len_eq, hs, List.length_append]
    have := natF_len 4 k
    have := sufL_len j
    omega
  have hq := num_all k j hk hj
  unfold numSaid at hq
  rw [h, cond_false, decide_eq_true_eq, ← hs] at hq
  have := Status_any s w hl hE
  rw [hq] at this
  exact this
end Go.Proofs.YtfbpiknckjgfnaaGreatDoor
