/-
  The single bytes of package octet: isPlain, isToken, isDec, isHex; all, Token: what each answers.
-/
import Derived.Test.YtfbpiknckjgfnaaGreatDoorBase
import Derived.WalkKit
import Derived.WalkSpells
import Derived.BigQuiet
import Derived.Lib.Hide
import Derived.Deep.QuietTactic
import Derived.Shelf.Abstract
namespace Go.Proofs.YtfbpiknckjgfnaaGreatDoor
open Go.RowKit Go.Shelf

def plainB (c : Int) : Bool := decide (97 ≤ c) && decide (c ≤ 122) || decide (65 ≤ c) && decide (c ≤ 90) || decide (48 ≤ c) && decide (c ≤ 57)
def decB (c : Int) : Bool := decide (48 ≤ c) && decide (c ≤ 57)
def hexB (c : Int) : Bool := decB c || decide (97 ≤ c) && decide (c ≤ 102) || decide (65 ≤ c) && decide (c ≤ 70)
def signs : List Int := [33, 35, 36, 37, 38, 39, 42, 43, 45, 46, 94, 95, 96, 124, 126]
def tokenB (c : Int) : Bool := signs.contains c || plainB c

theorem isPlain_any (c : Int) (w : World) :
    Calls Tryz.prog 84 #[.int .u8 c] w fun e w' => e = .returned (.bool (plainB c)) ∧ w = w' := by
  have key : ∀ b, plainB c = b → Calls Tryz.prog 84 #[.int .u8 c] w fun e w' => e = .returned (.bool b) ∧ w = w' := by
    intro b hb
    unfold plainB at hb
    have hb := Lib.hid hb
    by_cases a1 : 97 ≤ c <;> by_cases a2 : c ≤ 122 <;> by_cases a3 : 65 ≤ c <;> by_cases a4 : c ≤ 90 <;> by_cases a5 : 48 ≤ c <;> by_cases a6 : c ≤ 57 <;> first
     | (exfalso; omega)
     | (go_enter Tryz.func84, Tryz.ntmps84
        go_wp2
        go_ret
        exact ⟨ret_bool (by rw [← hb.out]; simp [*]), rfl⟩)
  exact key _ rfl

theorem isDec_any (c : Int) (w : World) :
    Calls Tryz.prog 37 #[.int .u8 c] w fun e w' => e = .returned (.bool (decB c)) ∧ w = w' := by
  have key : ∀ b, decB c = b → Calls Tryz.prog 37 #[.int .u8 c] w fun e w' => e = .returned (.bool b) ∧ w = w' := by
    intro b hb
    unfold decB at hb
    have hb := Lib.hid hb
    by_cases a5 : 48 ≤ c <;> by_cases a6 : c ≤ 57 <;> first
     | (exfalso; omega)
     | (go_enter Tryz.func37, Tryz.ntmps37
        go_wp2
        go_ret
        exact ⟨ret_bool (by rw [← hb.out]; simp [*]), rfl⟩)
  exact key _ rfl

theorem isToken_any (c : Int) (w : World) :
    Calls Tryz.prog 71 #[.int .u8 c] w fun e w' => e = .returned (.bool (tokenB c)) ∧ w = w' := by
  by_cases hc : c ∈ signs
  · have hb : tokenB c = true := by unfold tokenB; simp [hc]
    rw [hb]
    simp only [signs, List.mem_cons, List.mem_nil_iff, or_false] at hc
    rcases hc with rfl | rfl | rfl | rfl | rfl | rfl | rfl | rfl | rfl | rfl | rfl | rfl | rfl | rfl | rfl <;>
     (go_enter Tryz.func71, Tryz.ntmps71
      go_wp2
      go_ret
      exact ⟨rfl, rfl⟩)
  · have hb : tokenB c = plainB c := by unfold tokenB; simp [hc]
    rw [hb]
    simp only [signs, List.mem_cons, List.mem_nil_iff, or_false, not_or] at hc
    obtain ⟨c1, c2, c3, c4, c5, c6, c7, c8, c9, c10, c11, c12, c13, c14, c15⟩ := hc
    go_enter Tryz.func71, Tryz.ntmps71
    go_wp2_with (go_at_call 84; refine (isPlain_any _ _).mono ?_; rintro e w' ⟨rfl, rfl⟩)
    go_ret
    exact ⟨rfl, rfl⟩

/-- A function value that answers a bool of a byte, and turns nothing. -/
structure Asks (g : FuncId) (p : Int → Bool) : Prop where
  enters : ∀ (args : Array Value) (w : World), (callFunc g args).run Tryz.prog w = .ok (.enter g args) w
  answers : ∀ (c : Int) (w : World), Calls Tryz.prog g #[.int .u8 c] w fun e w' => e = .returned (.bool (p c)) ∧ w = w'
theorem asks_token : Asks 71 tokenB := ⟨enters_of Tryz.func71 (by kernel_rfl) rfl, isToken_any⟩
theorem asks_dec : Asks 37 decB := ⟨enters_of Tryz.func37 (by kernel_rfl) rfl, isDec_any⟩

/-- Some bytes, and all of them so. -/
def allB (p : Int → Bool) (l : List UInt8) : Bool := l.all (fun c => p (c.toNat : Int)) && !l.isEmpty

theorem all_false {p : Int → Bool} {s : ByteArray} {k : Nat} (hk : k < s.size) (h : p (s[k].toNat : Int) = false) : s.data.toList.all (fun c => p (c.toNat : Int)) = false := by
  rw [List.all_eq_false]
  exact ⟨s[k], by simp [ByteArray.getElem_eq_getElem_data], by simp [h]⟩
theorem all_step {p : Int → Bool} {s : ByteArray} {k : Nat} (hk : k < s.size) (h : (s.data.toList.take k).all (fun c => p (c.toNat : Int)) = true) (h2 : p (s[k].toNat : Int) = true) :
    (s.data.toList.take (k + 1)).all (fun c => p (c.toNat : Int)) = true := by
  rw [take_snoc s k hk, List.all_append, h]
  simp [h2]
theorem all_any {g : FuncId} {p : Int → Bool} (h : Asks g p) (s : ByteArray) (w : World) (hs : s.size ≤ maxLen) :
    Calls Tryz.prog 47 #[.string s, .func (.func g) #[] #[]] w fun e w' => e = .returned (.bool (allB p s.data.toList)) ∧ w = w' := by
  unfold maxLen at hs
  have eg := h.enters
  go_enter Tryz.func47, Tryz.ntmps47
  go_wp2
  go_loop [8] (fun i => ∃ k : Nat, k ≤ s.size ∧ i = .int .i64 k ∧ (s.data.toList.take k).all (fun c => p (c.toNat : Int)) = true) (fun i => s.size - (intOf i).toNat)
  case atStart => exact ⟨0, Nat.zero_le _, rfl, rfl⟩
  case round =>
    obtain ⟨k, hk, rfl, hal⟩ := hrel
    have HA := Lib.hid hal; clear hal
    by_cases hlt : k < s.size
    · cases hp : p (s[k].toNat : Int)
      · go_wp2_with (go_at_fn g; refine (h.answers _ _).mono ?_; rintro e w' ⟨rfl, rfl⟩)
        go_ret
        exact ⟨ret_bool (by unfold allB; rw [all_false hlt hp]; rfl), rfl⟩
      · go_wp2_with (go_at_fn g; refine (h.answers _ _).mono ?_; rintro e w' ⟨rfl, rfl⟩)
        go_round
        case rel => exact ⟨k + 1, by omega, by go_num, all_step hlt HA.out hp⟩
        case measure => simp [intOf]; omega
    · go_wp2
      go_ret
      refine ⟨ret_bool ?_, rfl⟩
      have e : s.data.toList.take k = s.data.toList := List.take_of_length_le (by simp; have : s.size = s.data.size := rfl; omega)
      have h2 := HA.out
      rw [e] at h2
      unfold allB
      rw [h2, ByteArray.toList_eq]; rfl
end Go.Proofs.YtfbpiknckjgfnaaGreatDoor
