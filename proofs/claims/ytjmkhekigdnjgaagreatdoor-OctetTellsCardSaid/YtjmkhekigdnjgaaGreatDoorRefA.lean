/-
  The document's octets (conduitref1): single bytes, In, Token, Dec, Hex: the same as package octet's.
-/
import Derived.Test.YtjmkhekigdnjgaaGreatDoorOctF
namespace Go.Proofs.YtjmkhekigdnjgaaGreatDoor
open Go.RowKit Go.Shelf

def letterB (c : Int) : Bool := decide (97 ≤ c) && decide (c ≤ 122) || decide (65 ≤ c) && decide (c ≤ 90)
theorem plain_letter (c : Int) : plainB c = (letterB c || decB c) := rfl

theorem letter_any (c : Int) (w : World) :
    Calls Tryz.prog 32 #[.int .u8 c] w fun e w' => e = .returned (.bool (letterB c)) ∧ w = w' := by
  have key : ∀ b, letterB c = b → Calls Tryz.prog 32 #[.int .u8 c] w fun e w' => e = .returned (.bool b) ∧ w = w' := by
    intro b hb
    unfold letterB at hb
    have hb := Lib.hid hb
    by_cases a1 : 97 ≤ c <;> by_cases a2 : c ≤ 122 <;> by_cases a3 : 65 ≤ c <;> by_cases a4 : c ≤ 90 <;> first
     | (exfalso; omega)
     | (go_enter Tryz.func32, Tryz.ntmps32
        go_wp2
        go_ret
        exact ⟨ret_bool (by rw [← hb.out]; simp [*]), rfl⟩)
  exact key _ rfl
theorem digit_any (c : Int) (w : World) :
    Calls Tryz.prog 26 #[.int .u8 c] w fun e w' => e = .returned (.bool (decB c)) ∧ w = w' := by
  have key : ∀ b, decB c = b → Calls Tryz.prog 26 #[.int .u8 c] w fun e w' => e = .returned (.bool b) ∧ w = w' := by
    intro b hb
    unfold decB at hb
    have hb := Lib.hid hb
    by_cases a5 : 48 ≤ c <;> by_cases a6 : c ≤ 57 <;> first
     | (exfalso; omega)
     | (go_enter Tryz.func26, Tryz.ntmps26
        go_wp2
        go_ret
        exact ⟨ret_bool (by rw [← hb.out]; simp [*]), rfl⟩)
  exact key _ rfl
def blankB (c : Int) : Bool := decide (c = 32) || decide (c = 9)
theorem blank_any (c : Int) (w : World) :
    Calls Tryz.prog 35 #[.int .u8 c] w fun e w' => e = .returned (.bool (blankB c)) ∧ w = w' := by
  have key : ∀ b, blankB c = b → Calls Tryz.prog 35 #[.int .u8 c] w fun e w' => e = .returned (.bool b) ∧ w = w' := by
    intro b hb
    unfold blankB at hb
    have hb := Lib.hid hb
    by_cases a5 : c = 32 <;> by_cases a6 : c = 9 <;> first
     | (exfalso; omega)
     | (go_enter Tryz.func35, Tryz.ntmps35
        go_wp2
        go_ret
        exact ⟨ret_bool (by rw [← hb.out]; simp [*]), rfl⟩)
  exact key _ rfl

/-- What a digit of base 16 is worth; -1: it is none. -/
def nibV (c : Int) : Int := if hexB c = true then digV c else -1
theorem nib_dec {c : Int} (h1 : 48 ≤ c) (h2 : c ≤ 57) : nibV c = c - 48 := by
  unfold nibV; rw [if_pos (by simp [hexB, decB]; omega)]; unfold digV; rw [if_pos h2]
theorem nib_low {c : Int} (h1 : 97 ≤ c) (h2 : c ≤ 102) : nibV c = c - 97 + 10 := by
  unfold nibV; rw [if_pos (by simp [hexB, decB]; omega)]; unfold digV; rw [if_neg (by omega), if_pos h1]; omega
theorem nib_up {c : Int} (h1 : 65 ≤ c) (h2 : c ≤ 70) : nibV c = c - 65 + 10 := by
  unfold nibV; rw [if_pos (by simp [hexB, decB]; omega)]; unfold digV; rw [if_neg (by omega), if_neg (by omega)]; omega
theorem nib_none {c : Int} (h : hexB c = false) : nibV c = -1 := by unfold nibV; rw [if_neg (by simp [h])]
theorem nib_hex {c : Int} (h : hexB c = true) : nibV c = digV c ∧ 0 ≤ nibV c ∧ nibV c < 16 := by
  have e : nibV c = digV c := by unfold nibV; rw [if_pos h]
  have := digV_range (b := 16) (c := c) (.inr rfl) (by simpa [digB] using h)
  exact ⟨e, by omega, by omega⟩
theorem nibble_any (c : Int) (w : World) :
    Calls Tryz.prog 28 #[.int .u8 c] w fun e w' => e = .returned (.int .i64 (nibV c)) ∧ w = w' := by
  by_cases d : 48 ≤ c ∧ c ≤ 57
  · obtain ⟨d1, d2⟩ := d
    have hd : decB c = true := by simp [decB]; omega
    rw [nib_dec d1 d2]
    go_enter Tryz.func28, Tryz.ntmps28
    go_wp2_with (go_at_call 26; refine (digit_any _ _).mono ?_; rintro e w' ⟨rfl, rfl⟩; rw [hd])
    go_ret
    exact ⟨rfl, rfl⟩
  have hd : decB c = false := by simp [decB]; omega
  by_cases l : 97 ≤ c ∧ c ≤ 102
  · obtain ⟨d1, d2⟩ := l
    clear d
    rw [nib_low d1 d2]
    go_enter Tryz.func28, Tryz.ntmps28
    go_wp2_with (go_at_call 26; refine (digit_any _ _).mono ?_; rintro e w' ⟨rfl, rfl⟩; rw [hd])
    go_ret
    exact ⟨rfl, rfl⟩
  by_cases u : 65 ≤ c ∧ c ≤ 70
  · obtain ⟨d1, d2⟩ := u
    clear d l
    rw [nib_up d1 d2]
    have d3 : c < 97 := by omega
    go_enter Tryz.func28, Tryz.ntmps28
    go_wp2_with (go_at_call 26; refine (digit_any _ _).mono ?_; rintro e w' ⟨rfl, rfl⟩; rw [hd])
    go_ret
    exact ⟨rfl, rfl⟩
  have hx : hexB c = false := by simp [hexB, hd]; omega
  rw [nib_none hx]
  have q1 : c < 97 ∨ 102 < c := by omega
  have q2 : c < 65 ∨ 70 < c := by omega
  clear d l u hx
  rcases q1 with q1 | q1 <;> rcases q2 with q2 | q2 <;> first
   | (exfalso; omega)
   | (go_enter Tryz.func28, Tryz.ntmps28
      go_wp2_with (go_at_call 26; refine (digit_any _ _).mono ?_; rintro e w' ⟨rfl, rfl⟩; rw [hd])
      go_ret
      exact ⟨rfl, rfl⟩)

/-- Is a byte in a text? -/
def inB (c : Int) (l : List UInt8) : Bool := l.any fun x => decide ((x.toNat : Int) = c)
theorem inB_step {c : Int} {s : ByteArray} {k : Nat} (hk : k < s.size) (h : inB c (s.data.toList.take k) = false) (h2 : (s[k].toNat : Int) ≠ c) : inB c (s.data.toList.take (k + 1)) = false := by
  unfold inB at *
  rw [take_snoc s k hk, List.any_append, h]
  simp [h2]
theorem inB_hit {c : Int} {s : ByteArray} {k : Nat} (hk : k < s.size) (h : (s[k].toNat : Int) = c) : inB c s.data.toList = true := by
  unfold inB
  rw [List.any_eq_true]
  exact ⟨s[k], by simp [ByteArray.getElem_eq_getElem_data], by simp [h]⟩
theorem In_any (c : Int) (s : ByteArray) (w : World) (hs : s.size ≤ maxLen) :
    Calls Tryz.prog 33 #[.int .u8 c, .string s] w fun e w' => e = .returned (.bool (inB c s.data.toList)) ∧ w = w' := by
  unfold maxLen at hs
  go_enter Tryz.func33, Tryz.ntmps33
  go_wp2
  go_loop [5] (fun i => ∃ k : Nat, k ≤ s.size ∧ i = .int .i64 k ∧ Hid (inB c (s.data.toList.take k) = false)) (fun i => s.size - (intOf i).toNat)
  case atStart => exact ⟨0, Nat.zero_le _, rfl, rfl⟩
  case round =>
    obtain ⟨k, hk, rfl, HA⟩ := hrel
    by_cases hlt : k < s.size
    · by_cases hp : (s[k].toNat : Int) = c
      · have h1 := Lib.hid (inB_hit hlt hp)
        go_wp2
        go_ret
        exact ⟨ret_bool h1.out.symm, rfl⟩
      · have h1 := Lib.hid (inB_step hlt HA.out hp)
        go_wp2
        go_round
        case rel => exact ⟨k + 1, by omega, by go_num, h1⟩
        case measure => simp [intOf]; omega
    · have h1 := HA.out
      rw [take_all s k hk hlt] at h1
      have h2 := Lib.hid h1; clear h1
      go_wp2
      go_ret
      exact ⟨ret_bool h2.out.symm, rfl⟩

def some14L : List UInt8 := [33, 35, 36, 37, 38, 39, 42, 43, 45, 46, 94, 95, 124, 126]
theorem token_parts (b : UInt8) : tokenB (b.toNat : Int) = (letterB (b.toNat : Int) || decB (b.toNat : Int) || inB (b.toNat : Int) some14L || decide ((b.toNat : Int) = 96)) := by
  have key : ∀ n : Fin 256, tokenB (n.val : Int) = (letterB (n.val : Int) || decB (n.val : Int) || inB (n.val : Int) some14L || decide ((n.val : Int) = 96)) := by decide +kernel
  exact key ⟨b.toNat, b.toNat_lt⟩

set_option maxHeartbeats 1000000 in
theorem refToken_any (s : ByteArray) (w : World) (hs : s.size ≤ maxLen) :
    Calls Tryz.prog 12 #[.string s] w fun e w' => e = .returned (.bool (allB tokenB s.data.toList)) ∧ w = w' := by
  unfold maxLen at hs
  have HI : Hid (∀ (c : Int) (W : World), Calls Tryz.prog 33 #[.int .u8 c, .string ⟨#[33, 35, 36, 37, 38, 39, 42, 43, 45, 46, 94, 95, 124, 126]⟩] W fun e w' => e = .returned (.bool (inB c some14L)) ∧ W = w') :=
    Lib.hid fun c W => In_any c ⟨#[33, 35, 36, 37, 38, 39, 42, 43, 45, 46, 94, 95, 124, 126]⟩ W (by unfold maxLen; show 14 ≤ _; decide)
  go_enter Tryz.func12, Tryz.ntmps12
  go_wp2
  go_loop [3] (fun i => ∃ k : Nat, k ≤ s.size ∧ i = .int .i64 k ∧ Hid ((s.data.toList.take k).all (fun c => tokenB (c.toNat : Int)) = true)) (fun i => s.size - (intOf i).toNat)
  case atStart => exact ⟨0, Nat.zero_le _, rfl, rfl⟩
  case round =>
    obtain ⟨k, hk, rfl, HA⟩ := hrel
    by_cases hlt : k < s.size
    · have htp := token_parts s[k]
      have HS : Hid (tokenB (s[k].toNat : Int) = true → (s.data.toList.take (k + 1)).all (fun c => tokenB (c.toNat : Int)) = true) := Lib.hid fun h => all_step hlt HA.out h
      have HF : Hid (tokenB (s[k].toNat : Int) = false → allB tokenB s.data.toList = false) := Lib.hid fun h => by unfold allB; rw [all_false hlt h]; rfl
      clear HA
      generalize hc : (s[k].toNat : Int) = c at htp HS HF
      cases hl : letterB c
      · cases hd : decB c
        · cases hi : inB c some14L
          · rw [hl, hd, hi] at htp
            by_cases h96 : c = 96
            · subst h96
              have h1 := Lib.hid (HS.out (by rw [htp]; simp))
              clear htp HS HF
              have hl := Lib.hid hl; have hd := Lib.hid hd; have hi := Lib.hid hi
              go_wp2_with (first
                | (go_at_call 32; refine (letter_any _ _).mono ?_; rintro e w' ⟨rfl, rfl⟩; rw [hl.out])
                | (go_at_call 26; refine (digit_any _ _).mono ?_; rintro e w' ⟨rfl, rfl⟩; rw [hd.out])
                | (go_at_call 33; refine (HI.out _ _).mono ?_; rintro e w' ⟨rfl, rfl⟩; rw [hi.out]))
              go_round
              case rel => exact ⟨k + 1, by omega, by go_num, h1⟩
              case measure => simp [intOf]; omega
            · have h1 := Lib.hid (HF.out (by rw [htp]; simp [h96]))
              clear htp HS HF
              have hl := Lib.hid hl; have hd := Lib.hid hd; have hi := Lib.hid hi
              go_wp2_with (first
                | (go_at_call 32; refine (letter_any _ _).mono ?_; rintro e w' ⟨rfl, rfl⟩; rw [hl.out])
                | (go_at_call 26; refine (digit_any _ _).mono ?_; rintro e w' ⟨rfl, rfl⟩; rw [hd.out])
                | (go_at_call 33; refine (HI.out _ _).mono ?_; rintro e w' ⟨rfl, rfl⟩; rw [hi.out]))
              go_ret
              exact ⟨ret_bool h1.out.symm, rfl⟩
          · have h1 := Lib.hid (HS.out (by rw [htp, hi]; simp))
            clear htp HS HF
            have hl := Lib.hid hl; have hd := Lib.hid hd; have hi := Lib.hid hi
            go_wp2_with (first
              | (go_at_call 32; refine (letter_any _ _).mono ?_; rintro e w' ⟨rfl, rfl⟩; rw [hl.out])
              | (go_at_call 26; refine (digit_any _ _).mono ?_; rintro e w' ⟨rfl, rfl⟩; rw [hd.out])
              | (go_at_call 33; refine (HI.out _ _).mono ?_; rintro e w' ⟨rfl, rfl⟩; rw [hi.out]))
            go_round
            case rel => exact ⟨k + 1, by omega, by go_num, h1⟩
            case measure => simp [intOf]; omega
        · have h1 := Lib.hid (HS.out (by rw [htp, hd]; simp))
          clear htp HS HF
          have hl := Lib.hid hl; have hd := Lib.hid hd
          go_wp2_with (first
            | (go_at_call 32; refine (letter_any _ _).mono ?_; rintro e w' ⟨rfl, rfl⟩; rw [hl.out])
            | (go_at_call 26; refine (digit_any _ _).mono ?_; rintro e w' ⟨rfl, rfl⟩; rw [hd.out]))
          go_round
          case rel => exact ⟨k + 1, by omega, by go_num, h1⟩
          case measure => simp [intOf]; omega
      · have h1 := Lib.hid (HS.out (by rw [htp, hl]; simp))
        clear htp HS HF
        have hl := Lib.hid hl
        go_wp2_with (go_at_call 32; refine (letter_any _ _).mono ?_; rintro e w' ⟨rfl, rfl⟩; rw [hl.out])
        go_round
        case rel => exact ⟨k + 1, by omega, by go_num, h1⟩
        case measure => simp [intOf]; omega
    · have h1 := HA.out
      rw [take_all s k hk hlt] at h1
      have h2 : Hid (allB tokenB s.data.toList = !s.toList.isEmpty) := Lib.hid (by unfold allB; rw [h1, ByteArray.toList_eq]; rfl)
      clear h1
      go_wp2
      go_ret
      exact ⟨ret_bool h2.out.symm, rfl⟩
end Go.Proofs.YtjmkhekigdnjgaaGreatDoor
