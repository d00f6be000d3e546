/-
  The plain laws of layer 1: escaped and unescaped; small letters, trimmed, again.
-/
import Derived.Test.YtjmkhekigdnjgaaGreatDoorOctG
namespace Go.Proofs.YtjmkhekigdnjgaaGreatDoor
open Go.RowKit Go.Shelf

theorem coded_esc (c : UInt8) (h : safeB (c.toNat : Int) = false) : codedL [37, hexC (c.toNat / 16), hexC (c.toNat % 16)] = if c = 0 then none else some c := by
  have key : ∀ n : Fin 256, safeB (n.val : Int) = false → codedL [37, hexC (n.val / 16), hexC (n.val % 16)] = if n.val = 0 then none else some (UInt8.ofNat n.val) := by decide +kernel
  have := key ⟨c.toNat, c.toNat_lt⟩ h
  simp only at this
  rw [this]
  have e : UInt8.ofNat c.toNat = c := UInt8.ofNat_toNat
  rw [e]
  by_cases hc : c = 0
  · subst hc; rfl
  · have : c.toNat ≠ 0 := fun e => hc (UInt8.toNat_inj.1 (by simpa using e))
    rw [if_neg hc, if_neg this]
theorem safe_not37 (c : UInt8) (h : safeB (c.toNat : Int) = true) : c ≠ 37 ∧ c ≠ 0 := by
  constructor
  · rintro rfl; revert h; decide
  · rintro rfl; revert h; decide
theorem back (l : List UInt8) : unescL (escapeL l) = if 0 ∈ l then none else some l := by
  induction l with
  | nil => rfl
  | cons c r ih =>
    have e : escapeL (c :: r) = escB c ++ escapeL r := by simp [escapeL]
    rw [e]
    cases hs : safeB (c.toNat : Int)
    · rw [esc_no hs]
      have hc := coded_esc c hs
      show unescL (37 :: ([hexC (c.toNat / 16), hexC (c.toNat % 16)] ++ escapeL r)) = _
      by_cases h0 : c = 0
      · rw [if_pos h0] at hc
        rw [unescL_bad _ (by rw [codedL_take]; exact hc)]
        simp [h0]
      · rw [if_neg h0] at hc
        rw [(unescL_good _ c (by rw [codedL_take]; exact hc)).2]
        show Option.map _ (unescL (escapeL r)) = _
        rw [ih]
        by_cases hr : 0 ∈ r <;> simp [hr, Ne.symm h0]
    · rw [esc_yes hs]
      obtain ⟨h37, h0⟩ := safe_not37 c hs
      show unescL (c :: escapeL r) = _
      rw [unescL_plain _ _ h37, ih]
      by_cases hr : 0 ∈ r <;> simp [hr, Ne.symm h0]
theorem lower_twice (l : List UInt8) : lowerL (lowerL l) = lowerL l := by
  unfold lowerL
  rw [List.map_map]
  apply List.map_congr_left
  intro c _
  have key : ∀ n : Fin 256, lowB (lowB (UInt8.ofNat n.val)) = lowB (UInt8.ofNat n.val) := by decide +kernel
  have := key ⟨c.toNat, c.toNat_lt⟩
  simpa using this

section
variable (p : UInt8 → Bool)
def dropR (l : List UInt8) : List UInt8 := (l.reverse.dropWhile p).reverse
theorem dropWhile_head {l : List UInt8} {c : UInt8} {r : List UInt8} (h : l.dropWhile p = c :: r) : p c = false := by
  induction l with
  | nil => simp at h
  | cons a t ih =>
    rw [List.dropWhile_cons] at h
    split at h
    · exact ih h
    · rename_i hp; cases h; simpa using hp
theorem dropWhile_twice (l : List UInt8) : (l.dropWhile p).dropWhile p = l.dropWhile p := by
  cases h : l.dropWhile p with
  | nil => rfl
  | cons c r => rw [List.dropWhile_cons, if_neg (by rw [dropWhile_head p h]; simp)]
theorem dropR_of_drop (l : List UInt8) (h : dropR p l = l) : dropR p (l.dropWhile p) = l.dropWhile p := by
  cases e : l.dropWhile p with
  | nil => rfl
  | cons c r =>
    have hsuf := List.dropWhile_suffix (l := l) p
    rw [e] at hsuf
    obtain ⟨t, ht⟩ := hsuf
    unfold dropR at h ⊢
    have h2 : l.reverse.dropWhile p = l.reverse := by rw [← List.reverse_inj, List.reverse_reverse]; exact h
    rw [← List.reverse_inj, List.reverse_reverse]
    rw [← ht, List.reverse_append] at h2
    cases e2 : (c :: r).reverse with
    | nil => simp at e2
    | cons a b =>
      rw [e2] at h2
      rw [List.cons_append, List.dropWhile_cons] at h2
      split at h2
      · rename_i hp
        have := (List.dropWhile_suffix (l := b ++ t.reverse) p).length_le
        rw [h2] at this
        simp at this
        omega
      · rename_i hp
        rw [List.dropWhile_cons, if_neg hp]
theorem dropR_twice (l : List UInt8) : dropR p (dropR p l) = dropR p l := by
  unfold dropR
  rw [List.reverse_reverse, dropWhile_twice]
end
theorem trim_eq (l : List UInt8) : trimL l = (dropR (fun c => [32, 9].contains c) l).dropWhile (fun c => [32, 9].contains c) := rfl
theorem trim_twice (l : List UInt8) : trimL (trimL l) = trimL l := by
  rw [trim_eq (trimL l), trim_eq l, dropR_of_drop _ _ (dropR_twice _ _), dropWhile_twice]
theorem dropWhile_snoc (p : UInt8 → Bool) (l : List UInt8) (c : UInt8) (hc : p c = true) : (l ++ [c]).dropWhile p = if l.dropWhile p = [] then [] else l.dropWhile p ++ [c] := by
  induction l with
  | nil => simp [hc]
  | cons a r ih =>
    rw [List.cons_append, List.dropWhile_cons, List.dropWhile_cons]
    split
    · exact ih
    · simp
theorem trim_round (l : List UInt8) : trimL (32 :: l ++ [9]) = trimL l := by
  rw [trim_eq, trim_eq]
  unfold dropR
  have e : (32 :: l ++ [9]).reverse = 9 :: (l.reverse ++ [32]) := by simp
  rw [e, List.dropWhile_cons, if_pos (by decide), dropWhile_snoc _ _ _ (by decide)]
  split
  · rename_i h; rw [h]
  · rw [List.reverse_append]
    simp
end Go.Proofs.YtjmkhekigdnjgaaGreatDoor
