/-
  What a reader of the plain law does: kept facts; the closed texts of conduitlaw16.known.
-/
import Derived.Test.YtfbpiknckjgfnaaGreatDoorCgiG
namespace Go.Proofs.YtfbpiknckjgfnaaGreatDoor
open Go.RowKit Go.Shelf

theorem feedS_live : ∀ (l : List UInt8) (st : CgiS), Live st → (feedS st l).1.dead = false → Live (feedS st l).1
  | [], _, h, _ => h
  | c :: l, st, h, hd => by
    unfold feedS at hd ⊢
    by_cases h1 : st.done = true
    · rw [if_pos h1]; exact h
    · rw [if_neg h1] at hd ⊢
      by_cases h2 : (takesS st c).2 = 0
      · rw [if_pos h2] at hd ⊢
        exact feedS_live l _ (takesS_live st c h (by simpa using h1) h2) hd
      · rw [if_neg h2] at hd; cases hd
theorem FeedS_live {st : CgiS} {l : List UInt8} (h : st.dead = false → Live st) : (FeedS st l).1.dead = false → Live (FeedS st l).1 := by
  unfold FeedS
  by_cases hd : st.dead = true
  · rw [if_pos hd]; exact h
  · rw [if_neg hd]; exact feedS_live l st (h (by simpa using hd))
theorem wholeS_hf (st : CgiS) (h : SmallF st.fields) (k : st.hf.length ≤ 32) : (wholeS st).1.hf.length ≤ 32 := by
  have hp : ∀ n r, (st.put n r).hf.length ≤ 32 := fun n r => Nat.le_trans (dropL_le statusName st.fields) h.2
  unfold wholeS
  split
  · exact k
  · split
    · exact hp _ _
    · exact k
  · split
    · exact hp _ _
    · split
      · exact hp _ _
      · exact k
theorem endsS_hf (st : CgiS) (h : SmallF st.fields) (k : st.hf.length ≤ 32) : (endsS st).1.hf.length ≤ 32 := by
  unfold endsS
  split
  · exact wholeS_hf _ h k
  · split
    · exact k
    · split
      · split <;> exact k
      · exact k
theorem takesS_hf (st : CgiS) (c : UInt8) (h : SmallF st.fields) (k : st.hf.length ≤ 32) : (takesS st c).1.hf.length ≤ 32 := by
  unfold takesS
  split
  · exact k
  · split
    · exact endsS_hf _ h k
    · exact k
theorem feedS_hf : ∀ (l : List UInt8) (st : CgiS), Live st → st.hf.length ≤ 32 → (feedS st l).1.hf.length ≤ 32
  | [], _, _, k => k
  | c :: l, st, h, k => by
    unfold feedS
    by_cases h1 : st.done = true
    · rw [if_pos h1]; exact k
    · rw [if_neg h1]
      by_cases h2 : (takesS st c).2 = 0
      · rw [if_pos h2]
        exact feedS_hf l _ (takesS_live st c h (by simpa using h1) h2) (takesS_hf st c h.fields k)
      · rw [if_neg h2]; exact takesS_hf st c h.fields k

/-! ### The closed texts of known -/
def kT1 : List UInt8 := [83, 116, 97, 116, 117, 115, 58, 32, 52, 48, 52, 13, 10, 65, 58, 32, 98, 10]
def kT2 : List UInt8 := [10, 98, 111, 100, 121]
def kS1 : CgiS := ⟨100, 18, [], [([83, 116, 97, 116, 117, 115], [52, 48, 52]), ([65], [98])], 0, [], [], false, false⟩
def kS2 : CgiS := ⟨100, 19, [], [([83, 116, 97, 116, 117, 115], [52, 48, 52]), ([65], [98])], 404, [78, 111, 116, 32, 70, 111, 117, 110, 100], [([65], [98])], true, false⟩
theorem k1 : FeedS (newS 100) kT1 = (kS1, [], 0) := by kernel_rfl
theorem k2 : FeedS kS1 kT2 = (kS2, [98, 111, 100, 121], 0) := by kernel_rfl
theorem k3 : FeedS kS2 [120] = (kS2, [120], 0) := by kernel_rfl
theorem k4 : (FeedS (newS 100) [10]).2 = ([], 10) := by kernel_rfl
theorem k5 : (FeedS (FeedS (newS 100) [10]).1 [97]).2 = ([], 18) := by kernel_rfl
theorem k6 : statusR [51, 48, 50, 32, 71, 111, 110, 101, 32, 97, 119, 97, 121] = (302, [71, 111, 110, 101, 32, 97, 119, 97, 121], 0) := by kernel_rfl
theorem k7 : statusR [57, 57] = (0, [], 10) := by kernel_rfl
end Go.Proofs.YtfbpiknckjgfnaaGreatDoor
