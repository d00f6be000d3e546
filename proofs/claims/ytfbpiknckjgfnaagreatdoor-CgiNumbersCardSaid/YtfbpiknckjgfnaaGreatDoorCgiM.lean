/-
  The plain law of CgiCuts: what is fed in pieces is as what is fed at once.
-/
import Derived.Test.YtfbpiknckjgfnaaGreatDoorCgiL
namespace Go.Proofs.YtfbpiknckjgfnaaGreatDoor
open Go.RowKit Go.Shelf

theorem feedS_done {st : CgiS} (h : st.done = true) (l : List UInt8) : feedS st l = (st, l, 0) := by
  cases l with
  | nil => rfl
  | cons c l => unfold feedS; rw [if_pos h]
theorem feedS_cons (st : CgiS) (c : UInt8) (l : List UInt8) : feedS st (c :: l) = if st.done = true then (st, c :: l, 0) else if (takesS st c).2 = 0 then feedS (takesS st c).1 l else ({ (takesS st c).1 with dead := true }, [], (takesS st c).2) := rfl
theorem feedS_app : ∀ (a : List UInt8) (st : CgiS) (b : List UInt8), feedS st (a ++ b) =
    if (feedS st a).2.2 = 0 then ((feedS (feedS st a).1 b).1, (feedS st a).2.1 ++ (feedS (feedS st a).1 b).2.1, (feedS (feedS st a).1 b).2.2) else feedS st a
  | [], st, b => by simp [feedS]
  | c :: a, st, b => by
    by_cases h1 : st.done = true
    · rw [feedS_done h1, feedS_done h1]
      simp [feedS_done h1]
    · rw [List.cons_append, feedS_cons, feedS_cons st c a, if_neg h1, if_neg h1]
      by_cases h2 : (takesS st c).2 = 0
      · rw [if_pos h2, if_pos h2]
        exact feedS_app a _ b
      · rw [if_neg h2, if_neg h2, if_neg h2]
theorem feedS_dead : ∀ (a : List UInt8) (st : CgiS), (feedS st a).2.2 = 0 → (feedS st a).1.dead = st.dead
  | [], _, _ => rfl
  | c :: a, st, h => by
    unfold feedS at h ⊢
    by_cases h1 : st.done = true
    · rw [if_pos h1]
    · rw [if_neg h1] at h ⊢
      by_cases h2 : (takesS st c).2 = 0
      · rw [if_pos h2] at h ⊢
        rw [feedS_dead a _ h, takesS_dead]
      · rw [if_neg h2] at h; exact absurd h h2
theorem feedS_le : ∀ (a : List UInt8) (st : CgiS), (feedS st a).2.1.length ≤ a.length
  | [], _ => Nat.le_refl _
  | c :: a, st => by
    unfold feedS
    by_cases h1 : st.done = true
    · rw [if_pos h1]; exact Nat.le_refl _
    · rw [if_neg h1]
      by_cases h2 : (takesS st c).2 = 0
      · rw [if_pos h2]; exact Nat.le_trans (feedS_le a _) (Nat.le_succ _)
      · rw [if_neg h2]; exact Nat.zero_le _
theorem FeedS_new (M : Int) (l : List UInt8) : FeedS (newS M) l = feedS (newS M) l := by unfold FeedS; rw [if_neg (by show ¬ (false = true); decide)]
theorem FeedS_step {M : Int} {a : List UInt8} {st : CgiS} {y : List UInt8} (b : List UInt8) (h : FeedS (newS M) a = (st, y, 0)) :
    FeedS (newS M) (a ++ b) = ((FeedS st b).1, y ++ (FeedS st b).2.1, (FeedS st b).2.2) := by
  rw [FeedS_new] at h ⊢
  have hd := feedS_dead a (newS M) (by rw [h])
  rw [h] at hd
  have e : FeedS st b = feedS st b := by unfold FeedS; rw [if_neg (by rw [hd]; show ¬ (false = true); decide)]
  rw [feedS_app, h, e]
  simp
theorem FeedS_stop {M : Int} {a : List UInt8} {st : CgiS} {y : List UInt8} {f : Int} (b : List UInt8) (h : FeedS (newS M) a = (st, y, f)) (hf : f ≠ 0) : FeedS (newS M) (a ++ b) = (st, y, f) := by
  rw [FeedS_new] at h ⊢
  rw [feedS_app, h]
  simp [hf]
theorem FeedS_le {M : Int} {a : List UInt8} {st : CgiS} {y : List UInt8} {f : Int} (h : FeedS (newS M) a = (st, y, f)) : y.length ≤ a.length := by
  rw [FeedS_new] at h
  have := feedS_le a (newS M)
  rw [h] at this
  exact this
theorem FeedS_le2 (st : CgiS) (b : List UInt8) : (FeedS st b).2.1.length ≤ b.length := by
  unfold FeedS
  split
  · exact Nat.zero_le _
  · exact feedS_le b st
theorem FeedS_hf {M : Int} {a : List UInt8} {st : CgiS} {y : List UInt8} {f : Int} (hM : M ≤ 1000000) (h : FeedS (newS M) a = (st, y, f)) : st.hf.length ≤ 32 := by
  rw [FeedS_new] at h
  have := feedS_hf a (newS M) (newS_live M hM) (Nat.zero_le _)
  rw [h] at this
  exact this
theorem FeedS_liveN {M : Int} {a : List UInt8} {st : CgiS} {y : List UInt8} {f : Int} (hM : M ≤ 1000000) (h : FeedS (newS M) a = (st, y, f)) (hd : st.dead = false) : Live st := by
  have := FeedS_live (st := newS M) (l := a) (fun _ => newS_live M hM)
  rw [h] at this
  exact this hd
end Go.Proofs.YtfbpiknckjgfnaaGreatDoor
