/-
  The document's heads: SamePairs, SameHead: of the same, true.
-/
import Derived.Test.YtfbpiknckjgfnaaGreatDoorCgiF
import Derived.Laws.StructEq
namespace Go.Proofs.YtfbpiknckjgfnaaGreatDoor
open Go.RowKit Go.Shelf

theorem PairsAt.slice {w : World} {v : Value} {l : List Pr} (h : PairsAt w v l) : ∃ o c, v = .slice o l.length c := by
  rcases h with ⟨rfl, rfl⟩ | ⟨g, c, rfl, _⟩
  · exact ⟨none, 0, rfl⟩
  · exact ⟨_, _, rfl⟩
theorem PairsAt.below {w w' : World} {v : Value} {l : List Pr} (h : PairsAt w v l) (hb : Below w.heap.size w w') : PairsAt w' v l := by
  rcases h with ⟨rfl, rfl⟩ | ⟨g, c, rfl, hg, hc⟩
  · exact .inl ⟨rfl, rfl⟩
  · exact .inr ⟨g, c, rfl, Nat.lt_of_lt_of_le hg hb.size, fun j u hj => by rw [below_cell hb _ hg]; exact hc j u hj⟩
theorem Tryz.pairHeld : Tryz.prog.stoodInHeld 60 = false := by kernel_rfl

set_option maxHeartbeats 4000000 in
theorem SamePairs_same (va vb : Value) (l : List Pr) (w : World) (ha : PairsAt w va l) (hb : PairsAt w vb l) (hl : l.length ≤ 1000) :
    Calls Tryz.prog 20 #[va, vb] w fun e w' => e = .returned (.bool true) ∧ Below w.heap.size w w' := by
  obtain ⟨oa, ca, rfl⟩ := ha.slice
  obtain ⟨ob, cb, rfl⟩ := hb.slice
  obtain ⟨n, hn⟩ : ∃ n, n = l.length := ⟨_, rfl⟩
  have HA : Hid (∀ k (h : k < l.length), ∃ g, oa = some ⟨g, 0, none⟩ ∧ w.cell? ⟨g, k * 2, none⟩ = some (strVal l[k].1) ∧ w.cell? ⟨g, k * 2 + 1, none⟩ = some (strVal l[k].2)) := Lib.hid fun k h => by
    rcases ha with ⟨_, rfl⟩ | ⟨g, c, e, hg, hc⟩
    · simp at h
    · exact ⟨g, by simp only [Value.slice.injEq] at e; exact e.1, hc _ _ (pairVals_at l k h).1, hc _ _ (pairVals_at l k h).2⟩
  have HB : Hid (∀ k (h : k < l.length), ∃ g, ob = some ⟨g, 0, none⟩ ∧ w.cell? ⟨g, k * 2, none⟩ = some (strVal l[k].1) ∧ w.cell? ⟨g, k * 2 + 1, none⟩ = some (strVal l[k].2)) := Lib.hid fun k h => by
    rcases hb with ⟨_, rfl⟩ | ⟨g, c, e, hg, hc⟩
    · simp at h
    · exact ⟨g, by simp only [Value.slice.injEq] at e; exact e.1, hc _ _ (pairVals_at l k h).1, hc _ _ (pairVals_at l k h).2⟩
  clear ha hb
  rw [← hn]
  have HN := Lib.hid hn
  have hn1 : n ≤ 1000 := by omega
  clear hn hl
  go_enter Tryz.func20, Tryz.ntmps20
  go_wp2
  go_loopw [5] (fun i wr => ∃ k : Nat, k ≤ n ∧ i = .int .i64 k ∧ Hid (∃ q, wr = w.drewN q)) (fun i _ => n - (intOf i).toNat)
  case atStart => exact ⟨0, Nat.zero_le _, rfl, Lib.hid ⟨0, rfl⟩⟩
  case round =>
    obtain ⟨k, hk, rfl, HQ⟩ := hrel
    obtain ⟨q, rfl⟩ := HQ.out
    by_cases hlt : k < n
    · have hlt2 : k < l.length := by rw [← HN.out]; exact hlt
      obtain ⟨ga, rfl, a1, a2⟩ := HA.out k hlt2
      obtain ⟨gb, rfl, b1, b2⟩ := HB.out k hlt2
      unfold strVal at a1 a2 b1 b2
      generalize (⟨l[k].1.toArray⟩ : ByteArray) = x at a1 b1
      generalize (⟨l[k].2.toArray⟩ : ByteArray) = y at a2 b2
      go_wp2
      go_quiet (fail)
      go_wp2
      exact ⟨⟨k + 1, by omega, by go_num, Lib.hid ⟨_, rfl⟩⟩, by simp [intOf]; omega⟩
    · go_wp2
      go_ret
      exact ⟨rfl, below_drewN (Below.refl _ _) _⟩
set_option maxHeartbeats 4000000 in
theorem SameHead_same (n : Int) (r : ByteArray) (va vb : Value) (l : List Pr) (w : World) (ha : PairsAt w va l) (hb : PairsAt w vb l) (hl : l.length ≤ 1000) :
    Calls Tryz.prog 11 #[.agg #[.int .i64 n, .string r, va], .agg #[.int .i64 n, .string r, vb]] w fun e w' => e = .returned (.bool true) ∧ Below w.heap.size w w' := by
  have hW : Below w.heap.size w ((w.alloc (.cells #[.int .i64 n, .string r, va] 34)).alloc (.cells #[.int .i64 n, .string r, vb] 34)) := ((Below.refl _ _).alloc (Nat.le_refl _) _).alloc (by simp) _
  have H := Lib.hid (SamePairs_same va vb l _ (ha.below hW) (hb.below hW) hl)
  have HW := Lib.hid hW
  obtain ⟨oa, ca, rfl⟩ := ha.slice
  obtain ⟨ob, cb, rfl⟩ := hb.slice
  clear ha hb hW
  generalize l.length = q at H HW ⊢
  go_enter Tryz.func11, Tryz.ntmps11
  go_wp2_with fail
  refine H.out.mono ?_
  rintro e w1 ⟨rfl, hb1⟩
  have HB1 := Lib.hid (HW.out.trans (hb1.mono HW.out.size))
  clear hb1
  go_wp2
  go_ret
  exact ⟨rfl, HB1.out⟩
end Go.Proofs.YtfbpiknckjgfnaaGreatDoor
