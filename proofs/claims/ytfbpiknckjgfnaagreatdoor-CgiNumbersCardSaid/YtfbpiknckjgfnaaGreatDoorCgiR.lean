/-
  The document's decimal numbers and reasons (conduitref6): nat, Dec, Reason: what they answer.
-/
import Derived.Test.YtfbpiknckjgfnaaGreatDoorCgiL
import Derived.Deep.RegionWith
namespace Go.Proofs.YtfbpiknckjgfnaaGreatDoor
open Go.RowKit Go.Shelf

theorem refReason_any (n : Int) (w : World) :
    Calls Tryz.prog 17 #[.int .i64 n] w fun e w' => e = .returned (.string ⟨(reasonL n).toArray⟩) ∧ w = w' := by
  by_cases h : n = 100 ∨ n = 200 ∨ n = 204 ∨ n = 302 ∨ n = 304 ∨ n = 400 ∨ n = 404 ∨ n = 405 ∨ n = 413 ∨ n = 431 ∨ n = 500 ∨ n = 501 ∨ n = 502 ∨ n = 503 ∨ n = 504 ∨ n = 505
  · rcases h with rfl | rfl | rfl | rfl | rfl | rfl | rfl | rfl | rfl | rfl | rfl | rfl | rfl | rfl | rfl | rfl <;>
     (go_enter Tryz.func17, Tryz.ntmps17
      go_wp2
      go_ret
      exact ⟨rfl, rfl⟩)
  · rw [reason_none n h]
    simp only [not_or] at h
    obtain ⟨x100, x200, x204, x302, x304, x400, x404, x405, x413, x431, x500, x501, x502, x503, x504, x505⟩ := h
    go_enter Tryz.func17, Tryz.ntmps17
    go_wp2
    go_ret
    exact ⟨rfl, rfl⟩

/-- Decimal digits; the fuel is how many there may be. -/
def natF : Nat → Nat → List UInt8
  | 0, _ => []
  | f + 1, n => if n < 10 then [UInt8.ofNat (48 + n)] else natF f (n / 10) ++ [UInt8.ofNat (48 + n % 10)]
theorem natF_len : ∀ f n, (natF f n).length ≤ f
  | 0, _ => Nat.le_refl _
  | f + 1, n => by
    unfold natF
    split
    · simp
    · have := natF_len f (n / 10)
      simp only [List.length_append, List.length_cons, List.length_nil]
      omega
theorem one_conv (W : World) (b : Nat) (c : UInt8) (h : W.cell? ⟨b, 0, none⟩ = some (.int .u8 (c.toNat : Int))) :
    (convert 22 9 (.slice (some ⟨b, 0, none⟩) 1 1)).run Tryz.prog W = .ok (.string ⟨#[c]⟩) W := by
  have e : (⟨#[c]⟩ : ByteArray) = strOfNums [(c.toNat : Int)] := by
    apply ByteArray.ext
    apply Array.ext'
    rw [strOfNums_data]
    simp
  rw [e]
  exact run_convert_bytes_arg W 22 5 Tryz.underlying22 Tryz.underlying5 b 0 1 1 [(c.toNat : Int)] (by simp) (fun i hi => by
    obtain rfl : i = 0 := by omega
    simpa using h) 9 Tryz.underlying9

set_option maxHeartbeats 4000000 in
theorem nat_one (n : Nat) (w : World) (h10 : n < 10) :
    Calls Tryz.prog 24 #[.int .u64 n] w fun e w' => e = .returned (.string ⟨#[UInt8.ofNat (48 + n)]⟩) ∧ Below w.heap.size w w' := by
  obtain ⟨c, hc⟩ : ∃ c, c = UInt8.ofNat (48 + n) := ⟨_, rfl⟩
  have hcn : (c.toNat : Int) = 48 + (n : Int) := by rw [hc]; simp; omega
  rw [← hc]
  have hb := Lib.hid (show Below w.heap.size w (w.alloc (.cells #[.int .u8 (48 + (n : Int))] 5)) from (Below.refl _ _).alloc (Nat.le_refl _) _)
  have hcv := one_conv (w.alloc (.cells #[.int .u8 (48 + (n : Int))] 5)) w.heap.size c (by rw [hcn]; simp)
  clear hc hcn
  have w1 : IntKind.u64.wrap (48 + (n : Int)) = 48 + (n : Int) := IntWalk.u64_in _ (by omega)
  have w2 : IntKind.u8.wrap (48 + (n : Int)) = 48 + (n : Int) := IntWalk.u8_in _ (by omega)
  have h10i : (n : Int) < 10 := by omega
  generalize (n : Int) = m at *
  clear h10
  go_enter Tryz.func24, Tryz.ntmps24
  go_wp2
  go_ret
  exact ⟨rfl, hb.out⟩

set_option maxHeartbeats 4000000 in
set_option maxRecDepth 100000 in
theorem nat_any : ∀ (f n : Nat) (w : World), n < 10 ^ (f + 1) → f ≤ 9 →
    Calls Tryz.prog 24 #[.int .u64 n] w fun e w' => e = .returned (.string ⟨(natF (f + 1) n).toArray⟩) ∧ Below w.heap.size w w' := by
  intro f
  induction f with
  | zero =>
    intro n w h _
    have h1 : n < 10 := by simpa using h
    rw [natF, if_pos h1]
    exact nat_one n w h1
  | succ f ih =>
    intro n w h hf
    have hn : (n : Int) < 100000000000 := by
      have : n < 10 ^ 11 := Nat.lt_of_lt_of_le h (Nat.pow_le_pow_right (by decide) (by omega))
      omega
    have hq : n / 10 < 10 ^ (f + 1) := by rw [Nat.div_lt_iff_lt_mul (by decide)]; rw [Nat.pow_succ] at h; exact h
    rw [natF]
    by_cases h10 : n < 10
    · rw [if_pos h10]
      exact nat_one n w h10
    · rw [if_neg h10]
      have IH : Hid (∀ W : World, Calls Tryz.prog 24 #[.int .u64 ((n : Int) / 10)] W fun e w' => e = .returned (.string ⟨(natF (f + 1) (n / 10)).toArray⟩) ∧ Below W.heap.size W w') := Lib.hid fun W => by
        have := ih (n / 10) W hq (by omega)
        rwa [show (((n / 10 : Nat) : Nat) : Int) = (n : Int) / 10 by omega] at this
      have hlen := natF_len (f + 1) (n / 10)
      generalize natF (f + 1) (n / 10) = t at IH hlen ⊢
      obtain ⟨c, hc⟩ : ∃ c, c = UInt8.ofNat (48 + n % 10) := ⟨_, rfl⟩
      have hcn : (c.toNat : Int) = 48 + (n : Int) % 10 := by rw [hc]; simp; omega
      rw [← hc]
      have hsum : (⟨t.toArray⟩ ++ ⟨#[c]⟩ : ByteArray) = ⟨(t ++ [c]).toArray⟩ := by apply ByteArray.ext; simp
      have hadm : ¬ (9223372036854775807 < (⟨t.toArray⟩ : ByteArray).size + (⟨#[c]⟩ : ByteArray).size) := by show ¬ (9223372036854775807 < t.toArray.size + 1); simp; omega
      have hT : Hid ((⟨t.toArray⟩ ++ ⟨#[c]⟩ : ByteArray) = ⟨(t ++ [c]).toArray⟩) := Lib.hid hsum
      clear hc ih hq h hsum
      have w1 : IntKind.u64.wrap (48 + (n : Int) % 10) = 48 + (n : Int) % 10 := IntWalk.u64_in _ (by omega)
      have w2 : IntKind.u8.wrap (48 + (n : Int) % 10) = 48 + (n : Int) % 10 := IntWalk.u8_in _ (by omega)
      have h10i : ¬ (n : Int) < 10 := by omega
      have hcv : ∀ (W : World) (b : Nat), W.cell? ⟨b, 0, none⟩ = some (.int .u8 (48 + (n : Int) % 10)) → (convert 22 9 (.slice (some ⟨b, 0, none⟩) 1 1)).run Tryz.prog W = .ok (.string ⟨#[c]⟩) W := fun W b h => one_conv W b c (by rw [hcn]; exact h)
      clear hcn h10
      generalize (⟨t.toArray⟩ : ByteArray) = T at *
      have wq : IntKind.u64.wrap ((n : Int) / 10) = (n : Int) / 10 := IntWalk.u64_in _ (by omega)
      have wt : IntKind.u64.wrap (48 + (n : Int).tmod 10) = 48 + (n : Int) % 10 := by rw [Int.tmod_eq_emod_of_nonneg (by omega)]; exact w1
      have hs : ∀ W : World, (Op.stringOp .add T ⟨#[c]⟩).run Tryz.prog W = .ok (.string ⟨(t ++ [c]).toArray⟩) W := fun W => by rw [← hT.out]; exact run_string_add_sum W _ _ (by omega)
      clear hn hlen hf hadm hT w1
      go_enter Tryz.func24, Tryz.ntmps24
      go_wp2
      clear h10i
      have hcA : (w.alloc (.cells #[.int .u8 (48 + (n : Int) % 10)] 5)).drew.cell? ⟨w.heap.size, 0, none⟩ = some (.int .u8 (48 + (n : Int) % 10)) := by
        show (w.alloc (.cells #[.int .u8 (48 + (n : Int) % 10)] 5)).cell? ⟨w.heap.size, 0, none⟩ = _
        simp
      have hbA : Below w.heap.size w (w.alloc (.cells #[.int .u8 (48 + (n : Int) % 10)] 5)).drew := ((Below.refl _ _).alloc (Nat.le_refl _) _).drew
      have HcA := Lib.hid hcA; clear hcA
      have HbA := Lib.hid hbA; clear hbA
      go_region_with (go_at_call 24; with_reducible (refine (IH.out _).mono ?_); rintro e w' ⟨rfl, hb'⟩; try have hc' := (hb'.cell (World.block_lt_of_cell? _ _ HcA.out)).trans HcA.out)
      all_goals go_wp2
      all_goals go_ret
      all_goals first
        | exact ⟨rfl, HbA.out.trans (hb'.mono HbA.out.size)⟩
        | exact ⟨rfl, ((Below.refl _ _).drew.trans hb').alloc hb'.size _⟩
theorem refDec_any (n : Nat) (w : World) (h : n < 1100) :
    Calls Tryz.prog 15 #[.int .i64 n] w fun e w' => e = .returned (.string ⟨(natF 4 n).toArray⟩) ∧ Below w.heap.size w w' := by
  have HC : Hid (∀ W : World, Calls Tryz.prog 24 #[.int .u64 n] W fun e w' => e = .returned (.string ⟨(natF 4 n).toArray⟩) ∧ Below W.heap.size W w') := Lib.hid fun W => nat_any 3 n W (by omega) (by omega)
  have hw : IntKind.u64.wrap (n : Int) = (n : Int) := IntWalk.u64_in _ (by omega)
  have hn : ¬ ((n : Int) < 0) := by omega
  generalize natF 4 n = t at HC ⊢
  go_enter Tryz.func15, Tryz.ntmps15
  go_wp2_with (go_at_call 24; with_reducible (refine (HC.out _).mono ?_); rintro e w' ⟨rfl, hb⟩)
  go_ret
  exact ⟨rfl, hb⟩
end Go.Proofs.YtfbpiknckjgfnaaGreatDoor
