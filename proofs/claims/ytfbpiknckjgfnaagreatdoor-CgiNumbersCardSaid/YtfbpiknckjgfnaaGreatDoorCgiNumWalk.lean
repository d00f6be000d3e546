/-
  conduitlaw16.CgiNumbers: true, at each number and each of what is behind it: the walk.
-/
import Derived.Test.YtfbpiknckjgfnaaGreatDoorCgiM
import Derived.Test.YtfbpiknckjgfnaaGreatDoorCgiN
import Derived.Deep.RegionWith
namespace Go.Proofs.YtfbpiknckjgfnaaGreatDoor
open Go.RowKit Go.Shelf
theorem idx0 (W : World) : (Instr.index 44 (.agg #[.string ⟨#[]⟩, .string ⟨#[32]⟩, .string ⟨#[32, 83, 111, 109, 101, 32, 114, 101, 97, 115, 111, 110]⟩, .string ⟨#[120]⟩, .string ⟨#[9]⟩]) (.int .u8 0)).run Tryz.prog W = .ok (.string ⟨#[]⟩) W := by
  kernel_rfl
theorem idx1 (W : World) : (Instr.index 44 (.agg #[.string ⟨#[]⟩, .string ⟨#[32]⟩, .string ⟨#[32, 83, 111, 109, 101, 32, 114, 101, 97, 115, 111, 110]⟩, .string ⟨#[120]⟩, .string ⟨#[9]⟩]) (.int .u8 1)).run Tryz.prog W = .ok (.string ⟨#[32]⟩) W := by
  kernel_rfl
theorem idx2 (W : World) : (Instr.index 44 (.agg #[.string ⟨#[]⟩, .string ⟨#[32]⟩, .string ⟨#[32, 83, 111, 109, 101, 32, 114, 101, 97, 115, 111, 110]⟩, .string ⟨#[120]⟩, .string ⟨#[9]⟩]) (.int .u8 2)).run Tryz.prog W = .ok (.string ⟨#[32, 83, 111, 109, 101, 32, 114, 101, 97, 115, 111, 110]⟩) W := by
  kernel_rfl
theorem idx3 (W : World) : (Instr.index 44 (.agg #[.string ⟨#[]⟩, .string ⟨#[32]⟩, .string ⟨#[32, 83, 111, 109, 101, 32, 114, 101, 97, 115, 111, 110]⟩, .string ⟨#[120]⟩, .string ⟨#[9]⟩]) (.int .u8 3)).run Tryz.prog W = .ok (.string ⟨#[120]⟩) W := by
  kernel_rfl
theorem idx4 (W : World) : (Instr.index 44 (.agg #[.string ⟨#[]⟩, .string ⟨#[32]⟩, .string ⟨#[32, 83, 111, 109, 101, 32, 114, 101, 97, 115, 111, 110]⟩, .string ⟨#[120]⟩, .string ⟨#[9]⟩]) (.int .u8 4)).run Tryz.prog W = .ok (.string ⟨#[9]⟩) W := by
  kernel_rfl

set_option maxHeartbeats 16000000 in
set_option maxRecDepth 100000 in
theorem num_walk0 (x0 x1 : Int) (w : World) (hx0 : 0 ≤ x0 ∧ x0 ≤ 65535) (hx1 : 0 ≤ x1 ∧ x1 ≤ 255) (hE : Env w) (hT : ErrT w) (h5 : x1 % 5 = 0) :
    Calls Tryz.prog 5 #[.int .u16 x0, .int .u8 x1] w fun e w' => e = .returned (.bool true) ∧ Below w.heap.size w w' := by
  have HK := Lib.hid (known_true w hE hT)
  have HE := Lib.hid hE; clear hE hT
  obtain ⟨x0a, x0b⟩ := hx0
  obtain ⟨x1a, x1b⟩ := hx1
  have hm : x1.tmod 5 = 0 := by rw [Int.tmod_eq_emod_of_nonneg x1a]; exact h5
  obtain ⟨k, hkx⟩ : ∃ k : Nat, x0 % 1100 = (k : Int) := ⟨(x0 % 1100).toNat, by omega⟩
  have hk : k < 1100 := by omega
  have HD : Hid (∀ W : World, Calls Tryz.prog 15 #[.int .i64 k] W fun e w' => e = .returned (.string ⟨(natF 4 k).toArray⟩) ∧ Below W.heap.size W w') := Lib.hid fun W => refDec_any k W hk
  obtain ⟨S, hS⟩ : ∃ S : ByteArray, S = ⟨(natF 4 k).toArray⟩ ++ ⟨#[]⟩ := ⟨_, rfl⟩
  have HT : S.data.toList = natF 4 k ++ sufL 0 := by rw [hS]; simp [sufL]
  have hlen := natF_len 4 k
  have hsum : ∀ W : World, (Op.stringOp .add ⟨(natF 4 k).toArray⟩ ⟨#[]⟩).run Tryz.prog W = .ok (.string S) W := fun W => by rw [hS]; exact run_string_add_sum W _ _ (by show (natF 4 k).toArray.size + (#[] : Array UInt8).size ≤ _; simp; omega)
  have hidx := fun W : World => idx0 W
  clear hS hlen
  generalize (⟨(natF 4 k).toArray⟩ : ByteArray) = D at HD hsum
  by_cases hlo : (k : Int) < 200
  · have HS : Hid (∀ W : World, Env W → Calls Tryz.prog 16 #[.string S] W fun e w' => e = .returned (.tuple #[.int .i64 0, .string ⟨#[]⟩, .iface 38 (.int .i64 10)]) ∧ Below W.heap.size W w') := Lib.hid fun W hW => num_bad k 0 hk (by omega) (by unfold numGood; rw [decide_eq_false (by omega)]; rfl) S HT W hW
    clear HT hk
    go_enter Tryz.func5, Tryz.ntmps5
    go_wp2_with fail
    refine HK.out.mono ?_
    rintro e w1 ⟨rfl, hb1⟩
    have HB1 := Lib.hid hb1
    clear hb1
    go_wp2_with fail
    go_region_with (go_at_call 15; with_reducible (refine (HD.out _).mono ?_); rintro e w2 ⟨rfl, hb2⟩)
    all_goals
      have HB2 := Lib.hid (HB1.out.trans ((Below.refl _ _).drew.trans (hb2.mono (Nat.le_refl _)) |>.mono HB1.out.size))
      have HE2 := Lib.hid (HE.out.below HB2.out)
      clear hb2
      go_wp2_with fail
      refine (HS.out _ HE2.out).mono ?_
      rintro e w3 ⟨rfl, hb3⟩
      have HB3 := Lib.hid (HB2.out.trans (hb3.mono HB2.out.size))
      clear hb3
      go_wp2_with fail
      refine (is_num 10 10 _).mono ?_
      rintro e w4 ⟨rfl, rfl⟩
      rw [show ((10 : Int) == 10) = true from rfl]
      go_wp2
      go_ret
      exact ⟨rfl, HB3.out⟩
  · by_cases hhi : 599 < (k : Int)
    · have HS : Hid (∀ W : World, Env W → Calls Tryz.prog 16 #[.string S] W fun e w' => e = .returned (.tuple #[.int .i64 0, .string ⟨#[]⟩, .iface 38 (.int .i64 10)]) ∧ Below W.heap.size W w') := Lib.hid fun W hW => num_bad k 0 hk (by omega) (by unfold numGood; rw [decide_eq_true (by omega), decide_eq_false (by omega)]; rfl) S HT W hW
      clear HT hk
      go_enter Tryz.func5, Tryz.ntmps5
      go_wp2_with fail
      refine HK.out.mono ?_
      rintro e w1 ⟨rfl, hb1⟩
      have HB1 := Lib.hid hb1
      clear hb1
      go_wp2_with fail
      go_region_with (go_at_call 15; with_reducible (refine (HD.out _).mono ?_); rintro e w2 ⟨rfl, hb2⟩)
      all_goals
        have HB2 := Lib.hid (HB1.out.trans ((Below.refl _ _).drew.trans (hb2.mono (Nat.le_refl _)) |>.mono HB1.out.size))
        have HE2 := Lib.hid (HE.out.below HB2.out)
        clear hb2
        go_wp2_with fail
        refine (HS.out _ HE2.out).mono ?_
        rintro e w3 ⟨rfl, hb3⟩
        have HB3 := Lib.hid (HB2.out.trans (hb3.mono HB2.out.size))
        clear hb3
        go_wp2_with fail
        refine (is_num 10 10 _).mono ?_
        rintro e w4 ⟨rfl, rfl⟩
        rw [show ((10 : Int) == 10) = true from rfl]
        go_wp2
        go_ret
        exact ⟨rfl, HB3.out⟩
    · have HS : Hid (∀ W : World, Env W → Calls Tryz.prog 16 #[.string S] W fun e w' => e = .returned (.tuple #[.int .i64 k, .string ⟨(reasonL k).toArray⟩, .nilIface]) ∧ Below W.heap.size W w') := Lib.hid fun W hW => num_good k 0 hk (by omega) (by unfold numGood; rw [decide_eq_true (by omega), decide_eq_true (by omega)]; rfl) S HT W hW
      go_enter Tryz.func5, Tryz.ntmps5
      go_wp2_with fail
      refine HK.out.mono ?_
      rintro e w1 ⟨rfl, hb1⟩
      have HB1 := Lib.hid hb1
      clear hb1
      go_wp2_with fail
      go_region_with (go_at_call 15; with_reducible (refine (HD.out _).mono ?_); rintro e w2 ⟨rfl, hb2⟩)
      all_goals
        have HB2 := Lib.hid (HB1.out.trans ((Below.refl _ _).drew.trans (hb2.mono (Nat.le_refl _)) |>.mono HB1.out.size))
        have HE2 := Lib.hid (HE.out.below HB2.out)
        clear hb2
        go_wp2_with fail
        refine (HS.out _ HE2.out).mono ?_
        rintro e w3 ⟨rfl, hb3⟩
        have HB3 := Lib.hid (HB2.out.trans (hb3.mono HB2.out.size))
        clear hb3
        go_wp2_with fail
        refine (refReason_any k w3).mono ?_
        rintro e w4 ⟨rfl, rfl⟩
        go_wp2
        go_ret
        exact ⟨rfl, HB3.out⟩

set_option maxHeartbeats 16000000 in
set_option maxRecDepth 100000 in
theorem num_walk1 (x0 x1 : Int) (w : World) (hx0 : 0 ≤ x0 ∧ x0 ≤ 65535) (hx1 : 0 ≤ x1 ∧ x1 ≤ 255) (hE : Env w) (hT : ErrT w) (h5 : x1 % 5 = 1) :
    Calls Tryz.prog 5 #[.int .u16 x0, .int .u8 x1] w fun e w' => e = .returned (.bool true) ∧ Below w.heap.size w w' := by
  have HK := Lib.hid (known_true w hE hT)
  have HE := Lib.hid hE; clear hE hT
  obtain ⟨x0a, x0b⟩ := hx0
  obtain ⟨x1a, x1b⟩ := hx1
  have hm : x1.tmod 5 = 1 := by rw [Int.tmod_eq_emod_of_nonneg x1a]; exact h5
  obtain ⟨k, hkx⟩ : ∃ k : Nat, x0 % 1100 = (k : Int) := ⟨(x0 % 1100).toNat, by omega⟩
  have hk : k < 1100 := by omega
  have HD : Hid (∀ W : World, Calls Tryz.prog 15 #[.int .i64 k] W fun e w' => e = .returned (.string ⟨(natF 4 k).toArray⟩) ∧ Below W.heap.size W w') := Lib.hid fun W => refDec_any k W hk
  obtain ⟨S, hS⟩ : ∃ S : ByteArray, S = ⟨(natF 4 k).toArray⟩ ++ ⟨#[32]⟩ := ⟨_, rfl⟩
  have HT : S.data.toList = natF 4 k ++ sufL 1 := by rw [hS]; simp [sufL]
  have hlen := natF_len 4 k
  have hsum : ∀ W : World, (Op.stringOp .add ⟨(natF 4 k).toArray⟩ ⟨#[32]⟩).run Tryz.prog W = .ok (.string S) W := fun W => by rw [hS]; exact run_string_add_sum W _ _ (by show (natF 4 k).toArray.size + (#[32] : Array UInt8).size ≤ _; simp; omega)
  have hidx := fun W : World => idx1 W
  clear hS hlen
  generalize (⟨(natF 4 k).toArray⟩ : ByteArray) = D at HD hsum
  by_cases hlo : (k : Int) < 200
  · have HS : Hid (∀ W : World, Env W → Calls Tryz.prog 16 #[.string S] W fun e w' => e = .returned (.tuple #[.int .i64 0, .string ⟨#[]⟩, .iface 38 (.int .i64 10)]) ∧ Below W.heap.size W w') := Lib.hid fun W hW => num_bad k 1 hk (by omega) (by unfold numGood; rw [decide_eq_false (by omega)]; rfl) S HT W hW
    clear HT hk
    go_enter Tryz.func5, Tryz.ntmps5
    go_wp2_with fail
    refine HK.out.mono ?_
    rintro e w1 ⟨rfl, hb1⟩
    have HB1 := Lib.hid hb1
    clear hb1
    go_wp2_with fail
    go_region_with (go_at_call 15; with_reducible (refine (HD.out _).mono ?_); rintro e w2 ⟨rfl, hb2⟩)
    all_goals
      have HB2 := Lib.hid (HB1.out.trans ((Below.refl _ _).drew.trans (hb2.mono (Nat.le_refl _)) |>.mono HB1.out.size))
      have HE2 := Lib.hid (HE.out.below HB2.out)
      clear hb2
      go_wp2_with fail
      refine (HS.out _ HE2.out).mono ?_
      rintro e w3 ⟨rfl, hb3⟩
      have HB3 := Lib.hid (HB2.out.trans (hb3.mono HB2.out.size))
      clear hb3
      go_wp2_with fail
      refine (is_num 10 10 _).mono ?_
      rintro e w4 ⟨rfl, rfl⟩
      rw [show ((10 : Int) == 10) = true from rfl]
      go_wp2
      go_ret
      exact ⟨rfl, HB3.out⟩
  · by_cases hhi : 599 < (k : Int)
    · have HS : Hid (∀ W : World, Env W → Calls Tryz.prog 16 #[.string S] W fun e w' => e = .returned (.tuple #[.int .i64 0, .string ⟨#[]⟩, .iface 38 (.int .i64 10)]) ∧ Below W.heap.size W w') := Lib.hid fun W hW => num_bad k 1 hk (by omega) (by unfold numGood; rw [decide_eq_true (by omega), decide_eq_false (by omega)]; rfl) S HT W hW
      clear HT hk
      go_enter Tryz.func5, Tryz.ntmps5
      go_wp2_with fail
      refine HK.out.mono ?_
      rintro e w1 ⟨rfl, hb1⟩
      have HB1 := Lib.hid hb1
      clear hb1
      go_wp2_with fail
      go_region_with (go_at_call 15; with_reducible (refine (HD.out _).mono ?_); rintro e w2 ⟨rfl, hb2⟩)
      all_goals
        have HB2 := Lib.hid (HB1.out.trans ((Below.refl _ _).drew.trans (hb2.mono (Nat.le_refl _)) |>.mono HB1.out.size))
        have HE2 := Lib.hid (HE.out.below HB2.out)
        clear hb2
        go_wp2_with fail
        refine (HS.out _ HE2.out).mono ?_
        rintro e w3 ⟨rfl, hb3⟩
        have HB3 := Lib.hid (HB2.out.trans (hb3.mono HB2.out.size))
        clear hb3
        go_wp2_with fail
        refine (is_num 10 10 _).mono ?_
        rintro e w4 ⟨rfl, rfl⟩
        rw [show ((10 : Int) == 10) = true from rfl]
        go_wp2
        go_ret
        exact ⟨rfl, HB3.out⟩
    · have HS : Hid (∀ W : World, Env W → Calls Tryz.prog 16 #[.string S] W fun e w' => e = .returned (.tuple #[.int .i64 k, .string ⟨(reasonL k).toArray⟩, .nilIface]) ∧ Below W.heap.size W w') := Lib.hid fun W hW => num_good k 1 hk (by omega) (by unfold numGood; rw [decide_eq_true (by omega), decide_eq_true (by omega)]; rfl) S HT W hW
      go_enter Tryz.func5, Tryz.ntmps5
      go_wp2_with fail
      refine HK.out.mono ?_
      rintro e w1 ⟨rfl, hb1⟩
      have HB1 := Lib.hid hb1
      clear hb1
      go_wp2_with fail
      go_region_with (go_at_call 15; with_reducible (refine (HD.out _).mono ?_); rintro e w2 ⟨rfl, hb2⟩)
      all_goals
        have HB2 := Lib.hid (HB1.out.trans ((Below.refl _ _).drew.trans (hb2.mono (Nat.le_refl _)) |>.mono HB1.out.size))
        have HE2 := Lib.hid (HE.out.below HB2.out)
        clear hb2
        go_wp2_with fail
        refine (HS.out _ HE2.out).mono ?_
        rintro e w3 ⟨rfl, hb3⟩
        have HB3 := Lib.hid (HB2.out.trans (hb3.mono HB2.out.size))
        clear hb3
        go_wp2_with fail
        refine (refReason_any k w3).mono ?_
        rintro e w4 ⟨rfl, rfl⟩
        go_wp2
        go_ret
        exact ⟨rfl, HB3.out⟩

set_option maxHeartbeats 16000000 in
set_option maxRecDepth 100000 in
theorem num_walk2 (x0 x1 : Int) (w : World) (hx0 : 0 ≤ x0 ∧ x0 ≤ 65535) (hx1 : 0 ≤ x1 ∧ x1 ≤ 255) (hE : Env w) (hT : ErrT w) (h5 : x1 % 5 = 2) :
    Calls Tryz.prog 5 #[.int .u16 x0, .int .u8 x1] w fun e w' => e = .returned (.bool true) ∧ Below w.heap.size w w' := by
  have HK := Lib.hid (known_true w hE hT)
  have HE := Lib.hid hE; clear hE hT
  obtain ⟨x0a, x0b⟩ := hx0
  obtain ⟨x1a, x1b⟩ := hx1
  have hm : x1.tmod 5 = 2 := by rw [Int.tmod_eq_emod_of_nonneg x1a]; exact h5
  obtain ⟨k, hkx⟩ : ∃ k : Nat, x0 % 1100 = (k : Int) := ⟨(x0 % 1100).toNat, by omega⟩
  have hk : k < 1100 := by omega
  have HD : Hid (∀ W : World, Calls Tryz.prog 15 #[.int .i64 k] W fun e w' => e = .returned (.string ⟨(natF 4 k).toArray⟩) ∧ Below W.heap.size W w') := Lib.hid fun W => refDec_any k W hk
  obtain ⟨S, hS⟩ : ∃ S : ByteArray, S = ⟨(natF 4 k).toArray⟩ ++ ⟨#[32, 83, 111, 109, 101, 32, 114, 101, 97, 115, 111, 110]⟩ := ⟨_, rfl⟩
  have HT : S.data.toList = natF 4 k ++ sufL 2 := by rw [hS]; simp [sufL]
  have hlen := natF_len 4 k
  have hsum : ∀ W : World, (Op.stringOp .add ⟨(natF 4 k).toArray⟩ ⟨#[32, 83, 111, 109, 101, 32, 114, 101, 97, 115, 111, 110]⟩).run Tryz.prog W = .ok (.string S) W := fun W => by rw [hS]; exact run_string_add_sum W _ _ (by show (natF 4 k).toArray.size + (#[32, 83, 111, 109, 101, 32, 114, 101, 97, 115, 111, 110] : Array UInt8).size ≤ _; simp; omega)
  have hidx := fun W : World => idx2 W
  clear hS hlen
  generalize (⟨(natF 4 k).toArray⟩ : ByteArray) = D at HD hsum
  by_cases hlo : (k : Int) < 200
  · have HS : Hid (∀ W : World, Env W → Calls Tryz.prog 16 #[.string S] W fun e w' => e = .returned (.tuple #[.int .i64 0, .string ⟨#[]⟩, .iface 38 (.int .i64 10)]) ∧ Below W.heap.size W w') := Lib.hid fun W hW => num_bad k 2 hk (by omega) (by unfold numGood; rw [decide_eq_false (by omega)]; rfl) S HT W hW
    clear HT hk
    go_enter Tryz.func5, Tryz.ntmps5
    go_wp2_with fail
    refine HK.out.mono ?_
    rintro e w1 ⟨rfl, hb1⟩
    have HB1 := Lib.hid hb1
    clear hb1
    go_wp2_with fail
    go_region_with (go_at_call 15; with_reducible (refine (HD.out _).mono ?_); rintro e w2 ⟨rfl, hb2⟩)
    all_goals
      have HB2 := Lib.hid (HB1.out.trans ((Below.refl _ _).drew.trans (hb2.mono (Nat.le_refl _)) |>.mono HB1.out.size))
      have HE2 := Lib.hid (HE.out.below HB2.out)
      clear hb2
      go_wp2_with fail
      refine (HS.out _ HE2.out).mono ?_
      rintro e w3 ⟨rfl, hb3⟩
      have HB3 := Lib.hid (HB2.out.trans (hb3.mono HB2.out.size))
      clear hb3
      go_wp2_with fail
      refine (is_num 10 10 _).mono ?_
      rintro e w4 ⟨rfl, rfl⟩
      rw [show ((10 : Int) == 10) = true from rfl]
      go_wp2
      go_ret
      exact ⟨rfl, HB3.out⟩
  · by_cases hhi : 599 < (k : Int)
    · have HS : Hid (∀ W : World, Env W → Calls Tryz.prog 16 #[.string S] W fun e w' => e = .returned (.tuple #[.int .i64 0, .string ⟨#[]⟩, .iface 38 (.int .i64 10)]) ∧ Below W.heap.size W w') := Lib.hid fun W hW => num_bad k 2 hk (by omega) (by unfold numGood; rw [decide_eq_true (by omega), decide_eq_false (by omega)]; rfl) S HT W hW
      clear HT hk
      go_enter Tryz.func5, Tryz.ntmps5
      go_wp2_with fail
      refine HK.out.mono ?_
      rintro e w1 ⟨rfl, hb1⟩
      have HB1 := Lib.hid hb1
      clear hb1
      go_wp2_with fail
      go_region_with (go_at_call 15; with_reducible (refine (HD.out _).mono ?_); rintro e w2 ⟨rfl, hb2⟩)
      all_goals
        have HB2 := Lib.hid (HB1.out.trans ((Below.refl _ _).drew.trans (hb2.mono (Nat.le_refl _)) |>.mono HB1.out.size))
        have HE2 := Lib.hid (HE.out.below HB2.out)
        clear hb2
        go_wp2_with fail
        refine (HS.out _ HE2.out).mono ?_
        rintro e w3 ⟨rfl, hb3⟩
        have HB3 := Lib.hid (HB2.out.trans (hb3.mono HB2.out.size))
        clear hb3
        go_wp2_with fail
        refine (is_num 10 10 _).mono ?_
        rintro e w4 ⟨rfl, rfl⟩
        rw [show ((10 : Int) == 10) = true from rfl]
        go_wp2
        go_ret
        exact ⟨rfl, HB3.out⟩
    · have HS : Hid (∀ W : World, Env W → Calls Tryz.prog 16 #[.string S] W fun e w' => e = .returned (.tuple #[.int .i64 k, .string ⟨#[83, 111, 109, 101, 32, 114, 101, 97, 115, 111, 110]⟩, .nilIface]) ∧ Below W.heap.size W w') := Lib.hid fun W hW => num_good k 2 hk (by omega) (by unfold numGood; rw [decide_eq_true (by omega), decide_eq_true (by omega)]; rfl) S HT W hW
      go_enter Tryz.func5, Tryz.ntmps5
      go_wp2_with fail
      refine HK.out.mono ?_
      rintro e w1 ⟨rfl, hb1⟩
      have HB1 := Lib.hid hb1
      clear hb1
      go_wp2_with fail
      go_region_with (go_at_call 15; with_reducible (refine (HD.out _).mono ?_); rintro e w2 ⟨rfl, hb2⟩)
      all_goals
        have HB2 := Lib.hid (HB1.out.trans ((Below.refl _ _).drew.trans (hb2.mono (Nat.le_refl _)) |>.mono HB1.out.size))
        have HE2 := Lib.hid (HE.out.below HB2.out)
        clear hb2
        go_wp2_with fail
        refine (HS.out _ HE2.out).mono ?_
        rintro e w3 ⟨rfl, hb3⟩
        have HB3 := Lib.hid (HB2.out.trans (hb3.mono HB2.out.size))
        clear hb3
        go_wp2
        go_ret
        exact ⟨rfl, HB3.out⟩

set_option maxHeartbeats 16000000 in
set_option maxRecDepth 100000 in
theorem num_walk3 (x0 x1 : Int) (w : World) (hx0 : 0 ≤ x0 ∧ x0 ≤ 65535) (hx1 : 0 ≤ x1 ∧ x1 ≤ 255) (hE : Env w) (hT : ErrT w) (h5 : x1 % 5 = 3) :
    Calls Tryz.prog 5 #[.int .u16 x0, .int .u8 x1] w fun e w' => e = .returned (.bool true) ∧ Below w.heap.size w w' := by
  have HK := Lib.hid (known_true w hE hT)
  have HE := Lib.hid hE; clear hE hT
  obtain ⟨x0a, x0b⟩ := hx0
  obtain ⟨x1a, x1b⟩ := hx1
  have hm : x1.tmod 5 = 3 := by rw [Int.tmod_eq_emod_of_nonneg x1a]; exact h5
  obtain ⟨k, hkx⟩ : ∃ k : Nat, x0 % 1100 = (k : Int) := ⟨(x0 % 1100).toNat, by omega⟩
  have hk : k < 1100 := by omega
  have HD : Hid (∀ W : World, Calls Tryz.prog 15 #[.int .i64 k] W fun e w' => e = .returned (.string ⟨(natF 4 k).toArray⟩) ∧ Below W.heap.size W w') := Lib.hid fun W => refDec_any k W hk
  obtain ⟨S, hS⟩ : ∃ S : ByteArray, S = ⟨(natF 4 k).toArray⟩ ++ ⟨#[120]⟩ := ⟨_, rfl⟩
  have HT : S.data.toList = natF 4 k ++ sufL 3 := by rw [hS]; simp [sufL]
  have hlen := natF_len 4 k
  have hsum : ∀ W : World, (Op.stringOp .add ⟨(natF 4 k).toArray⟩ ⟨#[120]⟩).run Tryz.prog W = .ok (.string S) W := fun W => by rw [hS]; exact run_string_add_sum W _ _ (by show (natF 4 k).toArray.size + (#[120] : Array UInt8).size ≤ _; simp; omega)
  have hidx := fun W : World => idx3 W
  clear hS hlen
  generalize (⟨(natF 4 k).toArray⟩ : ByteArray) = D at HD hsum
  by_cases hlo : (k : Int) < 200
  · have HS : Hid (∀ W : World, Env W → Calls Tryz.prog 16 #[.string S] W fun e w' => e = .returned (.tuple #[.int .i64 0, .string ⟨#[]⟩, .iface 38 (.int .i64 10)]) ∧ Below W.heap.size W w') := Lib.hid fun W hW => num_bad k 3 hk (by omega) (by unfold numGood; rw [decide_eq_false (by omega)]; rfl) S HT W hW
    clear HT hk
    go_enter Tryz.func5, Tryz.ntmps5
    go_wp2_with fail
    refine HK.out.mono ?_
    rintro e w1 ⟨rfl, hb1⟩
    have HB1 := Lib.hid hb1
    clear hb1
    go_wp2_with fail
    go_region_with (go_at_call 15; with_reducible (refine (HD.out _).mono ?_); rintro e w2 ⟨rfl, hb2⟩)
    all_goals
      have HB2 := Lib.hid (HB1.out.trans ((Below.refl _ _).drew.trans (hb2.mono (Nat.le_refl _)) |>.mono HB1.out.size))
      have HE2 := Lib.hid (HE.out.below HB2.out)
      clear hb2
      go_wp2_with fail
      refine (HS.out _ HE2.out).mono ?_
      rintro e w3 ⟨rfl, hb3⟩
      have HB3 := Lib.hid (HB2.out.trans (hb3.mono HB2.out.size))
      clear hb3
      go_wp2_with fail
      refine (is_num 10 10 _).mono ?_
      rintro e w4 ⟨rfl, rfl⟩
      rw [show ((10 : Int) == 10) = true from rfl]
      go_wp2
      go_ret
      exact ⟨rfl, HB3.out⟩
  · by_cases hhi : 599 < (k : Int)
    · have HS : Hid (∀ W : World, Env W → Calls Tryz.prog 16 #[.string S] W fun e w' => e = .returned (.tuple #[.int .i64 0, .string ⟨#[]⟩, .iface 38 (.int .i64 10)]) ∧ Below W.heap.size W w') := Lib.hid fun W hW => num_bad k 3 hk (by omega) (by unfold numGood; rw [decide_eq_true (by omega), decide_eq_false (by omega)]; rfl) S HT W hW
      clear HT hk
      go_enter Tryz.func5, Tryz.ntmps5
      go_wp2_with fail
      refine HK.out.mono ?_
      rintro e w1 ⟨rfl, hb1⟩
      have HB1 := Lib.hid hb1
      clear hb1
      go_wp2_with fail
      go_region_with (go_at_call 15; with_reducible (refine (HD.out _).mono ?_); rintro e w2 ⟨rfl, hb2⟩)
      all_goals
        have HB2 := Lib.hid (HB1.out.trans ((Below.refl _ _).drew.trans (hb2.mono (Nat.le_refl _)) |>.mono HB1.out.size))
        have HE2 := Lib.hid (HE.out.below HB2.out)
        clear hb2
        go_wp2_with fail
        refine (HS.out _ HE2.out).mono ?_
        rintro e w3 ⟨rfl, hb3⟩
        have HB3 := Lib.hid (HB2.out.trans (hb3.mono HB2.out.size))
        clear hb3
        go_wp2_with fail
        refine (is_num 10 10 _).mono ?_
        rintro e w4 ⟨rfl, rfl⟩
        rw [show ((10 : Int) == 10) = true from rfl]
        go_wp2
        go_ret
        exact ⟨rfl, HB3.out⟩
    · have HS : Hid (∀ W : World, Env W → Calls Tryz.prog 16 #[.string S] W fun e w' => e = .returned (.tuple #[.int .i64 0, .string ⟨#[]⟩, .iface 38 (.int .i64 10)]) ∧ Below W.heap.size W w') := Lib.hid fun W hW => num_bad k 3 hk (by omega) (by unfold numGood; rw [decide_eq_true (by omega), decide_eq_true (by omega)]; rfl) S HT W hW
      clear HT hk
      go_enter Tryz.func5, Tryz.ntmps5
      go_wp2_with fail
      refine HK.out.mono ?_
      rintro e w1 ⟨rfl, hb1⟩
      have HB1 := Lib.hid hb1
      clear hb1
      go_wp2_with fail
      go_region_with (go_at_call 15; with_reducible (refine (HD.out _).mono ?_); rintro e w2 ⟨rfl, hb2⟩)
      all_goals
        have HB2 := Lib.hid (HB1.out.trans ((Below.refl _ _).drew.trans (hb2.mono (Nat.le_refl _)) |>.mono HB1.out.size))
        have HE2 := Lib.hid (HE.out.below HB2.out)
        clear hb2
        go_wp2_with fail
        refine (HS.out _ HE2.out).mono ?_
        rintro e w3 ⟨rfl, hb3⟩
        have HB3 := Lib.hid (HB2.out.trans (hb3.mono HB2.out.size))
        clear hb3
        go_wp2_with fail
        refine (is_num 10 10 _).mono ?_
        rintro e w4 ⟨rfl, rfl⟩
        rw [show ((10 : Int) == 10) = true from rfl]
        go_wp2
        go_ret
        exact ⟨rfl, HB3.out⟩

set_option maxHeartbeats 16000000 in
set_option maxRecDepth 100000 in
theorem num_walk4 (x0 x1 : Int) (w : World) (hx0 : 0 ≤ x0 ∧ x0 ≤ 65535) (hx1 : 0 ≤ x1 ∧ x1 ≤ 255) (hE : Env w) (hT : ErrT w) (h5 : x1 % 5 = 4) :
    Calls Tryz.prog 5 #[.int .u16 x0, .int .u8 x1] w fun e w' => e = .returned (.bool true) ∧ Below w.heap.size w w' := by
  have HK := Lib.hid (known_true w hE hT)
  have HE := Lib.hid hE; clear hE hT
  obtain ⟨x0a, x0b⟩ := hx0
  obtain ⟨x1a, x1b⟩ := hx1
  have hm : x1.tmod 5 = 4 := by rw [Int.tmod_eq_emod_of_nonneg x1a]; exact h5
  obtain ⟨k, hkx⟩ : ∃ k : Nat, x0 % 1100 = (k : Int) := ⟨(x0 % 1100).toNat, by omega⟩
  have hk : k < 1100 := by omega
  have HD : Hid (∀ W : World, Calls Tryz.prog 15 #[.int .i64 k] W fun e w' => e = .returned (.string ⟨(natF 4 k).toArray⟩) ∧ Below W.heap.size W w') := Lib.hid fun W => refDec_any k W hk
  obtain ⟨S, hS⟩ : ∃ S : ByteArray, S = ⟨(natF 4 k).toArray⟩ ++ ⟨#[9]⟩ := ⟨_, rfl⟩
  have HT : S.data.toList = natF 4 k ++ sufL 4 := by rw [hS]; simp [sufL]
  have hlen := natF_len 4 k
  have hsum : ∀ W : World, (Op.stringOp .add ⟨(natF 4 k).toArray⟩ ⟨#[9]⟩).run Tryz.prog W = .ok (.string S) W := fun W => by rw [hS]; exact run_string_add_sum W _ _ (by show (natF 4 k).toArray.size + (#[9] : Array UInt8).size ≤ _; simp; omega)
  have hidx := fun W : World => idx4 W
  clear hS hlen
  generalize (⟨(natF 4 k).toArray⟩ : ByteArray) = D at HD hsum
  by_cases hlo : (k : Int) < 200
  · have HS : Hid (∀ W : World, Env W → Calls Tryz.prog 16 #[.string S] W fun e w' => e = .returned (.tuple #[.int .i64 0, .string ⟨#[]⟩, .iface 38 (.int .i64 10)]) ∧ Below W.heap.size W w') := Lib.hid fun W hW => num_bad k 4 hk (by omega) (by unfold numGood; rw [decide_eq_false (by omega)]; rfl) S HT W hW
    clear HT hk
    go_enter Tryz.func5, Tryz.ntmps5
    go_wp2_with fail
    refine HK.out.mono ?_
    rintro e w1 ⟨rfl, hb1⟩
    have HB1 := Lib.hid hb1
    clear hb1
    go_wp2_with fail
    go_region_with (go_at_call 15; with_reducible (refine (HD.out _).mono ?_); rintro e w2 ⟨rfl, hb2⟩)
    all_goals
      have HB2 := Lib.hid (HB1.out.trans ((Below.refl _ _).drew.trans (hb2.mono (Nat.le_refl _)) |>.mono HB1.out.size))
      have HE2 := Lib.hid (HE.out.below HB2.out)
      clear hb2
      go_wp2_with fail
      refine (HS.out _ HE2.out).mono ?_
      rintro e w3 ⟨rfl, hb3⟩
      have HB3 := Lib.hid (HB2.out.trans (hb3.mono HB2.out.size))
      clear hb3
      go_wp2_with fail
      refine (is_num 10 10 _).mono ?_
      rintro e w4 ⟨rfl, rfl⟩
      rw [show ((10 : Int) == 10) = true from rfl]
      go_wp2
      go_ret
      exact ⟨rfl, HB3.out⟩
  · by_cases hhi : 599 < (k : Int)
    · have HS : Hid (∀ W : World, Env W → Calls Tryz.prog 16 #[.string S] W fun e w' => e = .returned (.tuple #[.int .i64 0, .string ⟨#[]⟩, .iface 38 (.int .i64 10)]) ∧ Below W.heap.size W w') := Lib.hid fun W hW => num_bad k 4 hk (by omega) (by unfold numGood; rw [decide_eq_true (by omega), decide_eq_false (by omega)]; rfl) S HT W hW
      clear HT hk
      go_enter Tryz.func5, Tryz.ntmps5
      go_wp2_with fail
      refine HK.out.mono ?_
      rintro e w1 ⟨rfl, hb1⟩
      have HB1 := Lib.hid hb1
      clear hb1
      go_wp2_with fail
      go_region_with (go_at_call 15; with_reducible (refine (HD.out _).mono ?_); rintro e w2 ⟨rfl, hb2⟩)
      all_goals
        have HB2 := Lib.hid (HB1.out.trans ((Below.refl _ _).drew.trans (hb2.mono (Nat.le_refl _)) |>.mono HB1.out.size))
        have HE2 := Lib.hid (HE.out.below HB2.out)
        clear hb2
        go_wp2_with fail
        refine (HS.out _ HE2.out).mono ?_
        rintro e w3 ⟨rfl, hb3⟩
        have HB3 := Lib.hid (HB2.out.trans (hb3.mono HB2.out.size))
        clear hb3
        go_wp2_with fail
        refine (is_num 10 10 _).mono ?_
        rintro e w4 ⟨rfl, rfl⟩
        rw [show ((10 : Int) == 10) = true from rfl]
        go_wp2
        go_ret
        exact ⟨rfl, HB3.out⟩
    · have HS : Hid (∀ W : World, Env W → Calls Tryz.prog 16 #[.string S] W fun e w' => e = .returned (.tuple #[.int .i64 0, .string ⟨#[]⟩, .iface 38 (.int .i64 10)]) ∧ Below W.heap.size W w') := Lib.hid fun W hW => num_bad k 4 hk (by omega) (by unfold numGood; rw [decide_eq_true (by omega), decide_eq_true (by omega)]; rfl) S HT W hW
      clear HT hk
      go_enter Tryz.func5, Tryz.ntmps5
      go_wp2_with fail
      refine HK.out.mono ?_
      rintro e w1 ⟨rfl, hb1⟩
      have HB1 := Lib.hid hb1
      clear hb1
      go_wp2_with fail
      go_region_with (go_at_call 15; with_reducible (refine (HD.out _).mono ?_); rintro e w2 ⟨rfl, hb2⟩)
      all_goals
        have HB2 := Lib.hid (HB1.out.trans ((Below.refl _ _).drew.trans (hb2.mono (Nat.le_refl _)) |>.mono HB1.out.size))
        have HE2 := Lib.hid (HE.out.below HB2.out)
        clear hb2
        go_wp2_with fail
        refine (HS.out _ HE2.out).mono ?_
        rintro e w3 ⟨rfl, hb3⟩
        have HB3 := Lib.hid (HB2.out.trans (hb3.mono HB2.out.size))
        clear hb3
        go_wp2_with fail
        refine (is_num 10 10 _).mono ?_
        rintro e w4 ⟨rfl, rfl⟩
        rw [show ((10 : Int) == 10) = true from rfl]
        go_wp2
        go_ret
        exact ⟨rfl, HB3.out⟩

theorem CgiNumbers_walk (x0 x1 : Int) (w : World) (hx0 : 0 ≤ x0 ∧ x0 ≤ 65535) (hx1 : 0 ≤ x1 ∧ x1 ≤ 255) (hE : Env w) (hT : ErrT w) :
    Calls Tryz.prog 5 #[.int .u16 x0, .int .u8 x1] w fun e w' => e = .returned (.bool true) ∧ Below w.heap.size w w' := by
  have h : x1 % 5 = 0 ∨ x1 % 5 = 1 ∨ x1 % 5 = 2 ∨ x1 % 5 = 3 ∨ x1 % 5 = 4 := by omega
  rcases h with h | h | h | h | h
  · exact num_walk0 x0 x1 w hx0 hx1 hE hT h
  · exact num_walk1 x0 x1 w hx0 hx1 hE hT h
  · exact num_walk2 x0 x1 w hx0 hx1 hE hT h
  · exact num_walk3 x0 x1 w hx0 hx1 hE hT h
  · exact num_walk4 x0 x1 w hx0 hx1 hE hT h
end Go.Proofs.YtfbpiknckjgfnaaGreatDoor
