/-
  The laws of layer 1: what they lean on: 'same' of two rows of the same texts; 'known'.
-/
import Derived.Test.YtjmkhekigdnjgaaGreatDoorOctG
import Derived.BigQuiet
namespace Go.Proofs.YtjmkhekigdnjgaaGreatDoor
open Go.RowKit Go.Shelf

theorem strs_open {w : World} {B : Nat} {v : Value} {l : List (List UInt8)} (h : w.ownsRow B 9 1 v l.length (strVals l)) :
    (v = .slice none 0 0 ∧ l = []) ∨ ∃ g cap, v = .slice (some ⟨g, 0, none⟩) l.length cap ∧ l.length ≤ 9223372036854775807 ∧ ∀ j (hj : j < l.length), w.cell? ⟨g, j, none⟩ = some (strVal l[j]) := by
  rcases h.2 with ⟨h1, h0⟩ | ⟨g, cap, cur, rfl, hb, hg, hn, hm, hc, ht⟩
  · exact .inl ⟨h1, List.length_eq_zero_iff.1 h0⟩
  · exact .inr ⟨g, cap, rfl, by unfold maxLen at hm; omega, fun j hj => strs_cell h rfl j hj⟩

theorem same_nil (va vb : Value) (ha : va = .slice none 0 0 ∨ ∃ a c, va = .slice (some a) 0 c) (hb : vb = .slice none 0 0 ∨ ∃ a c, vb = .slice (some a) 0 c) (w : World) :
    Calls Tryz.prog 20 #[va, vb] w fun e w' => e = .returned (.bool true) ∧ w = w' := by
  rcases ha with rfl | ⟨a, c, rfl⟩ <;> rcases hb with rfl | ⟨b, d, rfl⟩ <;>
   (go_enter Tryz.func20, Tryz.ntmps20
    go_wp2
    refine wp_loop_rounds 1 ?_
    rw [rounds_succ]
    go_wp2
    go_ret
    exact ⟨rfl, rfl⟩)
theorem same_some (n g1 g2 c1 c2 : Nat) (f : Nat → ByteArray) (w : World) (hn : n ≤ 9223372036854775807)
    (h1 : ∀ j, j < n → w.cell? ⟨g1, j, none⟩ = some (.string (f j))) (h2 : ∀ j, j < n → w.cell? ⟨g2, j, none⟩ = some (.string (f j))) :
    Calls Tryz.prog 20 #[.slice (some ⟨g1, 0, none⟩) n c1, .slice (some ⟨g2, 0, none⟩) n c2] w fun e w' => e = .returned (.bool true) ∧ Below w.heap.size w w' := by
  have H1 := Lib.hid h1; have H2 := Lib.hid h2; clear h1 h2
  go_enter Tryz.func20, Tryz.ntmps20
  go_wp2
  go_loopw [5] (fun i wr => ∃ (k q : Nat), k ≤ n ∧ i = .int .i64 k ∧ wr = w.drewN q) (fun i _ => n - (intOf i).toNat)
  case atStart => exact ⟨0, 0, Nat.zero_le _, rfl, rfl⟩
  case round =>
    obtain ⟨k, q, hk, rfl, rfl⟩ := hrel
    by_cases hlt : k < n
    · have c1' := H1.out k hlt
      have c2' := H2.out k hlt
      have kn : (k : Int) < n := by omega
      go_wp2
      go_quiet (fail)
      go_wp2
      go_roundw
      case rel => exact ⟨k + 1, _, by omega, by go_num, rfl⟩
      case measure => simp [intOf]; omega
    · go_wp2
      go_ret
      exact ⟨rfl, below_drewN (Below.refl _ _) _⟩
theorem same_true {w : World} {B1 B2 : Nat} {va vb : Value} {l : List (List UInt8)} (ha : w.ownsRow B1 9 1 va l.length (strVals l)) (hb : w.ownsRow B2 9 1 vb l.length (strVals l)) :
    Calls Tryz.prog 20 #[va, vb] w fun e w' => e = .returned (.bool true) ∧ Below w.heap.size w w' := by
  rcases strs_open ha with ⟨rfl, rfl⟩ | ⟨g1, c1, rfl, hn, h1⟩
  · rcases strs_open hb with ⟨rfl, _⟩ | ⟨g2, c2, rfl, _, _⟩
    · exact (same_nil _ _ (.inl rfl) (.inl rfl) w).mono fun _ _ ⟨a, b⟩ => ⟨a, b ▸ Below.refl _ _⟩
    · exact (same_nil _ _ (.inl rfl) (.inr ⟨_, _, rfl⟩) w).mono fun _ _ ⟨a, b⟩ => ⟨a, b ▸ Below.refl _ _⟩
  · rcases strs_open hb with ⟨rfl, rfl⟩ | ⟨g2, c2, rfl, _, h2⟩
    · exact (same_nil _ _ (.inr ⟨_, _, rfl⟩) (.inl rfl) w).mono fun _ _ ⟨a, b⟩ => ⟨a, b ▸ Below.refl _ _⟩
    · refine same_some l.length g1 g2 c1 c2 (fun j => ⟨(l.getD j []).toArray⟩) w hn (fun j hj => ?_) (fun j hj => ?_)
      · rw [h1 j hj]; simp [strVal, List.getD, hj]
      · rw [h2 j hj]; simp [strVal, List.getD, hj]

theorem k_u1 (W : World) : Calls Tryz.prog 9 #[.string ⟨#[37, 52, 49, 37, 50, 102]⟩] W fun e w' => e = .returned (.tuple #[.string ⟨#[65, 47]⟩, .nilIface]) ∧ Below W.heap.size W w' :=
  Unescape_any ⟨#[37, 52, 49, 37, 50, 102]⟩ W (by decide)
theorem k_u2 (W : World) : Calls Tryz.prog 9 #[.string ⟨#[37, 52]⟩] W fun e w' => e = .returned (.tuple #[.string ⟨#[]⟩, .iface 38 (.int .i64 10)]) ∧ Below W.heap.size W w' :=
  Unescape_any ⟨#[37, 52]⟩ W (by decide)
theorem k_d1 (W : World) : Calls Tryz.prog 5 #[.string ⟨#[49, 50]⟩] W fun e w' => e = .returned (.tuple #[.int .i64 12, .bool true]) ∧ Below W.heap.size W w' :=
  Dec_any ⟨#[49, 50]⟩ W (by unfold maxLen; decide)
theorem k_d2 (W : World) : Calls Tryz.prog 5 #[.string ⟨#[]⟩] W fun e w' => e = .returned (.tuple #[.int .i64 0, .bool false]) ∧ Below W.heap.size W w' :=
  Dec_any ⟨#[]⟩ W (by unfold maxLen; decide)
theorem k_h1 (W : World) : Calls Tryz.prog 7 #[.string ⟨#[102, 70]⟩] W fun e w' => e = .returned (.tuple #[.int .i64 255, .bool true]) ∧ Below W.heap.size W w' :=
  Hex_any ⟨#[102, 70]⟩ W (by unfold maxLen; decide)
theorem k_t1 (W : World) : Calls Tryz.prog 11 #[.string ⟨#[97, 45, 49]⟩] W fun e w' => e = .returned (.bool true) ∧ W = w' := Token_any ⟨#[97, 45, 49]⟩ W (by unfold maxLen; decide)
theorem k_t2 (W : World) : Calls Tryz.prog 11 #[.string ⟨#[97, 32, 98]⟩] W fun e w' => e = .returned (.bool false) ∧ W = w' := Token_any ⟨#[97, 32, 98]⟩ W (by unfold maxLen; decide)
theorem k_t3 (W : World) : Calls Tryz.prog 11 #[.string ⟨#[]⟩] W fun e w' => e = .returned (.bool false) ∧ W = w' := Token_any ⟨#[]⟩ W (by unfold maxLen; decide)
theorem k_l1 (W : World) : Calls Tryz.prog 13 #[.string ⟨#[65, 98]⟩] W fun e w' => e = .returned (.string ⟨#[97, 98]⟩) ∧ Below W.heap.size W w' := Lower_any ⟨#[65, 98]⟩ W (by unfold maxLen; decide)
theorem k_r1 (W : World) : Calls Tryz.prog 15 #[.string ⟨#[32, 9, 97, 32]⟩] W fun e w' => e = .returned (.string ⟨#[97]⟩) ∧ Below W.heap.size W w' := Trim_any ⟨#[32, 9, 97, 32]⟩ W (by unfold maxLen; decide)
theorem k_e1 (W : World) : Calls Tryz.prog 18 #[.string ⟨#[97, 32, 98]⟩] W fun e w' => e = .returned (.string ⟨#[97, 37, 50, 48, 98]⟩) ∧ Below W.heap.size W w' := Escape_any ⟨#[97, 32, 98]⟩ W (by decide)
theorem k_s1 (W : World) (h : Env W) : Calls Tryz.prog 21 #[.string ⟨#[97, 44, 32, 44, 98]⟩] W (OwnsStrs W [[97], [98]]) := List_any ⟨#[97, 44, 32, 44, 98]⟩ W h (by decide)

theorem lit2 (w : World) (a b : List UInt8) : (w.alloc (.cells #[strVal a, strVal b] 9)).ownsRow w.heap.size 9 1 (.slice (some ⟨w.heap.size, 0, none⟩) 2 2) [a, b].length (strVals [a, b]) :=
  ⟨by simp [strVals], .inr ⟨w.heap.size, 2, _, rfl, Nat.le_refl _, heap_alloc_new w _, by simp, by unfold maxLen; omega, by simp, by simp [strVals]⟩⟩

set_option maxHeartbeats 2000000 in
set_option maxRecDepth 100000 in
theorem known_true (w : World) (hE : Env w) :
    Calls Tryz.prog 4 #[] w fun e w' => e = .returned (.bool true) ∧ Below w.heap.size w w' := by
  have HE := Lib.hid hE; clear hE
  go_enter Tryz.func4, Tryz.ntmps4
  go_wp2_with fail
  refine (k_u1 _).mono ?_; rintro e w1 ⟨rfl, hb1⟩; have HB := Lib.hid hb1; have hz := hb1.size; clear hb1
  go_wp2_with fail
  refine (k_u2 _).mono ?_; rintro e w2 ⟨rfl, hb2⟩; have HB2 := Lib.hid (HB.out.trans (hb2.mono hz)); have hz2 := Nat.le_trans hz hb2.size; clear hb2 HB hz
  go_wp2_with fail
  refine (k_d1 _).mono ?_; rintro e w3 ⟨rfl, hb3⟩; have HB3 := Lib.hid (HB2.out.trans (hb3.mono hz2)); have hz3 := Nat.le_trans hz2 hb3.size; clear hb3 HB2 hz2
  go_wp2_with fail
  refine (k_h1 _).mono ?_; rintro e w4 ⟨rfl, hb4⟩; have HB4 := Lib.hid (HB3.out.trans (hb4.mono hz3)); have hz4 := Nat.le_trans hz3 hb4.size; clear hb4 HB3 hz3
  go_wp2_with fail
  refine (k_d2 _).mono ?_; rintro e w5 ⟨rfl, hb5⟩; have HB5 := Lib.hid (HB4.out.trans (hb5.mono hz4)); have hz5 := Nat.le_trans hz4 hb5.size; clear hb5 HB4 hz4
  go_wp2_with fail
  refine (k_t1 _).mono ?_; rintro e w6 ⟨rfl, rfl⟩
  go_wp2_with fail
  refine (k_t2 _).mono ?_; rintro e w6 ⟨rfl, rfl⟩
  go_wp2_with fail
  refine (k_t3 _).mono ?_; rintro e w6 ⟨rfl, rfl⟩
  go_wp2_with fail
  refine (k_l1 _).mono ?_; rintro e w6 ⟨rfl, hb6⟩; have HB6 := Lib.hid (HB5.out.trans (hb6.mono hz5)); have hz6 := Nat.le_trans hz5 hb6.size; clear hb6 HB5 hz5
  go_wp2_with fail
  refine (k_r1 _).mono ?_; rintro e w7 ⟨rfl, hb7⟩; have HB7 := Lib.hid (HB6.out.trans (hb7.mono hz6)); have hz7 := Nat.le_trans hz6 hb7.size; clear hb7 HB6 hz6
  go_wp2_with fail
  refine (is_num _ _ _).mono ?_; rintro e w8 ⟨rfl, rfl⟩
  go_wp2_with fail
  refine (k_e1 _).mono ?_; rintro e w8 ⟨rfl, hb8⟩; have HB8 := Lib.hid (HB7.out.trans (hb8.mono hz7)); have hz8 := Nat.le_trans hz7 hb8.size; clear hb8 HB7 hz7
  go_wp2_with fail
  refine (k_s1 _ (HE.out.below HB8.out)).mono ?_; rintro e w9 ⟨v, rfl, ho9, hb9⟩; have HB9 := Lib.hid (HB8.out.trans (hb9.mono hz8)); have hz9 := Nat.le_trans hz8 hb9.size; have HO := Lib.hid ho9; clear hb9 HB8 hz8 ho9
  go_wp2_with fail
  refine (same_true (HO.out.alloc _) (lit2 _ [97] [98])).mono ?_; rintro e w10 ⟨rfl, hb10⟩; have HB10 := Lib.hid ((HB9.out.alloc hz9 _).trans (hb10.mono (by simp; omega))); clear hb10
  go_wp2
  go_ret
  exact ⟨rfl, HB10.out⟩
end Go.Proofs.YtjmkhekigdnjgaaGreatDoor
