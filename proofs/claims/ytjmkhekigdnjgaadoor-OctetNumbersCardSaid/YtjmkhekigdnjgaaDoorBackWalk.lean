/-
  OctetBack's walk.
-/
import Derived.Test.YtjmkhekigdnjgaaDoorLaw1A
import Derived.Test.YtjmkhekigdnjgaaDoorLaw1B
namespace Go.Proofs.YtjmkhekigdnjgaaDoor
open Go.RowKit Go.Shelf

theorem bytes_of (s : ByteArray) : (⟨s.data.toList.toArray⟩ : ByteArray) = s := by cases s; simp
set_option maxHeartbeats 4000000 in
set_option maxRecDepth 100000 in
theorem OctetBack_walk (s : ByteArray) (w : World) (hE : Env w) :
    Calls Tryd.prog 3 #[.string s] w fun e w' => e = .returned (.bool true) ∧ Below w.heap.size w w' := by
  have HK := Lib.hid (known_true w hE)
  have HE := Lib.hid hE; clear hE
  by_cases hbig : 400 < s.size
  · go_enter Tryd.func3, Tryd.ntmps3
    go_wp2_with (go_at_call 7; refine HK.out.mono ?_; rintro e w1 ⟨rfl, hb1⟩)
    go_ret
    exact ⟨rfl, by assumption⟩
  · have hsm : s.size ≤ 400 := by omega
    clear hbig
    have hl := len_eq s
    have hel := escapeL_len s.data.toList
    have HEs : Hid (∀ W : World, Calls Tryd.prog 9 #[.string s] W fun e w' => e = .returned (.string ⟨(escapeL s.data.toList).toArray⟩) ∧ Below W.heap.size W w') := Lib.hid fun W => Escape_any s W (by omega)
    have HUn : Hid (∀ W : World, Calls Tryd.prog 8 #[.string ⟨(escapeL s.data.toList).toArray⟩] W fun e w' => e = .returned (unescV (if 0 ∈ s.data.toList then none else some s.data.toList)) ∧ Below W.heap.size W w') := Lib.hid fun W => by
      have := Unescape_any ⟨(escapeL s.data.toList).toArray⟩ W (by show (escapeL s.data.toList).toArray.size ≤ _; simp; omega)
      rw [show (⟨(escapeL s.data.toList).toArray⟩ : ByteArray).data.toList = escapeL s.data.toList from rfl, back] at this
      exact this
    generalize escapeL s.data.toList = E at HEs HUn
    clear hl hel
    go_enter Tryd.func3, Tryd.ntmps3
    go_wp2_with (first | (go_at_call 7; refine HK.out.mono ?_; rintro e w1 ⟨rfl, hb1⟩; have HB1 := Lib.hid hb1; have hz1 := hb1.size; clear hb1))
    go_loop [3] (fun i => ∃ k : Nat, k ≤ s.size ∧ i = .int .i64 k ∧ Hid (0 ∉ s.data.toList.take k)) (fun i => s.size - (intOf i).toNat)
    case atStart => exact ⟨0, Nat.zero_le _, rfl, Lib.hid (by simp)⟩
    case round =>
      obtain ⟨k, hk, rfl, H0⟩ := hrel
      by_cases hlt : k < s.size
      · have hsn := take_snoc s k hlt
        by_cases hz : s[k] = 0
        · have hm : 0 ∈ s.data.toList := by rw [← hz]; simp [ByteArray.getElem_eq_getElem_data]
          have hz2 : (s[k].toNat : Int) = 0 := by rw [hz]; rfl
          rw [if_pos hm] at HUn
          clear hsn hm hz
          have HU2 : Hid (∀ W : World, Calls Tryd.prog 8 #[.string ⟨E.toArray⟩] W fun e w' => e = .returned (.tuple #[.string ⟨#[]⟩, .iface 29 (.int .i64 10)]) ∧ Below W.heap.size W w') := HUn
          clear HUn
          go_wp2_with (first
            | (go_at_call 9; refine (HEs.out _).mono ?_; rintro e w2 ⟨rfl, hb2⟩; have HB2 := Lib.hid hb2; have hz2 := hb2.size; clear hb2)
            | (go_at_call 8; refine (HU2.out _).mono ?_; rintro e w3 ⟨rfl, hb3⟩; have HB3 := Lib.hid hb3; clear hb3)
            | (go_at_call 10; refine (is_num _ _ _).mono ?_; rintro e w4 ⟨rfl, rfl⟩))
          go_ret
          exact ⟨rfl, (HB1.out.trans (HB2.out.mono hz1)).trans (HB3.out.mono (Nat.le_trans hz1 hz2))⟩
        · have hz2 : (s[k].toNat : Int) ≠ 0 := by
            intro e
            exact hz (UInt8.toNat_inj.1 (by simpa using e))
          have HN : Hid (0 ∉ s.data.toList.take (k + 1)) := Lib.hid (by rw [hsn]; simp only [List.mem_append, List.mem_singleton, not_or]; exact ⟨H0.out, Ne.symm hz⟩)
          clear hsn hz
          go_wp2
          go_round
          case rel => exact ⟨k + 1, by omega, by go_num, HN⟩
          case measure => simp [intOf]; omega
      · have h0 := H0.out
        rw [take_all s k hk hlt] at h0
        rw [if_neg h0] at HUn
        have HU2 : Hid (∀ W : World, Calls Tryd.prog 8 #[.string ⟨E.toArray⟩] W fun e w' => e = .returned (.tuple #[.string s, .nilIface]) ∧ Below W.heap.size W w') := by
          have e : unescV (some s.data.toList) = .tuple #[.string s, .nilIface] := by show Value.tuple #[.string ⟨s.data.toList.toArray⟩, .nilIface] = _; rw [bytes_of]
          rw [e] at HUn; exact HUn
        clear HUn h0
        have HL1 : Hid (∀ W : World, Calls Tryd.prog 11 #[.string s] W fun e w' => e = .returned (.string ⟨(lowerL s.data.toList).toArray⟩) ∧ Below W.heap.size W w') := Lib.hid fun W => Lower_any s W (by unfold maxLen; omega)
        have HL2 : Hid (∀ W : World, Calls Tryd.prog 11 #[.string ⟨(lowerL s.data.toList).toArray⟩] W fun e w' => e = .returned (.string ⟨(lowerL s.data.toList).toArray⟩) ∧ Below W.heap.size W w') := Lib.hid fun W => by
          have := Lower_any ⟨(lowerL s.data.toList).toArray⟩ W (by unfold maxLen; show (lowerL s.data.toList).toArray.size ≤ _; simp [lowerL]; omega)
          rw [show (⟨(lowerL s.data.toList).toArray⟩ : ByteArray).data.toList = lowerL s.data.toList from rfl, lower_twice] at this
          exact this
        have htl := trimS_len s.data.toList [32, 9]
        rw [len_eq] at htl
        have HT1 : Hid (∀ W : World, Calls Tryd.prog 12 #[.string s] W fun e w' => e = .returned (.string ⟨(trimL s.data.toList).toArray⟩) ∧ Below W.heap.size W w') := Lib.hid fun W => Trim_any s W (by unfold maxLen; omega)
        have HT2 : Hid (∀ W : World, Calls Tryd.prog 12 #[.string ⟨(trimL s.data.toList).toArray⟩] W fun e w' => e = .returned (.string ⟨(trimL s.data.toList).toArray⟩) ∧ Below W.heap.size W w') := Lib.hid fun W => by
          have := Trim_any ⟨(trimL s.data.toList).toArray⟩ W (by unfold maxLen; show (trimL s.data.toList).toArray.size ≤ _; simp only [List.size_toArray]; unfold trimL; omega)
          rw [show (⟨(trimL s.data.toList).toArray⟩ : ByteArray).data.toList = trimL s.data.toList from rfl, trim_twice] at this
          exact this
        have HT3 : Hid (∀ W : World, Calls Tryd.prog 12 #[.string (⟨#[32]⟩ ++ s ++ ⟨#[9]⟩)] W fun e w' => e = .returned (.string ⟨(trimL s.data.toList).toArray⟩) ∧ Below W.heap.size W w') := Lib.hid fun W => by
          have := Trim_any (⟨#[32]⟩ ++ s ++ ⟨#[9]⟩) W (by unfold maxLen; have e1 : (⟨#[32]⟩ : ByteArray).size = 1 := rfl; have e2 : (⟨#[9]⟩ : ByteArray).size = 1 := rfl; rw [ByteArray.size_append, ByteArray.size_append, e1, e2]; omega)
          rw [show (⟨#[32]⟩ ++ s ++ ⟨#[9]⟩ : ByteArray).data.toList = 32 :: s.data.toList ++ [9] by simp, trim_round] at this
          exact this
        generalize lowerL s.data.toList = A at HL1 HL2
        generalize trimL s.data.toList = T at HT1 HT2 HT3
        clear htl
        go_wp2_with fail
        refine (HEs.out _).mono ?_; rintro e w2 ⟨rfl, hb2⟩; have HB2 := Lib.hid (HB1.out.trans (hb2.mono hz1)); have hz2 := Nat.le_trans hz1 hb2.size; clear hb2 HB1 hz1
        go_wp2_with fail
        refine (HU2.out _).mono ?_; rintro e w3 ⟨rfl, hb3⟩; have HB3 := Lib.hid (HB2.out.trans (hb3.mono hz2)); have hz3 := Nat.le_trans hz2 hb3.size; clear hb3 HB2 hz2
        go_wp2_with fail
        refine (HL1.out _).mono ?_; rintro e w4 ⟨rfl, hb4⟩; have HB4 := Lib.hid (HB3.out.trans (hb4.mono hz3)); have hz4 := Nat.le_trans hz3 hb4.size; clear hb4 HB3 hz3
        go_wp2_with fail
        refine (HL2.out _).mono ?_; rintro e w5 ⟨rfl, hb5⟩; have HB5 := Lib.hid (HB4.out.trans (hb5.mono hz4)); have hz5 := Nat.le_trans hz4 hb5.size; clear hb5 HB4 hz4
        go_wp2_with fail
        refine (HL1.out _).mono ?_; rintro e w6 ⟨rfl, hb6⟩; have HB6 := Lib.hid (HB5.out.trans (hb6.mono hz5)); have hz6 := Nat.le_trans hz5 hb6.size; clear hb6 HB5 hz5
        go_wp2_with fail
        refine (HT1.out _).mono ?_; rintro e w7 ⟨rfl, hb7⟩; have HB7 := Lib.hid (HB6.out.trans (hb7.mono hz6)); have hz7 := Nat.le_trans hz6 hb7.size; clear hb7 HB6 hz6
        go_wp2_with fail
        refine (HT2.out _).mono ?_; rintro e w8 ⟨rfl, hb8⟩; have HB8 := Lib.hid (HB7.out.trans (hb8.mono hz7)); have hz8 := Nat.le_trans hz7 hb8.size; clear hb8 HB7 hz7
        go_wp2_with fail
        refine (HT1.out _).mono ?_; rintro e w9 ⟨rfl, hb9⟩; have HB9 := Lib.hid (HB8.out.trans (hb9.mono hz8)); have hz9 := Nat.le_trans hz8 hb9.size; clear hb9 HB8 hz8
        go_wp2_with fail
        refine (HT3.out _).mono ?_; rintro e w10 ⟨rfl, hb10⟩; have HB10 := Lib.hid (HB9.out.trans (hb10.mono hz9)); have hz10 := Nat.le_trans hz9 hb10.size; clear hb10 HB9 hz9
        go_wp2_with fail
        refine (HT1.out _).mono ?_; rintro e w11 ⟨rfl, hb11⟩; have HB11 := Lib.hid (HB10.out.trans (hb11.mono hz10)); clear hb11 HB10 hz10
        go_wp2
        go_ret
        exact ⟨rfl, HB11.out⟩
end Go.Proofs.YtjmkhekigdnjgaaDoor
