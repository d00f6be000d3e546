/-
  The document's octets (conduitref1): List: the same as package octet's.
-/
import Derived.Test.YtjmkhekigdnjgaaGreatDoorRefC
import Derived.Test.YtjmkhekigdnjgaaGreatDoorOctG
namespace Go.Proofs.YtjmkhekigdnjgaaGreatDoor
open Go.RowKit Go.Shelf

theorem commasL_none (p : List UInt8) (h : (44 : UInt8) ∉ p) : commasL p = [p] := by
  induction p with
  | nil => rfl
  | cons c r ih =>
    have h1 : c ≠ 44 := fun e => h (by rw [e]; exact .head _)
    have h2 : (44 : UInt8) ∉ r := fun e => h (.tail _ e)
    unfold commasL
    rw [if_neg h1, ih h2]
theorem commasL_cut (p r : List UInt8) (h : (44 : UInt8) ∉ p) : commasL (p ++ 44 :: r) = p :: commasL r := by
  induction p with
  | nil => rfl
  | cons c q ih =>
    have h1 : c ≠ 44 := fun e => h (by rw [e]; exact .head _)
    have h2 : (44 : UInt8) ∉ q := fun e => h (.tail _ e)
    rw [List.cons_append]
    conv => lhs; unfold commasL
    rw [if_neg h1, ih h2]
def keepL (q : List UInt8) : List (List UInt8) := if q = [] then [] else [q]
theorem listL_cut (p r : List UInt8) (h : (44 : UInt8) ∉ p) : listL (p ++ 44 :: r) = keepL (trimL p) ++ listL r := by
  unfold listL
  rw [commasL_cut p r h, List.map_cons]
  unfold keepL
  cases trimL p <;> simp
theorem listL_last (p : List UInt8) (h : (44 : UInt8) ∉ p) : listL p = keepL (trimL p) := by
  unfold listL
  rw [commasL_none p h]
  simp only [List.map_cons, List.map_nil]
  unfold keepL
  cases trimL p <;> simp
theorem listL_empty : listL [] = [] := by decide

theorem part_no (s : ByteArray) (k f : Nat) (hk : k < s.size) (hf : f ≤ k) (h : (44 : UInt8) ∉ (s.data.toList.drop f).take (k - f)) (hc : s[k] ≠ 44) : (44 : UInt8) ∉ (s.data.toList.drop f).take (k + 1 - f) := by
  rw [show k + 1 - f = (k - f) + 1 by omega, List.take_succ_eq_append_getElem (by rw [List.length_drop, len_eq]; omega), List.mem_append]
  rintro (h1 | h1)
  · exact h h1
  · simp only [List.getElem_drop, List.mem_singleton, show f + (k - f) = k by omega] at h1
    exact hc h1.symm
theorem part_cut (s : ByteArray) (k f : Nat) (hk : k < s.size) (hf : f ≤ k) (hc : s[k] = 44) : s.data.toList.drop f = (s.data.toList.drop f).take (k - f) ++ 44 :: s.data.toList.drop (k + 1) := by
  conv => lhs; rw [← List.take_append_drop (k - f) (s.data.toList.drop f)]
  rw [List.drop_drop, show f + (k - f) = k by omega, drop_at s k hk, hc]
theorem step_cut (s : ByteArray) (k f : Nat) (hf : f ≤ k) (hc : k = s.size ∨ ∃ h : k < s.size, s[k] = 44) (h : (44 : UInt8) ∉ (s.data.toList.drop f).take (k - f)) :
    listL (s.data.toList.drop f) = keepL (trimL (s.extract f k).data.toList) ++ listL (s.data.toList.drop (k + 1)) := by
  rw [Lib.extract_data]
  rcases hc with rfl | ⟨hk, hc⟩
  · rw [List.drop_eq_nil_of_le (i := s.size + 1) (by rw [len_eq]; omega), listL_empty, List.append_nil]
    have e : (s.data.toList.drop f).take (s.size - f) = s.data.toList.drop f := List.take_of_length_le (by rw [List.length_drop, len_eq]; exact Nat.le_refl _)
    rw [e] at h ⊢
    exact listL_last _ h
  · conv => lhs; rw [part_cut s k f hk hf hc]
    exact listL_cut _ _ h

set_option maxHeartbeats 8000000 in
set_option maxRecDepth 100000 in
theorem refList_any (s : ByteArray) (w : World) (hs : s.size < 4294967281) :
    Calls Tryz.prog 22 #[.string s] w (OwnsStrs w (listL s.data.toList)) := by
  obtain ⟨R, hR⟩ : ∃ R, R = listL s.data.toList := ⟨_, rfl⟩
  rw [← hR]
  have HR := Lib.hid hR; clear hR
  go_enter Tryz.func22, Tryz.ntmps22
  go_wp2
  go_loopw [3, 4, 5] (fun v fr i wr => ∃ (k f : Nat) (t : List (List UInt8)), k ≤ s.size + 1 ∧ f ≤ k ∧ t.length ≤ k ∧ fr = .int .i64 f ∧ i = .int .i64 k ∧ Hid (wr.ownsRow w.heap.size 9 1 v t.length (strVals t)) ∧ Hid (Below w.heap.size w wr) ∧
      Hid ((44 : UInt8) ∉ (s.data.toList.drop f).take (k - f)) ∧ Hid (k = s.size + 1 → f = k) ∧ Hid (R = t ++ listL (s.data.toList.drop f))) (fun _ _ i _ => s.size + 1 - (intOf i).toNat)
  case atStart => exact ⟨0, 0, [], Nat.zero_le _, Nat.le_refl _, Nat.le_refl _, rfl, rfl, World.ownsRow_nil _ _ _ _, Below.refl _ _, Lib.hid (by simp), Lib.hid (fun h => by omega), Lib.hid (by rw [HR.out]; rfl)⟩
  case round =>
    obtain ⟨k, f, t, hk, hf, ht, rfl, rfl, HO, HB, HC, HE, HT⟩ := hrel
    have hsz := HB.out.size
    by_cases hend : k = s.size + 1
    · have hfe := HE.out hend
      have hT := HT.out
      rw [List.drop_eq_nil_of_le (by rw [len_eq]; omega), listL_empty, List.append_nil] at hT
      have HT2 := Lib.hid hT
      clear hT hfe HT HE
      subst hend
      go_wp2
      go_ret
      exact ⟨_, rfl, by rw [HT2.out]; exact HO.out, HB.out⟩
    · by_cases hcut : k = s.size ∨ ∃ h : k < s.size, s[k] = 44
      · have hst := step_cut s k f hf hcut HC.out
        have HP : Hid (∀ W : World, Calls Tryz.prog 16 #[.string (s.extract f k)] W fun e w' => e = .returned (.string ⟨(trimL (s.extract f k).data.toList).toArray⟩) ∧ W = w') := Lib.hid fun W => refTrim_any _ W (by unfold maxLen; simp; omega)
        have hNC : Hid ((44 : UInt8) ∉ (s.data.toList.drop (k + 1)).take (k + 1 - (k + 1))) := Lib.hid (by simp)
        have hT := HT.out
        rw [hst, ← List.append_assoc] at hT
        have hks : k ≤ s.size := by omega
        generalize trimL (s.extract f k).data.toList = q at hT HP
        have hcut2 : (((k : Int) == (s.size : Int)) = true ∧ s.size ≤ k) ∨ ∃ h : k < s.size, ((k : Int) == (s.size : Int)) = false ∧ ((s[k].toNat : Int) == 44) = true := by
          rcases hcut with h | ⟨h, e⟩
          · exact .inl ⟨by rw [beq_iff_eq]; omega, by omega⟩
          · exact .inr ⟨h, by rw [beq_eq_false_iff_ne]; omega, by rw [e]; rfl⟩
        clear hcut hst HC HT HE
        cases q with
        | nil =>
          have HT2 : Hid (R = t ++ listL (s.data.toList.drop (k + 1))) := Lib.hid (by rw [hT]; simp [keepL])
          clear hT
          rcases hcut2 with ⟨g1, g2⟩ | ⟨h, g1, g2⟩
          all_goals
            go_wp2_with (go_at_call 16; refine (HP.out _).mono ?_; rintro e w1 ⟨rfl, rfl⟩)
            go_roundw
            case rel => exact ⟨k + 1, k + 1, t, by omega, Nat.le_refl _, by omega, by go_num, by go_num, HO, HB, hNC, Lib.hid (fun _ => rfl), HT2⟩
            case measure => simp [intOf]; omega
        | cons c q =>
          have HT2 : Hid (R = (t ++ [c :: q]) ++ listL (s.data.toList.drop (k + 1))) := Lib.hid (by rw [hT]; simp [keepL])
          have hne : (⟨(c :: q).toArray⟩ : ByteArray).toList.isEmpty = false := by rw [ByteArray.toList_eq]; rfl
          clear hT
          rcases hcut2 with ⟨g1, g2⟩ | ⟨h, g1, g2⟩
          all_goals
            go_wp2_with (first
              | (go_at_call 16; refine (HP.out _).mono ?_; rintro e w1 ⟨rfl, rfl⟩)
              | (at_builtin; refine app_strs rfl _ _ rfl w.heap.size t [c :: q] _ rfl (HO.out.alloc _) ⟨_, 0, none⟩ 1 1 rfl rfl (cell_one_new _ _ _) (by simp; omega) (by simp; omega) ?_; intro v' w2 hown' hg' hb' _; have HO2 := Lib.hid hown'; have HB2 := Lib.hid hb'; clear hown' hg' hb'))
            go_roundw
            case rel => exact ⟨k + 1, k + 1, t ++ [c :: q], by omega, Nat.le_refl _, by simp; omega, by go_num, by go_num, HO2, Lib.hid ((HB.out.alloc hsz _).trans HB2.out), hNC, Lib.hid (fun _ => rfl), HT2⟩
            case measure => simp [intOf]; omega
      · have hlt : k < s.size := by
          rcases Nat.lt_or_ge k s.size with h | h
          · exact h
          · exact absurd (.inl (by omega)) hcut
        have hne : s[k] ≠ 44 := fun e => hcut (.inr ⟨hlt, e⟩)
        have hNC := Lib.hid (part_no s k f hlt hf HC.out hne)
        have hne2 : ((s[k].toNat : Int) == 44) = false := by
          rw [beq_eq_false_iff_ne]
          intro e
          exact hne (UInt8.toNat_inj.1 (by simpa using (by omega : s[k].toNat = 44)))
        have hkb : ((k : Int) == (s.size : Int)) = false := by rw [beq_eq_false_iff_ne]; omega
        clear hcut hne HC
        go_wp2
        go_roundw
        case rel => exact ⟨k + 1, f, t, by omega, by omega, by omega, rfl, by go_num, HO, HB, hNC, Lib.hid (fun h => by omega), HT⟩
        case measure => simp [intOf]; omega
end Go.Proofs.YtjmkhekigdnjgaaGreatDoor
