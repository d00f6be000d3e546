/-
  Package octet: Dec, Hex, Trim, Lower, Escape: what each answers; nothing that was there turns.
-/
import Derived.Test.YtfbpiknckjgfnaaGreatDoorOctC
import Derived.Test.YtfbpiknckjgfnaaGreatDoorShelf
namespace Go.Proofs.YtfbpiknckjgfnaaGreatDoor
open Go.RowKit Go.Shelf

theorem Token_any (s : ByteArray) (w : World) (hs : s.size ≤ maxLen) :
    Calls Tryz.prog 56 #[.string s] w fun e w' => e = .returned (.bool (allB tokenB s.data.toList)) ∧ w = w' := by
  have HA := Lib.hid (all_any asks_token s w hs)
  clear hs
  go_enter Tryz.func56, Tryz.ntmps56
  go_wp2_with (go_at_call 47; refine HA.out.mono ?_; rintro e w' ⟨rfl, rfl⟩)
  go_ret
  exact ⟨rfl, rfl⟩

theorem Dec_any (s : ByteArray) (w : World) (hs : s.size ≤ maxLen) :
    Calls Tryz.prog 26 #[.string s] w fun e w' => e = .returned (.tuple #[.int .i64 (numOf 10 9 s.data.toList), .bool (numOk 10 9 s.data.toList)]) ∧ Below w.heap.size w w' := by
  have HN := Lib.hid (number_any 10 (.inl rfl) asks_dec 9 (by decide) s w hs)
  clear hs
  generalize numOf 10 9 s.data.toList = n at HN ⊢
  generalize numOk 10 9 s.data.toList = b at HN ⊢
  go_enter Tryz.func26, Tryz.ntmps26
  go_wp2_with (go_at_call 36; refine HN.out.mono ?_; rintro e w' ⟨rfl, hb⟩)
  go_ret2
  exact ⟨rfl, by assumption⟩

/-- Without blanks, tabs on both ends. -/
def trimL (l : List UInt8) : List UInt8 := Lib.trimS l [32, 9]
theorem trimS_len (l cs : List UInt8) : (Lib.trimS l cs).length ≤ l.length := by
  unfold Lib.trimS Lib.trimLeftS Lib.trimRightS
  have h1 := List.IsSuffix.length_le (List.dropWhile_suffix (l := (List.dropWhile (fun x => cs.contains x) l.reverse).reverse) (fun x => cs.contains x))
  have h2 := List.IsSuffix.length_le (List.dropWhile_suffix (l := l.reverse) (fun x => cs.contains x))
  simp only [List.length_reverse] at h1 h2
  omega
theorem Trim_any (s : ByteArray) (w : World) (hs : s.size ≤ maxLen) :
    Calls Tryz.prog 27 #[.string s] w fun e w' => e = .returned (.string ⟨(trimL s.data.toList).toArray⟩) ∧ Below w.heap.size w w' := by
  unfold maxLen at hs
  have c : Calls Tryz.prog 38 #[.string s, .string ⟨#[32, 9]⟩] w fun e w' => e = .returned (.string ⟨(trimL s.data.toList).toArray⟩) ∧ Below w.heap.size w w' :=
    Any.strings_Trim_laid Tryz.laysTrim (by kernel_rfl) s ⟨#[32, 9]⟩ w (by omega) (by decide) (ascii_of_all (by decide))
  have HC := Lib.hid c
  clear c hs
  generalize trimL s.data.toList = l at HC ⊢
  go_enter Tryz.func27, Tryz.ntmps27
  go_wp2_with (go_at_call 38; refine HC.out.mono ?_; rintro e w' ⟨rfl, hb⟩)
  go_ret
  exact ⟨rfl, by assumption⟩

/-! ### Lower -/
def lowB (c : UInt8) : UInt8 := if 65 ≤ c.toNat ∧ c.toNat ≤ 90 then UInt8.ofNat (c.toNat + 32) else c
def lowerL (l : List UInt8) : List UInt8 := l.map lowB
theorem lowB_up {c : UInt8} (h1 : 65 ≤ (c.toNat : Int)) (h2 : (c.toNat : Int) ≤ 90) : ((lowB c).toNat : Int) = (c.toNat : Int) + 32 := by
  unfold lowB
  rw [if_pos ⟨by omega, by omega⟩]
  simp
  omega
theorem lowB_not {c : UInt8} (h : ¬ (65 ≤ (c.toNat : Int) ∧ (c.toNat : Int) ≤ 90)) : lowB c = c := by
  unfold lowB
  rw [if_neg (by omega)]
/-- The bytes behind k rounds. -/
def lowTo (l : List UInt8) (k : Nat) : List UInt8 := (l.take k).map lowB ++ l.drop k
theorem lowTo_length (l : List UInt8) (k : Nat) : (lowTo l k).length = l.length := by simp [lowTo]; omega
theorem lowTo_at (l : List UInt8) (k : Nat) (h : k < l.length) : (lowTo l k)[k]'(by rw [lowTo_length]; exact h) = l[k] := by
  simp [lowTo, Nat.min_eq_left (Nat.le_of_lt h)]
theorem lowTo_step (l : List UInt8) (k : Nat) (h : k < l.length) : lowTo l (k + 1) = (lowTo l k).set k (lowB l[k]) := by
  apply List.ext_getElem
  · simp [lowTo_length]
  · intro i h1 h2
    rw [List.getElem_set]
    simp only [lowTo, List.getElem_append, List.length_map, List.length_take, List.getElem_map, List.getElem_take, List.getElem_drop]
    rw [lowTo_length] at h1
    by_cases e : k = i
    · subst e
      rw [dif_pos (by omega), if_pos rfl]
    · rw [if_neg e]
      by_cases lt : i < k
      · rw [dif_pos (by omega), dif_pos (by omega)]
      · rw [dif_neg (by omega), dif_neg (by omega)]
        congr 1; omega
theorem lowTo_all (l : List UInt8) (k : Nat) (h : l.length ≤ k) : lowTo l k = lowerL l := by
  simp [lowTo, lowerL, List.take_of_length_le h, List.drop_eq_nil_of_le h]

/-- The row that '[]byte(s)' laid holds just these bytes ahead. -/
def Row8 (w : World) (b : Nat) (l : List UInt8) : Prop := ∃ cur lo hi, w.heap[b]? = some (.cells cur 5 (lo, hi)) ∧ l.length ≤ lo ∧ l.length ≤ cur.size ∧ ∀ j (h : j < l.length), cur[j]? = some (.int .u8 (l[j].toNat : Int))
theorem Row8.cell {w : World} {b : Nat} {l : List UInt8} (h : Row8 w b l) (j : Nat) (hj : j < l.length) : w.cell? ⟨b, j, none⟩ = some (.int .u8 (l[j].toNat : Int)) := by
  obtain ⟨cur, lo, hi, h1, h2, h3, h4⟩ := h
  rw [cell_of_row w b j cur _ _ h1]
  exact h4 j hj
theorem Row8.free {w : World} {b : Nat} {l : List UInt8} (h : Row8 w b l) (j : Nat) (hj : j < l.length) : w.frozen? ⟨b, j, none⟩ = false := by
  obtain ⟨cur, lo, hi, h1, h2, h3, h4⟩ := h
  simp only [World.frozen?, h1]
  simp
  omega
theorem Row8.store {w : World} {b : Nat} {l : List UInt8} (h : Row8 w b l) (j : Nat) (hj : j < l.length) (c : UInt8) : Row8 (w.setCell ⟨b, j, none⟩ (.int .u8 (c.toNat : Int))) b (l.set j c) := by
  obtain ⟨cur, lo, hi, h1, h2, h3, h4⟩ := h
  refine ⟨cur.setIfInBounds j (.int .u8 (c.toNat : Int)), lo, hi, ?_, by simpa using h2, by simpa using h3, fun i hi' => ?_⟩
  · simp [World.setCell, Array.getElem?_modify, h1]
  · rw [List.length_set] at hi'
    rw [List.getElem_set, Array.getElem?_setIfInBounds]
    by_cases e : j = i
    · subst e
      rw [if_pos rfl, if_pos rfl, if_pos (by omega)]
    · rw [if_neg e, if_neg e]
      exact h4 i hi'
theorem Row8.made (w : World) (s : ByteArray) : Row8 (Lib.bytesWorld w 5 s) w.heap.size s.data.toList := by
  refine ⟨_, _, _, Lib.bytesWorld_at_new w 5 s, ?_, ?_, fun j hj => ?_⟩
  · simp [Lib.bytesCells]
  · simp [Lib.bytesCells]
  · have hj' : j < s.size := by simpa using hj
    simp [Lib.bytesCells, Array.getElem?_append, hj']
theorem Row8.conv {w : World} {b : Nat} {l : List UInt8} (h : Row8 w b l) (cap : Nat) : (convert 22 9 (.slice (some ⟨b, 0, none⟩) l.length cap)).run Tryz.prog w = .ok (.string ⟨l.toArray⟩) w := by
  have e : (⟨l.toArray⟩ : ByteArray) = strOfNums (l.map fun b => (b.toNat : Int)) := by
    apply ByteArray.ext
    apply Array.ext'
    rw [strOfNums_data, List.map_map]
    have hid : ((fun n : Int => UInt8.ofNat n.toNat) ∘ fun b : UInt8 => (b.toNat : Int)) = id := by funext b; simp
    rw [hid]
    simp
  rw [e]
  refine run_convert_bytes_arg w 22 5 Tryz.underlying22 Tryz.underlying5 b 0 l.length cap (l.map fun b => (b.toNat : Int)) (by simp) (fun i hi => ?_) 9 Tryz.underlying9
  rw [Nat.zero_add, h.cell i hi]
  simp [List.getD, hi]

set_option maxHeartbeats 1000000 in
set_option maxRecDepth 100000 in
theorem Lower_any (s : ByteArray) (w : World) (hs : s.size ≤ maxLen) :
    Calls Tryz.prog 85 #[.string s] w fun e w' => e = .returned (.string ⟨(lowerL s.data.toList).toArray⟩) ∧ Below w.heap.size w w' := by
  unfold maxLen at hs
  have hcv := Lib.run_convert_string_bytes (P := Tryz.prog) w 9 22 5 s (u := .string) Tryz.underlying9 Tryz.underlying22 Tryz.underlying5
  have HB : Hid (Row8 (Lib.bytesWorld w 5 s) w.heap.size (lowTo s.data.toList 0)) := Lib.hid (by simpa [lowTo] using Row8.made w s)
  have HW : Hid (Below w.heap.size w (Lib.bytesWorld w 5 s)) := Lib.hid ⟨rfl, rfl, rfl, by rw [Lib.bytesWorld_size]; omega, fun k hk => Lib.bytesWorld_at_old w 5 s k hk⟩
  obtain ⟨W1, hW1⟩ : ∃ W1, W1 = Lib.bytesWorld w 5 s := ⟨_, rfl⟩
  rw [← hW1] at hcv HB HW
  clear hW1
  generalize grownCap w s.size 0 5 = cap at hcv
  have hl : s.data.toList.length = s.size := len_eq s
  generalize s.data.toList = l at HB hl ⊢
  have HL := Lib.hid hl; clear hl
  go_enter Tryz.func85, Tryz.ntmps85
  go_wp2
  go_loopw [10] (fun i wr => ∃ k : Nat, k ≤ s.size ∧ i = .int .i64 k ∧ Hid (Row8 wr w.heap.size (lowTo l k)) ∧ Hid (Below w.heap.size w wr)) (fun i _ => s.size - (intOf i).toNat)
  case atStart => exact ⟨0, Nat.zero_le _, rfl, HB, HW⟩
  case round =>
    obtain ⟨k, hk, rfl, HR, HWr⟩ := hrel
    by_cases hlt : k < s.size
    · have hkl : k < l.length := by rw [HL.out]; exact hlt
      have hc := HR.out.cell k (by rw [lowTo_length]; exact hkl)
      have hf := HR.out.free k (by rw [lowTo_length]; exact hkl)
      rw [lowTo_at l k hkl] at hc
      by_cases hu : 65 ≤ (l[k].toNat : Int) ∧ (l[k].toNat : Int) ≤ 90
      · obtain ⟨u1, u2⟩ := hu
        have HN : Hid (Row8 (wr.setCell ⟨w.heap.size, k, none⟩ (.int .u8 ((l[k].toNat : Int) + 97 - 65))) w.heap.size (lowTo l (k + 1))) :=
          Lib.hid (by rw [lowTo_step l k hkl, show (l[k].toNat : Int) + 97 - 65 = (l[k].toNat : Int) + 32 from by omega, ← lowB_up u1 u2]; exact HR.out.store k (by rw [lowTo_length]; exact hkl) (lowB l[k]))
        have HWn : Hid (Below w.heap.size w (wr.setCell ⟨w.heap.size, k, none⟩ (.int .u8 ((l[k].toNat : Int) + 97 - 65)))) := Lib.hid (HWr.out.setCell (Nat.le_refl _) _)
        generalize (l[k].toNat : Int) = c at hc u1 u2 HN HWn
        go_wp2
        go_roundw
        case rel => exact ⟨k + 1, by omega, by go_num, HN, HWn⟩
        case measure => simp [intOf]; omega
      · have HN : Hid (Row8 wr w.heap.size (lowTo l (k + 1))) := Lib.hid (by
          rw [lowTo_step l k hkl, lowB_not hu]
          have e : (lowTo l k).set k l[k] = lowTo l k := by
            have := lowTo_at l k hkl
            rw [← this]
            exact List.set_getElem_self _
          rw [e]; exact HR.out)
        generalize (l[k].toNat : Int) = c at hc hu
        rcases (show c < 65 ∨ 90 < c by omega) with u1 | u1
        all_goals
          clear hu
          go_wp2
          go_roundw
          case rel => exact ⟨k + 1, by omega, by go_num, HN, HWr⟩
          case measure => simp [intOf]; omega
    · have hkk : k = s.size := by omega
      subst hkk
      have hfin := HR.out
      rw [lowTo_all l _ (by rw [HL.out]; exact Nat.le_refl _)] at hfin
      have hcv2 := hfin.conv cap
      have hl2 : (lowerL l).length = s.size := by rw [lowerL, List.length_map, HL.out]
      rw [hl2] at hcv2
      obtain ⟨m, hm⟩ : ∃ m, m = lowerL l := ⟨_, rfl⟩
      rw [← hm] at hcv2
      have HM := Lib.hid hm
      clear hl2 hfin hm
      go_wp2
      go_ret
      exact ⟨ret_str HM.out, HWr.out⟩
end Go.Proofs.YtfbpiknckjgfnaaGreatDoor
