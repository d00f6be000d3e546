/-
  The document's octets (conduitref1): Trim, List: the same as package octet's.
-/
import Derived.Test.YtjmkhekigdnjgaaGreatDoorRefB
namespace Go.Proofs.YtjmkhekigdnjgaaGreatDoor
open Go.RowKit Go.Shelf

/-! ### Trim -/
def isBl (c : UInt8) : Bool := [32, 9].contains c
theorem bl_eq (b : UInt8) : blankB (b.toNat : Int) = isBl b := by
  have key : ∀ n : Fin 256, blankB (n.val : Int) = isBl (UInt8.ofNat n.val) := by decide +kernel
  have := key ⟨b.toNat, b.toNat_lt⟩
  simpa using this
theorem dropR_cons (p : UInt8 → Bool) (c : UInt8) (r : List UInt8) : dropR p (c :: r) = if dropR p r = [] then (if p c then [] else [c]) else c :: dropR p r := by
  unfold dropR
  rw [List.reverse_cons]
  have key : ∀ l : List UInt8, (l ++ [c]).dropWhile p = if l.dropWhile p = [] then (if p c then [] else [c]) else l.dropWhile p ++ [c] := by
    intro l
    induction l with
    | nil => cases h : p c <;> simp [h]
    | cons a r ih =>
      rw [List.cons_append, List.dropWhile_cons, List.dropWhile_cons]
      split
      · exact ih
      · simp
  rw [key]
  by_cases h : r.reverse.dropWhile p = []
  · rw [if_pos h, h]
    simp only [List.reverse_nil, if_true]
    split <;> simp
  · rw [if_neg h, if_neg (by simpa using h)]
    simp
theorem drop_comm (p : UInt8 → Bool) (l : List UInt8) : dropR p (l.dropWhile p) = (dropR p l).dropWhile p := by
  induction l with
  | nil => rfl
  | cons c r ih =>
    rw [List.dropWhile_cons]
    cases hc : p c
    · rw [if_neg (by simp), dropR_cons, hc]
      split
      · simp [hc]
      · simp [hc]
    · rw [if_pos rfl, ih, dropR_cons, hc]
      split
      · rename_i h; simp [h]
      · simp [hc]
theorem trim_ref (l : List UInt8) : dropR isBl (l.dropWhile isBl) = trimL l := drop_comm isBl l

theorem drop_at (s : ByteArray) (k : Nat) (h : k < s.size) : s.data.toList.drop k = s[k] :: s.data.toList.drop (k + 1) := by
  rw [List.drop_eq_getElem_cons (by rw [len_eq]; exact h)]; rfl
theorem drop_step (t : ByteArray) (h : 0 < t.size) (hb : isBl t[0] = true) : (t.extract 1 t.size).data.toList.dropWhile isBl = t.data.toList.dropWhile isBl := by
  rw [Lib.extract_to_end]
  cases e : t.data.toList with
  | nil =>
    have : 0 = t.size := by rw [← len_eq t, e]; rfl
    omega
  | cons c r =>
    have : t[0] = c := by
      have h2 := drop_at t 0 h
      rw [List.drop_zero, e] at h2
      exact (List.cons.inj h2).1.symm
    rw [this] at hb
    rw [List.dropWhile_cons, if_pos hb]; rfl
theorem drop_stop (t : ByteArray) (h : 0 < t.size) (hb : isBl t[0] = false) : t.data.toList.dropWhile isBl = t.data.toList := by
  cases e : t.data.toList with
  | nil => rfl
  | cons c r =>
    have : t[0] = c := by
      have h2 := drop_at t 0 h
      rw [List.drop_zero, e] at h2
      exact (List.cons.inj h2).1.symm
    rw [this] at hb
    rw [List.dropWhile_cons, if_neg (by rw [hb]; simp)]
theorem drop_empty (t : ByteArray) (h : ¬ 0 < t.size) : t.data.toList.dropWhile isBl = t.data.toList := by
  have : t.data.toList = [] := List.length_eq_zero_iff.1 (by rw [len_eq]; omega)
  rw [this]; rfl
theorem last_snoc (t : ByteArray) (h : 0 < t.size) : t.data.toList = (t.extract 0 (t.size - 1)).data.toList ++ [t[t.size - 1]'(by omega)] := by
  rw [Lib.extract_data, List.drop_zero, Nat.sub_zero]
  have := take_snoc t (t.size - 1) (by omega)
  rw [← this, show t.size - 1 + 1 = t.size by omega, List.take_of_length_le (by rw [len_eq]; exact Nat.le_refl _)]
theorem dropR_snoc (p : UInt8 → Bool) (l : List UInt8) (c : UInt8) : dropR p (l ++ [c]) = if p c then dropR p l else l ++ [c] := by
  unfold dropR
  rw [List.reverse_append, List.reverse_singleton, List.singleton_append, List.dropWhile_cons]
  split <;> simp
theorem dropR_step (t : ByteArray) (h : 0 < t.size) (hb : isBl (t[t.size - 1]'(by omega)) = true) : dropR isBl (t.extract 0 (t.size - 1)).data.toList = dropR isBl t.data.toList := by
  rw [last_snoc t h, dropR_snoc, if_pos hb]
theorem dropR_stop (t : ByteArray) (h : 0 < t.size) (hb : isBl (t[t.size - 1]'(by omega)) = false) : dropR isBl t.data.toList = t.data.toList := by
  rw [last_snoc t h, dropR_snoc, if_neg (by rw [hb]; simp)]
theorem dropR_empty (t : ByteArray) (h : ¬ 0 < t.size) : dropR isBl t.data.toList = t.data.toList := by
  have : t.data.toList = [] := List.length_eq_zero_iff.1 (by rw [len_eq]; omega)
  rw [this]; rfl
def sizeV : Value → Nat
  | .string s => s.size
  | _ => 0

theorem refTrim_any (s : ByteArray) (w : World) (hs : s.size ≤ maxLen) :
    Calls Tryz.prog 16 #[.string s] w fun e w' => e = .returned (.string ⟨(trimL s.data.toList).toArray⟩) ∧ w = w' := by
  unfold maxLen at hs
  obtain ⟨R, hR⟩ : ∃ R, R = trimL s.data.toList := ⟨_, rfl⟩
  rw [← hR]
  rw [← trim_ref] at hR
  have HR := Lib.hid hR; clear hR
  go_enter Tryz.func16, Tryz.ntmps16
  go_wp2
  go_loop [0] (fun v => ∃ t : ByteArray, v = .string t ∧ t.size ≤ s.size ∧ Hid (t.data.toList.dropWhile isBl = s.data.toList.dropWhile isBl)) (fun v => sizeV v)
  case atStart => exact ⟨s, rfl, Nat.le_refl _, rfl⟩
  case round =>
    obtain ⟨t, rfl, ht, HT⟩ := hrel
    by_cases hgo : ∃ h : 0 < t.size, isBl t[0] = true
    · obtain ⟨h0, hb⟩ := hgo
      have hd := drop_step t h0 hb
      rw [HT.out] at hd
      have HD := Lib.hid hd; clear hd
      rw [← bl_eq] at hb
      have hb2 := Lib.hid hb; clear hb
      go_wp2_with (go_at_call 35; refine (blank_any _ _).mono ?_; rintro e w' ⟨rfl, rfl⟩; rw [hb2.out])
      go_round
      case rel => exact ⟨_, rfl, by simp; omega, HD⟩
      case measure => simp [sizeV]; omega
    · have hend : t.data.toList.dropWhile isBl = t.data.toList := by
        by_cases h0 : 0 < t.size
        · exact drop_stop t h0 (by
            cases hb : isBl t[0]
            · rfl
            · exact absurd ⟨h0, hb⟩ hgo)
        · exact drop_empty t h0
      have HE : Hid (R = dropR isBl t.data.toList) := Lib.hid (by rw [HR.out, ← HT.out, hend])
      clear hend HT
      rcases (show ¬ 0 < t.size ∨ ∃ h : 0 < t.size, isBl t[0] = false by
        by_cases h0 : 0 < t.size
        · refine .inr ⟨h0, ?_⟩
          cases hb : isBl t[0]
          · rfl
          · exact absurd ⟨h0, hb⟩ hgo
        · exact .inl h0) with h0 | ⟨h0, hb⟩
      · clear hgo
        have HE2 : Hid (R = t.data.toList) := Lib.hid (by rw [HE.out, dropR_empty t h0])
        clear HE
        go_wp2
        refine wp_loop_rounds 1 ?_
        rw [rounds_succ]
        go_wp2
        go_ret
        exact ⟨ret_str (by rw [HE2.out]), rfl⟩
      · clear hgo
        rw [← bl_eq] at hb
        have hb2 := Lib.hid hb; clear hb
        go_wp2_with (go_at_call 35; refine (blank_any _ _).mono ?_; rintro e w' ⟨rfl, rfl⟩; rw [hb2.out])
        go_loop [0] (fun v => ∃ u : ByteArray, v = .string u ∧ u.size ≤ t.size ∧ Hid (R = dropR isBl u.data.toList)) (fun v => sizeV v)
        case atStart => exact ⟨t, rfl, Nat.le_refl _, HE⟩
        case round =>
          obtain ⟨u, rfl, hu, HU⟩ := hrel
          by_cases h1 : 0 < u.size
          · cases hc : isBl (u[u.size - 1]'(by omega))
            · have HU2 : Hid (R = u.data.toList) := Lib.hid (by rw [HU.out, dropR_stop u h1 hc])
              rw [← bl_eq] at hc
              have hc2 := Lib.hid hc; clear hc
              go_wp2_with (go_at_call 35; refine (blank_any _ _).mono ?_; rintro e w' ⟨rfl, rfl⟩; rw [hc2.out])
              go_ret
              exact ⟨ret_str (by rw [HU2.out]), rfl⟩
            · have HU2 : Hid (R = dropR isBl (u.extract 0 (u.size - 1)).data.toList) := Lib.hid (by rw [HU.out, dropR_step u h1 hc])
              rw [← bl_eq] at hc
              have hc2 := Lib.hid hc; clear hc
              go_wp2_with (go_at_call 35; refine (blank_any _ _).mono ?_; rintro e w' ⟨rfl, rfl⟩; rw [hc2.out])
              go_round
              case rel => exact ⟨_, rfl, by simp; omega, HU2⟩
              case measure => simp [sizeV]; omega
          · have HU2 : Hid (R = u.data.toList) := Lib.hid (by rw [HU.out, dropR_empty u h1])
            go_wp2
            go_ret
            exact ⟨ret_str (by rw [HU2.out]), rfl⟩
end Go.Proofs.YtjmkhekigdnjgaaGreatDoor
