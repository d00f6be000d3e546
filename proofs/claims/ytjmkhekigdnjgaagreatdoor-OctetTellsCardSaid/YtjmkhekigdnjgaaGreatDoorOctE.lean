/-
  Package octet: Escape, coded, Unescape: what each answers; nothing that was there turns.
-/
import Derived.Test.YtjmkhekigdnjgaaGreatDoorOctD
import Derived.Test.YtjmkhekigdnjgaaGreatDoorOctB
namespace Go.Proofs.YtjmkhekigdnjgaaGreatDoor
open Go.RowKit Go.Shelf

/-! ### Escape -/
def marks5 : List Int := [45, 46, 95, 126, 47]
def safeB (c : Int) : Bool := marks5.contains c || plainB c
def hexC (n : Nat) : UInt8 := if n < 10 then UInt8.ofNat (48 + n) else UInt8.ofNat (55 + n)
def escB (c : UInt8) : List UInt8 := if safeB (c.toNat : Int) then [c] else [37, hexC (c.toNat / 16), hexC (c.toNat % 16)]
def escapeL (l : List UInt8) : List UInt8 := l.flatMap escB
theorem escapeL_snoc (l : List UInt8) (c : UInt8) : escapeL (l ++ [c]) = escapeL l ++ escB c := by simp [escapeL]
theorem escB_len (c : UInt8) : (escB c).length ≤ 3 := by unfold escB; split <;> simp
theorem escapeL_len (l : List UInt8) : (escapeL l).length ≤ 3 * l.length := by
  induction l with
  | nil => simp [escapeL]
  | cons c r ih =>
    have := escB_len c
    have e : escapeL (c :: r) = escB c ++ escapeL r := by simp [escapeL]
    rw [e, List.length_append, List.length_cons]; omega

theorem indexByte_hit (c : Int) (w : World) (h : marks5.contains c = true) :
    Calls Tryz.prog 37 #[.string ⟨#[45, 46, 95, 126, 47]⟩, .int .u8 c] w fun e w' => ∃ n : Int, e = .returned (.int .i64 n) ∧ 0 ≤ n ∧ w = w' := by
  refine (Any.strings_IndexByte Tryz.laysIndexByte ⟨#[45, 46, 95, 126, 47]⟩ c w).mono fun e w' ⟨he, hw⟩ => ⟨_, he, ?_, hw.symm⟩
  simp only [marks5, List.contains_iff_mem, List.mem_cons, List.mem_nil_iff, or_false] at h
  rcases h with rfl | rfl | rfl | rfl | rfl <;> decide
theorem indexByte_miss (c : Int) (w : World) (h0 : 0 ≤ c) (h1 : c ≤ 255) (h : marks5.contains c = false) :
    Calls Tryz.prog 37 #[.string ⟨#[45, 46, 95, 126, 47]⟩, .int .u8 c] w fun e w' => ∃ n : Int, e = .returned (.int .i64 n) ∧ n < 0 ∧ w = w' := by
  refine (Any.strings_IndexByte Tryz.laysIndexByte ⟨#[45, 46, 95, 126, 47]⟩ c w).mono fun e w' ⟨he, hw⟩ => ⟨_, he, ?_, hw.symm⟩
  have key : ∀ n : Fin 256, marks5.contains (n.val : Int) = false → Lib.indexByte [45, 46, 95, 126, 47] n.val.toUInt8 < 0 := by decide +kernel
  obtain ⟨n, rfl⟩ := Int.eq_ofNat_of_zero_le h0
  exact key ⟨n, by omega⟩ h

theorem esc_yes {c : UInt8} (h : safeB (c.toNat : Int) = true) : escB c = [c] := by unfold escB; rw [if_pos h]
theorem esc_no {c : UInt8} (h : safeB (c.toNat : Int) = false) : escB c = [37, hexC (c.toNat / 16), hexC (c.toNat % 16)] := by unfold escB; rw [h]; rfl
theorem hexC_at (n : Nat) (h : n < 16) : (⟨#[48, 49, 50, 51, 52, 53, 54, 55, 56, 57, 65, 66, 67, 68, 69, 70]⟩ : ByteArray)[n]'(by show n < 16; exact h) = hexC n := by
  have : n = 0 ∨ n = 1 ∨ n = 2 ∨ n = 3 ∨ n = 4 ∨ n = 5 ∨ n = 6 ∨ n = 7 ∨ n = 8 ∨ n = 9 ∨ n = 10 ∨ n = 11 ∨ n = 12 ∨ n = 13 ∨ n = 14 ∨ n = 15 := by omega
  rcases this with rfl | rfl | rfl | rfl | rfl | rfl | rfl | rfl | rfl | rfl | rfl | rfl | rfl | rfl | rfl | rfl <;> rfl

theorem and15 (n : Nat) (h : n < 256) : bits .and .u8 (n : Int) 15 = ((n % 16 : Nat) : Int) := by
  have key : ∀ n : Fin 256, bits .and .u8 (n.val : Int) 15 = ((n.val % 16 : Nat) : Int) := by decide +kernel
  exact key ⟨n, h⟩
theorem cells3 (w : World) (a b c : UInt8) : ∀ j u, (byteVals [a, b, c])[j]? = some u → (w.alloc (.cells #[.int .u8 (a.toNat : Int), .int .u8 (b.toNat : Int), .int .u8 (c.toNat : Int)] 5)).cell? ((⟨w.heap.size, 0, none⟩ : Addr).add j) = some u := by
  intro j u hj
  have hlt : j < 3 := by
    rcases Nat.lt_or_ge j 3 with h | h
    · exact h
    · rw [List.getElem?_eq_none (by simp [byteVals]; omega)] at hj; cases hj
  have : j = 0 ∨ j = 1 ∨ j = 2 := by omega
  rcases this with rfl | rfl | rfl <;> (simp [byteVals] at hj; subst hj; simp [Addr.add])
set_option maxHeartbeats 2000000 in
set_option maxRecDepth 100000 in
theorem Escape_any (s : ByteArray) (w : World) (hs : s.size ≤ 1099511627776) :
    Calls Tryz.prog 18 #[.string s] w fun e w' => e = .returned (.string ⟨(escapeL s.data.toList).toArray⟩) ∧ Below w.heap.size w w' := by
  go_enter Tryz.func18, Tryz.ntmps18
  go_wp2
  go_loopw [3, 8] (fun v i wr => ∃ k : Nat, k ≤ s.size ∧ i = .int .i64 k ∧ Hid (wr.ownsRow w.heap.size 5 1 v (escapeL (s.data.toList.take k)).length (byteVals (escapeL (s.data.toList.take k)))) ∧ Hid (Below w.heap.size w wr)) (fun _ i _ => s.size - (intOf i).toNat)
  case atStart => exact ⟨0, Nat.zero_le _, rfl, World.ownsRow_nil _ _ _ _, Below.refl _ _⟩
  case round =>
    obtain ⟨k, hk, rfl, HR, HWr⟩ := hrel
    by_cases hlt : k < s.size
    · have hsn := take_snoc s k hlt
      have hlen : (escapeL (s.data.toList.take k)).length ≤ 3298534883328 := by
        have := escapeL_len (s.data.toList.take k)
        rw [List.length_take, len_eq] at this
        omega
      have HE : Hid (escapeL (s.data.toList.take (k + 1)) = escapeL (s.data.toList.take k) ++ escB s[k]) := Lib.hid (by rw [hsn, escapeL_snoc])
      clear hsn
      have hsz := HWr.out.size
      generalize escapeL (s.data.toList.take k) = t at HR HE hlen
      have hb0 : (s[k].toNat : Int) ≤ 255 := by have := s[k].toNat_lt; omega
      cases hm : marks5.contains (s[k].toNat : Int)
      · cases hp : plainB (s[k].toNat : Int)
        · have h2 : escB s[k] = _ := esc_no (by unfold safeB; rw [hm, hp]; rfl)
          rw [h2] at HE
          clear h2
          go_wp2_with (first | (go_at_call 37; refine (indexByte_miss _ _ (by omega) hb0 hm).mono ?_; rintro e w' ⟨n, rfl, hn, rfl⟩) | (go_at_call 38; refine (isPlain_any _ _).mono ?_; rintro e w' ⟨rfl, rfl⟩; rw [hp]))
          obtain ⟨q, hq, hq16, eq⟩ : ∃ q : Nat, (s[k].toNat : Int) / 16 = (q : Int) ∧ q < 16 ∧ s[k].toNat / 16 = q := ⟨s[k].toNat / 16, by omega, by omega, rfl⟩
          obtain ⟨r, hr, hr16, er⟩ : ∃ r : Nat, bits .and .u8 (s[k].toNat : Int) 15 = (r : Int) ∧ r < 16 ∧ s[k].toNat % 16 = r := ⟨s[k].toNat % 16, and15 _ s[k].toNat_lt, by omega, rfl⟩
          rw [eq, er] at HE
          have i1 := hexC_at q hq16
          have i2 := hexC_at r hr16
          have q16 : (q : Int) < 16 := by omega
          have r16 : (r : Int) < 16 := by omega
          clear eq er
          go_region_law (refine step_app_bytes rfl _ _ rfl w.heap.size t [37, hexC q, hexC r] _ rfl (HR.out.alloc _) ⟨wr.heap.size, 0, none⟩ 3 3 rfl rfl (cells3 _ _ _ _) (by simp; omega) (by simp; omega) ?_; intro v' w1 hown' hg' hb'; have HO := Lib.hid hown'; have HB := Lib.hid hb'; clear hown' hg' hb')
          go_wp2
          all_goals exact ⟨⟨k + 1, by omega, by go_num, Lib.hid (by rw [HE.out]; exact HO.out), Lib.hid (((HWr.out.alloc hsz _).drew).trans HB.out)⟩, by simp [intOf]; omega⟩
        · have h2 : escB s[k] = [s[k]] := esc_yes (by unfold safeB; rw [hp, Bool.or_true])
          rw [h2] at HE
          clear h2
          go_wp2_with (first
            | (go_at_call 37; refine (indexByte_miss _ _ (by omega) hb0 hm).mono ?_; rintro e w' ⟨n, rfl, hn, rfl⟩)
            | (go_at_call 38; refine (isPlain_any _ _).mono ?_; rintro e w' ⟨rfl, rfl⟩; rw [hp])
            | (at_builtin; refine app_bytes rfl _ _ rfl w.heap.size t [s[k]] _ rfl (HR.out.alloc _) ⟨wr.heap.size, 0, none⟩ 1 1 rfl rfl (cell_one_new _ _ _) (by simp; omega) (by simp; omega) ?_; intro v' w1 hown' hg' hb' _; have HO := Lib.hid hown'; have HB := Lib.hid hb'; clear hown' hg' hb'))
          go_roundw
          case rel => exact ⟨k + 1, by omega, by go_num, Lib.hid (by rw [HE.out]; exact HO.out), Lib.hid ((HWr.out.alloc hsz _).trans HB.out)⟩
          case measure => simp [intOf]; omega
      · have h2 : escB s[k] = [s[k]] := esc_yes (by unfold safeB; rw [hm]; rfl)
        rw [h2] at HE
        clear h2
        go_wp2_with (first
            | (go_at_call 37; refine (indexByte_hit _ _ hm).mono ?_; rintro e w' ⟨n, rfl, hn, rfl⟩)
            | (at_builtin; refine app_bytes rfl _ _ rfl w.heap.size t [s[k]] _ rfl (HR.out.alloc _) ⟨wr.heap.size, 0, none⟩ 1 1 rfl rfl (cell_one_new _ _ _) (by simp; omega) (by simp; omega) ?_; intro v' w1 hown' hg' hb' _; have HO := Lib.hid hown'; have HB := Lib.hid hb'; clear hown' hg' hb'))
        go_roundw
        case rel => exact ⟨k + 1, by omega, by go_num, Lib.hid (by rw [HE.out]; exact HO.out), Lib.hid ((HWr.out.alloc hsz _).trans HB.out)⟩
        case measure => simp [intOf]; omega
    · have e := take_all s k hk hlt
      rw [e] at HR
      have hcv := conv_bytes HR.out
      go_wp2
      go_ret
      exact ⟨rfl, HWr.out⟩
end Go.Proofs.YtjmkhekigdnjgaaGreatDoor
