/-
  The document's octets (conduitref1): Dec, Hex, Lower, Trim: the same as package octet's.
-/
import Derived.Test.YtjmkhekigdnjgaaGreatDoorRefA
import Derived.Test.YtjmkhekigdnjgaaGreatDoorLaw1B
namespace Go.Proofs.YtjmkhekigdnjgaaGreatDoor
open Go.RowKit Go.Shelf

/-! ### Dec, Hex -/
def numE (b : Int) (most : Nat) (l : List UInt8) : Ending := .returned (.tuple #[.int .i64 (numOf b most l), .bool (numOk b most l)])
theorem numE_bad (b : Int) (most : Nat) (s : ByteArray) (k : Nat) (h : k < s.size) (hd : digB b (s[k].toNat : Int) = false) : numE b most s.data.toList = .returned (.tuple #[.int .i64 0, .bool false]) := by
  have e1 : numOk b most s.data.toList = false := by unfold numOk allB; rw [all_false h hd]; simp
  unfold numE numOf
  rw [e1]; rfl
theorem numE_len (b : Int) (most : Nat) (s : ByteArray) (h : ¬ (1 ≤ s.size ∧ s.size ≤ most)) : numE b most s.data.toList = .returned (.tuple #[.int .i64 0, .bool false]) := by
  have e1 : numOk b most s.data.toList = false := by
    unfold numOk allB
    rw [len_eq]
    by_cases h0 : s.size = 0
    · have : s.data.toList = [] := List.length_eq_zero_iff.1 (by rw [len_eq]; exact h0)
      rw [this]; simp
    · rw [decide_eq_false (by omega)]; rfl
  unfold numE numOf
  rw [e1]; rfl
theorem numE_good (b : Int) (most : Nat) (s : ByteArray) (h1 : 1 ≤ s.size) (h2 : s.size ≤ most) (hd : s.data.toList.all (fun c => digB b (c.toNat : Int)) = true) : numE b most s.data.toList = .returned (.tuple #[.int .i64 (numV b s.data.toList), .bool true]) := by
  have e1 : numOk b most s.data.toList = true := by
    unfold numOk allB
    rw [len_eq, hd, decide_eq_true h2]
    cases e : s.data.toList with
    | nil =>
      have : 0 = s.size := by rw [← len_eq s, e]; rfl
      omega
    | cons => rfl
  unfold numE numOf
  rw [e1]; rfl

theorem num_next {b : Int} (hb : b = 10 ∨ b = 16) (s : ByteArray) (k : Nat) (hk : k < s.size) (h9 : s.size ≤ 9) (hal : (s.data.toList.take k).all (fun c => digB b (c.toNat : Int)) = true) (hd : digB b (s[k].toNat : Int) = true) {a : Int} (ha : a = numV b (s.data.toList.take k)) :
    0 ≤ a ∧ a < 68719476736 ∧ (s.data.toList.take (k + 1)).all (fun c => digB b (c.toNat : Int)) = true ∧ a * b + digV (s[k].toNat : Int) = numV b (s.data.toList.take (k + 1)) ∧ 0 ≤ digV (s[k].toNat : Int) ∧ digV (s[k].toNat : Int) < b := by
  obtain ⟨h0, h1⟩ := numV_small hb _ hal (by rw [List.length_take, len_eq]; omega)
  obtain ⟨d0, d1⟩ := digV_range hb hd
  refine ⟨by omega, by omega, all_step hk hal hd, ?_, d0, d1⟩
  rw [take_snoc s k hk, numV_snoc, ha]

theorem refDec_any (s : ByteArray) (w : World) (hs : s.size ≤ maxLen) :
    Calls Tryz.prog 6 #[.string s] w fun e w' => e = numE 10 9 s.data.toList ∧ w = w' := by
  unfold maxLen at hs
  by_cases hlen : 1 ≤ s.size ∧ s.size ≤ 9
  · obtain ⟨l1, l9⟩ := hlen
    go_enter Tryz.func6, Tryz.ntmps6
    go_wp2
    go_loop [4, 5] (fun n i => ∃ (k : Nat) (a : Int), k ≤ s.size ∧ n = .int .i64 a ∧ i = .int .i64 k ∧ Hid (a = numV 10 (s.data.toList.take k)) ∧ Hid ((s.data.toList.take k).all (fun c => digB 10 (c.toNat : Int)) = true)) (fun _ i => s.size - (intOf i).toNat)
    case atStart => exact ⟨0, 0, Nat.zero_le _, rfl, rfl, rfl, rfl⟩
    case round =>
      obtain ⟨k, a, hk, rfl, rfl, HA, HD⟩ := hrel
      by_cases hlt : k < s.size
      · cases hd : decB (s[k].toNat : Int)
        · have HB := Lib.hid (numE_bad 10 9 s k hlt hd)
          have hd2 := Lib.hid hd; clear hd
          go_wp2_with (go_at_call 26; refine (digit_any _ _).mono ?_; rintro e w' ⟨rfl, rfl⟩; rw [hd2.out])
          go_ret2
          exact ⟨HB.out.symm, rfl⟩
        · obtain ⟨a0, a1, hal, hn, d0, d1⟩ := num_next (b := 10) (.inl rfl) s k hlt l9 HD.out hd HA.out
          have x : 48 ≤ (s[k].toNat : Int) ∧ (s[k].toNat : Int) ≤ 57 := by simpa [decB] using hd
          obtain ⟨x0, x1⟩ := x
          have dg' : digV (s[k].toNat : Int) = (s[k].toNat : Int) - 48 := by unfold digV; rw [if_pos x1]
          rw [dg'] at hn
          have HN := Lib.hid hn; have HL := Lib.hid hal
          have hd2 := Lib.hid hd
          clear hd hal hn dg' d0 d1 HA HD
          go_wp2_with (go_at_call 26; refine (digit_any _ _).mono ?_; rintro e w' ⟨rfl, rfl⟩; rw [hd2.out])
          go_round
          case rel => exact ⟨k + 1, _, by omega, rfl, by go_num, HN, HL⟩
          case measure => simp [intOf]; omega
      · have hA := HA.out
        have hD := HD.out
        rw [take_all s k hk hlt] at hA hD
        have HG := Lib.hid (numE_good 10 9 s l1 l9 hD)
        rw [← hA] at HG
        clear hA hD
        go_wp2
        go_ret2
        exact ⟨HG.out.symm, rfl⟩
  · have HB := Lib.hid (numE_len 10 9 s hlen)
    have q : s.size < 1 ∨ 9 < s.size := by omega
    clear hlen
    rcases q with q | q
    all_goals
      go_enter Tryz.func6, Tryz.ntmps6
      go_wp2
      go_ret2
      exact ⟨HB.out.symm, rfl⟩

theorem refHex_any (s : ByteArray) (w : World) (hs : s.size ≤ maxLen) :
    Calls Tryz.prog 8 #[.string s] w fun e w' => e = numE 16 7 s.data.toList ∧ w = w' := by
  unfold maxLen at hs
  by_cases hlen : 1 ≤ s.size ∧ s.size ≤ 7
  · obtain ⟨l1, l9⟩ := hlen
    go_enter Tryz.func8, Tryz.ntmps8
    go_wp2
    go_loop [4, 5] (fun n i => ∃ (k : Nat) (a : Int), k ≤ s.size ∧ n = .int .i64 a ∧ i = .int .i64 k ∧ Hid (a = numV 16 (s.data.toList.take k)) ∧ Hid ((s.data.toList.take k).all (fun c => digB 16 (c.toNat : Int)) = true)) (fun _ i => s.size - (intOf i).toNat)
    case atStart => exact ⟨0, 0, Nat.zero_le _, rfl, rfl, rfl, rfl⟩
    case round =>
      obtain ⟨k, a, hk, rfl, rfl, HA, HD⟩ := hrel
      by_cases hlt : k < s.size
      · cases hd : hexB (s[k].toNat : Int)
        · have HB := Lib.hid (numE_bad 16 7 s k hlt hd)
          have hd2 := Lib.hid (nib_none hd); clear hd
          go_wp2_with (go_at_call 28; refine (nibble_any _ _).mono ?_; rintro e w' ⟨rfl, rfl⟩; rw [hd2.out])
          go_ret2
          exact ⟨HB.out.symm, rfl⟩
        · obtain ⟨a0, a1, hal, hn, _, _⟩ := num_next (b := 16) (.inr rfl) s k hlt (by omega) HD.out hd HA.out
          obtain ⟨dg', n0, n1⟩ := nib_hex hd
          rw [← dg'] at hn
          generalize nibV (s[k].toNat : Int) = d at dg' hn n0 n1
          have HN := Lib.hid hn; have HL := Lib.hid hal
          have HC : Hid (∀ W : World, Calls Tryz.prog 28 #[.int .u8 (s[k].toNat : Int)] W fun e w' => e = .returned (.int .i64 d) ∧ W = w') := Lib.hid fun W => by
            have := nibble_any (s[k].toNat : Int) W
            rw [(nib_hex hd).1, ← dg'] at this
            exact this
          clear hd hal hn dg' HA HD
          go_wp2_with (go_at_call 28; refine (HC.out _).mono ?_; rintro e w' ⟨rfl, rfl⟩)
          go_round
          case rel => exact ⟨k + 1, _, by omega, rfl, by go_num, HN, HL⟩
          case measure => simp [intOf]; omega
      · have hA := HA.out
        have hD := HD.out
        rw [take_all s k hk hlt] at hA hD
        have HG := Lib.hid (numE_good 16 7 s l1 l9 hD)
        rw [← hA] at HG
        clear hA hD
        go_wp2
        go_ret2
        exact ⟨HG.out.symm, rfl⟩
  · have HB := Lib.hid (numE_len 16 7 s hlen)
    have q : s.size < 1 ∨ 7 < s.size := by omega
    clear hlen
    rcases q with q | q
    all_goals
      go_enter Tryz.func8, Tryz.ntmps8
      go_wp2
      go_ret2
      exact ⟨HB.out.symm, rfl⟩

/-! ### Lower -/
set_option maxHeartbeats 1000000 in
set_option maxRecDepth 100000 in
theorem refLower_any (s : ByteArray) (w : World) (hs : s.size ≤ maxLen) :
    Calls Tryz.prog 14 #[.string s] w fun e w' => e = .returned (.string ⟨(lowerL s.data.toList).toArray⟩) ∧ Below w.heap.size w w' := by
  unfold maxLen at hs
  have hcv := Lib.run_convert_string_bytes (P := Tryz.prog) w 9 42 5 s (u := .string) Tryz.underlying9 Tryz.underlying42 Tryz.underlying5
  have HB : Hid (Row8 (Lib.bytesWorld w 5 s) w.heap.size (lowTo s.data.toList 0)) := Lib.hid (by simpa [lowTo] using Row8.made w s)
  have HW : Hid (Below w.heap.size w (Lib.bytesWorld w 5 s)) := Lib.hid ⟨rfl, rfl, rfl, by rw [Lib.bytesWorld_size]; omega, fun k hk => Lib.bytesWorld_at_old w 5 s k hk⟩
  obtain ⟨W1, hW1⟩ : ∃ W1, W1 = Lib.bytesWorld w 5 s := ⟨_, rfl⟩
  rw [← hW1] at hcv HB HW
  clear hW1
  generalize grownCap w s.size 0 5 = cap at hcv
  have hl : s.data.toList.length = s.size := len_eq s
  generalize s.data.toList = l at HB hl ⊢
  have HL := Lib.hid hl; clear hl
  go_enter Tryz.func14, Tryz.ntmps14
  go_wp2
  go_loopw [4] (fun i wr => ∃ k : Nat, k ≤ s.size ∧ i = .int .i64 k ∧ Hid (Row8 wr w.heap.size (lowTo l k)) ∧ Hid (Below w.heap.size w wr)) (fun i _ => s.size - (intOf i).toNat)
  case atStart => exact ⟨0, Nat.zero_le _, rfl, HB, HW⟩
  case round =>
    obtain ⟨k, hk, rfl, HR, HWr⟩ := hrel
    by_cases hlt : k < s.size
    · have hkl : k < l.length := by rw [HL.out]; exact hlt
      have hc := HR.out.cell k (by rw [lowTo_length]; exact hkl)
      have hf := HR.out.free k (by rw [lowTo_length]; exact hkl)
      rw [lowTo_at l k hkl] at hc
      by_cases hu : 65 ≤ (l[k].toNat : Int) ∧ (l[k].toNat : Int) ≤ 90
      · obtain ⟨u1, u2⟩ := hu
        have HN : Hid (Row8 (wr.setCell ⟨w.heap.size, k, none⟩ (.int .u8 ((l[k].toNat : Int) + 32))) w.heap.size (lowTo l (k + 1))) :=
          Lib.hid (by rw [lowTo_step l k hkl, ← lowB_up u1 u2]; exact HR.out.store k (by rw [lowTo_length]; exact hkl) (lowB l[k]))
        have HWn : Hid (Below w.heap.size w (wr.setCell ⟨w.heap.size, k, none⟩ (.int .u8 ((l[k].toNat : Int) + 32)))) := Lib.hid (HWr.out.setCell (Nat.le_refl _) _)
        generalize (l[k].toNat : Int) = c at hc u1 u2 HN HWn
        go_wp2
        go_roundw
        case rel => exact ⟨k + 1, by omega, by go_num, HN, HWn⟩
        case measure => simp [intOf]; omega
      · have HN : Hid (Row8 wr w.heap.size (lowTo l (k + 1))) := Lib.hid (by
          rw [lowTo_step l k hkl, lowB_not hu]
          have e : (lowTo l k).set k l[k] = lowTo l k := by
            have := lowTo_at l k hkl
            rw [← this]
            exact List.set_getElem_self _
          rw [e]; exact HR.out)
        generalize (l[k].toNat : Int) = c at hc hu
        rcases (show c < 65 ∨ 90 < c by omega) with u1 | u1
        all_goals
          clear hu
          go_wp2
          go_roundw
          case rel => exact ⟨k + 1, by omega, by go_num, HN, HWr⟩
          case measure => simp [intOf]; omega
    · have hkk : k = s.size := by omega
      subst hkk
      have hfin := HR.out
      rw [lowTo_all l _ (by rw [HL.out]; exact Nat.le_refl _)] at hfin
      have hcv2 := hfin.conv cap
      have hl2 : (lowerL l).length = s.size := by rw [lowerL, List.length_map, HL.out]
      rw [hl2] at hcv2
      obtain ⟨m, hm⟩ : ∃ m, m = lowerL l := ⟨_, rfl⟩
      rw [← hm] at hcv2
      have HM := Lib.hid hm
      clear hl2 hfin hm
      go_wp2
      go_ret
      exact ⟨ret_str HM.out, HWr.out⟩
end Go.Proofs.YtjmkhekigdnjgaaGreatDoor
