/-
  The document's octets (conduitref1): Unescape, Escape: the same as package octet's.
-/
import Derived.Test.YtjmkhekigdnjgaaGreatDoorRefC
namespace Go.Proofs.YtjmkhekigdnjgaaGreatDoor
open Go.RowKit Go.Shelf

/-! ### Unescape -/
def unescW : Option (List UInt8) → Value
  | some t => .tuple #[.string ⟨t.toArray⟩, .int .i64 0]
  | none => .tuple #[.string ⟨#[]⟩, .int .i64 10]
theorem two_hex (x y : UInt8) (hx : hexB (x.toNat : Int) = true) (hy : hexB (y.toNat : Int) = true) : numOk 16 2 [x, y] = true ∧ numOf 16 2 [x, y] = 16 * nibV (x.toNat : Int) + nibV (y.toNat : Int) := by
  have e1 : numOk 16 2 [x, y] = true := by simp [numOk, allB, digB, hx, hy]
  refine ⟨e1, ?_⟩
  unfold numOf
  rw [e1, (nib_hex hx).1, (nib_hex hy).1]
  simp [numV]
  omega
theorem coded_two (x y : UInt8) (r : List UInt8) : codedL (37 :: x :: y :: r) =
    if 0 ≤ nibV (x.toNat : Int) ∧ 0 ≤ nibV (y.toNat : Int) ∧ nibV (x.toNat : Int) + nibV (y.toNat : Int) ≠ 0 then some (UInt8.ofNat (16 * nibV (x.toNat : Int) + nibV (y.toNat : Int)).toNat) else none := by
  unfold codedL
  simp only [List.length_cons, List.drop_succ_cons, List.drop_zero, List.take_succ_cons, List.take_zero]
  cases hx : hexB (x.toNat : Int)
  · have : numOk 16 2 [x, y] = false := by simp [numOk, allB, digB, hx]
    rw [this, nib_none hx]
    rw [if_neg (by simp), if_neg (by omega)]
  · cases hy : hexB (y.toNat : Int)
    · have : numOk 16 2 [x, y] = false := by simp [numOk, allB, digB, hy]
      rw [this, nib_none hy]
      rw [if_neg (by simp), if_neg (by omega)]
    · obtain ⟨h1, h2⟩ := two_hex x y hx hy
      obtain ⟨_, a0, a1⟩ := nib_hex hx
      obtain ⟨_, b0, b1⟩ := nib_hex hy
      rw [h1, h2]
      by_cases h0 : nibV (x.toNat : Int) + nibV (y.toNat : Int) = 0
      · rw [if_neg (by omega), if_neg (by omega)]
      · rw [if_pos ⟨by omega, rfl, by omega⟩, if_pos ⟨a0, b0, h0⟩]
theorem coded_short (l : List UInt8) (h : l.length < 2) : codedL (37 :: l) = none := by
  unfold codedL
  rw [if_neg]
  simp
  omega
theorem nib_lt (c : Int) : nibV c < 16 := by
  cases h : hexB c
  · rw [nib_none h]; omega
  · exact (nib_hex h).2.2
theorem nib_ge (c : Int) : -1 ≤ nibV c := by
  cases h : hexB c
  · rw [nib_none h]; omega
  · have := (nib_hex h).2.1; omega

set_option maxHeartbeats 2000000 in
set_option maxRecDepth 100000 in
theorem refUnescape_any (s : ByteArray) (w : World) (hs : s.size ≤ 1099511627776) :
    Calls Tryz.prog 10 #[.string s] w fun e w' => e = .returned (unescW (unescL s.data.toList)) ∧ Below w.heap.size w w' := by
  obtain ⟨L, hL⟩ : ∃ L, L = unescL s.data.toList := ⟨_, rfl⟩
  rw [← hL]
  have HL := Lib.hid hL; clear hL
  go_enter Tryz.func10, Tryz.ntmps10
  go_wp2
  go_loopw [4, 5] (fun v i wr => ∃ (k : Nat) (t : List UInt8), k ≤ s.size ∧ t.length ≤ k ∧ i = .int .i64 k ∧ Hid (wr.ownsRow w.heap.size 5 1 v t.length (byteVals t)) ∧ Hid (Below w.heap.size w wr) ∧
      Hid (L = (unescL (s.data.toList.drop k)).map (t ++ ·))) (fun _ i _ => s.size - (intOf i).toNat)
  case atStart => exact ⟨0, [], Nat.zero_le _, Nat.le_refl _, rfl, World.ownsRow_nil _ _ _ _, Below.refl _ _, Lib.hid (by rw [HL.out]; simp)⟩
  case round =>
    obtain ⟨k, t, hk, ht, rfl, HR, HWr, HT⟩ := hrel
    have hsz := HWr.out.size
    by_cases hlt : k < s.size
    · have hT := HT.out
      rw [drop_at s k hlt] at hT
      clear HT
      by_cases hp : s[k] = 37
      · rw [hp] at hT
        have hp2 : (s[k].toNat : Int) = 37 := by rw [hp]; rfl
        clear hp
        by_cases h3 : k + 2 < s.size
        · have h31 : k + 1 < s.size := by omega
          rw [drop_at s (k + 1) h31, drop_at s (k + 2) h3] at hT
          have hcd := coded_two s[k + 1] s[k + 2] (s.data.toList.drop (k + 2 + 1))
          have x1 := nib_lt (s[k + 1].toNat : Int)
          have x0 := nib_ge (s[k + 1].toNat : Int)
          have y1 := nib_lt (s[k + 2].toNat : Int)
          have y0 := nib_ge (s[k + 2].toNat : Int)
          have NX : Hid (∀ W : World, Calls Tryz.prog 28 #[.int .u8 (s[k + 1].toNat : Int)] W fun e w' => e = .returned (.int .i64 (nibV (s[k + 1].toNat : Int))) ∧ w' = W) := Lib.hid fun W => (nibble_any _ W).mono fun _ _ ⟨a, b⟩ => ⟨a, b.symm⟩
          have NY : Hid (∀ W : World, Calls Tryz.prog 28 #[.int .u8 (s[k + 2].toNat : Int)] W fun e w' => e = .returned (.int .i64 (nibV (s[k + 2].toNat : Int))) ∧ w' = W) := Lib.hid fun W => (nibble_any _ W).mono fun _ _ ⟨a, b⟩ => ⟨a, b.symm⟩
          generalize hx : nibV (s[k + 1].toNat : Int) = x at hcd x0 x1 NX
          generalize hy : nibV (s[k + 2].toNat : Int) = y at hcd y0 y1 NY
          clear hx hy
          by_cases hgood : 0 ≤ x ∧ 0 ≤ y ∧ x + y ≠ 0
          · rw [if_pos hgood] at hcd
            obtain ⟨hx, hy, hxy⟩ := hgood
            have hgd := (unescL_good _ _ hcd).2
            rw [List.drop_succ_cons, List.drop_succ_cons, List.drop_zero] at hgd
            rw [hgd] at hT
            obtain ⟨b, hb⟩ : ∃ b, b = UInt8.ofNat (16 * x + y).toNat := ⟨_, rfl⟩
            have hbv : 16 * x + y = (b.toNat : Int) := by rw [hb]; simp; omega
            rw [← hb] at hT
            have HT2 : Hid (L = (unescL (s.data.toList.drop (k + 3))).map ((t ++ [b]) ++ ·)) := Lib.hid (by rw [hT]; cases unescL (s.data.toList.drop (k + 2 + 1)) <;> simp)
            clear hT hcd hgd hb
            have k1a : IntKind.i64.wrap ((k : Int) + 1) = (k : Int) + 1 := IntWalk.i64_in _ (by omega)
            have k2a : IntKind.i64.wrap ((k : Int) + 2) = (k : Int) + 2 := IntWalk.i64_in _ (by omega)
            have k1b : 0 ≤ (k : Int) + 1 := by omega
            have k2b : 0 ≤ (k : Int) + 2 := by omega
            have k1c : ((k : Int) + 1).toNat = k + 1 := by omega
            have k2c : ((k : Int) + 2).toNat = k + 2 := by omega
            have k1d : (k : Int) + 1 < (s.size : Int) := by omega
            have k2d : (k : Int) + 2 < (s.size : Int) := by omega
            go_wp2
            go_quiet (first
              | (go_at_call 28; with_reducible exact Calls.quiet_of_same (NX.out _))
              | (go_at_call 28; with_reducible exact Calls.quiet_of_same (NY.out _)))
            clear k1a k2a
            go_wp2_with (at_builtin; refine app_bytes rfl _ _ rfl w.heap.size t [b] _ rfl ((own_below HR.out (below_drewN (Below.refl _ _) nq)).alloc _) ⟨_, 0, none⟩ 1 1 rfl rfl (cell_one_new _ _ _) (by simp; omega) (by simp; omega) ?_; intro v' w2 hown' hg' hb' _; have HO := Lib.hid hown'; have HB2 := Lib.hid hb'; clear hown' hg' hb')
            all_goals first
              | exact ⟨⟨k + 3, t ++ [b], by omega, by simp; omega, by go_num, HO, Lib.hid (((below_drewN HWr.out nq).alloc (by simpa using hsz) _).trans HB2.out), HT2⟩, by simp [intOf]; omega⟩
              | (exfalso; rename_i h; simp at h; omega)
          · rw [if_neg hgood] at hcd
            rw [unescL_bad _ hcd] at hT
            have HT2 : Hid (unescW L = .tuple #[.string ⟨#[]⟩, .int .i64 10]) := Lib.hid (by rw [hT]; rfl)
            clear hT hcd
            rcases (show x < 0 ∨ (0 ≤ x ∧ y < 0) ∨ (0 ≤ x ∧ 0 ≤ y ∧ x + y = 0) by omega) with hx | ⟨hx, hy⟩ | ⟨hx, hy, hxy⟩
            all_goals
              clear hgood
              have k1a : IntKind.i64.wrap ((k : Int) + 1) = (k : Int) + 1 := IntWalk.i64_in _ (by omega)
              have k2a : IntKind.i64.wrap ((k : Int) + 2) = (k : Int) + 2 := IntWalk.i64_in _ (by omega)
              have k1b : 0 ≤ (k : Int) + 1 := by omega
              have k2b : 0 ≤ (k : Int) + 2 := by omega
              have k1c : ((k : Int) + 1).toNat = k + 1 := by omega
              have k2c : ((k : Int) + 2).toNat = k + 2 := by omega
              have k1d : (k : Int) + 1 < (s.size : Int) := by omega
              have k2d : (k : Int) + 2 < (s.size : Int) := by omega
              go_wp2
              go_quiet (first
                | (go_at_call 28; with_reducible exact Calls.quiet_of_same (NX.out _))
                | (go_at_call 28; with_reducible exact Calls.quiet_of_same (NY.out _)))
              clear k1a k2a
              go_wp2
              go_ret2
              exact ⟨congrArg Ending.returned HT2.out.symm, below_drewN HWr.out _⟩
        · rw [unescL_bad _ (coded_short _ (by rw [List.length_drop, len_eq]; omega))] at hT
          have HT2 : Hid (unescW L = .tuple #[.string ⟨#[]⟩, .int .i64 10]) := Lib.hid (by rw [hT]; rfl)
          clear hT
          go_wp2
          go_ret2
          exact ⟨congrArg Ending.returned HT2.out.symm, HWr.out⟩
      · rw [unescL_plain _ _ hp] at hT
        have hp2 : (s[k].toNat : Int) ≠ 37 := by
          intro e
          exact hp (UInt8.toNat_inj.1 (by simpa using (by omega : s[k].toNat = 37)))
        have HT2 : Hid (L = (unescL (s.data.toList.drop (k + 1))).map ((t ++ [s[k]]) ++ ·)) := Lib.hid (by rw [hT]; cases unescL (s.data.toList.drop (k + 1)) <;> simp)
        clear hT hp
        go_wp2_with (at_builtin; refine app_bytes rfl _ _ rfl w.heap.size t [s[k]] _ rfl (HR.out.alloc _) ⟨wr.heap.size, 0, none⟩ 1 1 rfl rfl (cell_one_new _ _ _) (by simp; omega) (by simp; omega) ?_; intro v' w1 hown' hg' hb' _; have HO := Lib.hid hown'; have HB := Lib.hid hb'; clear hown' hg' hb')
        go_roundw
        case rel => exact ⟨k + 1, t ++ [s[k]], by omega, by simp; omega, by go_num, HO, Lib.hid ((HWr.out.alloc hsz _).trans HB.out), HT2⟩
        case measure => simp [intOf]; omega
    · have hT := HT.out
      rw [List.drop_eq_nil_of_le (by rw [len_eq]; omega)] at hT
      have HT2 : Hid (unescW L = .tuple #[.string ⟨t.toArray⟩, .int .i64 0]) := Lib.hid (by rw [hT]; simp [unescL, unescW])
      have hcv := conv_bytes HR.out
      clear hT
      go_wp2
      go_ret2
      exact ⟨congrArg Ending.returned HT2.out.symm, HWr.out⟩

/-! ### Escape -/
def marks5L : List UInt8 := [45, 46, 95, 126, 47]
theorem safe_parts (b : UInt8) : safeB (b.toNat : Int) = (letterB (b.toNat : Int) || decB (b.toNat : Int) || inB (b.toNat : Int) marks5L) := by
  have key : ∀ n : Fin 256, safeB (n.val : Int) = (letterB (n.val : Int) || decB (n.val : Int) || inB (n.val : Int) marks5L) := by decide +kernel
  exact key ⟨b.toNat, b.toNat_lt⟩
theorem conv_two (a b : UInt8) (W : World) : (convert 42 9 (.slice (some ⟨W.heap.size, 0, none⟩) 2 2)).run Tryz.prog (W.alloc (.cells #[.int .u8 (a.toNat : Int), .int .u8 (b.toNat : Int)] 5)) = .ok (.string ⟨#[a, b]⟩) (W.alloc (.cells #[.int .u8 (a.toNat : Int), .int .u8 (b.toNat : Int)] 5)) := by
  have h : (W.alloc (.cells #[.int .u8 (a.toNat : Int), .int .u8 (b.toNat : Int)] 5)).ownsRow W.heap.size 5 1 (.slice (some ⟨W.heap.size, 0, none⟩) 2 2) [a, b].length (byteVals [a, b]) :=
    ⟨by simp [byteVals], .inr ⟨W.heap.size, 2, _, rfl, Nat.le_refl _, heap_alloc_new W _, by simp, by unfold maxLen; omega, by simp, by simp [byteVals]⟩⟩
  exact conv_bytes h
theorem conv_two_drew (a b : UInt8) (W : World) : (convert 42 9 (.slice (some ⟨W.heap.size, 0, none⟩) 2 2)).run Tryz.prog (W.alloc (.cells #[.int .u8 (a.toNat : Int), .int .u8 (b.toNat : Int)] 5)).drew = .ok (.string ⟨#[a, b]⟩) (W.alloc (.cells #[.int .u8 (a.toNat : Int), .int .u8 (b.toNat : Int)] 5)).drew := by
  have h : (W.alloc (.cells #[.int .u8 (a.toNat : Int), .int .u8 (b.toNat : Int)] 5)).ownsRow W.heap.size 5 1 (.slice (some ⟨W.heap.size, 0, none⟩) 2 2) [a, b].length (byteVals [a, b]) :=
    ⟨by simp [byteVals], .inr ⟨W.heap.size, 2, _, rfl, Nat.le_refl _, heap_alloc_new W _, by simp, by unfold maxLen; omega, by simp, by simp [byteVals]⟩⟩
  exact conv_bytes (own_below h (below_drewN (Below.refl _ _) 1))
theorem text_app (a : List UInt8) (b : ByteArray) : (⟨a.toArray⟩ : ByteArray) ++ b = ⟨(a ++ b.data.toList).toArray⟩ := by
  apply ByteArray.ext
  apply Array.ext'
  simp
theorem extract_one (s : ByteArray) (k : Nat) (h : k < s.size) : (s.extract k (k + 1)).data.toList = [s[k]] := by
  rw [Lib.extract_data, show k + 1 - k = 1 by omega, drop_at s k h]; rfl

set_option maxHeartbeats 2000000 in
set_option maxRecDepth 100000 in
theorem refEscape_any (s : ByteArray) (w : World) (hs : s.size ≤ 1099511627776) :
    Calls Tryz.prog 19 #[.string s] w fun e w' => e = .returned (.string ⟨(escapeL s.data.toList).toArray⟩) ∧ Below w.heap.size w w' := by
  have HI : Hid (∀ (c : Int) (W : World), Calls Tryz.prog 33 #[.int .u8 c, .string ⟨#[45, 46, 95, 126, 47]⟩] W fun e w' => e = .returned (.bool (inB c marks5L)) ∧ W = w') :=
    Lib.hid fun c W => In_any c ⟨#[45, 46, 95, 126, 47]⟩ W (by unfold maxLen; show 5 ≤ _; decide)
  go_enter Tryz.func19, Tryz.ntmps19
  go_wp2
  go_loopw [3, 4] (fun v i wr => ∃ (k : Nat) (t : ByteArray), k ≤ s.size ∧ i = .int .i64 k ∧ v = .string t ∧ t.size ≤ 3 * k ∧ Hid (t = ⟨(escapeL (s.data.toList.take k)).toArray⟩) ∧ Hid (Below w.heap.size w wr)) (fun _ i _ => s.size - (intOf i).toNat)
  case atStart => exact ⟨0, _, Nat.zero_le _, rfl, rfl, Nat.le_refl _, Lib.hid rfl, Below.refl _ _⟩
  case round =>
    obtain ⟨k, t, hk, rfl, rfl, ht, HT, HWr⟩ := hrel
    have hsz := HWr.out.size
    by_cases hlt : k < s.size
    · have hsp := safe_parts s[k]
      have hE : escapeL (s.data.toList.take (k + 1)) = escapeL (s.data.toList.take k) ++ escB s[k] := by rw [take_snoc s k hlt, escapeL_snoc]
      cases hsf : safeB (s[k].toNat : Int)
      · rw [esc_no hsf] at hE
        rw [hsf] at hsp
        have hl : letterB (s[k].toNat : Int) = false := by revert hsp; cases letterB (s[k].toNat : Int) <;> simp
        have hd : decB (s[k].toNat : Int) = false := by revert hsp; cases decB (s[k].toNat : Int) <;> simp
        have hi : inB (s[k].toNat : Int) marks5L = false := by revert hsp; cases inB (s[k].toNat : Int) marks5L <;> simp
        clear hsp hsf
        have hl := Lib.hid hl; have hd := Lib.hid hd; have hi := Lib.hid hi
        obtain ⟨q, hq, hq16, eq⟩ : ∃ q : Nat, (s[k].toNat : Int).tdiv 16 = (q : Int) ∧ q < 16 ∧ s[k].toNat / 16 = q := ⟨s[k].toNat / 16, by rw [Int.tdiv_eq_ediv_of_nonneg (by omega)]; omega, by have := s[k].toNat_lt; omega, rfl⟩
        obtain ⟨r, hr, hr16, er⟩ : ∃ r : Nat, (s[k].toNat : Int).tmod 16 = (r : Int) ∧ r < 16 ∧ s[k].toNat % 16 = r := ⟨s[k].toNat % 16, by rw [Int.tmod_eq_emod_of_nonneg (by omega)]; omega, by omega, rfl⟩
        rw [eq, er] at hE
        have HN : Hid (t ++ ⟨#[37]⟩ ++ ⟨#[hexC q, hexC r]⟩ = ⟨(escapeL (s.data.toList.take (k + 1))).toArray⟩) := Lib.hid (by rw [hE, HT.out, text_app, text_app]; simp)
        have i1 := hexC_at q hq16
        have i2 := hexC_at r hr16
        have q16 : (q : Int) < 16 := by omega
        have r16 : (r : Int) < 16 := by omega
        have hcv := conv_two_drew (hexC q) (hexC r)
        have hadd2 : ∀ W : World, (Op.stringOp .add (t ++ ⟨#[37]⟩) ⟨#[hexC q, hexC r]⟩).run Tryz.prog W = .ok (.string (t ++ ⟨#[37]⟩ ++ ⟨#[hexC q, hexC r]⟩)) W := fun W => run_string_add_sum W _ _ (by rw [ByteArray.size_append]; show t.size + 1 + 2 ≤ _; omega)
        have hq2 : (s[k].toNat : Int) / 16 = (q : Int) := by omega
        have hr2 : (s[k].toNat : Int) % 16 = (r : Int) := by omega
        have hqw : IntKind.u8.wrap (q : Int) = (q : Int) := by rw [IntKind.wrap_u8]; omega
        have hrw : IntKind.u8.wrap (r : Int) = (r : Int) := by rw [IntKind.wrap_u8]; omega
        have hadd : ∀ W : World, (Op.stringOp .add t ⟨#[37]⟩).run Tryz.prog W = .ok (.string (t ++ ⟨#[37]⟩)) W := fun W => run_string_add_sum W _ _ (by show t.size + 1 ≤ _; omega)
        have hadn : ¬ (9223372036854775807 < t.size + 1) := by omega
        have hadm : ¬ (9223372036854775807 < t.size + (⟨#[37]⟩ : ByteArray).size) := by show ¬ (9223372036854775807 < t.size + 1); omega
        clear eq er hE
        go_wp2_with (first
          | (go_at_call 32; refine (letter_any _ _).mono ?_; rintro e w' ⟨rfl, rfl⟩; rw [hl.out])
          | (go_at_call 26; refine (digit_any _ _).mono ?_; rintro e w' ⟨rfl, rfl⟩; rw [hd.out])
          | (go_at_call 33; refine (HI.out _ _).mono ?_; rintro e w' ⟨rfl, rfl⟩; rw [hi.out]))
        go_region_law (fail)
        clear hqw hrw
        all_goals try go_wp2
        all_goals exact ⟨⟨k + 1, t ++ ⟨#[37]⟩ ++ ⟨#[hexC q, hexC r]⟩, by omega, by go_num, rfl, by rw [ByteArray.size_append, ByteArray.size_append]; show t.size + 1 + 2 ≤ _; omega, HN, Lib.hid (((HWr.out.alloc hsz _).drew))⟩, by simp [intOf]; omega⟩
      · rw [esc_yes hsf] at hE
        rw [hsf] at hsp
        have HN : Hid (t ++ s.extract k (k + 1) = ⟨(escapeL (s.data.toList.take (k + 1))).toArray⟩) := Lib.hid (by rw [hE, HT.out, text_app, extract_one s k hlt])
        clear hE hsf
        cases hl : letterB (s[k].toNat : Int)
        · cases hd : decB (s[k].toNat : Int)
          · have hi : inB (s[k].toNat : Int) marks5L = true := by rw [hl, hd] at hsp; simpa using hsp.symm
            clear hsp
            have hl := Lib.hid hl; have hd := Lib.hid hd; have hi := Lib.hid hi
            go_wp2_with (first
              | (go_at_call 32; refine (letter_any _ _).mono ?_; rintro e w' ⟨rfl, rfl⟩; rw [hl.out])
              | (go_at_call 26; refine (digit_any _ _).mono ?_; rintro e w' ⟨rfl, rfl⟩; rw [hd.out])
              | (go_at_call 33; refine (HI.out _ _).mono ?_; rintro e w' ⟨rfl, rfl⟩; rw [hi.out]))
            go_roundw
            case rel => exact ⟨k + 1, _, by omega, by go_num, rfl, by simp; omega, HN, HWr⟩
            case measure => simp [intOf]; omega
          · clear hsp
            have hl := Lib.hid hl; have hd := Lib.hid hd
            go_wp2_with (first
              | (go_at_call 32; refine (letter_any _ _).mono ?_; rintro e w' ⟨rfl, rfl⟩; rw [hl.out])
              | (go_at_call 26; refine (digit_any _ _).mono ?_; rintro e w' ⟨rfl, rfl⟩; rw [hd.out]))
            go_roundw
            case rel => exact ⟨k + 1, _, by omega, by go_num, rfl, by simp; omega, HN, HWr⟩
            case measure => simp [intOf]; omega
        · clear hsp
          have hl := Lib.hid hl
          go_wp2_with (go_at_call 32; refine (letter_any _ _).mono ?_; rintro e w' ⟨rfl, rfl⟩; rw [hl.out])
          go_roundw
          case rel => exact ⟨k + 1, _, by omega, by go_num, rfl, by simp; omega, HN, HWr⟩
          case measure => simp [intOf]; omega
    · have e := HT.out
      rw [take_all s k hk hlt] at e
      have HE := Lib.hid e; clear e
      go_wp2
      go_ret
      exact ⟨congrArg (fun x => Ending.returned (Value.string x)) HE.out, HWr.out⟩
end Go.Proofs.YtjmkhekigdnjgaaGreatDoor
