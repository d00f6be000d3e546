/-
  OctetTells' walk: package octet and the document's octets answer the same.
-/
import Derived.Test.YtjmkhekigdnjgaaGreatDoorLaw1A
import Derived.Test.YtjmkhekigdnjgaaGreatDoorRefD
import Derived.Test.YtjmkhekigdnjgaaGreatDoorRefE
import Derived.Test.YtjmkhekigdnjgaaGreatDoorAs
namespace Go.Proofs.YtjmkhekigdnjgaaGreatDoor
open Go.RowKit Go.Shelf

set_option maxHeartbeats 4000000 in
set_option maxRecDepth 100000 in
theorem OctetTells_walk (s : ByteArray) (w : World) (hE : Env w) (hT : ErrT w) :
    Calls Tryz.prog 3 #[.string s] w fun e w' => e = .returned (.bool true) ∧ Below w.heap.size w w' := by
  have HK := Lib.hid (known_true w hE)
  have HE := Lib.hid hE; clear hE
  have HTT := Lib.hid hT; clear hT
  by_cases hlen : 400 < s.size
  · go_enter Tryz.func3, Tryz.ntmps3
    go_wp2_with (go_at_call 4; refine HK.out.mono ?_; rintro e w1 ⟨rfl, hb1⟩; have HB := Lib.hid hb1; clear hb1)
    go_ret
    exact ⟨rfl, HB.out⟩
  · have hm : s.size ≤ maxLen := by unfold maxLen; omega
    have h40 : s.size ≤ 1099511627776 := by omega
    have h32 : s.size < 4294967281 := by omega
    have HD1 : Hid (∀ W : World, Calls Tryz.prog 5 #[.string s] W fun e w' => e = .returned (.tuple #[.int .i64 (numOf 10 9 s.data.toList), .bool (numOk 10 9 s.data.toList)]) ∧ Below W.heap.size W w') := Lib.hid fun W => Dec_any s W hm
    have HD2 : Hid (∀ W : World, Calls Tryz.prog 6 #[.string s] W fun e w' => e = .returned (.tuple #[.int .i64 (numOf 10 9 s.data.toList), .bool (numOk 10 9 s.data.toList)]) ∧ W = w') := Lib.hid fun W => refDec_any s W hm
    generalize numOf 10 9 s.data.toList = n1 at HD1 HD2
    generalize numOk 10 9 s.data.toList = b1 at HD1 HD2
    have HX1 : Hid (∀ W : World, Calls Tryz.prog 7 #[.string s] W fun e w' => e = .returned (.tuple #[.int .i64 (numOf 16 7 s.data.toList), .bool (numOk 16 7 s.data.toList)]) ∧ Below W.heap.size W w') := Lib.hid fun W => Hex_any s W hm
    have HX2 : Hid (∀ W : World, Calls Tryz.prog 8 #[.string s] W fun e w' => e = .returned (.tuple #[.int .i64 (numOf 16 7 s.data.toList), .bool (numOk 16 7 s.data.toList)]) ∧ W = w') := Lib.hid fun W => refHex_any s W hm
    generalize numOf 16 7 s.data.toList = n2 at HX1 HX2
    generalize numOk 16 7 s.data.toList = b2 at HX1 HX2
    have HT1 : Hid (∀ W : World, Calls Tryz.prog 11 #[.string s] W fun e w' => e = .returned (.bool (allB tokenB s.data.toList)) ∧ W = w') := Lib.hid fun W => Token_any s W hm
    have HT2 : Hid (∀ W : World, Calls Tryz.prog 12 #[.string s] W fun e w' => e = .returned (.bool (allB tokenB s.data.toList)) ∧ W = w') := Lib.hid fun W => refToken_any s W hm
    generalize allB tokenB s.data.toList = b3 at HT1 HT2
    have HL1 : Hid (∀ W : World, Calls Tryz.prog 13 #[.string s] W fun e w' => e = .returned (.string ⟨(lowerL s.data.toList).toArray⟩) ∧ Below W.heap.size W w') := Lib.hid fun W => Lower_any s W hm
    have HL2 : Hid (∀ W : World, Calls Tryz.prog 14 #[.string s] W fun e w' => e = .returned (.string ⟨(lowerL s.data.toList).toArray⟩) ∧ Below W.heap.size W w') := Lib.hid fun W => refLower_any s W hm
    generalize (⟨(lowerL s.data.toList).toArray⟩ : ByteArray) = t1 at HL1 HL2
    have HR1 : Hid (∀ W : World, Calls Tryz.prog 15 #[.string s] W fun e w' => e = .returned (.string ⟨(trimL s.data.toList).toArray⟩) ∧ Below W.heap.size W w') := Lib.hid fun W => Trim_any s W hm
    have HR2 : Hid (∀ W : World, Calls Tryz.prog 16 #[.string s] W fun e w' => e = .returned (.string ⟨(trimL s.data.toList).toArray⟩) ∧ W = w') := Lib.hid fun W => refTrim_any s W hm
    generalize (⟨(trimL s.data.toList).toArray⟩ : ByteArray) = t2 at HR1 HR2
    have HS1 : Hid (∀ W : World, Calls Tryz.prog 18 #[.string s] W fun e w' => e = .returned (.string ⟨(escapeL s.data.toList).toArray⟩) ∧ Below W.heap.size W w') := Lib.hid fun W => Escape_any s W h40
    have HS2 : Hid (∀ W : World, Calls Tryz.prog 19 #[.string s] W fun e w' => e = .returned (.string ⟨(escapeL s.data.toList).toArray⟩) ∧ Below W.heap.size W w') := Lib.hid fun W => refEscape_any s W h40
    generalize (⟨(escapeL s.data.toList).toArray⟩ : ByteArray) = t3 at HS1 HS2
    have HM1 : Hid (∀ W : World, Env W → Calls Tryz.prog 21 #[.string s] W (OwnsStrs W (listL s.data.toList))) := Lib.hid fun W h => List_any s W h h32
    have HM2 : Hid (∀ W : World, Calls Tryz.prog 22 #[.string s] W (OwnsStrs W (listL s.data.toList))) := Lib.hid fun W => refList_any s W h32
    generalize listL s.data.toList = ls at HM1 HM2
    have HU1 : Hid (∀ W : World, Calls Tryz.prog 9 #[.string s] W fun e w' => e = .returned (unescV (unescL s.data.toList)) ∧ Below W.heap.size W w') := Lib.hid fun W => Unescape_any s W h40
    have HU2 : Hid (∀ W : World, Calls Tryz.prog 10 #[.string s] W fun e w' => e = .returned (unescW (unescL s.data.toList)) ∧ Below W.heap.size W w') := Lib.hid fun W => refUnescape_any s W h40
    generalize unescL s.data.toList = U at HU1 HU2
    obtain ⟨u, v, c, hV, hW, HC⟩ : ∃ (u : ByteArray) (v : Value) (c : Int), unescV U = .tuple #[.string u, v] ∧ unescW U = .tuple #[.string u, .int .i64 c] ∧
        Hid (∀ W : World, ErrT W → Calls Tryz.prog 17 #[v] W fun e w' => e = .returned (.int .i64 c) ∧ Below W.heap.size W w') := by
      cases U with
      | none => exact ⟨_, _, _, rfl, rfl, Lib.hid fun W h => code_num 10 W h⟩
      | some t => exact ⟨_, _, _, rfl, rfl, Lib.hid fun W _ => code_nil W⟩
    rw [hV] at HU1
    rw [hW] at HU2
    clear hV hW hm h40 h32
    go_enter Tryz.func3, Tryz.ntmps3
    go_wp2_with fail
    refine HK.out.mono ?_; rintro e w1 ⟨rfl, hb1⟩; have HB1 := Lib.hid hb1; have hz1 := hb1.size; clear hb1
    go_wp2_with fail
    refine (HD1.out _).mono ?_; rintro e w2 ⟨rfl, hb2⟩; have HB2 := Lib.hid (HB1.out.trans (hb2.mono hz1)); have hz2 := Nat.le_trans hz1 hb2.size; clear hb2 HB1 hz1
    go_wp2_with fail
    refine (HD2.out _).mono ?_; rintro e w3 ⟨rfl, rfl⟩
    go_wp2_with fail
    refine (HX1.out _).mono ?_; rintro e w3 ⟨rfl, hb3⟩; have HB3 := Lib.hid (HB2.out.trans (hb3.mono hz2)); have hz3 := Nat.le_trans hz2 hb3.size; clear hb3 HB2 hz2
    go_wp2_with fail
    refine (HX2.out _).mono ?_; rintro e w4 ⟨rfl, rfl⟩
    go_wp2_with fail
    refine (HU1.out _).mono ?_; rintro e w4 ⟨rfl, hb4⟩; have HB4 := Lib.hid (HB3.out.trans (hb4.mono hz3)); have hz4 := Nat.le_trans hz3 hb4.size; clear hb4 HB3 hz3
    go_wp2_with fail
    refine (HU2.out _).mono ?_; rintro e w5 ⟨rfl, hb5⟩; have HB5 := Lib.hid (HB4.out.trans (hb5.mono hz4)); have hz5 := Nat.le_trans hz4 hb5.size; clear hb5 HB4 hz4
    go_wp2_with fail
    refine (HT1.out _).mono ?_; rintro e w6 ⟨rfl, rfl⟩
    go_wp2_with fail
    refine (HT2.out _).mono ?_; rintro e w6 ⟨rfl, rfl⟩
    go_wp2_with fail
    refine (HL1.out _).mono ?_; rintro e w6 ⟨rfl, hb6⟩; have HB6 := Lib.hid (HB5.out.trans (hb6.mono hz5)); have hz6 := Nat.le_trans hz5 hb6.size; clear hb6 HB5 hz5
    go_wp2_with fail
    refine (HL2.out _).mono ?_; rintro e w7 ⟨rfl, hb7⟩; have HB7 := Lib.hid (HB6.out.trans (hb7.mono hz6)); have hz7 := Nat.le_trans hz6 hb7.size; clear hb7 HB6 hz6
    go_wp2_with fail
    refine (HR1.out _).mono ?_; rintro e w8 ⟨rfl, hb8⟩; have HB8 := Lib.hid (HB7.out.trans (hb8.mono hz7)); have hz8 := Nat.le_trans hz7 hb8.size; clear hb8 HB7 hz7
    go_wp2_with fail
    refine (HR2.out _).mono ?_; rintro e w9 ⟨rfl, rfl⟩
    go_wp2_with fail
    refine (HC.out _ (HTT.out.below HB8.out)).mono ?_; rintro e w9 ⟨rfl, hb9⟩; have HB9 := Lib.hid (HB8.out.trans (hb9.mono hz8)); have hz9 := Nat.le_trans hz8 hb9.size; clear hb9 HB8 hz8
    go_wp2_with fail
    refine (HS1.out _).mono ?_; rintro e w10 ⟨rfl, hb10⟩; have HB10 := Lib.hid (HB9.out.trans (hb10.mono hz9)); have hz10 := Nat.le_trans hz9 hb10.size; clear hb10 HB9 hz9
    go_wp2_with fail
    refine (HS2.out _).mono ?_; rintro e w11 ⟨rfl, hb11⟩; have HB11 := Lib.hid (HB10.out.trans (hb11.mono hz10)); have hz11 := Nat.le_trans hz10 hb11.size; clear hb11 HB10 hz10
    go_wp2_with fail
    refine (HM1.out _ (HE.out.below HB11.out)).mono ?_; rintro e w12 ⟨v1, rfl, ho1, hb12⟩; have HB12 := Lib.hid (HB11.out.trans (hb12.mono hz11)); have hz12 := Nat.le_trans hz11 hb12.size; have HO1 := Lib.hid ho1; clear hb12 HB11 hz11 ho1
    go_wp2_with fail
    refine (HM2.out _).mono ?_; rintro e w13 ⟨v2, rfl, ho2, hb13⟩; have HB13 := Lib.hid (HB12.out.trans (hb13.mono hz12)); have hz13 := Nat.le_trans hz12 hb13.size; have HO2 := Lib.hid ho2; have HO3 := Lib.hid (own_below HO1.out hb13); clear hb13 HB12 hz12 ho2 HO1
    go_wp2_with fail
    refine (same_true HO3.out HO2.out).mono ?_; rintro e w14 ⟨rfl, hb14⟩; have HB14 := Lib.hid (HB13.out.trans (hb14.mono hz13)); clear hb14
    go_wp2
    go_ret
    exact ⟨rfl, HB14.out⟩
end Go.Proofs.YtjmkhekigdnjgaaGreatDoor
