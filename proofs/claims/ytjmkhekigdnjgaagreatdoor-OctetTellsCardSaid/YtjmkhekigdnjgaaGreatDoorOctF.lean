/-
  Package octet: coded, Unescape: what each answers; nothing that was there turns.
-/
import Derived.Test.YtjmkhekigdnjgaaGreatDoorOctE
namespace Go.Proofs.YtjmkhekigdnjgaaGreatDoor
open Go.RowKit Go.Shelf

/-- The byte that two digits behind a percent sign tell. -/
def codedL (l : List UInt8) : Option UInt8 :=
  if 3 ≤ l.length ∧ numOk 16 2 ((l.drop 1).take 2) = true ∧ numOf 16 2 ((l.drop 1).take 2) ≠ 0 then some (UInt8.ofNat (numOf 16 2 ((l.drop 1).take 2)).toNat) else none
def codedV : Option UInt8 → Value
  | some c => .tuple #[.int .u8 (c.toNat : Int), .nilIface]
  | none => .tuple #[.int .u8 0, .iface 38 (.int .i64 10)]

theorem coded_any (s : ByteArray) (w : World) (hs : s.size ≤ maxLen) :
    Calls Tryz.prog 29 #[.string s] w fun e w' => e = .returned (codedV (codedL s.data.toList)) ∧ Below w.heap.size w w' := by
  have HN := Lib.hid (number_any 16 (.inr rfl) asks_hex 2 (by decide) (s.extract 1 3) w (by simp at *; omega))
  rw [Lib.extract_data] at HN
  have hlen := len_eq s
  have hb2 : numOk 16 2 ((s.data.toList.drop 1).take (3 - 1)) = true → 0 ≤ numOf 16 2 ((s.data.toList.drop 1).take (3 - 1)) ∧ numOf 16 2 ((s.data.toList.drop 1).take (3 - 1)) < 256 := by
    intro h
    have h' := h
    unfold numOk at h
    simp only [Bool.and_eq_true, decide_eq_true_eq] at h
    have hal := h.2
    unfold allB at hal
    simp only [Bool.and_eq_true] at hal
    obtain ⟨b0, b1⟩ := numV_bound (b := 16) (.inr rfl) _ hal.1
    have e : numOf 16 2 ((s.data.toList.drop 1).take (3 - 1)) = numV 16 ((s.data.toList.drop 1).take (3 - 1)) := by unfold numOf; rw [h']; rfl
    rw [e]
    refine ⟨b0, Int.lt_of_lt_of_le b1 ?_⟩
    have : ((s.data.toList.drop 1).take (3 - 1)).length = 0 ∨ ((s.data.toList.drop 1).take (3 - 1)).length = 1 ∨ ((s.data.toList.drop 1).take (3 - 1)).length = 2 := by have := h.1; omega
    rcases this with h | h | h <;> rw [h] <;> decide
  unfold maxLen at hs
  by_cases h3 : 3 ≤ s.size
  · have hc : codedL s.data.toList = if numOk 16 2 ((s.data.toList.drop 1).take 2) = true ∧ numOf 16 2 ((s.data.toList.drop 1).take 2) ≠ 0 then some (UInt8.ofNat (numOf 16 2 ((s.data.toList.drop 1).take 2)).toNat) else none := by
      unfold codedL
      rw [hlen]
      simp [h3]
    rw [hc]
    clear hc hlen
    simp only [Nat.add_one_sub_one] at HN hb2 ⊢
    generalize numOf 16 2 ((s.data.toList.drop 1).take 2) = n at HN hb2 ⊢
    generalize numOk 16 2 ((s.data.toList.drop 1).take 2) = b at HN hb2 ⊢
    cases b
    · clear hb2
      rw [if_neg (by simp)]
      go_enter Tryz.func29, Tryz.ntmps29
      go_wp2_with (go_at_call 24; refine HN.out.mono ?_; rintro e w' ⟨rfl, hb⟩)
      go_ret2
      exact ⟨rfl, by assumption⟩
    · obtain ⟨n0, n1⟩ := hb2 rfl
      clear hb2
      by_cases hn : n = 0
      · subst hn
        rw [if_neg (by simp)]
        go_enter Tryz.func29, Tryz.ntmps29
        go_wp2_with (go_at_call 24; refine HN.out.mono ?_; rintro e w' ⟨rfl, hb⟩)
        go_ret2
        exact ⟨rfl, by assumption⟩
      · have hpos : 0 < n := by omega
        have hcv : codedV (if true = true ∧ n ≠ 0 then some (UInt8.ofNat n.toNat) else none) = .tuple #[.int .u8 n, .nilIface] := by
          rw [if_pos ⟨rfl, hn⟩]
          have : ((UInt8.ofNat n.toNat).toNat : Int) = n := by simp; omega
          show Value.tuple #[.int .u8 ((UInt8.ofNat n.toNat).toNat : Int), .nilIface] = _
          rw [this]
        rw [hcv]
        clear hcv hn
        go_enter Tryz.func29, Tryz.ntmps29
        go_wp2_with (go_at_call 24; refine HN.out.mono ?_; rintro e w' ⟨rfl, hb⟩)
        go_ret2
        exact ⟨rfl, by assumption⟩
  · have hc : codedL s.data.toList = none := by
      unfold codedL
      rw [hlen, if_neg (by omega)]
    rw [hc]
    clear hc hlen hb2 HN
    go_enter Tryz.func29, Tryz.ntmps29
    go_wp2
    go_ret2
    exact ⟨rfl, Below.refl _ _⟩

/-! ### Unescape -/
def unescL : List UInt8 → Option (List UInt8)
  | [] => some []
  | [c] => if c = 37 then none else some [c]
  | [c, d] => if c = 37 then none else (unescL [d]).map (c :: ·)
  | c :: x :: y :: r => if c = 37 then (match codedL [c, x, y] with | some b => (unescL r).map (b :: ·) | none => none) else (unescL (x :: y :: r)).map (c :: ·)
theorem unescL_plain (c : UInt8) (r : List UInt8) (h : c ≠ 37) : unescL (c :: r) = (unescL r).map (c :: ·) := by
  match r with
  | [] => simp [unescL, h]
  | [d] => simp [unescL, h]
  | x :: y :: r => simp [unescL, h]
theorem codedL_take (l : List UInt8) : codedL l = codedL (l.take 3) := by
  match l with
  | [] => rfl
  | [_] => rfl
  | [_, _] => rfl
  | a :: b :: c :: r => simp [codedL]
theorem unescL_bad (l : List UInt8) (h : codedL (37 :: l) = none) : unescL (37 :: l) = none := by
  match l, h with
  | [], _ => rfl
  | [_], _ => rfl
  | x :: y :: r, h =>
    rw [codedL_take] at h
    simp only [List.take_succ_cons, List.take_zero] at h
    simp [unescL, h]
theorem unescL_good (l : List UInt8) (b : UInt8) (h : codedL (37 :: l) = some b) : 2 ≤ l.length ∧ unescL (37 :: l) = (unescL (l.drop 2)).map (b :: ·) := by
  match l, h with
  | [], h => simp [codedL] at h
  | [_], h => simp [codedL] at h
  | x :: y :: r, h =>
    rw [codedL_take] at h
    simp only [List.take_succ_cons, List.take_zero] at h
    simp [unescL, h]
def unescV : Option (List UInt8) → Value
  | some t => .tuple #[.string ⟨t.toArray⟩, .nilIface]
  | none => .tuple #[.string ⟨#[]⟩, .iface 38 (.int .i64 10)]

/-- An owned row behind what turns nothing that was there. -/
theorem own_below {w w' : World} {B : Nat} {e : TypeId} {sz n : Nat} {v : Value} {xs : List Value} (h : w.ownsRow B e sz v n xs) (hb : Below w.heap.size w w') : w'.ownsRow B e sz v n xs :=
  h.kept (row := none) ⟨hb.os, hb.tape, hb.output, hb.size, fun k hk _ => hb.block k hk⟩ (by cases hv : v.ownBlock <;> simp)

set_option maxHeartbeats 2000000 in
set_option maxRecDepth 100000 in
theorem Unescape_any (s : ByteArray) (w : World) (hs : s.size ≤ 1099511627776) :
    Calls Tryz.prog 9 #[.string s] w fun e w' => e = .returned (unescV (unescL s.data.toList)) ∧ Below w.heap.size w w' := by
  obtain ⟨L, hL⟩ : ∃ L, L = unescL s.data.toList := ⟨_, rfl⟩
  rw [← hL]
  have HL := Lib.hid hL; clear hL
  go_enter Tryz.func9, Tryz.ntmps9
  go_wp2
  go_loopw [4, 5] (fun v i wr => ∃ (k : Nat) (t : List UInt8), k ≤ s.size ∧ t.length ≤ k ∧ i = .int .i64 k ∧ Hid (wr.ownsRow w.heap.size 5 1 v t.length (byteVals t)) ∧ Hid (Below w.heap.size w wr) ∧
      Hid (L = (unescL (s.data.toList.drop k)).map (t ++ ·))) (fun _ i _ => s.size - (intOf i).toNat)
  case atStart => exact ⟨0, [], Nat.zero_le _, Nat.le_refl _, rfl, World.ownsRow_nil _ _ _ _, Below.refl _ _, Lib.hid (by have := HL.out; simpa using this)⟩
  case round =>
    obtain ⟨k, t, hk, ht, rfl, HR, HWr, HT⟩ := hrel
    have hsz := HWr.out.size
    by_cases hlt : k < s.size
    · have hd : s.data.toList.drop k = s[k] :: s.data.toList.drop (k + 1) := List.drop_eq_getElem_cons (by rw [len_eq]; exact hlt)
      have hT := HT.out
      rw [hd] at hT
      by_cases hp : s[k] = 37
      · rw [hp] at hT
        have hsl : (s.extract k s.size).data.toList = 37 :: s.data.toList.drop (k + 1) := by rw [Lib.extract_to_end, hd, hp]
        have hsz2 : (s.extract k s.size).size ≤ maxLen := by unfold maxLen; simp; omega
        have hp2 : (s[k].toNat : Int) = 37 := by rw [hp]; rfl
        cases hcd : codedL (37 :: s.data.toList.drop (k + 1))
        · rw [unescL_bad _ hcd] at hT
          have HC : Hid (∀ W : World, Calls Tryz.prog 29 #[.string (s.extract k s.size)] W fun e w' => e = .returned (.tuple #[.int .u8 0, .iface 38 (.int .i64 10)]) ∧ Below W.heap.size W w') := Lib.hid fun W => by
            have := coded_any (s.extract k s.size) W hsz2
            rw [hsl, hcd] at this
            exact this
          have HT2 : Hid (unescV L = .tuple #[.string ⟨#[]⟩, .iface 38 (.int .i64 10)]) := Lib.hid (by rw [hT]; rfl)
          clear hT hcd hsl hsz2 hd hp
          go_wp2_with (first
            | (go_at_call 29; refine (HC.out _).mono ?_; rintro e w1 ⟨rfl, hb1⟩; have HB := Lib.hid hb1; clear hb1)
            | (go_at_call 23; refine (is_num _ _ _).mono ?_; rintro e w' ⟨rfl, rfl⟩))
          go_ret2
          exact ⟨congrArg Ending.returned HT2.out.symm, HWr.out.trans (HB.out.mono hsz)⟩
        · rename_i b
          obtain ⟨h2, hgd⟩ := unescL_good _ b hcd
          rw [hgd, List.drop_drop] at hT
          have h3 : k + 3 ≤ s.size := by rw [List.length_drop, len_eq] at h2; omega
          have HC : Hid (∀ W : World, Calls Tryz.prog 29 #[.string (s.extract k s.size)] W fun e w' => e = .returned (.tuple #[.int .u8 (b.toNat : Int), .nilIface]) ∧ Below W.heap.size W w') := Lib.hid fun W => by
            have := coded_any (s.extract k s.size) W hsz2
            rw [hsl, hcd] at this
            exact this
          have HT2 : Hid (L = (unescL (s.data.toList.drop (k + 3))).map ((t ++ [b]) ++ ·)) := Lib.hid (by rw [hT]; cases unescL (s.data.toList.drop (k + 3)) <;> simp)
          clear hT hcd hsl hsz2 hd hp hgd h2
          go_wp2_with (first
            | (go_at_call 29; refine (HC.out _).mono ?_; rintro e w1 ⟨rfl, hb1⟩; have HB := Lib.hid hb1; have hz1 := hb1.size; have hr1 := Lib.hid (own_below HR.out hb1); clear hb1)
            | (go_at_call 23; refine (is_nil _ _).mono ?_; rintro e w' ⟨rfl, rfl⟩)
            | (at_builtin; refine app_bytes rfl _ _ rfl w.heap.size t [b] _ rfl (hr1.out.alloc _) ⟨_, 0, none⟩ 1 1 rfl rfl (cell_one_new _ _ _) (by simp; omega) (by simp; omega) ?_; intro v' w2 hown' hg' hb' _; have HO := Lib.hid hown'; have HB2 := Lib.hid hb'; clear hown' hg' hb'))
          go_roundw
          case rel => exact ⟨k + 3, t ++ [b], by omega, by simp; omega, by go_num, HO, Lib.hid (((HWr.out.trans (HB.out.mono hsz)).alloc (Nat.le_trans hsz hz1) _).trans HB2.out), HT2⟩
          case measure => simp [intOf]; omega
      · rw [unescL_plain _ _ hp] at hT
        have hp2 : (s[k].toNat : Int) ≠ 37 := by
          intro e
          exact hp (UInt8.toNat_inj.1 (by simpa using (by omega : s[k].toNat = 37)))
        have HT2 : Hid (L = (unescL (s.data.toList.drop (k + 1))).map ((t ++ [s[k]]) ++ ·)) := Lib.hid (by rw [hT]; cases unescL (s.data.toList.drop (k + 1)) <;> simp)
        clear hT hd hp
        go_wp2_with (first
            | (at_builtin; refine app_bytes rfl _ _ rfl w.heap.size t [s[k]] _ rfl (HR.out.alloc _) ⟨wr.heap.size, 0, none⟩ 1 1 rfl rfl (cell_one_new _ _ _) (by simp; omega) (by simp; omega) ?_; intro v' w1 hown' hg' hb' _; have HO := Lib.hid hown'; have HB := Lib.hid hb'; clear hown' hg' hb'))
        go_roundw
        case rel => exact ⟨k + 1, t ++ [s[k]], by omega, by simp; omega, by go_num, HO, Lib.hid ((HWr.out.alloc hsz _).trans HB.out), HT2⟩
        case measure => simp [intOf]; omega
    · have hT := HT.out
      rw [List.drop_eq_nil_of_le (by rw [len_eq]; omega)] at hT
      have HT2 : Hid (unescV L = .tuple #[.string ⟨t.toArray⟩, .nilIface]) := Lib.hid (by rw [hT]; simp [unescL, unescV])
      have hcv := conv_bytes HR.out
      clear hT
      go_wp2
      go_ret2
      exact ⟨congrArg Ending.returned HT2.out.symm, HWr.out⟩
end Go.Proofs.YtjmkhekigdnjgaaGreatDoor
