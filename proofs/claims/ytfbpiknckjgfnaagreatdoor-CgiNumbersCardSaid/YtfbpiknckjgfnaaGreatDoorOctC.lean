/-
  strconv.ParseInt at base 10 and 16 where all bytes are digits, at most nine: the number that they tell; nothing that was there turns.
-/
import Derived.Test.YtfbpiknckjgfnaaGreatDoorOctA
import Derived.Lib.Strings
import Derived.Lib.Walk
import Derived.Lib.ConvBytes
import Derived.Laws.Strings3
import Derived.Laws.Closers25
import Derived.Laws.Closers25b
import Derived.WalkKit
import Derived.BigCall
import Derived.BigGuard
namespace Go.Proofs.YtfbpiknckjgfnaaGreatDoor
open Go.RowKit Go.Shelf

/-! ### Digits, plainly -/
def digV (c : Int) : Int := if c ≤ 57 then c - 48 else if 97 ≤ c then c - 87 else c - 55
def numV (b : Int) (l : List UInt8) : Int := l.foldl (fun a c => a * b + digV (c.toNat : Int)) 0
def digB (b : Int) (c : Int) : Bool := if b = 10 then decB c else hexB c
theorem numV_snoc (b : Int) (l : List UInt8) (c : UInt8) : numV b (l ++ [c]) = numV b l * b + digV (c.toNat : Int) := by
  unfold numV; rw [List.foldl_append]; rfl
theorem digV_range {b c : Int} (hb : b = 10 ∨ b = 16) (h : digB b c = true) : 0 ≤ digV c ∧ digV c < b := by
  rcases hb with rfl | rfl <;> simp [digB, hexB, decB] at h <;> unfold digV <;> (repeat' split) <;> omega
theorem numV_bound {b : Int} (hb : b = 10 ∨ b = 16) (l : List UInt8) (h : l.all (fun c => digB b (c.toNat : Int)) = true) : 0 ≤ numV b l ∧ numV b l < b ^ l.length := by
  induction hl : l.length generalizing l with
  | zero =>
    obtain rfl := List.length_eq_zero_iff.1 hl
    exact ⟨Int.le_refl 0, by simp [numV]⟩
  | succ n ih =>
    have hne : l ≠ [] := by intro e; rw [e] at hl; cases hl
    have hd := List.dropLast_concat_getLast hne
    rw [← hd] at h ⊢
    rw [List.all_append] at h
    simp only [Bool.and_eq_true, List.all_cons, List.all_nil, Bool.and_true] at h
    obtain ⟨i0, i1⟩ := ih l.dropLast h.1 (by simp [hl])
    obtain ⟨d0, d1⟩ := digV_range hb h.2
    rw [numV_snoc, Int.pow_succ]
    generalize b ^ n = X at i1
    generalize numV b l.dropLast = a at i0 i1
    generalize digV ((l.getLast hne).toNat : Int) = d at d0 d1
    rcases hb with rfl | rfl <;> omega

theorem lower_any (c : Int) (w : World) :
    Calls Tryz.prog 86 #[.int .u8 c] w fun e w' => e = .returned (.int .u8 (bits .or .u8 c 32)) ∧ w = w' := by
  go_enter Tryz.func86, Tryz.ntmps86
  go_wp2
  go_ret
  exact ⟨rfl, rfl⟩
/-- What 'lower' makes of a letter of base 16. -/
theorem lower_hex {c : Int} (h : 97 ≤ c ∧ c ≤ 102 ∨ 65 ≤ c ∧ c ≤ 70) : bits .or .u8 c 32 = digV c + 87 := by
  have : c = 97 ∨ c = 98 ∨ c = 99 ∨ c = 100 ∨ c = 101 ∨ c = 102 ∨ c = 65 ∨ c = 66 ∨ c = 67 ∨ c = 68 ∨ c = 69 ∨ c = 70 := by omega
  rcases this with rfl | rfl | rfl | rfl | rfl | rfl | rfl | rfl | rfl | rfl | rfl | rfl <;> rfl

theorem pow9 (b : Int) (hb : b = 10 ∨ b = 16) (n : Nat) (hn : n ≤ 9) : b ^ n ≤ 68719476736 := by
  have : n = 0 ∨ n = 1 ∨ n = 2 ∨ n = 3 ∨ n = 4 ∨ n = 5 ∨ n = 6 ∨ n = 7 ∨ n = 8 ∨ n = 9 := by omega
  rcases hb with rfl | rfl <;> rcases this with rfl | rfl | rfl | rfl | rfl | rfl | rfl | rfl | rfl | rfl <;> decide
theorem pow8 (b : Int) (hb : b = 10 ∨ b = 16) (n : Nat) (hn : n ≤ 8) : b ^ n ≤ 4294967296 := by
  have : n = 0 ∨ n = 1 ∨ n = 2 ∨ n = 3 ∨ n = 4 ∨ n = 5 ∨ n = 6 ∨ n = 7 ∨ n = 8 := by omega
  rcases hb with rfl | rfl <;> rcases this with rfl | rfl | rfl | rfl | rfl | rfl | rfl | rfl | rfl <;> decide
theorem numV_small {b : Int} (hb : b = 10 ∨ b = 16) (l : List UInt8) (h : l.all (fun c => digB b (c.toNat : Int)) = true) (hl : l.length ≤ 9) : 0 ≤ numV b l ∧ numV b l < 68719476736 := by
  obtain ⟨h0, h1⟩ := numV_bound hb l h
  exact ⟨h0, Int.lt_of_lt_of_le h1 (pow9 b hb _ hl)⟩

theorem step_num {b : Int} (hb : b = 10 ∨ b = 16) (bs : List UInt8) (k : Nat) (hk : k < bs.length) (hk9 : k ≤ 8) (hd : bs.all (fun c => digB b (c.toNat : Int)) = true) {a : Int} (ha : a = numV b (bs.take k)) :
    ∃ c : UInt8, bs.getD k 0 = c ∧ 0 ≤ (c.toNat : Int) ∧ (c.toNat : Int) ≤ 255 ∧ a * b + digV (c.toNat : Int) = numV b (bs.take (k + 1)) ∧ digB b (c.toNat : Int) = true ∧ 0 ≤ a ∧ a < 4294967296 ∧ 0 ≤ digV (c.toNat : Int) ∧ digV (c.toNat : Int) < b := by
  have hg : digB b ((bs[k]'hk).toNat : Int) = true := (List.all_eq_true.1 hd) _ (List.getElem_mem hk)
  have ht : (bs.take k).all (fun c => digB b (c.toNat : Int)) = true := List.all_eq_true.2 fun x hx => (List.all_eq_true.1 hd) x (List.mem_of_mem_take hx)
  obtain ⟨h0, h1⟩ := numV_bound hb _ ht
  obtain ⟨d0, d1⟩ := digV_range hb hg
  refine ⟨bs[k]'hk, by simp [List.getD, List.getElem?_eq_getElem hk], by omega, by have := (bs[k]'hk).toNat_lt; omega, ?_, hg, by omega, ?_, d0, d1⟩
  · rw [List.take_succ_eq_append_getElem hk, numV_snoc, ha]
  · rw [ha]
    refine Int.lt_of_lt_of_le h1 (pow8 b hb _ ?_)
    rw [List.length_take]; omega
set_option maxHeartbeats 8000000 in
set_option maxRecDepth 100000 in
theorem parseUint (b : Int) (hb : b = 10 ∨ b = 16) (t : ByteArray) (hne : t.size ≠ 0) (hmax : t.size ≤ 9) (hdg : t.data.toList.all (fun c => digB b (c.toNat : Int)) = true) (w : World) :
    Calls Tryz.prog 76 #[.string t, .int .i64 b, .int .i64 64] w fun e w' => e = .returned (.tuple #[.int .u64 (numV b t.data.toList), .nilIface]) ∧ Below w.heap.size w w' := by
  have hemp : t.toList.isEmpty = false := by
    rw [← decide_eq_emptyBytes]
    exact decide_eq_false (fun h => hne (by rw [h]; rfl))
  have hcv := Lib.run_convert_string_bytes (P := Tryz.prog) w 9 22 5 t (u := .string) Tryz.underlying9 Tryz.underlying22 Tryz.underlying5
  have hB : ∀ j, j < t.size → (Lib.bytesWorld w 5 t).cell? ⟨w.heap.size, j, none⟩ = some (.int .u8 (t.data.toList.getD j 0).toNat) := fun j hj => Lib.bytesWorld_cell w 5 t j hj
  have HW : Hid (Below w.heap.size w (Lib.bytesWorld w 5 t)) := Lib.hid ⟨rfl, rfl, rfl, by rw [Lib.bytesWorld_size]; omega, fun k hk => Lib.bytesWorld_at_old w 5 t k hk⟩
  obtain ⟨W1, hW1⟩ : ∃ W1, W1 = Lib.bytesWorld w 5 t := ⟨_, rfl⟩
  rw [← hW1] at hcv hB HW
  clear hW1
  obtain ⟨bs, hL⟩ : ∃ bs, bs = t.data.toList := ⟨_, rfl⟩
  have hLn : bs.length = t.size := by rw [hL, Lib.size_eq]
  rw [← hL] at hB hdg ⊢
  clear hL
  have HD := Lib.hid hdg; clear hdg
  have HL := Lib.hid hLn; clear hLn
  have hmv : IntKind.u64.wrap (IntKind.u64.wrap 18446744073709551616 - 1) = 18446744073709551615 := by
    rw [IntKind.wrap_u64, IntKind.wrap_u64]
    decide
  rcases hb with rfl | rfl
  · skip
    go_enter Tryz.func76, Tryz.ntmps76
    go_wp2
    go_loop [12, 13, 101] (fun vu vn vi => ∃ (k : Nat) (a : Int), vu = .bool false ∧ vn = .int .u64 a ∧ vi = .int .i64 k ∧ k ≤ t.size ∧ Hid (a = numV 10 (bs.take k))) (fun _ _ vi => t.size - (intOf vi).toNat)
    case atStart => exact ⟨0, 0, rfl, rfl, rfl, by omega, rfl⟩
    case round =>
      obtain ⟨k, a, rfl, rfl, rfl, hk, HA⟩ := hrel
      by_cases hkn : k < t.size
      · obtain ⟨c, hget, c0, c1, hN, dg, a0, a1, d0, d1⟩ := step_num (b := 10) (by simp) bs k (by rw [HL.out]; exact hkn) (by omega) HD.out HA.out
        have hc := hB k hkn
        rw [hget] at hc
        clear hB
        have dg' : digV (c.toNat : Int) = (c.toNat : Int) - 48 := by unfold digV; rw [if_pos (by simp [digB, decB] at dg; omega)]
        have x0 : 48 ≤ (c.toNat : Int) ∧ (c.toNat : Int) ≤ 57 := by simpa [digB, decB] using dg
        obtain ⟨x0, x1⟩ := x0
        rw [dg'] at d0 d1 hN
        have HN := Lib.hid hN
        clear dg dg' hN
        go_wp2
        go_round
        case rel => exact ⟨k + 1, _, rfl, rfl, by go_num, by omega, HN⟩
        case measure => simp [intOf]; omega
      · have hkk : k = t.size := by omega
        subst hkk
        have e : bs.take t.size = bs := List.take_of_length_le (by rw [HL.out]; exact Nat.le_refl _)
        have hA := HA.out
        rw [e] at hA
        have HA2 := Lib.hid hA
        clear hA e
        go_wp2
        go_ret2
        exact ⟨congrArg (fun n => Ending.returned (.tuple #[.int .u64 n, .nilIface])) HA2.out, HW.out⟩
  · skip
    go_enter Tryz.func76, Tryz.ntmps76
    go_wp2
    go_loop [12, 13, 101] (fun vu vn vi => ∃ (k : Nat) (a : Int), vu = .bool false ∧ vn = .int .u64 a ∧ vi = .int .i64 k ∧ k ≤ t.size ∧ Hid (a = numV 16 (bs.take k))) (fun _ _ vi => t.size - (intOf vi).toNat)
    case atStart => exact ⟨0, 0, rfl, rfl, rfl, by omega, rfl⟩
    case round =>
      obtain ⟨k, a, rfl, rfl, rfl, hk, HA⟩ := hrel
      by_cases hkn : k < t.size
      · obtain ⟨c, hget, c0, c1, hN, dg, a0, a1, d0, d1⟩ := step_num (b := 16) (by simp) bs k (by rw [HL.out]; exact hkn) (by omega) HD.out HA.out
        have hc := hB k hkn
        rw [hget] at hc
        clear hB
        rcases (show 48 ≤ (c.toNat : Int) ∧ (c.toNat : Int) ≤ 57 ∨ (97 ≤ (c.toNat : Int) ∧ (c.toNat : Int) ≤ 102 ∨ 65 ≤ (c.toNat : Int) ∧ (c.toNat : Int) ≤ 70) by simp [digB, hexB, decB] at dg; omega) with ⟨x0, x1⟩ | hx
        · have dg' : digV (c.toNat : Int) = (c.toNat : Int) - 48 := by unfold digV; rw [if_pos (by omega)]
          rw [dg'] at d0 d1 hN
          have HN := Lib.hid hN
          clear dg dg' hN
          go_wp2
          go_round
          case rel => exact ⟨k + 1, _, rfl, rfl, by go_num, by omega, HN⟩
          case measure => simp [intOf]; omega
        · have hlo := lower_hex hx
          have d10 : 10 ≤ digV (c.toNat : Int) := by unfold digV; (repeat' split) <;> omega
          have x0 : 58 ≤ (c.toNat : Int) := by omega
          have x1 : (c.toNat : Int) ≠ 95 := by omega
          clear hx dg
          generalize digV (c.toNat : Int) = d at d0 d1 d10 hN hlo
          have HN : Hid (a * 16 + (d + 87 - 97 + 10) = numV 16 (bs.take (k + 1))) := Lib.hid (by rw [← hN]; omega)
          clear hN
          go_wp2_with (go_at_call 86; refine (lower_any _ _).mono ?_; rintro e w' ⟨rfl, rfl⟩; rw [hlo])
          go_round
          case rel => exact ⟨k + 1, _, rfl, rfl, by go_num, by omega, HN⟩
          case measure => simp [intOf]; omega
      · have hkk : k = t.size := by omega
        subst hkk
        have e : bs.take t.size = bs := List.take_of_length_le (by rw [HL.out]; exact Nat.le_refl _)
        have hA := HA.out
        rw [e] at hA
        have HA2 := Lib.hid hA
        clear hA e
        go_wp2
        go_ret2
        exact ⟨congrArg (fun n => Ending.returned (.tuple #[.int .u64 n, .nilIface])) HA2.out, HW.out⟩

/-- The number that a text tells, if it is one of at most so many digits. -/
def numOk (b : Int) (most : Nat) (l : List UInt8) : Bool := decide (l.length ≤ most) && allB (digB b) l
def numOf (b : Int) (most : Nat) (l : List UInt8) : Int := if numOk b most l then numV b l else 0

set_option maxRecDepth 100000 in
theorem parseIntIn (b : Int) (hb : b = 10 ∨ b = 16) (t : ByteArray) (hne : t.size ≠ 0) (hmax : t.size ≤ 9) (hdg : t.data.toList.all (fun c => digB b (c.toNat : Int)) = true) (w : World) :
    Calls Tryz.prog 65 #[.string t, .int .i64 b, .int .i64 64] w fun e w' => e = .returned (.tuple #[.int .i64 (numV b t.data.toList), .nilIface]) ∧ Below w.heap.size w w' := by
  have hemp : t.toList.isEmpty = false := by
    rw [← decide_eq_emptyBytes]
    exact decide_eq_false (fun h => hne (by rw [h]; rfl))
  have h0 : 0 < t.size := by omega
  obtain ⟨n0, n1⟩ := numV_small hb t.data.toList hdg (by simpa using hmax)
  have c1 : (t[0].toNat : Int) ≠ 43 ∧ (t[0].toNat : Int) ≠ 45 := by
    have := (List.all_eq_true.1 hdg) t[0] (by simp [ByteArray.getElem_eq_getElem_data])
    rcases hb with rfl | rfl <;> simp [digB, decB, hexB] at this <;> omega
  obtain ⟨c1, c2⟩ := c1
  have HP := Lib.hid (parseUint b hb t hne hmax hdg w)
  generalize numV b t.data.toList = n at n0 n1 HP ⊢
  clear hdg hne
  rcases hb with rfl | rfl
  all_goals
    go_enter Tryz.func65, Tryz.ntmps65
    go_wp2_with (go_at_call 76; refine HP.out.mono ?_; rintro e w' ⟨rfl, hb⟩)
    go_ret2
    exact ⟨rfl, by assumption⟩

set_option maxRecDepth 100000 in
theorem parseInt (b : Int) (hb : b = 10 ∨ b = 16) (t : ByteArray) (hne : t.size ≠ 0) (hmax : t.size ≤ 9) (hdg : t.data.toList.all (fun c => digB b (c.toNat : Int)) = true) (w : World) :
    Calls Tryz.prog 48 #[.string t, .int .i64 b, .int .i64 64] w fun e w' => e = .returned (.tuple #[.int .i64 (numV b t.data.toList), .nilIface]) ∧ Below w.heap.size w w' := by
  have HP := Lib.hid (parseIntIn b hb t hne hmax hdg w)
  clear hdg hne hb
  generalize numV b t.data.toList = n at HP ⊢
  go_enter Tryz.func48, Tryz.ntmps48
  go_wp2_with (go_at_call 65; refine HP.out.mono ?_; rintro e w' ⟨rfl, hb⟩)
  go_ret2
  exact ⟨rfl, by assumption⟩

theorem below_drewN' {B : Nat} {a w : World} (h : Below B a w) (q : Nat) : Below B a (w.drewN q) := ⟨h.os, h.tape, h.output, h.size, h.block⟩
theorem number_any {g : FuncId} (b : Int) (hb : b = 10 ∨ b = 16) (h : Asks g (digB b)) (most : Nat) (hm : most ≤ 9) (s : ByteArray) (w : World) (hs : s.size ≤ maxLen) :
    Calls Tryz.prog 36 #[.string s, .int .i64 b, .int .i64 most, .func (.func g) #[] #[]] w fun e w' =>
      e = .returned (.tuple #[.int .i64 (numOf b most s.data.toList), .bool (numOk b most s.data.toList)]) ∧ Below w.heap.size w w' := by
  have HA := Lib.hid (all_any h s w hs)
  have hsz : s.data.toList.length = s.size := by simp
  unfold maxLen at hs
  by_cases hlen : s.size ≤ most
  · cases hal : allB (digB b) s.data.toList
    · have e1 : numOk b most s.data.toList = false := by unfold numOk; rw [hal, Bool.and_false]
      have e2 : numOf b most s.data.toList = 0 := by unfold numOf; rw [e1]; rfl
      rw [e1, e2]
      rw [hal] at HA
      clear hal e1 e2 hsz
      go_enter Tryz.func36, Tryz.ntmps36
      go_wp2_with (go_at_call 47; refine HA.out.mono ?_; rintro e w' ⟨rfl, rfl⟩)
      go_ret2
      exact ⟨rfl, Below.refl _ _⟩
    · have e1 : numOk b most s.data.toList = true := by unfold numOk; rw [hal, Bool.and_true, hsz]; simpa using hlen
      have e2 : numOf b most s.data.toList = numV b s.data.toList := by unfold numOf; rw [e1]; rfl
      rw [e1, e2]
      rw [hal] at HA
      have ha2 : s.data.toList.all (fun c => digB b (c.toNat : Int)) = true := by unfold allB at hal; simp only [Bool.and_eq_true] at hal; exact hal.1
      have hne : s.size ≠ 0 := by
        intro e
        have : s.data.toList = [] := List.length_eq_zero_iff.1 (by omega)
        rw [this] at hal; simp [allB] at hal
      have HP := Lib.hid (parseInt b hb s hne (by omega) ha2 w)
      obtain ⟨n0, n1⟩ := numV_small hb s.data.toList ha2 (by omega)
      generalize numV b s.data.toList = n at HP n0 n1 ⊢
      clear hal e1 e2 hsz hne ha2
      go_enter Tryz.func36, Tryz.ntmps36
      go_wp2_with (first | (go_at_call 47; refine HA.out.mono ?_; rintro e w' ⟨rfl, rfl⟩) | (go_at_call 48; refine HP.out.mono ?_; rintro e w' ⟨rfl, hb⟩))
      go_quiet (fail)
      go_wp2
      go_ret2
      exact ⟨rfl, below_drewN' (by assumption) _⟩
  · have e1 : numOk b most s.data.toList = false := by unfold numOk; rw [hsz, decide_eq_false hlen]; rfl
    have e2 : numOf b most s.data.toList = 0 := by unfold numOf; rw [e1]; rfl
    rw [e1, e2]
    clear e1 e2 hsz
    go_enter Tryz.func36, Tryz.ntmps36
    go_wp2
    go_ret2
    exact ⟨rfl, Below.refl _ _⟩
end Go.Proofs.YtfbpiknckjgfnaaGreatDoor
