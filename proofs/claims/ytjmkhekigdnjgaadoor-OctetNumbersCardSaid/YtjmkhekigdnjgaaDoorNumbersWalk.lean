/-
  OctetNumbers: the plain law (a number written down is told again), and the walk.
-/
import Derived.Test.YtjmkhekigdnjgaaDoorLaw1A
import Derived.Test.YtjmkhekigdnjgaaDoorTokensWalk
import Derived.Test.YtjmkhekigdnjgaaDoorBackWalk
namespace Go.Proofs.YtjmkhekigdnjgaaDoor
open Go.RowKit Go.Shelf

theorem foldl_num (b : Int) (l : List UInt8) : ∀ a : Int, l.foldl (fun a c => a * b + digV (c.toNat : Int)) a = a * b ^ l.length + numV b l := by
  induction l with
  | nil => intro a; simp [numV]
  | cons c r ih =>
    intro a
    have e : numV b (c :: r) = (0 * b + digV (c.toNat : Int)) * b ^ r.length + numV b r := by
      show List.foldl _ (0 * b + digV (c.toNat : Int)) r = _
      rw [ih]
    rw [List.foldl_cons, ih, e, List.length_cons, Int.pow_succ]
    generalize numV b r = N
    generalize digV (c.toNat : Int) = d
    generalize b ^ r.length = X
    simp only [Int.zero_mul, Int.zero_add, Int.add_mul, Int.mul_assoc, Int.mul_comm X b]
    omega
theorem numV_cons (b : Int) (c : UInt8) (r : List UInt8) : numV b (c :: r) = digV (c.toNat : Int) * b ^ r.length + numV b r := by
  show List.foldl _ (0 * b + digV (c.toNat : Int)) r = _
  rw [foldl_num]; simp
/-- A number that is written down from its end: so much is left, these digits are there. -/
structure Inv (b k x : Int) (l : List UInt8) : Prop where
  x0 : 0 ≤ x
  len : l.length ≤ 4
  small : x < b ^ (4 - l.length)
  sum : x * b ^ l.length + numV b l = k
  dig : l.all (fun c => digB b (c.toNat : Int)) = true
theorem Inv.start {b k : Int} (hb : b = 10 ∨ b = 16) (h0 : 0 ≤ k) (h1 : k < 10000) : Inv b k k [] :=
  ⟨h0, by simp, by rcases hb with rfl | rfl <;> simp <;> omega, by simp [numV], rfl⟩
theorem Inv.step {b k x : Int} (hb : b = 10 ∨ b = 16) {l : List UInt8} (h : Inv b k x l) (hgo : 0 < x ∨ l = []) (c : UInt8) (hc : digV (c.toNat : Int) = x % b) (hd : digB b (c.toNat : Int) = true) : l.length < 4 ∧ Inv b k (x / b) (c :: l) := by
  obtain ⟨x0, len, small, sum, dig⟩ := h
  have hl : l.length < 4 := by
    rcases Nat.lt_or_ge l.length 4 with h | h
    · exact h
    · have : l.length = 4 := by omega
      rw [this] at small
      simp at small
      rcases hgo with h | h
      · omega
      · subst h; simp at this
  refine ⟨hl, ?_, by simp; omega, ?_, ?_, by simp [hd, dig]⟩
  · rcases hb with rfl | rfl <;> omega
  · have : l.length = 0 ∨ l.length = 1 ∨ l.length = 2 ∨ l.length = 3 := by omega
    rw [List.length_cons]
    rcases hb with rfl | rfl <;> rcases this with e | e | e | e <;> rw [e] at small ⊢ <;> simp at small ⊢ <;> omega
  · have : l.length = 0 ∨ l.length = 1 ∨ l.length = 2 ∨ l.length = 3 := by omega
    rw [numV_cons, List.length_cons, hc]
    generalize numV b l = N at sum ⊢
    rcases hb with rfl | rfl <;> rcases this with e | e | e | e <;> rw [e] at sum ⊢ <;> simp at sum ⊢ <;> omega
theorem Inv.done {b k x : Int} {l : List UInt8} (h : Inv b k x l) (hx : ¬ 0 < x) : numV b l = k := by
  obtain ⟨x0, _, _, sum, _⟩ := h
  have : x = 0 := by omega
  subst this
  simpa using sum
theorem numV_zeros (b : Int) (z : Nat) (l : List UInt8) : numV b (List.replicate z 48 ++ l) = numV b l := by
  induction z with
  | zero => rfl
  | succ z ih => rw [List.replicate_succ, List.cons_append, numV_cons, ih]; simp [digV]
theorem zeros_ok {b : Int} (hb : b = 10 ∨ b = 16) (z : Nat) (l : List UInt8) (hne : l ≠ []) (h : l.all (fun c => digB b (c.toNat : Int)) = true) : allB (digB b) (List.replicate z 48 ++ l) = true := by
  unfold allB
  have h0 : digB b ((48 : UInt8).toNat : Int) = true := by rcases hb with rfl | rfl <;> decide
  rw [List.all_append, h]
  have hz : (List.replicate z (48 : UInt8)).all (fun c => digB b (c.toNat : Int)) = true := by
    rw [List.all_eq_true]
    intro x hx
    rw [List.eq_of_mem_replicate hx]
    exact h0
  rw [hz]
  cases l with
  | nil => exact absurd rfl hne
  | cons c r => simp
theorem numOk_zeros {b : Int} (hb : b = 10 ∨ b = 16) (most z : Nat) (l : List UInt8) (hne : l ≠ []) (h : l.all (fun c => digB b (c.toNat : Int)) = true) : numOk b most (List.replicate z 48 ++ l) = decide (z + l.length ≤ most) := by
  unfold numOk
  rw [zeros_ok hb z l hne h]
  simp
theorem numOf_zeros {b : Int} (hb : b = 10 ∨ b = 16) (most z : Nat) (l : List UInt8) (hne : l ≠ []) (h : l.all (fun c => digB b (c.toNat : Int)) = true) (hle : z + l.length ≤ most) : numOf b most (List.replicate z 48 ++ l) = numV b l := by
  unfold numOf
  rw [numOk_zeros hb most z l hne h, decide_eq_true hle, numV_zeros]
  rfl
theorem digit10 {x : Int} : ∃ c : UInt8, 48 + x % 10 = (c.toNat : Int) ∧ digV (c.toNat : Int) = x % 10 ∧ digB 10 (c.toNat : Int) = true := by
  refine ⟨UInt8.ofNat (48 + x % 10).toNat, ?_⟩
  have e : ((UInt8.ofNat (48 + x % 10).toNat).toNat : Int) = 48 + x % 10 := by simp; omega
  rw [e]
  refine ⟨rfl, by unfold digV; rw [if_pos (by omega)]; omega, by simp [digB, decB]; omega⟩
theorem digit16 {x : Int} (h9 : x % 16 ≤ 9) : ∃ c : UInt8, 48 + x % 16 = (c.toNat : Int) ∧ digV (c.toNat : Int) = x % 16 ∧ digB 16 (c.toNat : Int) = true := by
  refine ⟨UInt8.ofNat (48 + x % 16).toNat, ?_⟩
  have e : ((UInt8.ofNat (48 + x % 16).toNat).toNat : Int) = 48 + x % 16 := by simp; omega
  rw [e]
  refine ⟨rfl, by unfold digV; rw [if_pos (by omega)]; omega, by simp [digB, decB, hexB]; omega⟩
theorem digit16b {x : Int} (h9 : 9 < x % 16) : ∃ c : UInt8, 65 + x % 16 - 10 = (c.toNat : Int) ∧ digV (c.toNat : Int) = x % 16 ∧ digB 16 (c.toNat : Int) = true := by
  refine ⟨UInt8.ofNat (65 + x % 16 - 10).toNat, ?_⟩
  have e : ((UInt8.ofNat (65 + x % 16 - 10).toNat).toNat : Int) = 65 + x % 16 - 10 := by simp; omega
  rw [e]
  refine ⟨rfl, by unfold digV; rw [if_neg (by omega), if_neg (by omega)]; omega, by simp [digB, decB, hexB]; omega⟩
theorem digit16s {x : Int} (h9 : 9 < x % 16) : ∃ c : UInt8, 97 + x % 16 - 10 = (c.toNat : Int) ∧ digV (c.toNat : Int) = x % 16 ∧ digB 16 (c.toNat : Int) = true := by
  refine ⟨UInt8.ofNat (97 + x % 16 - 10).toNat, ?_⟩
  have e : ((UInt8.ofNat (97 + x % 16 - 10).toNat).toNat : Int) = 97 + x % 16 - 10 := by simp; omega
  rw [e]
  refine ⟨rfl, by unfold digV; rw [if_neg (by omega), if_pos (by omega)]; omega, by simp [digB, decB, hexB]; omega⟩

theorem cons_list (c : UInt8) (S : ByteArray) : (⟨#[c]⟩ ++ S : ByteArray).data.toList = c :: S.data.toList := by simp
theorem cons_size (c : UInt8) (S : ByteArray) : (⟨#[c]⟩ ++ S : ByteArray).size = S.size + 1 := by
  rw [ByteArray.size_append]; have : (⟨#[c]⟩ : ByteArray).size = 1 := rfl; omega

def strLen : Value → Nat | .string S => S.size | _ => 0
theorem str_cases (x : Int) (S : ByteArray) : 0 < x ∨ (x ≤ 0 ∧ S = ⟨#[]⟩) ∨ (x ≤ 0 ∧ S.toList.isEmpty = false ∧ S.data.toList ≠ []) := by
  rcases Int.lt_or_le 0 x with h | h
  · exact .inl h
  · by_cases he : S.data.toList = []
    · refine .inr (.inl ⟨h, ?_⟩)
      rw [← bytes_of S, he]
    · refine .inr (.inr ⟨h, ?_, he⟩)
      rw [ByteArray.toList_eq]
      cases hh : S.data.toList with
      | nil => exact absurd hh he
      | cons _ _ => rfl

set_option maxHeartbeats 16000000 in
set_option maxRecDepth 100000 in
theorem OctetNumbers_walk (n z : Int) (big : Bool) (w : World) (hn : 0 ≤ n ∧ n ≤ 4294967295) (hz : 0 ≤ z ∧ z ≤ 255) (hE : Env w) :
    Calls Tryd.prog 4 #[.int .u32 n, .int .u8 z, .bool big] w fun e w' => e = .returned (.bool true) ∧ Below w.heap.size w w' := by
  have HK := Lib.hid (known_true w hE)
  clear hE
  obtain ⟨n0, n1⟩ := hn
  obtain ⟨z0, z1⟩ := hz
  have k0 : 0 ≤ n % 10000 := by omega
  have k1 : n % 10000 < 10000 := by omega
  go_enter Tryd.func4, Tryd.ntmps4
  go_wp2_with (go_at_call 7; refine HK.out.mono ?_; rintro e w1 ⟨rfl, hb1⟩; have HB1 := Lib.hid hb1; have hz1 := hb1.size; clear hb1)
  go_loopw [8, 10] (fun vs vx wr => ∃ (x : Int) (S : ByteArray), vs = .string S ∧ vx = .int .i64 x ∧ 0 ≤ x ∧ x < 10000 ∧ Hid (Inv 10 (n % 10000) x S.data.toList) ∧ Hid (Below w.heap.size w wr)) (fun vs vx _ => (intOf vx).toNat + (5 - strLen vs))
  case atStart => exact ⟨_, ⟨#[]⟩, rfl, rfl, k0, k1, Lib.hid (Inv.start (.inl rfl) k0 k1), HB1⟩
  case round =>
    obtain ⟨x, S, rfl, rfl, x0, x1, HI, HB⟩ := hrel
    have hsz := HB.out.size
    rcases str_cases x S with hx | ⟨hx, rfl⟩ | ⟨hx, hne, hnn⟩
    · obtain ⟨c, hc, hcv, hcd⟩ := digit10 (x := x)
      have hcv1 := conv_one c
      rw [← hc] at hcv1
      obtain ⟨hc0, hc9⟩ : 0 ≤ x % 10 ∧ x % 10 ≤ 9 := by omega
      obtain ⟨hl, HI2⟩ := HI.out.step (.inl rfl) (.inl hx) c hcv hcd
      rw [← cons_list] at HI2
      have HI3 := Lib.hid HI2
      have hss : S.size ≤ 3 := by rw [len_eq] at hl; omega
      clear HI2 hl hcv hcd hc
      go_wp2
      go_roundw
      case rel => exact ⟨_, _, rfl, rfl, by omega, by omega, HI3, Lib.hid (HB.out.alloc hsz _)⟩
      case measure => simp only [strLen, intOf, cons_size]; omega
    · obtain ⟨c, hc, hcv, hcd⟩ := digit10 (x := x)
      have hcv1 := conv_one c
      rw [← hc] at hcv1
      obtain ⟨hc0, hc9⟩ : 0 ≤ x % 10 ∧ x % 10 ≤ 9 := by omega
      obtain ⟨hl, HI2⟩ := HI.out.step (.inl rfl) (.inr rfl) c hcv hcd
      rw [← cons_list] at HI2
      have HI3 := Lib.hid HI2
      clear HI2 hl hcv hcd hc
      go_wp2
      go_roundw
      case rel => exact ⟨_, _, rfl, rfl, by omega, by omega, HI3, Lib.hid (HB.out.alloc hsz _)⟩
      case measure =>
        have e0 : (⟨#[]⟩ : ByteArray).size = 0 := rfl
        simp only [strLen, intOf, cons_size, e0]; omega
    · have HA : Hid (numV 10 S.data.toList = n % 10000 ∧ S.data.toList.length ≤ 4 ∧ S.data.toList.all (fun c => digB 10 (c.toNat : Int)) = true ∧ S.data.toList ≠ []) := Lib.hid ⟨HI.out.done (by omega), HI.out.len, HI.out.dig, hnn⟩
      clear HI HB1
      have hssz : S.size ≤ 4 := by have := HA.out.2.1; rw [len_eq] at this; exact this
      go_wp2
      go_loopw [9, 11] (fun vs vx wr2 => ∃ (x : Int) (H : ByteArray), vs = .string H ∧ vx = .int .i64 x ∧ 0 ≤ x ∧ x < 10000 ∧ Hid (Inv 16 (n % 10000) x H.data.toList) ∧ Hid (Below w.heap.size w wr2)) (fun vs vx _ => (intOf vx).toNat + (5 - strLen vs))
      case atStart => exact ⟨_, ⟨#[]⟩, rfl, rfl, k0, k1, Lib.hid (Inv.start (.inr rfl) k0 k1), HB⟩
      case round =>
        clear HB hsz x0 x1 hx
        rename_i x_old wr_old
        obtain ⟨x, H, rfl, rfl, x0, x1, HI, HB2⟩ := hrel
        have hsz2 := HB2.out.size
        have hm0 : 0 ≤ x % 16 := by omega
        have hm1 : x % 16 ≤ 15 := by omega
        rcases str_cases x H with hx | ⟨hx, rfl⟩ | ⟨hx, hne2, hnn2⟩
        · by_cases h9 : x % 16 ≤ 9
          · skip
            obtain ⟨c, hc, hcv, hcd⟩ := digit16 (x := x) h9
            have hcv1 := conv_one c
            rw [← hc] at hcv1
            obtain ⟨hl, HI2⟩ := HI.out.step (.inr rfl) (.inl hx) c hcv hcd
            rw [← cons_list] at HI2
            have HI3 := Lib.hid HI2
            have hss : H.size ≤ 3 := by rw [len_eq] at hl; omega
            clear HI2 hl hcv hcd hc
            go_wp2
            go_roundw
            case rel => exact ⟨_, _, rfl, rfl, by omega, by omega, HI3, Lib.hid (HB2.out.alloc hsz2 _)⟩
            case measure => simp only [strLen, intOf, cons_size]; omega
          · have h9' : 9 < x % 16 := by omega
            clear h9
            cases big
            · skip
              obtain ⟨c, hc, hcv, hcd⟩ := digit16s (x := x) h9'
              have hcv1 := conv_one c
              rw [← hc] at hcv1
              obtain ⟨hl, HI2⟩ := HI.out.step (.inr rfl) (.inl hx) c hcv hcd
              rw [← cons_list] at HI2
              have HI3 := Lib.hid HI2
              have hss : H.size ≤ 3 := by rw [len_eq] at hl; omega
              clear HI2 hl hcv hcd hc
              go_wp2
              go_roundw
              case rel => exact ⟨_, _, rfl, rfl, by omega, by omega, HI3, Lib.hid (HB2.out.alloc hsz2 _)⟩
              case measure => simp only [strLen, intOf, cons_size]; omega
            · skip
              obtain ⟨c, hc, hcv, hcd⟩ := digit16b (x := x) h9'
              have hcv1 := conv_one c
              rw [← hc] at hcv1
              obtain ⟨hl, HI2⟩ := HI.out.step (.inr rfl) (.inl hx) c hcv hcd
              rw [← cons_list] at HI2
              have HI3 := Lib.hid HI2
              have hss : H.size ≤ 3 := by rw [len_eq] at hl; omega
              clear HI2 hl hcv hcd hc
              go_wp2
              go_roundw
              case rel => exact ⟨_, _, rfl, rfl, by omega, by omega, HI3, Lib.hid (HB2.out.alloc hsz2 _)⟩
              case measure => simp only [strLen, intOf, cons_size]; omega
        · have h9 : x % 16 ≤ 9 := by omega
          obtain ⟨c, hc, hcv, hcd⟩ := digit16 (x := x) h9
          have hcv1 := conv_one c
          rw [← hc] at hcv1
          obtain ⟨hl, HI2⟩ := HI.out.step (.inr rfl) (.inr rfl) c hcv hcd
          rw [← cons_list] at HI2
          have HI3 := Lib.hid HI2
          clear HI2 hl hcv hcd hc
          go_wp2
          go_roundw
          case rel => exact ⟨_, _, rfl, rfl, by omega, by omega, HI3, Lib.hid (HB2.out.alloc hsz2 _)⟩
          case measure =>
            have e0 : (⟨#[]⟩ : ByteArray).size = 0 := rfl
            simp only [strLen, intOf, cons_size, e0]; omega
        · have HA2 : Hid (numV 16 H.data.toList = n % 10000 ∧ H.data.toList.length ≤ 4 ∧ H.data.toList.all (fun c => digB 16 (c.toNat : Int)) = true ∧ H.data.toList ≠ []) := Lib.hid ⟨HI.out.done (by omega), HI.out.len, HI.out.dig, hnn2⟩
          clear HI
          have hhsz : H.size ≤ 4 := by have := HA2.out.2.1; rw [len_eq] at this; exact this
          go_wp2
          clear x0 x1 hx hne2 hnn2 hm0 hm1
          have zz0 : 0 ≤ z % 8 := by omega
          have zz1 : z % 8 ≤ 7 := by omega
          go_loop [8, 9, 13] (fun vs vh vi => ∃ (i : Nat) (S2 H2 : ByteArray), vs = .string S2 ∧ vh = .string H2 ∧ vi = .int .i64 i ∧ (i : Int) ≤ z % 8 ∧ Hid (S2.data.toList = List.replicate i 48 ++ S.data.toList) ∧ Hid (H2.data.toList = List.replicate i 48 ++ H.data.toList)) (fun _ _ vi => 8 - (intOf vi).toNat)
          case atStart => exact ⟨0, S, H, rfl, rfl, rfl, zz0, Lib.hid (by simp), Lib.hid (by simp)⟩
          case round =>
            obtain ⟨i, S2, H2, rfl, rfl, rfl, hi, HS2, HH2⟩ := hrel
            have hs2 : S2.size = i + S.size := by rw [← len_eq, HS2.out, List.length_append, List.length_replicate, len_eq]
            have hh2 : H2.size = i + H.size := by rw [← len_eq, HH2.out, List.length_append, List.length_replicate, len_eq]
            have hs3 : S2.size ≤ 12 := by omega
            have hh3 : H2.size ≤ 12 := by omega
            have Hs2 := Lib.hid hs2; have Hh2 := Lib.hid hh2; clear hs2 hh2
            by_cases hlt : (i : Int) < z % 8
            · have N1 : Hid ((⟨#[48]⟩ ++ S2 : ByteArray).data.toList = List.replicate (i + 1) 48 ++ S.data.toList) := Lib.hid (by rw [cons_list, HS2.out]; rfl)
              have N2 : Hid ((⟨#[48]⟩ ++ H2 : ByteArray).data.toList = List.replicate (i + 1) 48 ++ H.data.toList) := Lib.hid (by rw [cons_list, HH2.out]; rfl)
              go_wp2
              go_round
              case rel => exact ⟨i + 1, _, _, rfl, rfl, by go_num, by omega, N1, N2⟩
              case measure => simp [intOf]; omega
            · obtain ⟨v1, l1, d1, e1⟩ := HA.out
              obtain ⟨v2, l2, d2, e2⟩ := HA2.out
              have D1 : Hid (∀ W : World, Calls Tryd.prog 13 #[.string S2] W fun e w' => e = .returned (.tuple #[.int .i64 (numOf 10 9 S2.data.toList), .bool (numOk 10 9 S2.data.toList)]) ∧ Below W.heap.size W w') := Lib.hid fun W => Dec_any S2 W (by unfold maxLen; omega)
              have D2 : Hid (∀ W : World, Calls Tryd.prog 14 #[.string H2] W fun e w' => e = .returned (.tuple #[.int .i64 (numOf 16 7 H2.data.toList), .bool (numOk 16 7 H2.data.toList)]) ∧ Below W.heap.size W w') := Lib.hid fun W => Hex_any H2 W (by unfold maxLen; omega)
              rw [HS2.out, numOk_zeros (.inl rfl) 9 i _ e1 d1, len_eq] at D1
              rw [HH2.out, numOk_zeros (.inr rfl) 7 i _ e2 d2, len_eq] at D2
              by_cases b1 : i + S.size ≤ 9 <;> by_cases b2 : i + H.size ≤ 7
              all_goals
                first
                 | rw [numOf_zeros (.inl rfl) 9 i _ e1 d1 (by rw [len_eq]; exact b1), v1, decide_eq_true b1] at D1
                 | rw [show numOf 10 9 (List.replicate i 48 ++ S.data.toList) = 0 by unfold numOf; rw [numOk_zeros (.inl rfl) 9 i _ e1 d1, len_eq, decide_eq_false b1]; rfl, decide_eq_false b1] at D1
                first
                 | rw [numOf_zeros (.inr rfl) 7 i _ e2 d2 (by rw [len_eq]; exact b2), v2, decide_eq_true b2] at D2
                 | rw [show numOf 16 7 (List.replicate i 48 ++ H.data.toList) = 0 by unfold numOf; rw [numOk_zeros (.inr rfl) 7 i _ e2 d2, len_eq, decide_eq_false b2]; rfl, decide_eq_false b2] at D2
                have hs4 := Hs2.out
                have hh4 := Hh2.out
                first | have q1 : (S2.size : Int) ≤ 9 := by omega | have q1 : 9 < (S2.size : Int) := by omega
                first | have q2 : (H2.size : Int) ≤ 7 := by omega | have q2 : 7 < (H2.size : Int) := by omega
                clear hs4 hh4 v1 l1 d1 e1 v2 l2 d2 e2 b1 b2
                go_wp2_with fail
                refine (D1.out _).mono ?_; rintro e w5 ⟨rfl, hb5⟩; have HB5 := Lib.hid (HB2.out.trans (hb5.mono hsz2)); have hz5 := Nat.le_trans hsz2 hb5.size; clear hb5
                go_wp2_with fail
                refine (D2.out _).mono ?_; rintro e w6 ⟨rfl, hb6⟩; have HB6 := Lib.hid (HB5.out.trans (hb6.mono hz5)); clear hb6
                go_wp2
                go_ret
                exact ⟨ret_bool (by first | rfl | (simp; omega)), HB6.out⟩
end Go.Proofs.YtjmkhekigdnjgaaDoor
