/-
  Package cgi: Status: what it answers.
-/
import Derived.Test.YtfbpiknckjgfnaaGreatDoorFldD
namespace Go.Proofs.YtfbpiknckjgfnaaGreatDoor
open Go.RowKit Go.Shelf

def statusName : List UInt8 := [83, 116, 97, 116, 117, 115]
/-- The number, the reason, whether there is one, of a status. -/
def stN (l : List UInt8) : List UInt8 := (Lib.cut l [32]).1
def stR (l : List UInt8) : List UInt8 := trimL (Lib.cut l [32]).2.1
def stB (l : List UInt8) : Bool := numOk 10 9 (stN l) && (((stN l).length : Int) == 3 && (decide (200 ≤ numOf 10 9 (stN l)) && (decide (numOf 10 9 (stN l) ≤ 599) && (!(Lib.cut l [32]).2.2 || fieldB statusName (stR l)))))
def stT (l : List UInt8) : List UInt8 := if stR l = [] then reasonL (numOf 10 9 (stN l)) else stR l
/-- What Status answers: the number, the reason, what is wrong. -/
def statusR (l : List UInt8) : Int × List UInt8 × Int := if stB l = true then (numOf 10 9 (stN l), stT l, 0) else (0, [], 10)
def statusV (r : Int × List UInt8 × Int) : Value := .tuple #[.int .i64 r.1, .string ⟨r.2.1.toArray⟩, errV r.2.2]

set_option maxHeartbeats 4000000 in
theorem Status_any (s : ByteArray) (w : World) (hs : s.size < 4294967281) (hE : Env w) :
    Calls Tryz.prog 16 #[.string s] w fun e w' => e = .returned (statusV (statusR s.data.toList)) ∧ Below w.heap.size w w' := by
  have HC := Lib.hid (Cut_any s 32 w hs hE)
  obtain ⟨z1, z2⟩ := cut_len s.data.toList [32]
  rw [len_eq] at z1 z2
  have HD : Hid (∀ W : World, Calls Tryz.prog 26 #[.string ⟨(stN s.data.toList).toArray⟩] W fun e w' => e = .returned (.tuple #[.int .i64 (numOf 10 9 (stN s.data.toList)), .bool (numOk 10 9 (stN s.data.toList))]) ∧ Below W.heap.size W w') := Lib.hid fun W =>
    Dec_any ⟨(stN s.data.toList).toArray⟩ W (by unfold maxLen; show (Lib.cut s.data.toList [32]).1.toArray.size ≤ _; simp; omega)
  have HT : Hid (∀ W : World, Calls Tryz.prog 27 #[.string ⟨(Lib.cut s.data.toList [32]).2.1.toArray⟩] W fun e w' => e = .returned (.string ⟨(stR s.data.toList).toArray⟩) ∧ Below W.heap.size W w') := Lib.hid fun W =>
    Trim_any ⟨(Lib.cut s.data.toList [32]).2.1.toArray⟩ W (by unfold maxLen; show (Lib.cut s.data.toList [32]).2.1.toArray.size ≤ _; simp; omega)
  have z3 : (stR s.data.toList).length ≤ s.size := by
    have := trimS_len (Lib.cut s.data.toList [32]).2.1 [32, 9]
    show (Lib.trimS (Lib.cut s.data.toList [32]).2.1 [32, 9]).length ≤ s.size
    omega
  have HI : Hid (∀ W : World, Calls Tryz.prog 28 #[.agg #[.string ⟨#[83, 116, 97, 116, 117, 115]⟩, .string ⟨(stR s.data.toList).toArray⟩]] W fun e w' => e = .returned (.bool (fieldB statusName (stR s.data.toList))) ∧ Below W.heap.size W w') := Lib.hid fun W =>
    Is_any ⟨#[83, 116, 97, 116, 117, 115]⟩ ⟨(stR s.data.toList).toArray⟩ W (by decide) (by unfold maxLen; show (stR s.data.toList).toArray.size ≤ _; simp; omega)
  have HR : Hid (∀ W : World, Calls Tryz.prog 29 #[.int .i64 (numOf 10 9 (stN s.data.toList))] W fun e w' => e = .returned (.string ⟨(reasonL (numOf 10 9 (stN s.data.toList))).toArray⟩) ∧ W = w') := Lib.hid fun W => Reason_any _ W
  unfold statusR stB stT
  clear z1 z2 z3 hs hE
  have HL : Hid (((⟨(stN s.data.toList).toArray⟩ : ByteArray).size : Int) = ((stN s.data.toList).length : Int)) := Lib.hid (by show ((stN s.data.toList).toArray.size : Int) = _; simp)
  have hC : (Lib.cut s.data.toList [32]).1 = stN s.data.toList := rfl
  rw [hC] at HC
  clear hC
  generalize (stN s.data.toList).length = len at HL ⊢
  generalize numOf 10 9 (stN s.data.toList) = k at HD HR ⊢
  generalize numOk 10 9 (stN s.data.toList) = ok at HD ⊢
  generalize (⟨(stN s.data.toList).toArray⟩ : ByteArray) = n at HC HD HL
  generalize (⟨(Lib.cut s.data.toList [32]).2.1.toArray⟩ : ByteArray) = v0 at HC HT
  generalize (Lib.cut s.data.toList [32]).2.2 = told at HC ⊢
  generalize fieldB statusName (stR s.data.toList) = f at HI ⊢
  generalize stR s.data.toList = r at HT HI ⊢
  generalize reasonL k = u at HR ⊢
  have hL := HL.out; clear HL
  have start : ∀ R : Int × List UInt8 × Int, Hid ((if (ok && (((len : Int) == 3) && (decide (200 ≤ k) && (decide (k ≤ 599) && (!told || f))))) = true then (k, (if r = [] then u else r), (0 : Int)) else (0, [], 10)) = R) →
      Calls Tryz.prog 16 #[.string s] w fun e w' => e = .returned (statusV R) ∧ Below w.heap.size w w' := by
    intro R hR
    by_cases c1 : ok = false
    case pos =>
      subst c1
      obtain rfl : (0, [], 10) = R := by rw [← hR.out]; simp
      go_enter Tryz.func16, Tryz.ntmps16
      go_wp2_with fail
      refine HC.out.mono ?_; rintro e w1 ⟨rfl, hb1⟩; have HB1 := Lib.hid hb1; have hz1 := hb1.size; clear hb1
      go_wp2_with fail
      refine (HD.out _).mono ?_; rintro e w2 ⟨rfl, hb2⟩; have HB2 := Lib.hid (HB1.out.trans (hb2.mono hz1)); have hz2 := HB2.out.size; clear hb2
      go_wp2_with fail
      refine (HT.out _).mono ?_; rintro e w3 ⟨rfl, hb3⟩; have HB3 := Lib.hid (HB2.out.trans (hb3.mono hz2)); have hz3 := HB3.out.size; clear hb3
      go_wp2
      go_ret3
      exact ⟨rfl, HB3.out⟩
    rw [Bool.not_eq_false] at c1
    subst c1
    rw [Bool.true_and] at hR
    by_cases c2 : len = 3
    case neg =>
      obtain rfl : (0, [], 10) = R := by
        rw [← hR.out, beq_eq_false_iff_ne.2 (by omega : ¬ (len : Int) = 3)]; rfl
      have hne : ((n.size : Int) == 3) = false := by rw [hL, beq_eq_false_iff_ne]; omega
      have hne2 : n.size ≠ 3 := by omega
      go_enter Tryz.func16, Tryz.ntmps16
      go_wp2_with fail
      refine HC.out.mono ?_; rintro e w1 ⟨rfl, hb1⟩; have HB1 := Lib.hid hb1; have hz1 := hb1.size; clear hb1
      go_wp2_with fail
      refine (HD.out _).mono ?_; rintro e w2 ⟨rfl, hb2⟩; have HB2 := Lib.hid (HB1.out.trans (hb2.mono hz1)); have hz2 := HB2.out.size; clear hb2
      go_wp2_with fail
      refine (HT.out _).mono ?_; rintro e w3 ⟨rfl, hb3⟩; have HB3 := Lib.hid (HB2.out.trans (hb3.mono hz2)); have hz3 := HB3.out.size; clear hb3
      go_wp2
      go_ret3
      exact ⟨rfl, HB3.out⟩

    have hne : ((n.size : Int) == 3) = true := by rw [hL, beq_iff_eq]; omega
    have hne2 : n.size = 3 := by omega
    rw [show ((len : Int) == 3) = true by rw [beq_iff_eq]; omega, Bool.true_and] at hR
    by_cases c3 : 200 ≤ k
    case neg =>
      obtain rfl : (0, [], 10) = R := by rw [← hR.out, decide_eq_false c3]; rfl
      go_enter Tryz.func16, Tryz.ntmps16
      go_wp2_with fail
      refine HC.out.mono ?_; rintro e w1 ⟨rfl, hb1⟩; have HB1 := Lib.hid hb1; have hz1 := hb1.size; clear hb1
      go_wp2_with fail
      refine (HD.out _).mono ?_; rintro e w2 ⟨rfl, hb2⟩; have HB2 := Lib.hid (HB1.out.trans (hb2.mono hz1)); have hz2 := HB2.out.size; clear hb2
      go_wp2_with fail
      refine (HT.out _).mono ?_; rintro e w3 ⟨rfl, hb3⟩; have HB3 := Lib.hid (HB2.out.trans (hb3.mono hz2)); have hz3 := HB3.out.size; clear hb3
      go_wp2
      go_ret3
      exact ⟨rfl, HB3.out⟩

    rw [decide_eq_true c3, Bool.true_and] at hR
    by_cases c4 : k ≤ 599
    case neg =>
      obtain rfl : (0, [], 10) = R := by rw [← hR.out, decide_eq_false c4]; rfl
      go_enter Tryz.func16, Tryz.ntmps16
      go_wp2_with fail
      refine HC.out.mono ?_; rintro e w1 ⟨rfl, hb1⟩; have HB1 := Lib.hid hb1; have hz1 := hb1.size; clear hb1
      go_wp2_with fail
      refine (HD.out _).mono ?_; rintro e w2 ⟨rfl, hb2⟩; have HB2 := Lib.hid (HB1.out.trans (hb2.mono hz1)); have hz2 := HB2.out.size; clear hb2
      go_wp2_with fail
      refine (HT.out _).mono ?_; rintro e w3 ⟨rfl, hb3⟩; have HB3 := Lib.hid (HB2.out.trans (hb3.mono hz2)); have hz3 := HB3.out.size; clear hb3
      go_wp2
      go_ret3
      exact ⟨rfl, HB3.out⟩

    rw [decide_eq_true c4, Bool.true_and] at hR
    cases told
    case true =>
     cases f
     case false =>
      obtain rfl : (0, [], 10) = R := by rw [← hR.out]; rfl
      go_enter Tryz.func16, Tryz.ntmps16
      go_wp2_with fail
      refine HC.out.mono ?_; rintro e w1 ⟨rfl, hb1⟩; have HB1 := Lib.hid hb1; have hz1 := hb1.size; clear hb1
      go_wp2_with fail
      refine (HD.out _).mono ?_; rintro e w2 ⟨rfl, hb2⟩; have HB2 := Lib.hid (HB1.out.trans (hb2.mono hz1)); have hz2 := HB2.out.size; clear hb2
      go_wp2_with fail
      refine (HT.out _).mono ?_; rintro e w3 ⟨rfl, hb3⟩; have HB3 := Lib.hid (HB2.out.trans (hb3.mono hz2)); have hz3 := HB3.out.size; clear hb3
      go_wp2_with fail
      refine (HI.out _).mono ?_; rintro e w4 ⟨rfl, hb4⟩; have HB4 := Lib.hid (HB3.out.trans (hb4.mono hz3)); have hz4 := HB4.out.size; clear hb4
      go_wp2
      go_ret3
      exact ⟨rfl, HB4.out⟩
     case true =>
      cases r with
      | nil =>
        obtain rfl : (k, u, 0) = R := by rw [← hR.out]; rfl
        have he : ((⟨#[]⟩ : ByteArray) = ⟨#[]⟩) := rfl
        go_enter Tryz.func16, Tryz.ntmps16
        go_wp2_with fail
        refine HC.out.mono ?_; rintro e w1 ⟨rfl, hb1⟩; have HB1 := Lib.hid hb1; have hz1 := hb1.size; clear hb1
        go_wp2_with fail
        refine (HD.out _).mono ?_; rintro e w2 ⟨rfl, hb2⟩; have HB2 := Lib.hid (HB1.out.trans (hb2.mono hz1)); have hz2 := HB2.out.size; clear hb2
        go_wp2_with fail
        refine (HT.out _).mono ?_; rintro e w3 ⟨rfl, hb3⟩; have HB3 := Lib.hid (HB2.out.trans (hb3.mono hz2)); have hz3 := HB3.out.size; clear hb3
        go_wp2_with fail
        refine (HI.out _).mono ?_; rintro e w4 ⟨rfl, hb4⟩; have HB4 := Lib.hid (HB3.out.trans (hb4.mono hz3)); have hz4 := HB4.out.size; clear hb4
        go_wp2_with fail
        refine (HR.out _).mono ?_; rintro e w5 ⟨rfl, rfl⟩
        go_wp2
        go_ret3
        exact ⟨rfl, HB4.out⟩
      | cons b r =>
        obtain rfl : (k, b :: r, 0) = R := by rw [← hR.out]; rfl
        have he : (⟨(b :: r).toArray⟩ : ByteArray).toList.isEmpty = false := by rw [ByteArray.toList_eq]; rfl
        go_enter Tryz.func16, Tryz.ntmps16
        go_wp2_with fail
        refine HC.out.mono ?_; rintro e w1 ⟨rfl, hb1⟩; have HB1 := Lib.hid hb1; have hz1 := hb1.size; clear hb1
        go_wp2_with fail
        refine (HD.out _).mono ?_; rintro e w2 ⟨rfl, hb2⟩; have HB2 := Lib.hid (HB1.out.trans (hb2.mono hz1)); have hz2 := HB2.out.size; clear hb2
        go_wp2_with fail
        refine (HT.out _).mono ?_; rintro e w3 ⟨rfl, hb3⟩; have HB3 := Lib.hid (HB2.out.trans (hb3.mono hz2)); have hz3 := HB3.out.size; clear hb3
        go_wp2_with fail
        refine (HI.out _).mono ?_; rintro e w4 ⟨rfl, hb4⟩; have HB4 := Lib.hid (HB3.out.trans (hb4.mono hz3)); have hz4 := HB4.out.size; clear hb4
        go_wp2
        go_ret3
        exact ⟨rfl, HB4.out⟩
    case false =>
      cases r with
      | nil =>
        obtain rfl : (k, u, 0) = R := by rw [← hR.out]; rfl
        go_enter Tryz.func16, Tryz.ntmps16
        go_wp2_with fail
        refine HC.out.mono ?_; rintro e w1 ⟨rfl, hb1⟩; have HB1 := Lib.hid hb1; have hz1 := hb1.size; clear hb1
        go_wp2_with fail
        refine (HD.out _).mono ?_; rintro e w2 ⟨rfl, hb2⟩; have HB2 := Lib.hid (HB1.out.trans (hb2.mono hz1)); have hz2 := HB2.out.size; clear hb2
        go_wp2_with fail
        refine (HT.out _).mono ?_; rintro e w3 ⟨rfl, hb3⟩; have HB3 := Lib.hid (HB2.out.trans (hb3.mono hz2)); have hz3 := HB3.out.size; clear hb3
        go_wp2_with fail
        refine (HR.out _).mono ?_; rintro e w5 ⟨rfl, rfl⟩
        go_wp2
        go_ret3
        exact ⟨rfl, HB3.out⟩
      | cons b r =>
        obtain rfl : (k, b :: r, 0) = R := by rw [← hR.out]; rfl
        have he : (⟨(b :: r).toArray⟩ : ByteArray).toList.isEmpty = false := by rw [ByteArray.toList_eq]; rfl
        go_enter Tryz.func16, Tryz.ntmps16
        go_wp2_with fail
        refine HC.out.mono ?_; rintro e w1 ⟨rfl, hb1⟩; have HB1 := Lib.hid hb1; have hz1 := hb1.size; clear hb1
        go_wp2_with fail
        refine (HD.out _).mono ?_; rintro e w2 ⟨rfl, hb2⟩; have HB2 := Lib.hid (HB1.out.trans (hb2.mono hz1)); have hz2 := HB2.out.size; clear hb2
        go_wp2_with fail
        refine (HT.out _).mono ?_; rintro e w3 ⟨rfl, hb3⟩; have HB3 := Lib.hid (HB2.out.trans (hb3.mono hz2)); have hz3 := HB3.out.size; clear hb3
        go_wp2
        go_ret3
        exact ⟨rfl, HB3.out⟩
  exact start _ (Lib.hid rfl)
end Go.Proofs.YtfbpiknckjgfnaaGreatDoor
