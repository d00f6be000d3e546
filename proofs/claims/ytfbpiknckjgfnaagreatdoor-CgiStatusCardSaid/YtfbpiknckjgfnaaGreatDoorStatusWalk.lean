/-
  conduitlaw16.CgiStatus: true, at each of the sixteen heads.
-/
import Derived.Test.YtfbpiknckjgfnaaGreatDoorCgiM
import Derived.Test.YtfbpiknckjgfnaaGreatDoorCgiQ
namespace Go.Proofs.YtfbpiknckjgfnaaGreatDoor
open Go.RowKit Go.Shelf

/-- What the law feeds. -/
def stEnd (crlf : Bool) : List UInt8 := bif crlf then [13, 10] else [10]
def stText (status location typ crlf : Bool) : List UInt8 :=
  [88, 58, 32, 121] ++ stEnd crlf ++ (bif typ then [67, 111, 110, 116, 101, 110, 116, 45, 84, 121, 112, 101, 58, 32, 116] ++ stEnd crlf else []) ++ (bif location then [76, 111, 99, 97, 116, 105, 111, 110, 58, 32, 47, 108] ++ stEnd crlf else []) ++
    (bif status then [115, 116, 97, 116, 117, 115, 58, 32, 52, 49, 56, 32, 84, 101, 97] ++ stEnd crlf else []) ++ stEnd crlf ++ [98]
def stWant (status location typ : Bool) : Int := bif status then 418 else bif location then 302 else bif typ then 200 else 0
def lowStatus : List UInt8 := [115, 116, 97, 116, 117, 115]
/-- What is left behind it. -/
def stS (status location typ crlf : Bool) : CgiS := (FeedS (newS 1000) (stText status location typ crlf)).1
theorem st_bad (crlf : Bool) : FeedS (newS 1000) (stText false false false crlf) = (stS false false false crlf, [], 10) ∧ (stS false false false crlf).done = false := by cases crlf <;> exact ⟨by kernel_rfl, by kernel_rfl⟩
def stGood (a b c d : Bool) : Bool := decide ((FeedS (newS 1000) (stText a b c d)).2 = ([98], 0)) && (stS a b c d).done && decide ((stS a b c d).hs = stWant a b c) && (!a || decide ((stS a b c d).hr = [84, 101, 97])) && decide (getL lowStatus (stS a b c d).hf = []) && decide ((stS a b c d).hf.all (fun p => decide (p.1.length ≤ 64)) = true)
theorem st_good : ∀ a b c d : Bool, (a || b || c) = true → stGood a b c d = true := by
  intro a b c d h
  cases a <;> cases b <;> cases c <;> cases d <;> first
    | (cases h; done)
    | kernel_rfl
theorem st_facts {a b c : Bool} (d : Bool) (h : (a || b || c) = true) : FeedS (newS 1000) (stText a b c d) = (stS a b c d, [98], 0) ∧ (stS a b c d).done = true ∧ (stS a b c d).hs = stWant a b c ∧ (a = true → (stS a b c d).hr = [84, 101, 97]) ∧
    getL lowStatus (stS a b c d).hf = [] ∧ (∀ p ∈ (stS a b c d).hf, p.1.length ≤ 4096) := by
  have h := st_good a b c d h
  unfold stGood at h
  simp only [Bool.and_eq_true, decide_eq_true_eq, Bool.or_eq_true, Bool.not_eq_true'] at h
  obtain ⟨⟨⟨⟨⟨h1, h2⟩, h3⟩, h4⟩, h5⟩, h6⟩ := h
  refine ⟨Prod.ext rfl h1, h2, h3, fun q => ?_, h5, fun p hp => ?_⟩
  · rcases h4 with h4 | h4
    · rw [q] at h4; cases h4
    · exact h4
  · have := List.all_eq_true.1 h6 p hp
    have := of_decide_eq_true this
    omega

set_option maxHeartbeats 16000000 in
set_option maxRecDepth 100000 in
theorem CgiStatus_walk (a b c d : Bool) (w : World) (hE : Env w) (hT : ErrT w) :
    Calls Tryz.prog 4 #[.bool a, .bool b, .bool c, .bool d] w fun e w' => e = .returned (.bool true) ∧ Below w.heap.size w w' := by
  have hG := G0.of hE hT
  have HK := Lib.hid (known_true w hE hT)
  have HE := Lib.hid hE; clear hE
  have HT := Lib.hid hT; clear hT
  by_cases hgood : (a || b || c) = true
  · obtain ⟨e1, e2, e3, e4, e5, e6⟩ := st_facts d hgood
    have hhf := FeedS_hf (by decide) e1
    have HF : Hid (∀ (W : World) (p : Nat), RepX W W.heap.size p (newS 1000) → Env W → ErrT W → G0 p → G0 W.heap.size → ∀ s : ByteArray, s.data.toList = stText a b c d →
        Calls Tryz.prog 8 #[.pointer (some ⟨p, 0, none⟩), .string s] W fun ev w' => ev = .returned (.tuple #[.string ⟨#[98]⟩, .nilIface]) ∧ RepX w' W.heap.size p (stS a b c d) ∧ But W.heap.size p W w') := Lib.hid fun W p h hE hT hp hB s hs => by
      have hl : (stText a b c d).length < 4294967281 := by unfold stText stEnd; cases a <;> cases b <;> cases c <;> cases d <;> decide
      have hq : FeedS (newS 1000) s.data.toList = (stS a b c d, [98], 0) := by rw [hs]; exact e1
      exact Feed_at s.data.toList h (fun _ => newS_live 1000 (by decide)) hE hT hp hB (by rw [hs]; exact hl) hq
    generalize stS a b c d = S at e2 e3 e4 e5 e6 hhf HF
    clear e1
    have HD : Hid (∀ (W : World) (B p : Nat), RepX W B p S → Calls Tryz.prog 10 #[.pointer (some ⟨p, 0, none⟩)] W fun e w' => e = .returned (.bool true) ∧ W = w') := Lib.hid fun W B p h => by rw [← e2]; exact Done_any W B p S h
    have hHH : ∀ (W : World) (B p : Nat), RepX W B p S → Calls Tryz.prog 12 #[.pointer (some ⟨p, 0, none⟩)] W fun e w' => ∃ v, e = .returned (.agg #[.int .i64 (stWant a b c), .string ⟨S.hr.toArray⟩, v]) ∧ w'.ownsRow W.heap.size 60 2 v S.hf.length (pairVals S.hf) ∧ Below W.heap.size W w' := fun W B p h => by rw [← e3]; exact Head_any W B p S h (by omega)
    have HGt : Hid (∀ (W : World) (v : Value) {B : Nat}, W.ownsRow B 60 2 v S.hf.length (pairVals S.hf) → Calls Tryz.prog 14 #[v, .string ⟨#[115, 116, 97, 116, 117, 115]⟩] W (OwnsStrs W [])) := Lib.hid fun W v B h => by
      rw [← e5]
      exact refGet_any v S.hf ⟨#[115, 116, 97, 116, 117, 115]⟩ W (.of_own h) (by unfold maxLen; decide) e6 (by omega)
    clear e2 e3 e5 e6 hhf
    cases a
    · have HH := Lib.hid hHH
      clear hHH e4
      cases b <;> cases c
      · cases hgood
      all_goals
        simp only [stWant, cond_true, cond_false] at HH
        cases d
        all_goals
          go_enter Tryz.func4, Tryz.ntmps4
          go_wp2_with fail
          refine HK.out.mono ?_
          rintro e w1 ⟨rfl, hb1⟩
          have HB1 := Lib.hid hb1
          have hz1 := hb1.size
          clear hb1
          go_wp2_with fail
          refine (New_any 1000 w1).mono ?_
          rintro e w2 ⟨rfl, rfl⟩
          obtain ⟨W2, hW2⟩ : ∃ W2, W2 = w1.alloc (.cells (newCells 1000) 49) := ⟨_, rfl⟩
          rw [← hW2]
          have hb2 : Below w1.heap.size w1 W2 := by rw [hW2]; exact (Below.refl _ _).alloc (Nat.le_refl _) _
          have hz2 : W2.heap.size = w1.heap.size + 1 := by rw [hW2]; simp
          have HR2 : Hid (RepX W2 W2.heap.size w1.heap.size (newS 1000)) := Lib.hid (new_rep (by rw [hW2]; exact heap_alloc_new w1 _) (Nat.le_refl _))
          have HE2 := Lib.hid ((HE.out.below HB1.out).below hb2)
          have HT2 := Lib.hid ((HT.out.below HB1.out).below hb2)
          have HB2 := Lib.hid (HB1.out.trans (hb2.mono hz1))
          have hGa : G0 w1.heap.size := hG.le hz1
          have hGA : G0 W2.heap.size := hG.le (by omega)
          clear hb2 hW2
          go_wp2_with fail
          refine (HF.out W2 w1.heap.size HR2.out HE2.out HT2.out hGa hGA _ (by simp [stText, stEnd])).mono ?_
          rintro e w3 ⟨rfl, hr3, hb3⟩
          have HR3 := Lib.hid hr3
          have HB3 := Lib.hid (HB2.out.trans (hb3.below hz1 (by omega)))
          clear hr3 hb3
          go_wp2_with fail
          refine (HD.out _ _ _ HR3.out).mono ?_
          rintro e w4 ⟨rfl, rfl⟩
          have hf0 := Tryz.headField0
          have hf1 := Tryz.headField1
          have hf2 := Tryz.headField2
          go_wp2_with fail
          refine (HH.out _ _ _ HR3.out).mono ?_
          rintro e w5 ⟨v5, rfl, ho5, hb5⟩
          have HR5 := Lib.hid (HR3.out.below hb5)
          have HB5 := Lib.hid (HB3.out.trans (hb5.mono HB3.out.size))
          have HO5 := Lib.hid ho5
          clear ho5 hb5
          go_wp2_with fail
          refine (HH.out _ _ _ HR5.out).mono ?_
          rintro e w6 ⟨v6, rfl, ho6, hb6⟩
          have HR6 := Lib.hid (HR5.out.below hb6)
          have HB6 := Lib.hid (HB5.out.trans (hb6.mono HB5.out.size))
          have HO6 := Lib.hid ho6
          clear ho6 hb6
          go_wp2_with fail
          refine (HGt.out _ _ HO6.out).mono ?_
          rintro e w9 ⟨v9, rfl, ho9, hb9⟩
          obtain ⟨o9, c9, rfl⟩ := own_slice ho9
          have HB9 := Lib.hid (HB6.out.trans (hb9.mono HB6.out.size))
          clear ho9 hb9
          simp only [List.length_nil]
          go_wp2
          go_ret
          exact ⟨rfl, HB9.out⟩
    · rw [e4 rfl] at hHH
      have HH := Lib.hid hHH
      clear hHH e4
      simp only [stWant, cond_true] at HH
      cases b <;> cases c <;> cases d
      all_goals
        go_enter Tryz.func4, Tryz.ntmps4
        go_wp2_with fail
        refine HK.out.mono ?_
        rintro e w1 ⟨rfl, hb1⟩
        have HB1 := Lib.hid hb1
        have hz1 := hb1.size
        clear hb1
        go_wp2_with fail
        refine (New_any 1000 w1).mono ?_
        rintro e w2 ⟨rfl, rfl⟩
        obtain ⟨W2, hW2⟩ : ∃ W2, W2 = w1.alloc (.cells (newCells 1000) 49) := ⟨_, rfl⟩
        rw [← hW2]
        have hb2 : Below w1.heap.size w1 W2 := by rw [hW2]; exact (Below.refl _ _).alloc (Nat.le_refl _) _
        have hz2 : W2.heap.size = w1.heap.size + 1 := by rw [hW2]; simp
        have HR2 : Hid (RepX W2 W2.heap.size w1.heap.size (newS 1000)) := Lib.hid (new_rep (by rw [hW2]; exact heap_alloc_new w1 _) (Nat.le_refl _))
        have HE2 := Lib.hid ((HE.out.below HB1.out).below hb2)
        have HT2 := Lib.hid ((HT.out.below HB1.out).below hb2)
        have HB2 := Lib.hid (HB1.out.trans (hb2.mono hz1))
        have hGa : G0 w1.heap.size := hG.le hz1
        have hGA : G0 W2.heap.size := hG.le (by omega)
        clear hb2 hW2
        go_wp2_with fail
        refine (HF.out W2 w1.heap.size HR2.out HE2.out HT2.out hGa hGA _ (by simp [stText, stEnd])).mono ?_
        rintro e w3 ⟨rfl, hr3, hb3⟩
        have HR3 := Lib.hid hr3
        have HB3 := Lib.hid (HB2.out.trans (hb3.below hz1 (by omega)))
        clear hr3 hb3
        go_wp2_with fail
        refine (HD.out _ _ _ HR3.out).mono ?_
        rintro e w4 ⟨rfl, rfl⟩
        have hf0 := Tryz.headField0
        have hf1 := Tryz.headField1
        have hf2 := Tryz.headField2
        go_wp2_with fail
        refine (HH.out _ _ _ HR3.out).mono ?_
        rintro e w5 ⟨v5, rfl, ho5, hb5⟩
        have HR5 := Lib.hid (HR3.out.below hb5)
        have HB5 := Lib.hid (HB3.out.trans (hb5.mono HB3.out.size))
        have HO5 := Lib.hid ho5
        clear ho5 hb5
        go_wp2_with fail
        refine (HH.out _ _ _ HR5.out).mono ?_
        rintro e w6 ⟨v6, rfl, ho6, hb6⟩
        have HR6 := Lib.hid (HR5.out.below hb6)
        have HB6 := Lib.hid (HB5.out.trans (hb6.mono HB5.out.size))
        have HO6 := Lib.hid ho6
        clear ho6 hb6
        go_wp2_with fail
        refine (HH.out _ _ _ HR6.out).mono ?_
        rintro e w7 ⟨v7, rfl, ho7, hb7⟩
        have HR7 := Lib.hid (HR6.out.below hb7)
        have HB7 := Lib.hid (HB6.out.trans (hb7.mono HB6.out.size))
        have HO7 := Lib.hid ho7
        clear ho7 hb7
        go_wp2_with fail
        refine (HGt.out _ _ HO7.out).mono ?_
        rintro e w9 ⟨v9, rfl, ho9, hb9⟩
        obtain ⟨o9, c9, rfl⟩ := own_slice ho9
        have HB9 := Lib.hid (HB7.out.trans (hb9.mono HB7.out.size))
        clear ho9 hb9
        simp only [List.length_nil]
        go_wp2
        go_ret
        exact ⟨rfl, HB9.out⟩
  · obtain ⟨rfl, rfl, rfl⟩ : a = false ∧ b = false ∧ c = false := by cases a <;> cases b <;> cases c <;> simp_all
    clear hgood
    obtain ⟨e1, e2⟩ := st_bad d
    have HF : Hid (∀ (W : World) (p : Nat), RepX W W.heap.size p (newS 1000) → Env W → ErrT W → G0 p → G0 W.heap.size → ∀ s : ByteArray, s.data.toList = stText false false false d →
        Calls Tryz.prog 8 #[.pointer (some ⟨p, 0, none⟩), .string s] W fun ev w' => ev = .returned (.tuple #[.string ⟨#[]⟩, .iface 38 (.int .i64 10)]) ∧ RepX w' W.heap.size p (stS false false false d) ∧ But W.heap.size p W w') := Lib.hid fun W p h hE hT hp hB s hs => by
      have hl : (stText false false false d).length < 4294967281 := by cases d <;> decide
      have hq : FeedS (newS 1000) s.data.toList = (stS false false false d, [], 10) := by rw [hs]; exact e1
      exact Feed_at s.data.toList h (fun _ => newS_live 1000 (by decide)) hE hT hp hB (by rw [hs]; exact hl) hq
    have HD : Hid (∀ (W : World) (B p : Nat), RepX W B p (stS false false false d) → Calls Tryz.prog 10 #[.pointer (some ⟨p, 0, none⟩)] W fun e w' => e = .returned (.bool false) ∧ W = w') := Lib.hid fun W B p h => by rw [← e2]; exact Done_any W B p _ h
    clear e1 e2
    cases d
    all_goals
      go_enter Tryz.func4, Tryz.ntmps4
      go_wp2_with fail
      refine HK.out.mono ?_
      rintro e w1 ⟨rfl, hb1⟩
      have HB1 := Lib.hid hb1
      have hz1 := hb1.size
      clear hb1
      go_wp2_with fail
      refine (New_any 1000 w1).mono ?_
      rintro e w2 ⟨rfl, rfl⟩
      obtain ⟨W2, hW2⟩ : ∃ W2, W2 = w1.alloc (.cells (newCells 1000) 49) := ⟨_, rfl⟩
      rw [← hW2]
      have hb2 : Below w1.heap.size w1 W2 := by rw [hW2]; exact (Below.refl _ _).alloc (Nat.le_refl _) _
      have hz2 : W2.heap.size = w1.heap.size + 1 := by rw [hW2]; simp
      have HR2 : Hid (RepX W2 W2.heap.size w1.heap.size (newS 1000)) := Lib.hid (new_rep (by rw [hW2]; exact heap_alloc_new w1 _) (Nat.le_refl _))
      have HE2 := Lib.hid ((HE.out.below HB1.out).below hb2)
      have HT2 := Lib.hid ((HT.out.below HB1.out).below hb2)
      have HB2 := Lib.hid (HB1.out.trans (hb2.mono hz1))
      have hGa : G0 w1.heap.size := hG.le hz1
      have hGA : G0 W2.heap.size := hG.le (by omega)
      clear hb2 hW2
      go_wp2_with fail
      refine (HF.out W2 w1.heap.size HR2.out HE2.out HT2.out hGa hGA _ (by simp [stText, stEnd])).mono ?_
      rintro e w3 ⟨rfl, hr3, hb3⟩
      have HR3 := Lib.hid hr3
      have HB3 := Lib.hid (HB2.out.trans (hb3.below hz1 (by omega)))
      clear hr3 hb3
      go_wp2_with fail
      refine (is_num 10 10 _).mono ?_
      rintro e w4 ⟨rfl, rfl⟩
      rw [show ((10 : Int) == 10) = true from rfl]
      go_wp2_with fail
      refine (HD.out _ _ _ HR3.out).mono ?_
      rintro e w4 ⟨rfl, rfl⟩
      go_wp2
      go_ret
      exact ⟨rfl, HB3.out⟩
end Go.Proofs.YtfbpiknckjgfnaaGreatDoor
