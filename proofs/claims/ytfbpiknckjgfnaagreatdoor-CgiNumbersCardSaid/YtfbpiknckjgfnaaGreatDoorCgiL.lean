/-
  conduitlaw16.known: true.
-/
import Derived.Test.YtfbpiknckjgfnaaGreatDoorCgiK
namespace Go.Proofs.YtfbpiknckjgfnaaGreatDoor
open Go.RowKit Go.Shelf

/-- Feed, at a text. -/
theorem Feed_at {w : World} {B p : Nat} {st st' : CgiS} {r : List UInt8} {c : Int} (l : List UInt8) (h : RepX w B p st) (hL : st.dead = false → Live st) (hE : Env w) (hT : ErrT w) (hp0 : G0 p) (hB0 : G0 B) (hs : l.length < 4294967281) (e : FeedS st l = (st', r, c)) :
    Calls Tryz.prog 8 #[.pointer (some ⟨p, 0, none⟩), .string ⟨l.toArray⟩] w fun ev w' =>
      ev = .returned (.tuple #[.string ⟨r.toArray⟩, errV c]) ∧ RepX w' B p st' ∧ But B p w w' := by
  have := Feed_any ⟨l.toArray⟩ w B p st h hL hE hT hp0 hB0 (by show l.toArray.size < _; simpa using hs)
  rw [show ((⟨l.toArray⟩ : ByteArray).data.toList) = l from rfl, e] at this
  exact this

theorem But.grown {B p : Nat} {w w' : World} (h : But B p w w') (hB : w.heap.size ≤ B) : w.grownBy w' (some p) :=
  ⟨h.os, h.tape, h.output, h.size, fun k hk hp => h.block k (Nat.lt_of_lt_of_le hk hB) (fun e => hp (by rw [e]))⟩
/-- A reader behind what turned another alone. -/
theorem RepX.but {w w' : World} {B B2 p p2 : Nat} {st : CgiS} {cs : Array Value} {fz : Nat × Nat} (h : RepX w B p st) (hb : But B2 p2 w w') (hB2 : w.heap.size ≤ B2) (hp : p ≠ p2) (hk : w.heap[p2]? = some (.cells cs 49 fz)) : RepX w' B p st := by
  obtain ⟨vl, vf, vh, h⟩ := h
  have hg := hb.grown hB2
  exact ⟨vl, vf, vh, by rw [hb.block p (Nat.lt_of_lt_of_le h.lt hB2) hp]; exact h.cells, h.line.kept hg (.inr (own_ne h.line hk (by decide))), h.fields.kept hg (.inr (own_ne h.fields hk (by decide))), h.head.kept hg (.inr (own_ne h.head hk (by decide))), Nat.le_trans h.size hb.size, h.nh⟩
theorem RepX.below {w w' : World} {B p : Nat} {st : CgiS} (h : RepX w B p st) (hb : Below w.heap.size w w') : RepX w' B p st := by
  obtain ⟨vl, vf, vh, h⟩ := h
  exact ⟨vl, vf, vh, h.below hb⟩
theorem Tryz.headField0 (a b c : Value) (w : World) : (Instr.field 34 (.agg #[a, b, c]) 0).run Tryz.prog w = .ok a w := by kernel_rfl
theorem Tryz.headField1 (a b c : Value) (w : World) : (Instr.field 34 (.agg #[a, b, c]) 1).run Tryz.prog w = .ok b w := by kernel_rfl
theorem Tryz.headField2 (a b c : Value) (w : World) : (Instr.field 34 (.agg #[a, b, c]) 2).run Tryz.prog w = .ok c w := by kernel_rfl
def kQ1 : CgiS := (FeedS (newS 100) [10]).1
theorem k4' : FeedS (newS 100) [10] = (kQ1, [], 10) := by kernel_rfl
theorem k5' : FeedS kQ1 [97] = (kQ1, [], 18) := by kernel_rfl
theorem Status_at {w : World} (l : List UInt8) (hs : l.length < 4294967281) (hE : Env w) {n : Int} {t : List UInt8} {c : Int} (e : statusR l = (n, t, c)) :
    Calls Tryz.prog 16 #[.string ⟨l.toArray⟩] w fun ev w' => ev = .returned (.tuple #[.int .i64 n, .string ⟨t.toArray⟩, errV c]) ∧ Below w.heap.size w w' := by
  have := Status_any ⟨l.toArray⟩ w (by show l.toArray.size < _; simpa using hs) hE
  rw [show ((⟨l.toArray⟩ : ByteArray).data.toList) = l from rfl, e] at this
  exact this

set_option maxHeartbeats 16000000 in
set_option maxRecDepth 100000 in
theorem known_true (w : World) (hE : Env w) (hT : ErrT w) :
    Calls Tryz.prog 6 #[] w fun e w' => e = .returned (.bool true) ∧ Below w.heap.size w w' := by
  have hG := G0.of hE hT
  -- r := cgi.New(100)
  obtain ⟨W1, hW1⟩ : ∃ W1, W1 = w.alloc (.cells (newCells 100) 49) := ⟨_, rfl⟩
  have hb1 : Below w.heap.size w W1 := by rw [hW1]; exact (Below.refl _ _).alloc (Nat.le_refl _) _
  have hz1 : W1.heap.size = w.heap.size + 1 := by rw [hW1]; simp
  have hr1 : RepX W1 W1.heap.size w.heap.size (newS 100) := new_rep (by rw [hW1]; exact heap_alloc_new w _) (Nat.le_refl _)
  have hG1 : G0 W1.heap.size := hG.le (by omega)
  have F1 := Lib.hid (Feed_at kT1 hr1 (fun _ => newS_live 100 (by decide)) (hE.below hb1) (hT.below hb1) hG hG1 (by decide) k1)
  have F2 : Hid (∀ W, But W1.heap.size w.heap.size W1 W → RepX W W1.heap.size w.heap.size kS1 → Calls Tryz.prog 8 #[.pointer (some ⟨w.heap.size, 0, none⟩), .string ⟨#[10, 98, 111, 100, 121]⟩] W fun ev w' => ev = .returned (.tuple #[.string ⟨#[98, 111, 100, 121]⟩, .nilIface]) ∧ RepX w' W1.heap.size w.heap.size kS2 ∧ But W1.heap.size w.heap.size W w') := Lib.hid fun W hb h =>
    Feed_at kT2 h (fun _ => by have := FeedS_live (l := kT1) (fun _ => newS_live 100 (by decide)); rw [k1] at this; exact this rfl) ((hE.below hb1).but hb hG1 hG) ((hT.below hb1).but hb hG1 hG) hG hG1 (by decide) k2
  have F3 : Hid (∀ W, But W1.heap.size w.heap.size W1 W → RepX W W1.heap.size w.heap.size kS2 → Calls Tryz.prog 8 #[.pointer (some ⟨w.heap.size, 0, none⟩), .string ⟨#[120]⟩] W fun ev w' => ev = .returned (.tuple #[.string ⟨#[120]⟩, .nilIface]) ∧ RepX w' W1.heap.size w.heap.size kS2 ∧ But W1.heap.size w.heap.size W w') := Lib.hid fun W hb h =>
    Feed_at [120] h (fun _ => by
      have h1 := FeedS_live (l := kT1) (fun _ => newS_live 100 (by decide)); rw [k1] at h1
      have h2 := FeedS_live (l := kT2) (fun _ => h1 rfl); rw [k2] at h2; exact h2 rfl) ((hE.below hb1).but hb hG1 hG) ((hT.below hb1).but hb hG1 hG) hG hG1 (by decide) k3
  have HE1 := Lib.hid (hE.below hb1)
  have HT1 := Lib.hid (hT.below hb1)
  have HB1 := Lib.hid hb1
  clear hr1 hb1 hE hT
  go_enter Tryz.func6, Tryz.ntmps6
  go_wp2_with fail
  refine (New_any 100 w).mono ?_
  rintro e w1 ⟨rfl, rfl⟩
  rw [← hW1]
  clear hW1
  go_wp2_with fail
  refine F1.out.mono ?_
  rintro e w2 ⟨rfl, hr2, hb2⟩
  have HR2 := Lib.hid hr2
  have HB2 := Lib.hid hb2
  clear hr2 hb2
  rw [errV_zero]
  go_wp2_with fail
  refine (F2.out _ HB2.out HR2.out).mono ?_
  rintro e w3 ⟨rfl, hr3, hb3⟩
  have HR3 := Lib.hid hr3
  have HB3 := Lib.hid (HB2.out.trans hb3)
  clear hr3 hb3
  go_wp2_with fail
  refine (F3.out _ HB3.out HR3.out).mono ?_
  rintro e w4 ⟨rfl, hr4, hb4⟩
  have HR4 := Lib.hid hr4
  have HB4 := Lib.hid (HB3.out.trans hb4)
  have hz4 := HB4.out.size
  clear hr4 hb4
  go_wp2_with fail
  obtain ⟨W5, hW5⟩ : ∃ W5, W5 = w4.alloc (.cells (newCells 100) 49) := ⟨_, rfl⟩
  refine (New_any 100 w4).mono ?_
  rintro e w5 ⟨rfl, rfl⟩
  rw [← hW5]
  have hb5 : Below w4.heap.size w4 W5 := by rw [hW5]; exact (Below.refl _ _).alloc (Nat.le_refl _) _
  have hz5 : W5.heap.size = w4.heap.size + 1 := by rw [hW5]; simp
  have hk5 : W5.heap[w4.heap.size]? = some (.cells (newCells 100) 49 (0, 0)) := by rw [hW5]; exact heap_alloc_new w4 _
  have hG4 : G0 w4.heap.size := hG.le (by omega)
  have hG5 : G0 W5.heap.size := hG.le (by omega)
  have HR5 := Lib.hid (HR4.out.below hb5)
  have HE5 := Lib.hid ((HE1.out.but HB4.out hG1 hG).below hb5)
  have HT5 := Lib.hid ((HT1.out.but HB4.out hG1 hG).below hb5)
  have HB5 : Hid (Below w.heap.size w W5) := Lib.hid ((HB1.out.trans (HB4.out.below (Nat.le_refl _) (by omega))).trans (hb5.mono (by omega)))
  have F4 := Lib.hid (Feed_at [10] (new_rep hk5 (Nat.le_refl _)) (fun _ => newS_live 100 (by decide)) HE5.out HT5.out hG4 hG5 (by decide) k4')
  have HK5 := Lib.hid hk5
  clear hb5 hW5 hk5
  rw [errV_pos (by decide)] at F4
  go_wp2_with fail
  refine F4.out.mono ?_
  rintro e w6 ⟨rfl, hr6, hb6⟩
  have HQ6 := Lib.hid hr6
  have HR6 := Lib.hid (HR5.out.but hb6 (Nat.le_refl _) (by omega) HK5.out)
  have HB6 := Lib.hid hb6
  clear hr6 hb6
  have F5 := Lib.hid (Feed_at [97] HQ6.out (fun h => by cases h) (HE5.out.but HB6.out hG5 hG4) (HT5.out.but HB6.out hG5 hG4) hG4 hG5 (by decide) k5')
  rw [errV_pos (by decide)] at F5
  go_wp2_with fail
  refine F5.out.mono ?_
  rintro e w7 ⟨rfl, hr7, hb7⟩
  have HB7 := Lib.hid (HB6.out.trans hb7)
  have HR7 := Lib.hid (HR5.out.but HB7.out (Nat.le_refl _) (by omega) HK5.out)
  have HE7 := Lib.hid (HE5.out.but HB7.out hG5 hG4)
  have HW7 := Lib.hid (HB5.out.trans (HB7.out.below (by omega) (by omega)))
  clear hr7 hb7
  have S1 := Lib.hid (Status_at [51, 48, 50, 32, 71, 111, 110, 101, 32, 97, 119, 97, 121] (by decide) HE7.out k6)
  rw [errV_zero] at S1
  go_wp2_with fail
  refine S1.out.mono ?_
  rintro e w8 ⟨rfl, hb8⟩
  have HE8 := Lib.hid (HE7.out.below hb8)
  have HR8 := Lib.hid (HR7.out.below hb8)
  have HW8 := Lib.hid (HW7.out.trans (hb8.mono HW7.out.size))
  clear hb8
  have S2 := Lib.hid (Status_at [57, 57] (by decide) HE8.out k7)
  rw [errV_pos (by decide)] at S2
  go_wp2_with fail
  refine S2.out.mono ?_
  rintro e w9 ⟨rfl, hb9⟩
  have HR9 := Lib.hid (HR8.out.below hb9)
  have HW9 := Lib.hid (HW8.out.trans (hb9.mono HW8.out.size))
  clear hb9
  have D9 := Lib.hid (Done_any w9 _ _ _ HR9.out)
  rw [show kS2.done = true from rfl] at D9
  go_wp2_with fail
  refine D9.out.mono ?_
  rintro e w10 ⟨rfl, rfl⟩
  have T9 : Hid (∀ W : World, RepX W W1.heap.size w.heap.size kS2 → Calls Tryz.prog 12 #[.pointer (some ⟨w.heap.size, 0, none⟩)] W fun e w' => (∃ o c, e = .returned (.agg #[.int .i64 404, .string ⟨#[78, 111, 116, 32, 70, 111, 117, 110, 100]⟩, .slice o 1 c])) ∧ Below W.heap.size W w') := Lib.hid fun W h =>
    (Head_any W _ _ _ h (by decide)).mono fun e w' ⟨v, he, ho, hb⟩ => by
      obtain ⟨o, c, rfl⟩ := own_slice ho
      exact ⟨⟨o, c, he⟩, hb⟩
  have hf0 := Tryz.headField0
  have hf1 := Tryz.headField1
  have hf2 := Tryz.headField2
  go_wp2_with fail
  refine (T9.out _ HR9.out).mono ?_
  rintro e w10 ⟨⟨o1, c1, rfl⟩, hb10⟩
  have HR10 := Lib.hid (HR9.out.below hb10)
  have HW10 := Lib.hid (HW9.out.trans (hb10.mono HW9.out.size))
  clear hb10
  go_wp2_with fail
  refine (T9.out _ HR10.out).mono ?_
  rintro e w11 ⟨⟨o2, c2, rfl⟩, hb11⟩
  have HR11 := Lib.hid (HR10.out.below hb11)
  have HW11 := Lib.hid (HW10.out.trans (hb11.mono HW10.out.size))
  clear hb11
  go_wp2_with fail
  refine (T9.out _ HR11.out).mono ?_
  rintro e w12 ⟨⟨o3, c3, rfl⟩, hb12⟩
  have HW12 := Lib.hid (HW11.out.trans (hb12.mono HW11.out.size))
  clear hb12
  go_wp2_with fail
  refine (is_num 10 10 _).mono ?_
  rintro e w13 ⟨rfl, rfl⟩
  rw [show ((10 : Int) == 10) = true from rfl]
  go_wp2_with fail
  refine (is_num 18 18 _).mono ?_
  rintro e w14 ⟨rfl, rfl⟩
  rw [show ((18 : Int) == 18) = true from rfl]
  go_wp2_with fail
  refine (is_num 10 10 _).mono ?_
  rintro e w15 ⟨rfl, rfl⟩
  rw [show ((10 : Int) == 10) = true from rfl]
  go_wp2
  go_ret
  exact ⟨rfl, HW12.out⟩
end Go.Proofs.YtfbpiknckjgfnaaGreatDoor
