/-
  Package cgi: takes: what it answers and leaves.
-/
import Derived.Test.YtfbpiknckjgfnaaGreatDoorCgiC
import Derived.Test.YtfbpiknckjgfnaaGreatDoorAs
namespace Go.Proofs.YtfbpiknckjgfnaaGreatDoor
open Go.RowKit Go.Shelf

theorem But.cell {B p : Nat} {w w' : World} (h : But B p w w') (a : Addr) (ha : a.block < B) (hp : a.block ≠ p) : w'.cell? a = w.cell? a := World.cell?_of_block (h.block _ ha hp)
/-- Above the package-level variables of which something is known. -/
def G0 (p : Nat) : Prop := 1 < p ∧ 0 < p
theorem G0.of {w : World} (h : Env w) (k : ErrT w) : G0 w.heap.size := by
  obtain ⟨m, hm⟩ := h.maxLen
  exact ⟨World.block_lt_of_cell? w _ hm, World.block_lt_of_cell? w _ k⟩
theorem G0.le {p q : Nat} (h : G0 p) (hpq : p ≤ q) : G0 q := ⟨Nat.lt_of_lt_of_le h.1 hpq, Nat.lt_of_lt_of_le h.2 hpq⟩
theorem Env.but {B p : Nat} {w w' : World} (h : Env w) (hb : But B p w w') (hB : G0 B) (hp : G0 p) : Env w' := by
  obtain ⟨m, hm⟩ := h.maxLen
  exact ⟨⟨m, (hb.cell _ hB.1 (Nat.ne_of_lt hp.1)).trans hm⟩⟩
theorem ErrT.but {B p : Nat} {w w' : World} (h : ErrT w) (hb : But B p w w') (hB : G0 B) (hp : G0 p) : ErrT w' :=
  (hb.cell _ hB.2 (Nat.ne_of_lt hp.2)).trans h

/-- A reader that isn't dead. -/
structure Live (st : CgiS) : Prop where
  fields : SmallF st.fields
  pos : 0 ≤ st.bytes
  bytes : st.bytes ≤ 1000000
  most : st.most ≤ 1000000
  line : (st.line.length : Int) ≤ st.bytes
  nh : st.done = false → st.hf = []
  fits : st.bytes ≤ st.most ∨ st.bytes = 0
/-- What takes leaves, and answers: 0, 10, 12. -/
def takesS (st : CgiS) (c : UInt8) : CgiS × Int :=
  if st.most < st.bytes + 1 then ({ st with bytes := st.bytes + 1 }, 12)
  else if c = 10 then endsS { st with bytes := st.bytes + 1 }
  else ({ st with bytes := st.bytes + 1, line := st.line ++ [c] }, 0)

set_option maxHeartbeats 8000000 in
set_option maxRecDepth 100000 in
theorem takes_any (c : UInt8) (w : World) (B p : Nat) (st : CgiS) (h : RepX w B p st) (hd : st.done = false) (hL : Live st) (hE : Env w) (hp0 : G0 p) (hB0 : G0 B) :
    Calls Tryz.prog 18 #[.pointer (some ⟨p, 0, none⟩), .int .u8 (c.toNat : Int)] w fun e w' => e = .returned (errV (takesS st c).2) ∧ RepX w' B p (takesS st c).1 ∧ But B p w w' := by
  obtain ⟨vl, vf, vh, h⟩ := h
  obtain ⟨ol, cl, rfl⟩ := own_slice h.line
  have hp := h.lt
  have hB := h.size
  obtain ⟨W, hW⟩ : ∃ W, W = w.setCell ⟨p, 1, none⟩ (.int .i64 (st.bytes + 1)) := ⟨_, rfl⟩
  have h1 : Rep W B p { st with bytes := st.bytes + 1 } (.slice ol st.line.length cl) vf vh := by rw [hW]; exact h.set 1 _ rfl h.line h.fields h.head h.nh
  have hb1 : But B p w W := by rw [hW]; exact (But.refl _ _ _).set _ _
  have c1 : w.cell? ⟨p, 1, none⟩ = some (.int .i64 st.bytes) := h.at 1
  have z1 := h.frozen 1
  have d0 : W.cell? ⟨p, 0, none⟩ = some (.int .i64 st.most) := h1.at 0
  have d1 : W.cell? ⟨p, 1, none⟩ = some (.int .i64 (st.bytes + 1)) := h1.at 1
  have d2 : W.cell? ⟨p, 2, none⟩ = some (.slice ol st.line.length cl) := h1.at 2
  have y2 := h1.frozen 2
  have hp1 := h1.lt
  have hBW := h1.size
  have hw : IntKind.i64.wrap (st.bytes + 1) = st.bytes + 1 := by have := hL.pos; have := hL.bytes; exact IntWalk.i64_in _ (by omega)
  have H1 := Lib.hid h1
  have HB1 := Lib.hid hb1
  have HE1 := Lib.hid (hE.but hb1 hB0 hp0)
  have hll : st.line.length ≤ 1000000 := by have := hL.line; have := hL.bytes; omega
  obtain ⟨R, hR⟩ : ∃ R, R = takesS st c := ⟨_, rfl⟩
  rw [← hR]
  unfold takesS at hR
  clear h h1 hb1 hE
  by_cases q1 : st.most < st.bytes + 1
  · rw [if_pos q1] at hR
    subst hR
    go_enter Tryz.func18, Tryz.ntmps18
    go_wp2
    rw [← hW]
    clear hW
    go_quiet (fail)
    go_wp2
    go_ret
    exact ⟨rfl, ⟨_, _, _, H1.out.below (below_drewN (Below.refl _ _) _)⟩, HB1.out.step (below_drewN (Below.refl _ _) _) hB⟩
  · rw [if_neg q1] at hR
    by_cases q2 : c = 10
    · rw [if_pos q2] at hR
      have HEn : Hid (∀ n, Calls Tryz.prog 30 #[.pointer (some ⟨p, 0, none⟩)] (W.drewN n) fun e w' => e = .returned (errV R.2) ∧ RepX w' B p R.1 ∧ But B p (W.drewN n) w') := Lib.hid fun n => by
        rw [hR]
        exact ends_any (W.drewN n) B p { st with bytes := st.bytes + 1 } ⟨_, _, _, H1.out.below (below_drewN (Below.refl _ _) n)⟩ hd (hL.nh hd) (HE1.out.below (below_drewN (Below.refl _ _) n)) (Nat.ne_of_lt hp0.1) hL.fields (by show st.line.length ≤ _; omega)
      clear hR
      have hq : ((c.toNat : Int) == 10) = true := by rw [q2]; rfl
      have hq3 : ¬ (st.most < st.bytes + 1) := q1
      go_enter Tryz.func18, Tryz.ntmps18
      go_wp2
      rw [← hW]
      clear hW
      go_quiet (fail)
      go_wp2_with fail
      refine (HEn.out _).mono ?_
      rintro e w2 ⟨rfl, hr2, hb2⟩
      go_wp2
      go_ret
      exact ⟨rfl, hr2, (HB1.out.step (below_drewN (Below.refl _ _) _) hB).trans hb2⟩
    · rw [if_neg q2] at hR
      subst hR
      have hq : ((c.toNat : Int) == 10) = false := by
        rw [beq_eq_false_iff_ne]
        intro e
        exact q2 (UInt8.toNat_inj.1 (by simpa using (by omega : c.toNat = 10)))
      go_enter Tryz.func18, Tryz.ntmps18
      go_wp2
      rw [← hW]
      clear hW
      go_quiet (fail)
      have HR2 := Lib.hid (H1.out.below (below_drewN (Below.refl _ _) nq))
      have hb3 : Below (W.drewN nq).heap.size (W.drewN nq) ((W.drewN nq).alloc (.cells #[.int .u8 (c.toNat : Int)] 5)) := (Below.refl _ _).alloc (Nat.le_refl _) _
      have HR3 := Lib.hid (HR2.out.below hb3)
      have HB3 := Lib.hid ((HB1.out.step (below_drewN (Below.refl _ _) nq) hB).step hb3 hB)
      clear hb3
      go_wp2_with (at_builtin; refine app_bytes rfl _ _ rfl B st.line [c] _ rfl HR3.out.line ⟨_, 0, none⟩ 1 1 rfl rfl (cell_one_new _ _ _) (by simp; omega) HR3.out.size ?_; intro v' w4 hown' hg' hb' _; obtain ⟨o5, c5, rfl⟩ := own_slice hown'; have f34 := cell_of_row w4 p 2 _ _ _ (grown_cells HR3.out HR3.out.line (by decide) hg'); have z34 := frozen_of_row w4 p 2 _ _ (grown_cells HR3.out HR3.out.line (by decide) hg'); simp [cgiCells] at f34; have HO := Lib.hid hown'; have HG := Lib.hid hg'; have HB := Lib.hid hb'; clear hown' hg' hb')
      go_ret
      exact ⟨rfl, ⟨_, _, _, Rep.growL (l' := st.line ++ [c]) HR3.out HG.out (by have q := HO.out; rw [List.length_append] at q ⊢; exact q)⟩, (HB3.out.trans (.of HB.out)).set _ _⟩
end Go.Proofs.YtfbpiknckjgfnaaGreatDoor
