/-
  Package cgi: Feed: what it answers and leaves.
-/
import Derived.Test.YtfbpiknckjgfnaaGreatDoorCgiD
namespace Go.Proofs.YtfbpiknckjgfnaaGreatDoor
open Go.RowKit Go.Shelf

theorem statusR_code (l : List UInt8) : (statusR l).2.2 = 0 ∨ (statusR l).2.2 = 10 := by unfold statusR; split <;> simp
theorem wholeS_code (st : CgiS) : (wholeS st).2 = 0 ∨ (wholeS st).2 = 10 := by
  unfold wholeS
  split
  · simp
  · split
    · simp
    · exact statusR_code _
  · split
    · simp
    · split <;> simp
theorem parseC_code (l : List UInt8) : parseC l = 0 ∨ parseC l = 10 ∨ parseC l = 12 := by unfold parseC; (repeat' split) <;> simp
theorem endsS_code (st : CgiS) : (endsS st).2 = 0 ∨ (endsS st).2 = 10 ∨ (endsS st).2 = 12 := by
  unfold endsS
  split
  · rcases wholeS_code { st with line := [] } with h | h <;> simp [h]
  · split
    · simp
    · split
      · split <;> simp
      · exact parseC_code _
theorem takesS_code (st : CgiS) (c : UInt8) : (takesS st c).2 = 0 ∨ (takesS st c).2 = 10 ∨ (takesS st c).2 = 12 := by
  unfold takesS
  split
  · simp
  · split
    · exact endsS_code _
    · simp

/-- The fields that whole leaves. -/
theorem wholeS_same (st : CgiS) : (wholeS st).1.fields = st.fields ∧ (wholeS st).1.bytes = st.bytes ∧ (wholeS st).1.most = st.most ∧ (wholeS st).1.line = st.line ∧ (wholeS st).1.dead = st.dead ∧ ((wholeS st).1.done = false → (wholeS st).1 = st) := by
  unfold wholeS
  split
  · simp
  · split <;> simp [CgiS.put]
  · split
    · simp [CgiS.put]
    · split <;> simp [CgiS.put]
theorem endsS_live (st : CgiS) (h : Live st) (hd : st.done = false) : Live (endsS st).1 := by
  unfold endsS
  have h0 : Live { st with line := [] } := ⟨h.fields, h.pos, h.bytes, h.most, by simpa using h.pos, h.nh, h.fits⟩
  split
  · obtain ⟨a, b, c, d, e, f⟩ := wholeS_same { st with line := [] }
    refine ⟨by rw [a]; exact h.fields, by rw [b]; exact h.pos, by rw [b]; exact h.bytes, by rw [c]; exact h.most, by rw [b, d]; simpa using h.pos, fun q => by rw [f q]; exact h.nh hd, by rw [b, c]; exact h.fits⟩
  · split
    · exact h0
    · split
      · rename_i hz
        split
        · exact h0
        · rename_i hn
          refine ⟨⟨fun q hq => ?_, by simp; omega⟩, h.pos, h.bytes, h.most, by simpa using h.pos, h.nh, h.fits⟩
          simp only [List.mem_append, List.mem_singleton] at hq
          rcases hq with hq | rfl
          · exact h.fields.1 q hq
          · exact parseP_small _ hz
      · exact h0
theorem takesS_live (st : CgiS) (c : UInt8) (h : Live st) (hd : st.done = false) (h0 : (takesS st c).2 = 0) : Live (takesS st c).1 := by
  unfold takesS at h0 ⊢
  split
  · rename_i q; rw [if_pos q] at h0; cases h0
  · rename_i q
    have h1 := h.pos
    have h2 := h.most
    split
    · exact endsS_live _ ⟨h.fields, by show 0 ≤ st.bytes + 1; omega, by show st.bytes + 1 ≤ _; omega, h.most, by show (st.line.length : Int) ≤ st.bytes + 1; have := h.line; omega, h.nh, .inl (by show st.bytes + 1 ≤ st.most; omega)⟩ hd
    · exact ⟨h.fields, by show 0 ≤ st.bytes + 1; omega, by show st.bytes + 1 ≤ _; omega, h.most, by simp; have := h.line; omega, h.nh, .inl (by show st.bytes + 1 ≤ st.most; omega)⟩
theorem endsS_dead (st : CgiS) : (endsS st).1.dead = st.dead := by
  unfold endsS
  split
  · exact (wholeS_same _).2.2.2.2.1
  · split
    · rfl
    · split
      · split <;> rfl
      · rfl
theorem takesS_dead (st : CgiS) (c : UInt8) : (takesS st c).1.dead = st.dead := by
  unfold takesS
  split
  · rfl
  · split
    · exact endsS_dead _
    · rfl

/-- What Feed leaves, and answers: what is behind the head; 0, 10, 12, 18. -/
def feedS : CgiS → List UInt8 → CgiS × List UInt8 × Int
  | st, [] => (st, [], 0)
  | st, c :: l => if st.done = true then (st, c :: l, 0) else if (takesS st c).2 = 0 then feedS (takesS st c).1 l else ({ (takesS st c).1 with dead := true }, [], (takesS st c).2)
def FeedS (st : CgiS) (l : List UInt8) : CgiS × List UInt8 × Int := if st.dead = true then (st, [], 18) else feedS st l

theorem drop_at (s : ByteArray) (k : Nat) (h : k < s.size) : s.data.toList.drop k = s[k] :: s.data.toList.drop (k + 1) := by
  rw [List.drop_eq_getElem_cons (by simpa using h)]; rfl

set_option maxHeartbeats 8000000 in
set_option maxRecDepth 100000 in
theorem Feed_any (s : ByteArray) (w : World) (B p : Nat) (st : CgiS) (h : RepX w B p st) (hL : st.dead = false → Live st) (hE : Env w) (hT : ErrT w) (hp0 : G0 p) (hB0 : G0 B) (hs : s.size < 4294967281) :
    Calls Tryz.prog 8 #[.pointer (some ⟨p, 0, none⟩), .string s] w fun e w' =>
      e = .returned (.tuple #[.string ⟨(FeedS st s.data.toList).2.1.toArray⟩, errV (FeedS st s.data.toList).2.2]) ∧ RepX w' B p (FeedS st s.data.toList).1 ∧ But B p w w' := by
  obtain ⟨R, hR⟩ : ∃ R, R = FeedS st s.data.toList := ⟨_, rfl⟩
  rw [← hR]
  unfold FeedS at hR
  obtain ⟨vl0, vf0, vh0, h0⟩ := h
  have c8 : w.cell? ⟨p, 8, none⟩ = some (.bool st.dead) := h0.at 8
  cases hdead : st.dead
  case true =>
    rw [hdead] at hR c8
    rw [if_pos rfl] at hR
    subst hR
    have H0 := Lib.hid h0
    clear h0 hL
    go_enter Tryz.func8, Tryz.ntmps8
    go_wp2
    go_ret2
    exact ⟨rfl, ⟨_, _, _, H0.out⟩, .refl _ _ _⟩
  rw [hdead] at hR c8
  rw [if_neg (by decide)] at hR
  have hB := h0.size
  have HR := Lib.hid hR
  have HX := Lib.hid (show RepX w B p st from ⟨_, _, _, h0⟩)
  have HL := Lib.hid (hL hdead)
  have HE := Lib.hid hE
  have HT := Lib.hid hT
  clear hR h0 hL hE hT hdead
  go_enter Tryz.func8, Tryz.ntmps8
  go_wp2
  go_loopw [6] (fun i wr => ∃ (k : Nat) (sk : CgiS), k ≤ s.size ∧ i = .int .i64 k ∧ Hid (RepX wr B p sk) ∧ Hid (Live sk) ∧ Hid (But B p w wr) ∧ Hid (R = feedS sk (s.data.toList.drop k))) (fun i _ => s.size - (intOf i).toNat)
  case atStart => exact ⟨0, st, Nat.zero_le _, rfl, HX, HL, Lib.hid (But.refl _ _ _), HR⟩
  case round =>
    clear HX HL HR c8
    obtain ⟨k, sk, hk, rfl, HX, HL, HB, HR⟩ := hrel
    obtain ⟨vl, vf, vh, hX⟩ := HX.out
    have c7 : wr.cell? ⟨p, 7, none⟩ = some (.bool sk.done) := hX.at 7
    clear hX
    by_cases hlt : k < s.size
    · have hdr : s.data.toList.drop k = s[k] :: s.data.toList.drop (k + 1) := drop_at s k hlt
      cases hdn : sk.done
      case true =>
        rw [hdn] at c7
        have hR := HR.out
        rw [hdr, feedS, if_pos hdn, ← hdr] at hR
        have hsub : (s.extract k s.size) = ⟨(s.data.toList.drop k).toArray⟩ := by
          apply ByteArray.ext
          apply Array.ext'
          rw [Lib.extract_data]
          show _ = s.data.toList.drop k
          exact List.take_of_length_le (by rw [List.length_drop, len_eq]; exact Nat.le_refl _)
        rw [show s.data.toList.drop k = (s.extract k s.size).data.toList by rw [hsub]] at hR
        have HR2 := Lib.hid hR
        clear hdr hdn HR hsub hR
        go_wp2
        go_ret2
        rw [HR2.out]
        exact ⟨rfl, HX.out, HB.out⟩
      case false =>
        rw [hdn] at c7
        have hR := HR.out
        rw [hdr, feedS, if_neg (by rw [hdn]; decide)] at hR
        have HK : Hid (Calls Tryz.prog 18 #[.pointer (some ⟨p, 0, none⟩), .int .u8 (s[k].toNat : Int)] wr fun e w' => e = .returned (errV (takesS sk s[k]).2) ∧ RepX w' B p (takesS sk s[k]).1 ∧ But B p wr w') :=
          Lib.hid (takes_any s[k] wr B p sk HX.out hdn HL.out (HE.out.but HB.out hB0 hp0) hp0 hB0)
        have hcode := takesS_code sk s[k]
        have HLv : Hid ((takesS sk s[k]).2 = 0 → Live (takesS sk s[k]).1) := Lib.hid (takesS_live sk s[k] HL.out hdn)
        generalize takesS sk s[k] = q at hR HK hcode HLv
        obtain ⟨q1, q2⟩ := q
        simp only at hR HK hcode HLv
        by_cases hz : q2 = 0
        · subst hz
          rw [if_pos rfl] at hR
          rw [errV_zero] at HK
          have HR2 := Lib.hid hR
          clear hdr hdn HR hR hcode
          go_wp2_with fail
          refine HK.out.mono ?_
          rintro e w1 ⟨rfl, hx1, hb1⟩
          have HX1 := Lib.hid hx1
          have HB1 := Lib.hid (HB.out.trans hb1)
          clear hx1 hb1
          go_wp2_with (go_at_call 19; refine (as_nil _ _).mono ?_; rintro e w2 ⟨rfl, rfl⟩)
          go_roundw
          case rel =>
            obtain ⟨v1, v2, v3, hX1⟩ := HX1.out
            exact ⟨k + 1, q1, by omega, by go_num, Lib.hid ⟨v1, v2, v3, hX1.below ((Below.refl _ _).alloc (Nat.le_refl _) _)⟩, Lib.hid (HLv.out trivial), Lib.hid (HB1.out.step ((Below.refl _ _).alloc (Nat.le_refl _) _) hB), HR2⟩
          case measure => simp [intOf]; omega
        · rw [if_neg hz] at hR
          rw [errV_pos hz] at HK
          have HR2 := Lib.hid hR
          have h18 : (q2 == 18) = false := by rw [beq_eq_false_iff_ne]; omega
          clear hdr hdn HR hR hcode HLv
          go_wp2_with fail
          refine HK.out.mono ?_
          rintro e w1 ⟨rfl, hx1, hb1⟩
          have HX1 := Lib.hid hx1
          have HB1 := Lib.hid (HB.out.trans hb1)
          clear hx1 hb1
          have HT1 := Lib.hid (HT.out.but HB1.out hB0 hp0)
          have hba : Below w1.heap.size w1 (w1.alloc (.cells #[.int .i64 0] 38)) := (Below.refl _ _).alloc (Nat.le_refl _) _
          have HAs := Lib.hid (as_hit q2 ⟨w1.heap.size, 0, none⟩ (.int .i64 0) (w1.alloc (.cells #[.int .i64 0] 38)) (HT1.out.below hba) (by simp) (by simp))
          have HBa := Lib.hid hba
          clear hba
          go_wp2_with fail
          refine HAs.out.mono ?_
          rintro e w2 ⟨rfl, hc2, hb2⟩
          have hz2 : w1.heap.size < w2.heap.size := by have := hb2.size; simp at this; omega
          have hb3 := HBa.out.trans hb2
          obtain ⟨v1, v2, v3, hX1⟩ := HX1.out
          have hX2 := hX1.below hb3
          have c82 : w2.cell? ⟨p, 8, none⟩ = some (.bool q1.dead) := hX2.at 8
          have z82 := hX2.frozen 8
          have hpe : p ≠ w1.heap.size := by have := hX1.lt; omega
          have HX2 := Lib.hid hX2
          have HB2 := Lib.hid (HB1.out.step hb3 hB)
          clear hX1 hX2 hb2 hb3
          go_wp2_with (go_at_call 13; refine (is_num _ _ _).mono ?_; rintro e w3 ⟨rfl, rfl⟩; rw [h18])
          have ce : (w2.setCell ⟨p, 8, none⟩ (.bool true)).cell? ⟨w1.heap.size, 0, none⟩ = some (.int .i64 q2) := by
            rw [World.cell?_of_block (heap_setCell_other w2 ⟨p, 8, none⟩ _ _ (fun e => hpe e.symm))]; exact hc2
          go_quiet (fail)
          go_wp2
          go_ret2
          rw [HR2.out]
          refine ⟨congrArg (fun v => Ending.returned (.tuple #[.string ⟨#[]⟩, v])) (errV_pos hz).symm, ⟨v1, v2, v3, Rep.below (HX2.out.set (st' := { q1 with dead := true }) 8 (.bool true) rfl HX2.out.line HX2.out.fields HX2.out.head HX2.out.nh) (below_drewN (Below.refl _ _) _)⟩, (HB2.out.set _ _).step (below_drewN (Below.refl _ _) _) hB⟩
    · have hR := HR.out
      rw [List.drop_eq_nil_of_le (by rw [len_eq]; omega), feedS] at hR
      have HR2 := Lib.hid hR
      clear HR hR
      go_wp2
      go_ret2
      rw [HR2.out]
      exact ⟨rfl, HX.out, HB.out⟩
end Go.Proofs.YtfbpiknckjgfnaaGreatDoor
