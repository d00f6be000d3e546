/-
  The document's octets, fields: Lower, Get: what they answer.
-/
import Derived.Test.YtfbpiknckjgfnaaGreatDoorCgiG
namespace Go.Proofs.YtfbpiknckjgfnaaGreatDoor
open Go.RowKit Go.Shelf

/-! ### Lower -/
set_option maxHeartbeats 1000000 in
set_option maxRecDepth 100000 in
theorem refLower_any (s : ByteArray) (w : World) (hs : s.size ≤ maxLen) :
    Calls Tryz.prog 23 #[.string s] w fun e w' => e = .returned (.string ⟨(lowerL s.data.toList).toArray⟩) ∧ Below w.heap.size w w' := by
  unfold maxLen at hs
  have hcv := Lib.run_convert_string_bytes (P := Tryz.prog) w 9 22 5 s (u := .string) Tryz.underlying9 Tryz.underlying22 Tryz.underlying5
  have HB : Hid (Row8 (Lib.bytesWorld w 5 s) w.heap.size (lowTo s.data.toList 0)) := Lib.hid (by simpa [lowTo] using Row8.made w s)
  have HW : Hid (Below w.heap.size w (Lib.bytesWorld w 5 s)) := Lib.hid ⟨rfl, rfl, rfl, by rw [Lib.bytesWorld_size]; omega, fun k hk => Lib.bytesWorld_at_old w 5 s k hk⟩
  obtain ⟨W1, hW1⟩ : ∃ W1, W1 = Lib.bytesWorld w 5 s := ⟨_, rfl⟩
  rw [← hW1] at hcv HB HW
  clear hW1
  generalize grownCap w s.size 0 5 = cap at hcv
  have hl : s.data.toList.length = s.size := len_eq s
  generalize s.data.toList = l at HB hl ⊢
  have HL := Lib.hid hl; clear hl
  go_enter Tryz.func23, Tryz.ntmps23
  go_wp2
  go_loopw [4] (fun i wr => ∃ k : Nat, k ≤ s.size ∧ i = .int .i64 k ∧ Hid (Row8 wr w.heap.size (lowTo l k)) ∧ Hid (Below w.heap.size w wr)) (fun i _ => s.size - (intOf i).toNat)
  case atStart => exact ⟨0, Nat.zero_le _, rfl, HB, HW⟩
  case round =>
    obtain ⟨k, hk, rfl, HR, HWr⟩ := hrel
    by_cases hlt : k < s.size
    · have hkl : k < l.length := by rw [HL.out]; exact hlt
      have hc := HR.out.cell k (by rw [lowTo_length]; exact hkl)
      have hf := HR.out.free k (by rw [lowTo_length]; exact hkl)
      rw [lowTo_at l k hkl] at hc
      by_cases hu : 65 ≤ (l[k].toNat : Int) ∧ (l[k].toNat : Int) ≤ 90
      · obtain ⟨u1, u2⟩ := hu
        have HN : Hid (Row8 (wr.setCell ⟨w.heap.size, k, none⟩ (.int .u8 ((l[k].toNat : Int) + 32))) w.heap.size (lowTo l (k + 1))) :=
          Lib.hid (by rw [lowTo_step l k hkl, ← lowB_up u1 u2]; exact HR.out.store k (by rw [lowTo_length]; exact hkl) (lowB l[k]))
        have HWn : Hid (Below w.heap.size w (wr.setCell ⟨w.heap.size, k, none⟩ (.int .u8 ((l[k].toNat : Int) + 32)))) := Lib.hid (HWr.out.setCell (Nat.le_refl _) _)
        generalize (l[k].toNat : Int) = c at hc u1 u2 HN HWn
        go_wp2
        go_roundw
        case rel => exact ⟨k + 1, by omega, by go_num, HN, HWn⟩
        case measure => simp [intOf]; omega
      · have HN : Hid (Row8 wr w.heap.size (lowTo l (k + 1))) := Lib.hid (by
          rw [lowTo_step l k hkl, lowB_not hu]
          have e : (lowTo l k).set k l[k] = lowTo l k := by
            have := lowTo_at l k hkl
            rw [← this]
            exact List.set_getElem_self _
          rw [e]; exact HR.out)
        generalize (l[k].toNat : Int) = c at hc hu
        rcases (show c < 65 ∨ 90 < c by omega) with u1 | u1
        all_goals
          clear hu
          go_wp2
          go_roundw
          case rel => exact ⟨k + 1, by omega, by go_num, HN, HWr⟩
          case measure => simp [intOf]; omega
    · have hkk : k = s.size := by omega
      subst hkk
      have hfin := HR.out
      rw [lowTo_all l _ (by rw [HL.out]; exact Nat.le_refl _)] at hfin
      have hcv2 := hfin.conv cap
      have hl2 : (lowerL l).length = s.size := by rw [lowerL, List.length_map, HL.out]
      rw [hl2] at hcv2
      obtain ⟨m, hm⟩ : ∃ m, m = lowerL l := ⟨_, rfl⟩
      rw [← hm] at hcv2
      have HM := Lib.hid hm
      clear hl2 hfin hm
      go_wp2
      go_ret
      exact ⟨ret_str HM.out, HWr.out⟩

/-! ### Get -/
set_option maxHeartbeats 4000000 in
set_option maxRecDepth 100000 in
theorem refGet_any (v : Value) (l : List Pr) (nm : ByteArray) (w : World) (hl : PairsAt w v l) (hn : nm.size ≤ maxLen) (hsz : ∀ p ∈ l, p.1.length ≤ 4096) (hlen : l.length ≤ 100000) :
    Calls Tryz.prog 14 #[v, .string nm] w (OwnsStrs w (getL nm.data.toList l)) := by
  obtain ⟨R, hR⟩ : ∃ R, R = getL nm.data.toList l := ⟨_, rfl⟩
  rw [← hR]
  have HR := Lib.hid hR; clear hR
  rcases hl with ⟨rfl, rfl⟩ | ⟨g, cap, rfl, hg, hc⟩
  · go_enter Tryz.func14, Tryz.ntmps14
    go_wp2
    refine wp_loop_rounds 1 ?_
    rw [rounds_succ]
    go_wp2
    go_ret
    exact ⟨_, rfl, by rw [HR.out]; exact World.ownsRow_nil _ _ _ _, Below.refl _ _⟩
  · have HC := Lib.hid hc; clear hc
    have HSz := Lib.hid hsz; clear hsz
    have HN : Hid (∀ W : World, Calls Tryz.prog 23 #[.string nm] W fun e w' => e = .returned (.string ⟨(lowerL nm.data.toList).toArray⟩) ∧ Below W.heap.size W w') := Lib.hid fun W => refLower_any nm W hn
    go_enter Tryz.func14, Tryz.ntmps14
    go_wp2
    go_loopw [5, 6] (fun out i wr => ∃ k : Nat, k ≤ l.length ∧ i = .int .i64 k ∧ Hid (wr.ownsRow w.heap.size 9 1 out (getL nm.data.toList (l.take k)).length (strVals (getL nm.data.toList (l.take k)))) ∧ Hid (Below w.heap.size w wr)) (fun _ i _ => l.length - (intOf i).toNat)
    case atStart => exact ⟨0, Nat.zero_le _, rfl, Lib.hid (World.ownsRow_nil _ _ _ _), Lib.hid (Below.refl _ _)⟩
    case round =>
      obtain ⟨k, hk, rfl, HO, HB⟩ := hrel
      have hsz := HB.out.size
      by_cases hlt : k < l.length
      · have hc1 : wr.cell? ⟨g, k * 2, none⟩ = some (.string ⟨l[k].1.toArray⟩) := by rw [below_cell HB.out _ hg]; exact HC.out _ _ (pairVals_at l k hlt).1
        have HC2 := Lib.hid (show w.cell? ⟨g, k * 2 + 1, none⟩ = some (.string ⟨l[k].2.toArray⟩) from HC.out _ _ (pairVals_at l k hlt).2)
        have HS : Hid (∀ W : World, Calls Tryz.prog 23 #[.string ⟨l[k].1.toArray⟩] W fun e w' => e = .returned (.string ⟨(lowerL l[k].1).toArray⟩) ∧ Below W.heap.size W w') := Lib.hid fun W =>
          refLower_any ⟨l[k].1.toArray⟩ W (by have := HSz.out _ (List.getElem_mem hlt); unfold maxLen; show l[k].1.toArray.size ≤ _; simp; omega)
        have hT := getL_snoc nm.data.toList (l.take k) l[k]
        rw [← take_snocP l k hlt] at hT
        have hle : (getL nm.data.toList (l.take k)).length ≤ 100000 := by have := getL_le nm.data.toList (l.take k); rw [List.length_take] at this; omega
        generalize hq : l[k] = q at hc1 HC2 HS hT
        clear hq
        obtain ⟨p1, p2⟩ := q
        simp only at hc1 HC2 HS hT
        unfold sameB at hT
        generalize (⟨p1.toArray⟩ : ByteArray) = P1 at hc1 HS
        by_cases hb : lowerL p1 = lowerL nm.data.toList
        · rw [hb, decide_eq_true rfl, if_pos rfl] at hT
          rw [hb] at HS
          have HT := Lib.hid hT; clear hT hb
          go_wp2_with fail
          refine (HS.out _).mono ?_; rintro e w1 ⟨rfl, hb1⟩
          have HB1 := Lib.hid (HB.out.trans (hb1.mono hsz)); have HO1 := Lib.hid (own_below HO.out hb1)
          clear hb1
          go_wp2_with fail
          refine (HN.out _).mono ?_; rintro e w2 ⟨rfl, hb2⟩
          have HB2 := Lib.hid (HB1.out.trans (hb2.mono HB1.out.size)); have HO2 := Lib.hid (own_below HO1.out hb2)
          have hz2 := HB2.out.size
          clear hb2
          have hc2 : w2.cell? ⟨g, k * 2 + 1, none⟩ = some (.string ⟨p2.toArray⟩) := by rw [below_cell HB2.out _ hg]; exact HC2.out
          go_wp2_with (at_builtin; refine app_strs rfl _ _ rfl w.heap.size _ [p2] _ rfl (HO2.out.alloc _) ⟨_, 0, none⟩ 1 1 rfl rfl (cell_one_new _ _ _) (by simp; omega) (by simp; omega) ?_; intro v' w3 hown' hg' hb' _; have HO3 := Lib.hid hown'; have HB3 := Lib.hid hb'; clear hown' hg' hb')
          go_roundw
          case rel => exact ⟨k + 1, by omega, by go_num, by rw [HT.out]; exact HO3, Lib.hid ((HB2.out.alloc (by omega) _).trans HB3.out)⟩
          case measure => simp [intOf]; omega
        · rw [decide_eq_false hb, if_neg (by decide), List.append_nil] at hT
          have HT := Lib.hid hT; clear hT
          go_wp2_with fail
          refine (HS.out _).mono ?_; rintro e w1 ⟨rfl, hb1⟩
          have HB1 := Lib.hid (HB.out.trans (hb1.mono hsz)); have HO1 := Lib.hid (own_below HO.out hb1)
          clear hb1
          go_wp2_with fail
          refine (HN.out _).mono ?_; rintro e w2 ⟨rfl, hb2⟩
          have HB2 := Lib.hid (HB1.out.trans (hb2.mono HB1.out.size)); have HO2 := Lib.hid (own_below HO1.out hb2)
          clear hb2
          generalize lowerL p1 = a1 at hb
          generalize lowerL nm.data.toList = a2 at hb
          have hbe : (a1 == a2) = false := beq_eq_false_iff_ne.2 hb
          go_wp2
          go_roundw
          case rel => exact ⟨k + 1, by omega, by go_num, by rw [HT.out]; exact HO2, HB2⟩
          case measure => simp [intOf]; omega
      · have HT : Hid (R = getL nm.data.toList (l.take k)) := Lib.hid (by rw [HR.out, List.take_of_length_le (by omega)])
        go_wp2
        go_ret
        exact ⟨_, rfl, by rw [HT.out]; exact HO.out, HB.out⟩
end Go.Proofs.YtfbpiknckjgfnaaGreatDoor
