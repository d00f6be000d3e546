/-
  conduitlaw16.CgiCuts: true, whatever the text, whatever the cuts.
-/
import Derived.Test.YtfbpiknckjgfnaaGreatDoorCgiM
import Derived.Test.YtfbpiknckjgfnaaGreatDoorFrame
namespace Go.Proofs.YtfbpiknckjgfnaaGreatDoor
open Go.RowKit Go.Shelf

set_option maxHeartbeats 16000000 in
set_option maxRecDepth 100000 in
theorem CgiCuts_walk (s : ByteArray) (v : Value) (l : List UInt8) (w : World) (hv : BytesArg w v l) (hE : Env w) (hT : ErrT w) :
    Calls Tryz.prog 3 #[.string s, v] w fun e w' => e = .returned (.bool true) ∧ Below w.heap.size w w' := by
  have hG := G0.of hE hT
  have HK := Lib.hid (known_true w hE hT)
  have HE := Lib.hid hE; clear hE
  have HT := Lib.hid hT; clear hT
  have hlen := hv.len
  obtain ⟨a, cap, rfl⟩ := hv.shape
  have HC := Lib.hid hv.cells
  clear hv
  by_cases hbig : 1500 < s.size
  · have hb2 : (1500 : Int) < s.size := by omega
    go_enter Tryz.func3, Tryz.ntmps3
    go_wp2_with (go_at_call 6; refine HK.out.mono ?_; rintro e w1 ⟨rfl, hb1⟩)
    go_ret
    exact ⟨rfl, by assumption⟩
  have hb2 : ¬ (1500 : Int) < s.size := by omega
  go_enter Tryz.func3, Tryz.ntmps3
  go_wp2_with fail
  refine HK.out.mono ?_
  rintro e w1 ⟨rfl, hb1⟩
  have HB1 := Lib.hid hb1
  have hz1 := hb1.size
  clear hb1
  obtain ⟨A, hA⟩ : ∃ A, A = Obj.cells (newCells 1000) 49 := ⟨_, rfl⟩
  go_wp2_with fail
  refine (New_any 1000 w1).mono ?_
  rintro e w2 ⟨rfl, rfl⟩
  rw [← hA]
  go_wp2_with fail
  refine (New_any 1000 _).mono ?_
  rintro e w3 ⟨rfl, rfl⟩
  rw [← hA]
  obtain ⟨W3, hW3⟩ : ∃ W3, W3 = (w1.alloc A).alloc A := ⟨_, rfl⟩
  have hs1 : (w1.alloc A).heap.size = w1.heap.size + 1 := by simp
  have hz3 : W3.heap.size = w1.heap.size + 2 := by rw [hW3]; simp
  have hk0 : W3.heap[w1.heap.size]? = some A := by rw [hW3, Below.heap_alloc (w1.alloc A) A w1.heap.size (by simp)]; exact heap_alloc_new w1 A
  have hk1 : W3.heap[w1.heap.size + 1]? = some A := by rw [hW3, ← hs1]; exact heap_alloc_new (w1.alloc A) A
  have hb3 : Below w1.heap.size w1 W3 := by rw [hW3]; exact ((Below.refl _ _).alloc (Nat.le_refl _) _).alloc (by simp) _
  rw [← hW3, hs1]
  rw [hA] at hk0 hk1
  have HK1 := Lib.hid hk1
  have HA3 : Hid (RepX W3 W3.heap.size w1.heap.size (newS 1000)) := Lib.hid (new_rep hk0 (Nat.le_refl _))
  have HE3 := Lib.hid ((HE.out.below (HB1.out.mono (Nat.le_refl _))).below hb3)
  have HT3 := Lib.hid ((HT.out.below (HB1.out.mono (Nat.le_refl _))).below hb3)
  have HB3 := Lib.hid (HB1.out.trans (hb3.mono hz1))
  have hGa : G0 w1.heap.size := hG.le hz1
  have hGA : G0 W3.heap.size := hG.le (by omega)
  clear hk0 hk1 hb3 hA hW3 hs1
  obtain ⟨qa, hqa⟩ : ∃ q, q = FeedS (newS 1000) s.data.toList := ⟨_, rfl⟩
  obtain ⟨sa, xa, ea⟩ := qa
  have FA : Hid (Calls Tryz.prog 8 #[.pointer (some ⟨w1.heap.size, 0, none⟩), .string s] W3 fun ev w' => ev = .returned (.tuple #[.string ⟨xa.toArray⟩, errV ea]) ∧ RepX w' W3.heap.size w1.heap.size sa ∧ But W3.heap.size w1.heap.size W3 w') :=
    Lib.hid (Feed_at s.data.toList HA3.out (fun _ => newS_live 1000 (by decide)) HE3.out HT3.out hGa hGA (by rw [len_eq]; omega) hqa.symm)
  have HQA := Lib.hid hqa
  clear hqa
  go_wp2_with fail
  refine FA.out.mono ?_
  rintro e w4 ⟨rfl, hr4, hb4⟩
  have hz4 := hb4.size
  have hk4 : w4.heap[w1.heap.size + 1]? = some (.cells (newCells 1000) 49 (0, 0)) := by rw [hb4.block _ (by omega) (by omega)]; exact HK1.out
  have HA4 := Lib.hid hr4
  have HE4 := Lib.hid (HE3.out.but hb4 hGA hGa)
  have HT4 := Lib.hid (HT3.out.but hb4 hGA hGa)
  have HB4 := Lib.hid (HB3.out.trans (hb4.below (by omega) (by omega)))
  have HK4 := Lib.hid hk4
  have hGb : G0 (w1.heap.size + 1) := hG.le (by omega)
  have hGB : G0 w4.heap.size := hG.le (by omega)
  have HX4 : Hid (RepX w4 w4.heap.size (w1.heap.size + 1) (newS 1000)) := Lib.hid (new_rep hk4 (Nat.le_refl _))
  clear hr4 hb4 hk4
  go_wp2
  go_loopw [9, 10, 11, 12] (fun vy vf vi vm wr => ∃ (k i : Nat) (sb : CgiS) (Y : ByteArray) (f : Int), k ≤ s.size ∧ i ≤ k ∧ vm = .int .i64 k ∧ vi = .int .i64 i ∧ vy = .string Y ∧ vf = errV f ∧ Hid (RepX wr w4.heap.size (w1.heap.size + 1) sb) ∧ Hid (But w4.heap.size (w1.heap.size + 1) w4 wr) ∧
      Hid (FeedS (newS 1000) (s.data.toList.take k) = (sb, Y.data.toList, f))) (fun _ _ _ m _ => s.size - (intOf m).toNat)
  case atStart => exact ⟨0, 0, newS 1000, ⟨#[]⟩, 0, Nat.zero_le _, Nat.le_refl _, rfl, rfl, rfl, rfl, HX4, Lib.hid (But.refl _ _ _), Lib.hid rfl⟩
  case round =>
    obtain ⟨k, i, sb, Y, f, hk, hik, rfl, rfl, rfl, rfl, HX, HB, HF⟩ := hrel
    by_cases hgo : k < s.size ∧ f = 0
    · obtain ⟨hlt, rfl⟩ := hgo
      rw [errV_zero]
      -- the piece that comes next
      have HP : Hid (∀ t : Nat, k < t → t ≤ s.size → Calls Tryz.prog 8 #[.pointer (some ⟨w1.heap.size + 1, 0, none⟩), .string (s.extract k t)] wr fun ev w' =>
          ∃ sb' Z f', ev = .returned (.tuple #[.string Z, errV f']) ∧ RepX w' w4.heap.size (w1.heap.size + 1) sb' ∧ But w4.heap.size (w1.heap.size + 1) wr w' ∧ Y.size + Z.size ≤ 3000 ∧ FeedS (newS 1000) (s.data.toList.take t) = (sb', (Y ++ Z).data.toList, f')) := Lib.hid fun t hkt hts => by
        have hpc : (s.extract k t).data.toList = (s.data.toList.drop k).take (t - k) := Lib.extract_data s k t
        have htk : s.data.toList.take t = s.data.toList.take k ++ (s.data.toList.drop k).take (t - k) := by
          rw [← List.take_append_drop k (s.data.toList.take t), List.take_take, List.drop_take, Nat.min_eq_left (by omega)]
        have hstep := FeedS_step ((s.data.toList.drop k).take (t - k)) HF.out
        rw [← htk] at hstep
        have hy := FeedS_le HF.out
        rw [List.length_take, len_eq] at hy
        have hz := FeedS_le2 sb ((s.data.toList.drop k).take (t - k))
        rw [List.length_take, List.length_drop, len_eq] at hz
        refine (Feed_any (s.extract k t) wr w4.heap.size (w1.heap.size + 1) sb HX.out (fun hd => FeedS_liveN (by decide) HF.out hd) (HE4.out.but HB.out hGB hGb) (HT4.out.but HB.out hGB hGb) hGb hGB (by rw [← len_eq, hpc, List.length_take, List.length_drop, len_eq]; omega)).mono ?_
        rintro e w' ⟨he, hx, hb⟩
        rw [hpc] at he hx
        refine ⟨_, ⟨(FeedS sb ((s.data.toList.drop k).take (t - k))).2.1.toArray⟩, _, he, hx, hb, ?_, ?_⟩
        · rw [len_eq] at hy
          show Y.size + (FeedS sb ((s.data.toList.drop k).take (t - k))).2.1.toArray.size ≤ _
          rw [List.size_toArray]
          omega
        · rw [hstep]; simp
      clear HX HF
      by_cases hl : l.length = 0
      · have hl1 : ¬ 0 < l.length := by omega
        clear hl
        go_wp2_with fail
        obtain ⟨t, ht, h1, h2⟩ : ∃ t : Nat, min (s.size : Int) ((k : Int) + 1) = (t : Int) ∧ k < t ∧ t ≤ s.size := ⟨min s.size (k + 1), by omega, by omega, by omega⟩
        rw [ht]
        simp only [Int.toNat_natCast]
        refine (HP.out t h1 h2).mono ?_
        rintro e w5 ⟨sb', Z, f', rfl, hx, hb, hYZ, hF⟩
        have HX5 := Lib.hid hx
        have HB5 := Lib.hid (HB.out.trans hb)
        have HF5 := Lib.hid hF
        have hadm : ¬ (9223372036854775807 < Y.size + Z.size) := by omega
        clear hx hb hF HP
        go_wp2
        go_roundw
        case rel =>
          exact ⟨t, i + 1, sb', Y ++ Z, f', h2, by omega, rfl, by go_num, rfl, rfl, HX5, HB5, HF5⟩
        case measure => simp [intOf]; omega
      · have hl0 : 0 < l.length := Nat.pos_of_ne_zero hl
        have hl1 : (0 : Int) < (l.length : Int) := by omega
        obtain ⟨b, off, cap', he, hbl, hc⟩ := HC.out hl0
        simp only [Value.slice.injEq] at he
        obtain ⟨rfl, _, rfl⟩ := he
        have hj : i % l.length < l.length := Nat.mod_lt _ hl0
        have hcell := (((HB4.out.trans (HB.out.below (by omega) (by omega))).cell (p := ⟨b, off + i % l.length, none⟩) hbl).trans (hc (i % l.length) hj))
        have c1 : ((l[i % l.length]'hj).toNat : Int) ≤ 255 := by have := (l[i % l.length]'hj).toNat_lt; omega
        have c0 : 0 ≤ ((l[i % l.length]'hj).toNat : Int) := by omega
        generalize (l[i % l.length]'hj) = c at hcell c1 c0
        clear hc
        have hmod : ((i : Int).tmod (l.length : Int)) = ((i % l.length : Nat) : Int) := by rw [Int.tmod_eq_emod_of_nonneg (by omega)]; omega
        go_wp2_with fail
        obtain ⟨t, ht, h1, h2⟩ : ∃ t : Nat, min (s.size : Int) ((k : Int) + ((c.toNat : Int) + 1)) = (t : Int) ∧ k < t ∧ t ≤ s.size := ⟨min s.size (k + (c.toNat + 1)), by omega, by omega, by omega⟩
        rw [ht]
        simp only [Int.toNat_natCast]
        refine (HP.out t h1 h2).mono ?_
        rintro e w5 ⟨sb', Z, f', rfl, hx, hb, hYZ, hF⟩
        have HX5 := Lib.hid hx
        have HB5 := Lib.hid (HB.out.trans hb)
        have HF5 := Lib.hid hF
        have hadm : ¬ (9223372036854775807 < Y.size + Z.size) := by omega
        clear hx hb hF HP
        go_wp2
        go_roundw
        case rel => exact ⟨t, i + 1, sb', Y ++ Z, f', h2, by omega, rfl, by go_num, rfl, rfl, HX5, HB5, HF5⟩
        case measure => simp [intOf]; omega
    · -- the end: the two readers are alike
      have hEq : (sa, xa, ea) = (sb, Y.data.toList, f) := by
        rw [HQA.out]
        by_cases hf : f = 0
        · have hks : k = s.size := by
            rcases Nat.lt_or_ge k s.size with h | h
            · exact absurd ⟨h, hf⟩ hgo
            · omega
          have := HF.out
          rw [List.take_of_length_le (by rw [len_eq]; omega)] at this
          exact this
        · have := FeedS_stop (s.data.toList.drop k) HF.out hf
          rw [List.take_append_drop] at this
          exact this
      simp only [Prod.mk.injEq] at hEq
      obtain ⟨rfl, rfl, rfl⟩ := hEq
      have hYe : (⟨Y.data.toList.toArray⟩ : ByteArray) = Y := by simp
      rw [hYe]
      have HAX : Hid (RepX wr W3.heap.size w1.heap.size sa) := Lib.hid (HA4.out.but HB.out (Nat.le_refl _) (by omega) HK4.out)
      by_cases hea : ea = 0
      · subst hea
        rw [errV_zero]
        have hks : ¬ k < s.size := fun h => hgo ⟨h, rfl⟩
        clear hgo
        go_wp2_with fail
        refine (Done_any wr _ _ _ HAX.out).mono ?_
        rintro e w5 ⟨rfl, rfl⟩
        go_wp2_with fail
        refine (Done_any wr _ _ _ HX.out).mono ?_
        rintro e w5 ⟨rfl, rfl⟩
        have HWr := Lib.hid (HB4.out.trans (HB.out.below (by omega) (by omega)))
        have hhf := FeedS_hf (by decide) HF.out
        cases hdn : sa.done
        · go_wp2_with fail
          refine (Done_any wr _ _ _ HAX.out).mono ?_
          rintro e w5 ⟨rfl, rfl⟩
          rw [hdn]
          go_wp2
          go_ret
          exact ⟨rfl, HWr.out⟩
        · go_wp2_with fail
          refine (Done_any wr _ _ _ HAX.out).mono ?_
          rintro e w5 ⟨rfl, rfl⟩
          rw [hdn]
          go_wp2_with fail
          refine (Head_any wr _ _ _ HAX.out (by omega)).mono ?_
          rintro e w6 ⟨v6, rfl, ho6, hb6⟩
          have HX6 := Lib.hid (HX.out.below hb6)
          go_wp2_with fail
          refine (Head_any w6 _ _ _ HX6.out (by omega)).mono ?_
          rintro e w7 ⟨v7, rfl, ho7, hb7⟩
          have HS := Lib.hid (SameHead_same sa.hs ⟨sa.hr.toArray⟩ v6 v7 sa.hf w7 (.of_own (own_below ho6 hb7)) (.of_own ho7) (by omega))
          have HW7 := Lib.hid ((HWr.out.trans (hb6.mono HWr.out.size)).trans (hb7.mono (Nat.le_trans HWr.out.size hb6.size)))
          clear ho6 ho7 hb6 hb7
          go_wp2_with fail
          refine HS.out.mono ?_
          rintro e w8 ⟨rfl, hb8⟩
          have HW8 := Lib.hid (HW7.out.trans (hb8.mono HW7.out.size))
          go_wp2
          go_ret
          exact ⟨rfl, HW8.out⟩
      · rw [errV_pos hea]
        have HTr := Lib.hid (HT4.out.but HB.out hGB hGb)
        have HWr := Lib.hid (HB4.out.trans (HB.out.below (by omega) (by omega)))
        have HCo : Hid (∀ W : World, ErrT W → Calls Tryz.prog 9 #[.iface 38 (.int .i64 ea)] W fun e w' => e = .returned (.int .i64 ea) ∧ Below W.heap.size W w') := Lib.hid fun W h => code_num ea W h
        clear hgo
        by_cases hks : k < s.size
        all_goals
          go_wp2_with fail
          refine (HCo.out wr HTr.out).mono ?_
          rintro e w5 ⟨rfl, hb5⟩
          have HT5 := Lib.hid (HTr.out.below hb5)
          have HW5 := Lib.hid (HWr.out.trans (hb5.mono HWr.out.size))
          clear hb5
          go_wp2_with fail
          refine (HCo.out w5 HT5.out).mono ?_
          rintro e w6 ⟨rfl, hb6⟩
          have HW6 := Lib.hid (HW5.out.trans (hb6.mono HW5.out.size))
          clear hb6
          go_wp2
          go_ret
          exact ⟨rfl, HW6.out⟩
end Go.Proofs.YtfbpiknckjgfnaaGreatDoor
