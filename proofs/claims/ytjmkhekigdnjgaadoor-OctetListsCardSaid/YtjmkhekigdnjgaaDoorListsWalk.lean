/-
  OctetLists: the plain law (words joined with commas and blanks are told again), and the walk.
-/
import Derived.Test.YtjmkhekigdnjgaaDoorLaw1A
import Derived.Test.YtjmkhekigdnjgaaDoorLaw1B
import Derived.Test.YtjmkhekigdnjgaaDoorFrame
namespace Go.Proofs.YtjmkhekigdnjgaaDoor
open Go.RowKit Go.Shelf

/-! ### Joining, plainly -/
def wordC (c : UInt8) : List UInt8 := if c.toNat % 5 = 0 then [97] else if c.toNat % 5 = 1 then [] else if c.toNat % 5 = 2 then [98, 32, 99] else if c.toNat % 5 = 3 then [100] else [32]
def preC (c : UInt8) : List UInt8 := if c.toNat / 5 % 3 = 0 then [] else if c.toNat / 5 % 3 = 1 then [32] else [9]
def postC (c : UInt8) : List UInt8 := if c.toNat / 15 % 2 = 0 then [] else [32]
def pieceC (c : UInt8) : List UInt8 := preC c ++ wordC c ++ postC c
def joinL : List UInt8 → List UInt8
  | [] => []
  | [c] => pieceC c
  | c :: d :: r => pieceC c ++ 44 :: joinL (d :: r)
def wantL (l : List UInt8) : List (List UInt8) := (l.filter fun c => !(wordC c).isEmpty && wordC c != [32]).map wordC
theorem piece_fact (c : UInt8) : 44 ∉ pieceC c ∧ trimL (pieceC c) = (if !(wordC c).isEmpty && wordC c != [32] then wordC c else []) := by
  have key : ∀ n : Fin 256, (!(pieceC (UInt8.ofNat n.val)).contains 44 && trimL (pieceC (UInt8.ofNat n.val)) == (if !(wordC (UInt8.ofNat n.val)).isEmpty && wordC (UInt8.ofNat n.val) != [32] then wordC (UInt8.ofNat n.val) else [])) = true := by decide +kernel
  have := key ⟨c.toNat, c.toNat_lt⟩
  rw [show UInt8.ofNat c.toNat = c from UInt8.ofNat_toNat] at this
  rw [Bool.and_eq_true] at this
  exact ⟨by simpa using this.1, eq_of_beq this.2⟩
theorem commasL_cons (c : UInt8) (r : List UInt8) : commasL (c :: r) = if c = 44 then [] :: commasL r else match commasL r with | [] => [[c]] | h :: t => (c :: h) :: t := rfl
theorem commas_piece (p : List UInt8) (h : 44 ∉ p) : commasL p = [p] := by
  induction p with
  | nil => rfl
  | cons c r ih =>
    simp only [List.mem_cons, not_or] at h
    rw [commasL_cons, if_neg (Ne.symm h.1), ih h.2]
theorem commas_cons (p l : List UInt8) (h : 44 ∉ p) : commasL (p ++ 44 :: l) = p :: commasL l := by
  induction p with
  | nil => simp [commasL]
  | cons c r ih =>
    simp only [List.mem_cons, not_or] at h
    show commasL (c :: (r ++ 44 :: l)) = _
    rw [commasL_cons, if_neg (Ne.symm h.1), ih h.2]
theorem listL_one (c : UInt8) : ([trimL (pieceC c)] : List (List UInt8)).filter (fun x => !x.isEmpty) = wantL [c] := by
  rw [(piece_fact c).2]
  unfold wantL
  cases h : (!(wordC c).isEmpty && wordC c != [32])
  · simp [h]
  · rw [Bool.and_eq_true] at h
    have h1 : (wordC c).isEmpty = false := by simpa using h.1
    simp [h1, h.2]
theorem list_join (l : List UInt8) (hne : l ≠ []) : listL (joinL l) = wantL l := by
  match l, hne with
  | [c], _ =>
    unfold listL joinL
    rw [commas_piece _ (piece_fact c).1]
    exact listL_one c
  | c :: d :: r, _ =>
    have ih := list_join (d :: r) (by simp)
    unfold listL at ih ⊢
    unfold joinL
    rw [commas_cons _ _ (piece_fact c).1, List.map_cons]
    have e : (trimL (pieceC c) :: List.map trimL (commasL (joinL (d :: r)))) = [trimL (pieceC c)] ++ List.map trimL (commasL (joinL (d :: r))) := rfl
    rw [e, List.filter_append, listL_one, ih]
    unfold wantL
    rw [← List.map_append, ← List.filter_append]
    rfl
theorem join_snoc (l : List UInt8) (c : UInt8) : joinL (l ++ [c]) = (if l = [] then [] else joinL l ++ [44]) ++ pieceC c := by
  match l with
  | [] => simp [joinL]
  | [a] => simp [joinL]
  | a :: b :: r =>
    have ih := join_snoc (b :: r) c
    simp only [List.cons_append] at ih ⊢
    unfold joinL
    rw [if_neg (by simp)] at ih ⊢
    rw [ih]
    simp
theorem want_snoc (l : List UInt8) (c : UInt8) : wantL (l ++ [c]) = wantL l ++ (if !(wordC c).isEmpty && wordC c != [32] then [wordC c] else []) := by
  unfold wantL
  rw [List.filter_append, List.map_append]
  congr 1
  cases h : (!(wordC c).isEmpty && wordC c != [32]) <;> simp [h]
theorem piece_len (c : UInt8) : (pieceC c).length ≤ 5 := by
  unfold pieceC preC wordC postC
  simp only [List.length_append]
  (repeat' split) <;> simp
theorem join_len (l : List UInt8) : (joinL l).length ≤ 6 * l.length := by
  match l with
  | [] => simp [joinL]
  | [c] => have := piece_len c; simp [joinL]; omega
  | c :: d :: r =>
    have ih := join_len (d :: r)
    have := piece_len c
    simp [joinL] at ih ⊢; omega
theorem want_len (l : List UInt8) : (wantL l).length ≤ l.length := by
  unfold wantL
  rw [List.length_map]
  exact List.length_filter_le _ _

/-! ### The arrays of texts -/
theorem at5 (c : UInt8) (W : World) : (Instr.index 37 (.agg #[.string ⟨#[97]⟩, .string ⟨#[]⟩, .string ⟨#[98, 32, 99]⟩, .string ⟨#[100]⟩, .string ⟨#[32]⟩]) (.int .u8 ((c.toNat : Int) % 5))).run Tryd.prog W = .ok (.string ⟨(wordC c).toArray⟩) W := by
  have h : c.toNat % 5 = 0 ∨ c.toNat % 5 = 1 ∨ c.toNat % 5 = 2 ∨ c.toNat % 5 = 3 ∨ c.toNat % 5 = 4 := by omega
  rcases h with h | h | h | h | h
  · have e : (c.toNat : Int) % 5 = 0 := by omega
    have hw : wordC c = [97] := by simp [wordC, h]
    have kk : (Instr.index 37 (.agg #[.string ⟨#[97]⟩, .string ⟨#[]⟩, .string ⟨#[98, 32, 99]⟩, .string ⟨#[100]⟩, .string ⟨#[32]⟩]) (.int .u8 0)).run Tryd.prog W = .ok (.string ⟨#[97]⟩) W := by kernel_rfl
    rw [e, hw]; exact kk
  · have e : (c.toNat : Int) % 5 = 1 := by omega
    have hw : wordC c = [] := by simp [wordC, h]
    have kk : (Instr.index 37 (.agg #[.string ⟨#[97]⟩, .string ⟨#[]⟩, .string ⟨#[98, 32, 99]⟩, .string ⟨#[100]⟩, .string ⟨#[32]⟩]) (.int .u8 1)).run Tryd.prog W = .ok (.string ⟨#[]⟩) W := by kernel_rfl
    rw [e, hw]; exact kk
  · have e : (c.toNat : Int) % 5 = 2 := by omega
    have hw : wordC c = [98, 32, 99] := by simp [wordC, h]
    have kk : (Instr.index 37 (.agg #[.string ⟨#[97]⟩, .string ⟨#[]⟩, .string ⟨#[98, 32, 99]⟩, .string ⟨#[100]⟩, .string ⟨#[32]⟩]) (.int .u8 2)).run Tryd.prog W = .ok (.string ⟨#[98, 32, 99]⟩) W := by kernel_rfl
    rw [e, hw]; exact kk
  · have e : (c.toNat : Int) % 5 = 3 := by omega
    have hw : wordC c = [100] := by simp [wordC, h]
    have kk : (Instr.index 37 (.agg #[.string ⟨#[97]⟩, .string ⟨#[]⟩, .string ⟨#[98, 32, 99]⟩, .string ⟨#[100]⟩, .string ⟨#[32]⟩]) (.int .u8 3)).run Tryd.prog W = .ok (.string ⟨#[100]⟩) W := by kernel_rfl
    rw [e, hw]; exact kk
  · have e : (c.toNat : Int) % 5 = 4 := by omega
    have hw : wordC c = [32] := by simp [wordC, h]
    have kk : (Instr.index 37 (.agg #[.string ⟨#[97]⟩, .string ⟨#[]⟩, .string ⟨#[98, 32, 99]⟩, .string ⟨#[100]⟩, .string ⟨#[32]⟩]) (.int .u8 4)).run Tryd.prog W = .ok (.string ⟨#[32]⟩) W := by kernel_rfl
    rw [e, hw]; exact kk
theorem at3 (c : UInt8) (W : World) : (Instr.index 38 (.agg #[.string ⟨#[]⟩, .string ⟨#[32]⟩, .string ⟨#[9]⟩]) (.int .u8 ((c.toNat : Int) / 5 % 3))).run Tryd.prog W = .ok (.string ⟨(preC c).toArray⟩) W := by
  have h : c.toNat / 5 % 3 = 0 ∨ c.toNat / 5 % 3 = 1 ∨ c.toNat / 5 % 3 = 2 := by omega
  rcases h with h | h | h
  · have e : (c.toNat : Int) / 5 % 3 = 0 := by omega
    have hw : preC c = [] := by simp [preC, h]
    have kk : (Instr.index 38 (.agg #[.string ⟨#[]⟩, .string ⟨#[32]⟩, .string ⟨#[9]⟩]) (.int .u8 0)).run Tryd.prog W = .ok (.string ⟨#[]⟩) W := by kernel_rfl
    rw [e, hw]; exact kk
  · have e : (c.toNat : Int) / 5 % 3 = 1 := by omega
    have hw : preC c = [32] := by simp [preC, h]
    have kk : (Instr.index 38 (.agg #[.string ⟨#[]⟩, .string ⟨#[32]⟩, .string ⟨#[9]⟩]) (.int .u8 1)).run Tryd.prog W = .ok (.string ⟨#[32]⟩) W := by kernel_rfl
    rw [e, hw]; exact kk
  · have e : (c.toNat : Int) / 5 % 3 = 2 := by omega
    have hw : preC c = [9] := by simp [preC, h]
    have kk : (Instr.index 38 (.agg #[.string ⟨#[]⟩, .string ⟨#[32]⟩, .string ⟨#[9]⟩]) (.int .u8 2)).run Tryd.prog W = .ok (.string ⟨#[9]⟩) W := by kernel_rfl
    rw [e, hw]; exact kk
theorem at2 (c : UInt8) (W : World) : (Instr.index 39 (.agg #[.string ⟨#[]⟩, .string ⟨#[32]⟩]) (.int .u8 ((c.toNat : Int) / 15 % 2))).run Tryd.prog W = .ok (.string ⟨(postC c).toArray⟩) W := by
  have h : c.toNat / 15 % 2 = 0 ∨ c.toNat / 15 % 2 = 1 := by omega
  rcases h with h | h
  · have e : (c.toNat : Int) / 15 % 2 = 0 := by omega
    have hw : postC c = [] := by simp [postC, h]
    have kk : (Instr.index 39 (.agg #[.string ⟨#[]⟩, .string ⟨#[32]⟩]) (.int .u8 0)).run Tryd.prog W = .ok (.string ⟨#[]⟩) W := by kernel_rfl
    rw [e, hw]; exact kk
  · have e : (c.toNat : Int) / 15 % 2 = 1 := by omega
    have hw : postC c = [32] := by simp [postC, h]
    have kk : (Instr.index 39 (.agg #[.string ⟨#[]⟩, .string ⟨#[32]⟩]) (.int .u8 1)).run Tryd.prog W = .ok (.string ⟨#[32]⟩) W := by kernel_rfl
    rw [e, hw]; exact kk

theorem word_cases (c : UInt8) : wordC c = [] ∨ wordC c = [32] ∨ wordC c = [97] ∨ wordC c = [98, 32, 99] ∨ wordC c = [100] := by
  unfold wordC
  (repeat' split) <;> simp
theorem cat4 (S : ByteArray) (P X Q : List UInt8) (l : List UInt8) (h : S.data.toList = l) : (S ++ ⟨P.toArray⟩ ++ ⟨X.toArray⟩ ++ ⟨Q.toArray⟩ : ByteArray).data.toList = l ++ (P ++ X ++ Q) := by
  subst h
  simp

theorem own_drewN {w : World} {B : Nat} {e : TypeId} {sz n : Nat} {v : Value} {xs : List Value} (h : w.ownsRow B e sz v n xs) (q : Nat) : (w.drewN q).ownsRow B e sz v n xs := h
set_option maxHeartbeats 16000000 in
set_option maxRecDepth 100000 in
theorem OctetLists_walk (v : Value) (l : List UInt8) (w : World) (hv : BytesArg w v l) (hE : Env w) :
    Calls Tryd.prog 5 #[v] w fun e w' => e = .returned (.bool true) ∧ Below w.heap.size w w' := by
  have HK := Lib.hid (known_true w hE)
  have HE := Lib.hid hE; clear hE
  have hlen := hv.len
  by_cases hbig : 30 < l.length
  · obtain ⟨a, cap, rfl⟩ := hv.shape
    have HV := Lib.hid hv; clear hv
    have hb2 : (30 : Int) < l.length := by omega
    go_enter Tryd.func5, Tryd.ntmps5
    go_wp2_with (go_at_call 7; refine HK.out.mono ?_; rintro e w1 ⟨rfl, hb1⟩)
    go_ret
    exact ⟨rfl, by assumption⟩
  · obtain ⟨a, cap, rfl⟩ := hv.shape
    have HC := Lib.hid hv.cells
    clear hv
    go_enter Tryd.func5, Tryd.ntmps5
    go_wp2_with (go_at_call 7; refine HK.out.mono ?_; rintro e w1 ⟨rfl, hb1⟩; have HB1 := Lib.hid hb1; have hz1 := hb1.size; clear hb1)
    go_loopw [3, 4, 5] (fun vs vw i wr => ∃ (k : Nat) (S : ByteArray), k ≤ l.length ∧ i = .int .i64 k ∧ vs = .string S ∧ Hid (S.data.toList = joinL (l.take k)) ∧
        Hid (wr.ownsRow w.heap.size 9 1 vw (wantL (l.take k)).length (strVals (wantL (l.take k)))) ∧ Hid (Below w.heap.size w wr)) (fun _ _ i _ => l.length - (intOf i).toNat)
    case atStart => exact ⟨0, ⟨#[]⟩, Nat.zero_le _, rfl, rfl, Lib.hid (by simp [joinL]), Lib.hid (World.ownsRow_nil _ _ _ _), HB1⟩
    case round =>
      obtain ⟨k, S, hk, rfl, rfl, HS, HO, HB⟩ := hrel
      have hsz := HB.out.size
      by_cases hlt : k < l.length
      · obtain ⟨b, off, cap', he, hbl, hc⟩ := HC.out (by omega)
        simp only [Value.slice.injEq] at he
        obtain ⟨rfl, _, rfl⟩ := he
        have hcell := (HB.out.cell (p := ⟨b, off + k, none⟩) hbl).trans (hc k hlt)
        have hj := join_snoc (l.take k) (l[k]'hlt)
        have hw := want_snoc (l.take k) (l[k]'hlt)
        have hwl := want_len (l.take k)
        rw [List.length_take] at hwl
        rw [← List.take_succ_eq_append_getElem hlt] at hj hw
        have a5 := at5 (l[k]'hlt)
        have a3 := at3 (l[k]'hlt)
        have a2 := at2 (l[k]'hlt)
        have hcase := word_cases (l[k]'hlt)
        have hP : (preC (l[k]'hlt)).length ≤ 1 := by unfold preC; (repeat' split) <;> simp
        have hQ : (postC (l[k]'hlt)).length ≤ 1 := by unfold postC; (repeat' split) <;> simp
        have hSs : S.size ≤ 180 := by
          have := join_len (l.take k)
          rw [← HS.out, len_eq, List.length_take] at this
          omega
        have c0 : 0 ≤ ((l[k]'hlt).toNat : Int) := by omega
        have c1 : ((l[k]'hlt).toNat : Int) ≤ 255 := by have := (l[k]'hlt).toNat_lt; omega
        have hi0 : (k : Int) < l.length := by omega
        generalize hcc : l[k]'hlt = c at hcell hj hw a5 a3 a2 hcase c0 c1 hP hQ
        clear hcc hc
        unfold pieceC at hj
        have hk0 : l.take k = [] ↔ k = 0 := by
          rw [List.take_eq_nil_iff]
          constructor
          · rintro (h | h)
            · exact h
            · rw [h] at hlt; simp at hlt
          · exact .inl
        generalize wantL (l.take k) = ts at HO hw hwl
        generalize preC c = P at a3 hj hP
        generalize postC c = Q at a2 hj hQ
        generalize wordC c = X at a5 hj hw hcase
        have HJ := Lib.hid hj; have HW := Lib.hid hw; clear hj hw
        have q1 : IntKind.u8.wrap ((c.toNat : Int) / 5) = (c.toNat : Int) / 5 := IntWalk.u8_in _ (by omega)
        have q2 : ((c.toNat : Int) / 5).tmod 3 = (c.toNat : Int) / 5 % 3 := Int.tmod_eq_emod_of_nonneg (by omega)
        have q3 : IntKind.u8.wrap ((c.toNat : Int) / 15) = (c.toNat : Int) / 15 := IntWalk.u8_in _ (by omega)
        have q4 : ((c.toNat : Int) / 15).tmod 2 = (c.toNat : Int) / 15 % 2 := Int.tmod_eq_emod_of_nonneg (by omega)
        by_cases hkz : k = 0
        · have hS0 : Hid (joinL (l.take (k + 1)) = S.data.toList ++ (P ++ X ++ Q)) := Lib.hid (by rw [HJ.out, if_pos (hk0.2 hkz), HS.out, hk0.2 hkz]; simp [joinL])
          have hkz2 : (k : Int) ≤ 0 := by omega
          clear hk0 hkz HS HJ
          rcases hcase with rfl | rfl | rfl | rfl | rfl
          · have HW2 : Hid (wantL (l.take (k + 1)) = ts) := Lib.hid (by rw [HW.out]; simp)
            clear HW
            go_wp2
            go_quiet (fail)
            go_wp2
            all_goals exact ⟨⟨k + 1, _, by omega, by go_num, rfl, Lib.hid (by rw [hS0.out]; simp), Lib.hid (by rw [HW2.out]; exact HO.out), Lib.hid (below_drewN HB.out _)⟩, by simp [intOf]; omega⟩
          · have HW2 : Hid (wantL (l.take (k + 1)) = ts) := Lib.hid (by rw [HW.out]; simp)
            clear HW
            go_wp2
            go_quiet (fail)
            go_wp2
            all_goals exact ⟨⟨k + 1, _, by omega, by go_num, rfl, Lib.hid (by rw [hS0.out]; simp), Lib.hid (by rw [HW2.out]; exact HO.out), Lib.hid (below_drewN HB.out _)⟩, by simp [intOf]; omega⟩
          · have HW2 : Hid (wantL (l.take (k + 1)) = ts ++ [[97]]) := Lib.hid (by rw [HW.out]; simp)
            clear HW
            go_wp2
            go_quiet (fail)
            go_wp2_with (at_builtin; refine app_strs rfl _ _ rfl w.heap.size ts [[97]] _ rfl ((own_drewN HO.out _).alloc _) ⟨_, 0, none⟩ 1 1 rfl rfl (cell_one_new _ _ _) (by simp; omega) (by simp; omega) ?_; intro v' w2 hown' hg' hb' _; have HO2 := Lib.hid hown'; have HB2 := Lib.hid hb'; clear hown' hg' hb')
            all_goals exact ⟨⟨k + 1, _, by omega, by go_num, rfl, Lib.hid (by rw [hS0.out]; simp), Lib.hid (by rw [HW2.out]; exact HO2.out), Lib.hid (((below_drewN HB.out _).alloc hsz _).trans HB2.out)⟩, by simp [intOf]; omega⟩
          · have HW2 : Hid (wantL (l.take (k + 1)) = ts ++ [[98, 32, 99]]) := Lib.hid (by rw [HW.out]; simp)
            clear HW
            go_wp2
            go_quiet (fail)
            go_wp2_with (at_builtin; refine app_strs rfl _ _ rfl w.heap.size ts [[98, 32, 99]] _ rfl ((own_drewN HO.out _).alloc _) ⟨_, 0, none⟩ 1 1 rfl rfl (cell_one_new _ _ _) (by simp; omega) (by simp; omega) ?_; intro v' w2 hown' hg' hb' _; have HO2 := Lib.hid hown'; have HB2 := Lib.hid hb'; clear hown' hg' hb')
            all_goals exact ⟨⟨k + 1, _, by omega, by go_num, rfl, Lib.hid (by rw [hS0.out]; simp), Lib.hid (by rw [HW2.out]; exact HO2.out), Lib.hid (((below_drewN HB.out _).alloc hsz _).trans HB2.out)⟩, by simp [intOf]; omega⟩
          · have HW2 : Hid (wantL (l.take (k + 1)) = ts ++ [[100]]) := Lib.hid (by rw [HW.out]; simp)
            clear HW
            go_wp2
            go_quiet (fail)
            go_wp2_with (at_builtin; refine app_strs rfl _ _ rfl w.heap.size ts [[100]] _ rfl ((own_drewN HO.out _).alloc _) ⟨_, 0, none⟩ 1 1 rfl rfl (cell_one_new _ _ _) (by simp; omega) (by simp; omega) ?_; intro v' w2 hown' hg' hb' _; have HO2 := Lib.hid hown'; have HB2 := Lib.hid hb'; clear hown' hg' hb')
            all_goals exact ⟨⟨k + 1, _, by omega, by go_num, rfl, Lib.hid (by rw [hS0.out]; simp), Lib.hid (by rw [HW2.out]; exact HO2.out), Lib.hid (((below_drewN HB.out _).alloc hsz _).trans HB2.out)⟩, by simp [intOf]; omega⟩
        · have hS0 : Hid (joinL (l.take (k + 1)) = S.data.toList ++ [44] ++ (P ++ X ++ Q)) := Lib.hid (by rw [HJ.out, if_neg (fun e => hkz (hk0.1 e)), HS.out])
          have hkz2 : 0 < (k : Int) := by omega
          clear hk0 hkz HS HJ
          rcases hcase with rfl | rfl | rfl | rfl | rfl
          · have HW2 : Hid (wantL (l.take (k + 1)) = ts) := Lib.hid (by rw [HW.out]; simp)
            clear HW
            go_wp2
            go_quiet (fail)
            go_wp2
            all_goals exact ⟨⟨k + 1, _, by omega, by go_num, rfl, Lib.hid (by rw [hS0.out]; simp), Lib.hid (by rw [HW2.out]; exact HO.out), Lib.hid (below_drewN HB.out _)⟩, by simp [intOf]; omega⟩
          · have HW2 : Hid (wantL (l.take (k + 1)) = ts) := Lib.hid (by rw [HW.out]; simp)
            clear HW
            go_wp2
            go_quiet (fail)
            go_wp2
            all_goals exact ⟨⟨k + 1, _, by omega, by go_num, rfl, Lib.hid (by rw [hS0.out]; simp), Lib.hid (by rw [HW2.out]; exact HO.out), Lib.hid (below_drewN HB.out _)⟩, by simp [intOf]; omega⟩
          · have HW2 : Hid (wantL (l.take (k + 1)) = ts ++ [[97]]) := Lib.hid (by rw [HW.out]; simp)
            clear HW
            go_wp2
            go_quiet (fail)
            go_wp2_with (at_builtin; refine app_strs rfl _ _ rfl w.heap.size ts [[97]] _ rfl ((own_drewN HO.out _).alloc _) ⟨_, 0, none⟩ 1 1 rfl rfl (cell_one_new _ _ _) (by simp; omega) (by simp; omega) ?_; intro v' w2 hown' hg' hb' _; have HO2 := Lib.hid hown'; have HB2 := Lib.hid hb'; clear hown' hg' hb')
            all_goals exact ⟨⟨k + 1, _, by omega, by go_num, rfl, Lib.hid (by rw [hS0.out]; simp), Lib.hid (by rw [HW2.out]; exact HO2.out), Lib.hid (((below_drewN HB.out _).alloc hsz _).trans HB2.out)⟩, by simp [intOf]; omega⟩
          · have HW2 : Hid (wantL (l.take (k + 1)) = ts ++ [[98, 32, 99]]) := Lib.hid (by rw [HW.out]; simp)
            clear HW
            go_wp2
            go_quiet (fail)
            go_wp2_with (at_builtin; refine app_strs rfl _ _ rfl w.heap.size ts [[98, 32, 99]] _ rfl ((own_drewN HO.out _).alloc _) ⟨_, 0, none⟩ 1 1 rfl rfl (cell_one_new _ _ _) (by simp; omega) (by simp; omega) ?_; intro v' w2 hown' hg' hb' _; have HO2 := Lib.hid hown'; have HB2 := Lib.hid hb'; clear hown' hg' hb')
            all_goals exact ⟨⟨k + 1, _, by omega, by go_num, rfl, Lib.hid (by rw [hS0.out]; simp), Lib.hid (by rw [HW2.out]; exact HO2.out), Lib.hid (((below_drewN HB.out _).alloc hsz _).trans HB2.out)⟩, by simp [intOf]; omega⟩
          · have HW2 : Hid (wantL (l.take (k + 1)) = ts ++ [[100]]) := Lib.hid (by rw [HW.out]; simp)
            clear HW
            go_wp2
            go_quiet (fail)
            go_wp2_with (at_builtin; refine app_strs rfl _ _ rfl w.heap.size ts [[100]] _ rfl ((own_drewN HO.out _).alloc _) ⟨_, 0, none⟩ 1 1 rfl rfl (cell_one_new _ _ _) (by simp; omega) (by simp; omega) ?_; intro v' w2 hown' hg' hb' _; have HO2 := Lib.hid hown'; have HB2 := Lib.hid hb'; clear hown' hg' hb')
            all_goals exact ⟨⟨k + 1, _, by omega, by go_num, rfl, Lib.hid (by rw [hS0.out]; simp), Lib.hid (by rw [HW2.out]; exact HO2.out), Lib.hid (((below_drewN HB.out _).alloc hsz _).trans HB2.out)⟩, by simp [intOf]; omega⟩
      · have e : l.take k = l := List.take_of_length_le (by omega)
        rw [e] at HS HO
        have hSs : S.size < 4294967281 := by
          have := join_len l
          rw [← HS.out, len_eq] at this
          omega
        have hL : listL S.data.toList = wantL l := by
          rw [HS.out]
          by_cases hne : l = []
          · subst hne; rfl
          · exact list_join l hne
        have HLi : Hid (Calls Tryd.prog 16 #[.string S] wr (OwnsStrs wr (wantL l))) := Lib.hid (by rw [← hL]; exact List_any S wr (HE.out.below (HB.out)) hSs)
        clear hL hSs e
        go_wp2_with fail
        refine HLi.out.mono ?_; rintro e w2 ⟨v2, rfl, ho2, hb2⟩; have HB2 := Lib.hid (HB.out.trans (hb2.mono hsz)); have hz2 := Nat.le_trans hsz hb2.size; have HO2 := Lib.hid ho2; have HO1 := Lib.hid (own_below HO.out hb2); clear ho2 hb2
        go_wp2_with fail
        refine (same_true HO2.out HO1.out).mono ?_; rintro e w3 ⟨rfl, hb3⟩; have HB3 := Lib.hid (HB2.out.trans (hb3.mono hz2)); clear hb3
        go_wp2
        go_ret
        exact ⟨rfl, HB3.out⟩
end Go.Proofs.YtjmkhekigdnjgaaDoor
