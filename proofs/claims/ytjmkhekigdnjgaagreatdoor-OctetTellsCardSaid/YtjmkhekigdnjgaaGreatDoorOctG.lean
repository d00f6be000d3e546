/-
  Package octet: List: what commas part, without blanks at the ends, without what is empty then.
-/
import Derived.Test.YtjmkhekigdnjgaaGreatDoorOctF
namespace Go.Proofs.YtjmkhekigdnjgaaGreatDoor
open Go.RowKit Go.Shelf

/-- What is known of the package-level variables. -/
structure Env (w : World) : Prop where
  maxLen : ∃ m : Int, w.cell? ⟨1, 0, none⟩ = some (.int .i64 m)
theorem Env.below {w w' : World} (h : Env w) (hb : Below w.heap.size w w') : Env w' := by
  obtain ⟨m, hm⟩ := h.maxLen
  exact ⟨⟨m, (hb.cell (World.block_lt_of_cell? w _ hm)).trans hm⟩⟩

theorem own_base {w : World} {B B' : Nat} {e : TypeId} {sz n : Nat} {v : Value} {xs : List Value} (h : w.ownsRow B e sz v n xs) (hB : B' ≤ B) : w.ownsRow B' e sz v n xs := by
  refine ⟨h.1, ?_⟩
  rcases h.2 with h1 | ⟨g, cap, cur, h1, h2, h3⟩
  · exact .inl h1
  · exact .inr ⟨g, cap, cur, h1, Nat.le_trans hB h2, h3⟩

def commasL : List UInt8 → List (List UInt8)
  | [] => [[]]
  | c :: r => if c = 44 then [] :: commasL r else match commasL r with
    | [] => [[c]]
    | h :: t => (c :: h) :: t
theorem commasL_ne (l : List UInt8) : commasL l ≠ [] := by
  cases l with
  | nil => simp [commasL]
  | cons c r =>
    unfold commasL
    split
    · simp
    · split <;> simp
theorem splitK_commas : ∀ (l : List UInt8) (k : Nat), Lib.count l [44] = k → Lib.splitK [44] 0 k l = commasL l
  | [], k, h => by
    rw [Lib.count_one] at h
    subst h
    rfl
  | c :: r, k, h => by
    by_cases hc : c = 44
    · subst hc
      rw [Lib.count_cons_eq] at h
      subst h
      rw [Nat.add_comm]
      have e : Lib.index (44 :: r) [44] = 0 := by simp [Lib.index, List.isPrefixOf]
      unfold Lib.splitK commasL
      rw [e]
      simp [splitK_commas r _ rfl]
    · rw [Lib.count_cons_ne _ _ _ hc] at h
      have ih := splitK_commas r k h
      unfold commasL
      rw [if_neg hc, ← ih]
      have hp : ([44] : List UInt8).isPrefixOf (c :: r) = false := by simp [List.isPrefixOf, Ne.symm hc]
      have hix : Lib.index (c :: r) [44] = if Lib.index r [44] == -1 then -1 else Lib.index r [44] + 1 := by rw [Lib.index, hp]; simp
      cases k with
      | zero => rfl
      | succ k =>
        unfold Lib.splitK
        rw [hix]
        by_cases hm : Lib.index r [44] = -1
        · simp [hm]
        · have hge := Lib.index_ge r [44]
          obtain ⟨j, hj⟩ : ∃ j : Nat, Lib.index r [44] = j := ⟨(Lib.index r [44]).toNat, by omega⟩
          rw [hj]
          have h1 : ((j : Int) == -1) = false := by rw [beq_eq_false_iff_ne]; omega
          have h2 : ((j : Int) + 1 == -1) = false := by rw [beq_eq_false_iff_ne]; omega
          have e1 : ((j : Int) + 1).toNat = j + 1 := by omega
          simp [h1, h2, e1]
theorem pieces_eq (s : ByteArray) : (Lib.splitB ⟨#[44]⟩ 0 (Lib.countB s ⟨#[44]⟩) s).map Value.string = strVals (commasL s.data.toList) := by
  rw [← splitK_commas s.data.toList _ rfl]
  have e := Lib.splitB_data ⟨#[44]⟩ 0 (Lib.countB s ⟨#[44]⟩) s
  have hc : Lib.countB s ⟨#[44]⟩ = Lib.count s.data.toList [44] := rfl
  rw [hc] at e ⊢
  have e' : (Lib.splitB ⟨#[44]⟩ 0 (Lib.count s.data.toList [44]) s).map (·.data.toList) = Lib.splitK [44] 0 (Lib.count s.data.toList [44]) s.data.toList := e
  rw [← e']
  simp [strVals, strVal]

/-- The words. -/
def listL (l : List UInt8) : List (List UInt8) := ((commasL l).map trimL).filter fun x => !x.isEmpty
/-- A result that is a slice of texts of the call's own. -/
def OwnsStrs (w : World) (ls : List (List UInt8)) (e : Ending) (w' : World) : Prop := ∃ v, e = .returned v ∧ w'.ownsRow w.heap.size 9 1 v ls.length (strVals ls) ∧ Below w.heap.size w w'
theorem listTo_step (ps : List (List UInt8)) (k : Nat) (h : k < ps.length) :
    ((ps.take (k + 1)).map trimL).filter (fun x => !x.isEmpty) = ((ps.take k).map trimL).filter (fun x => !x.isEmpty) ++ (if (trimL ps[k]).isEmpty then [] else [trimL ps[k]]) := by
  rw [List.take_succ_eq_append_getElem h, List.map_append, List.filter_append]
  congr 1
  cases hq : (trimL ps[k]).isEmpty <;> simp [hq]
theorem trimS_len (l cs : List UInt8) : (Lib.trimS l cs).length ≤ l.length := by
  unfold Lib.trimS Lib.trimLeftS Lib.trimRightS
  have h1 := List.IsSuffix.length_le (List.dropWhile_suffix (l := (List.dropWhile (fun x => cs.contains x) l.reverse).reverse) (fun x => cs.contains x))
  have h2 := List.IsSuffix.length_le (List.dropWhile_suffix (l := l.reverse) (fun x => cs.contains x))
  simp only [List.length_reverse] at h1 h2
  omega
theorem commasL_len (l : List UInt8) : (commasL l).length ≤ l.length + 1 := by
  induction l with
  | nil => simp [commasL]
  | cons c r ih =>
    unfold commasL
    split
    · simp; omega
    · split
      · simp
      · rename_i h t e
        rw [e] at ih
        simp at ih ⊢; omega
theorem commasL_part (l : List UInt8) : ∀ p ∈ commasL l, p.length ≤ l.length := by
  induction l with
  | nil => simp [commasL]
  | cons c r ih =>
    unfold commasL
    split
    · intro p hp
      rcases List.mem_cons.1 hp with rfl | hp
      · simp
      · have := ih p hp; simp; omega
    · split
      · intro p hp; simp at hp; subst hp; simp
      · rename_i h t e
        rw [e] at ih
        intro p hp
        rcases List.mem_cons.1 hp with rfl | hp
        · have := ih h (.head _); simp; omega
        · have := ih p (.tail _ hp); simp; omega

set_option maxHeartbeats 2000000 in
set_option maxRecDepth 100000 in
theorem List_any (s : ByteArray) (w : World) (hE : Env w) (hs : s.size < 4294967281) :
    Calls Tryz.prog 21 #[.string s] w (OwnsStrs w (listL s.data.toList)) := by
  obtain ⟨m, hm⟩ := hE.maxLen
  have c0 := Any.strings_Split Tryz.laysSplit Tryz.infoStr s ⟨#[44]⟩ m w hs hm (by decide)
  rw [pieces_eq s] at c0
  have hlen : Lib.countB s ⟨#[44]⟩ + 1 = (commasL s.data.toList).length := by
    have := Lib.splitB_all ⟨#[44]⟩ (by decide) 0 _ s rfl
    have e := congrArg List.length (pieces_eq s)
    rw [List.length_map, strVals_length, this] at e
    exact e
  rw [hlen] at c0
  have HC : Hid (Calls Tryz.prog 39 #[.string s, .string ⟨#[44]⟩] w fun e w' =>
      e = .returned (.slice (some ⟨w.heap.size, 0, none⟩) (commasL s.data.toList).length (commasL s.data.toList).length) ∧ w.alloc (.cells (strVals (commasL s.data.toList)).toArray 9) = w') := Lib.hid (c0.mono fun _ _ ⟨a, b⟩ => ⟨a, b.symm⟩)
  have hpart := commasL_part s.data.toList
  have hcnt := commasL_len s.data.toList
  rw [len_eq] at hpart hcnt
  obtain ⟨R, hR⟩ : ∃ R, R = listL s.data.toList := ⟨_, rfl⟩
  rw [← hR]
  unfold listL at hR
  clear c0 hlen hm
  generalize commasL s.data.toList = ps at HC hpart hcnt hR
  have HP := Lib.hid hpart; clear hpart
  have HR := Lib.hid hR; clear hR
  have h63 : ps.length ≤ 9223372036854775807 := by omega
  obtain ⟨W1, hW1⟩ : ∃ W1, W1 = w.alloc (.cells (strVals ps).toArray 9) := ⟨_, rfl⟩
  rw [← hW1] at HC
  have hcell : Hid (∀ (wr : World), Below (w.heap.size + 1) W1 wr → ∀ (k : Nat) (h : k < ps.length), wr.cell? ⟨w.heap.size, k, none⟩ = some (.string ⟨ps[k].toArray⟩)) := Lib.hid fun wr hb k h => by
    rw [hb.cell (by simp), hW1, cell_of_row _ w.heap.size k _ _ _ (heap_alloc_new w _)]
    rw [List.getElem?_toArray, strVals_at ps k h]
    rfl
  have HW : Hid (Below w.heap.size w W1 ∧ W1.heap.size = w.heap.size + 1) := Lib.hid (by rw [hW1]; exact ⟨(Below.refl _ _).alloc (Nat.le_refl _) _, by simp⟩)
  clear hW1 hE
  go_enter Tryz.func21, Tryz.ntmps21
  go_wp2_with (go_at_call 39; refine HC.out.mono ?_; rintro e w' ⟨rfl, rfl⟩)
  go_loopw [3, 9] (fun v i wr => ∃ (k : Nat) (t : List (List UInt8)), k ≤ ps.length ∧ t.length ≤ k ∧ i = .int .i64 k ∧ Hid (wr.ownsRow (w.heap.size + 1) 9 1 v t.length (strVals t)) ∧ Hid (Below (w.heap.size + 1) W1 wr) ∧
      Hid (t = ((ps.take k).map trimL).filter (fun x => !x.isEmpty))) (fun _ i _ => ps.length - (intOf i).toNat)
  case atStart => exact ⟨0, [], Nat.zero_le _, Nat.le_refl _, rfl, World.ownsRow_nil _ _ _ _, Below.refl _ _, rfl⟩
  case round =>
    obtain ⟨k, t, hk, ht, rfl, HO, HB, HT⟩ := hrel
    have hsz : w.heap.size + 1 ≤ wr.heap.size := by have := HB.out.size; rw [HW.out.2] at this; exact this
    by_cases hlt : k < ps.length
    · have hc := hcell.out wr HB.out k hlt
      have hst := listTo_step ps k hlt
      have hpl := HP.out ps[k] (List.getElem_mem hlt)
      rw [← HT.out] at hst
      generalize ps[k] = p at hc hst hpl
      have HTr : Hid (∀ W : World, Calls Tryz.prog 15 #[.string ⟨p.toArray⟩] W fun e w' => e = .returned (.string ⟨(trimL p).toArray⟩) ∧ Below W.heap.size W w') := Lib.hid fun W => by
        have := Trim_any ⟨p.toArray⟩ W (by unfold maxLen; show p.toArray.size ≤ _; simp; omega)
        simpa using this
      cases hq : trimL p with
      | nil =>
        rw [hq] at hst HTr
        have HS : Hid (((ps.take (k + 1)).map trimL).filter (fun x => !x.isEmpty) = t) := Lib.hid (by rw [hst]; simp)
        clear hst hq hpl
        go_wp2_with (go_at_call 15; refine (HTr.out _).mono ?_; rintro e w1 ⟨rfl, hb1⟩; have HB1 := Lib.hid hb1; clear hb1)
        go_roundw
        case rel => exact ⟨k + 1, t, by omega, by omega, by go_num, Lib.hid (own_below HO.out HB1.out), Lib.hid (HB.out.trans (HB1.out.mono hsz)), Lib.hid HS.out.symm⟩
        case measure => simp [intOf]; omega
      | cons c q =>
        rw [hq] at hst HTr
        have HS : Hid (((ps.take (k + 1)).map trimL).filter (fun x => !x.isEmpty) = t ++ [c :: q]) := Lib.hid (by rw [hst]; simp)
        have hne : (⟨(c :: q).toArray⟩ : ByteArray).toList.isEmpty = false := by rw [ByteArray.toList_eq]; rfl
        clear hst hq hpl
        go_wp2_with (first
          | (go_at_call 15; refine (HTr.out _).mono ?_; rintro e w1 ⟨rfl, hb1⟩; have HB1 := Lib.hid hb1; have hz1 := hb1.size; clear hb1)
          | (at_builtin; refine app_strs rfl _ _ rfl (w.heap.size + 1) t [c :: q] _ rfl ((own_below HO.out HB1.out).alloc _) ⟨_, 0, none⟩ 1 1 rfl rfl (cell_one_new _ _ _) (by simp; omega) (by simp; omega) ?_; intro v' w2 hown' hg' hb' _; have HO2 := Lib.hid hown'; have HB2 := Lib.hid hb'; clear hown' hg' hb'))
        go_roundw
        case rel => exact ⟨k + 1, t ++ [c :: q], by omega, by simp; omega, by go_num, HO2, Lib.hid (((HB.out.trans (HB1.out.mono hsz)).alloc (Nat.le_trans hsz hz1) _).trans HB2.out), Lib.hid HS.out.symm⟩
        case measure => simp [intOf]; omega
    · have hT := HT.out
      rw [List.take_of_length_le (by omega), ← HR.out] at hT
      have HT2 := Lib.hid hT; clear hT
      go_wp2
      go_ret
      exact ⟨_, rfl, by rw [← HT2.out]; exact own_base HO.out (by omega), HW.out.1.trans (HB.out.mono (by omega))⟩
end Go.Proofs.YtjmkhekigdnjgaaGreatDoor
