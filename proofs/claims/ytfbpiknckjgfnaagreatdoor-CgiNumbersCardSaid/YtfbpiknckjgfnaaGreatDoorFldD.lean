/-
  Package field: Get, Drop: what they answer.
-/
import Derived.Test.YtfbpiknckjgfnaaGreatDoorFldC
namespace Go.Proofs.YtfbpiknckjgfnaaGreatDoor
open Go.RowKit Go.Shelf

/-- Pairs as cells. -/
abbrev Pr := List UInt8 × List UInt8
def pairVals : List Pr → List Value
  | [] => []
  | p :: l => strVal p.1 :: strVal p.2 :: pairVals l
theorem pairVals_length (l : List Pr) : (pairVals l).length = l.length * 2 := by
  induction l with
  | nil => rfl
  | cons p l ih => simp only [pairVals, List.length_cons, ih]; omega
theorem pairVals_append (a b : List Pr) : pairVals (a ++ b) = pairVals a ++ pairVals b := by
  induction a with
  | nil => rfl
  | cons p l ih => simp only [List.cons_append, pairVals, ih]
theorem pairVals_at (l : List Pr) : ∀ (j : Nat) (h : j < l.length), (pairVals l)[j * 2]? = some (strVal l[j].1) ∧ (pairVals l)[j * 2 + 1]? = some (strVal l[j].2) := by
  induction l with
  | nil => intro j h; simp at h
  | cons p l ih =>
    intro j h
    cases j with
    | zero => exact ⟨rfl, rfl⟩
    | succ j =>
      have := ih j (by simpa using h)
      rw [show (j + 1) * 2 = j * 2 + 2 by omega]
      exact this
theorem pairVals_one (l : List Pr) : ∀ u ∈ pairVals l, u.oneCell' = true := by
  induction l with
  | nil => intro u h; cases h
  | cons p l ih =>
    intro u h
    simp only [pairVals, List.mem_cons] at h
    rcases h with rfl | rfl | h
    · rfl
    · rfl
    · exact ih u h
theorem Tryz.infoPair : (Tryz.prog.info? 60).map (fun i => (i.zero, i.size, i.bytes)) = some (some (.agg #[.string ByteArray.empty, .string ByteArray.empty]), 2, 32) := by kernel_rfl

/-- append of pairs to a slice of pairs that the call owns. -/
theorem app_pairs {ops : Array Oper} {rest : List Oper} {o : Oper} {a : Act} {Q : Exit → Act → World → Prop} {w : World} (hgd : o.guard = none) (s x : Operand)
    (ho : o.op = .call { callee := .builtin .append, args := #[s, x], argTypes := #[32, 32] }) (B : Nat) (l news : List Pr) (v : Value) (hs : a.eval s = v)
    (hown : w.ownsRow B 60 2 v l.length (pairVals l)) (ad : Addr) (m c : Nat) (hx : a.eval x = .slice (some ad) m c) (hm : m = news.length)
    (hnews : ∀ j u, (pairVals news)[j]? = some u → w.cell? (ad.add j) = some u) (hlen : l.length + news.length ≤ 1000000) (hB : B ≤ w.heap.size)
    (h : ∀ v' w', w'.ownsRow B 60 2 v' (l ++ news).length (pairVals (l ++ news)) → w.grownBy w' v.ownBlock → Below B w w' → (v'.ownBlock = v.ownBlock ∨ v'.ownBlock = some w.heap.size) → wpList Tryz.prog ops Q rest (a.put o.dst v') w') :
    wpList Tryz.prog ops Q (o :: rest) a w := by
  obtain ⟨i, hi, hz0, hz1, hz2⟩ := info_parts Tryz.infoPair
  subst hm
  refine wpList_append_own_at w hgd s x 32 ho B 60 i (.agg #[.string ByteArray.empty, .string ByteArray.empty]) 2 32 Tryz.underlying32 hi hz0 hz1 hz2 rfl (by decide) v l.length (pairVals l) hs hown ad news.length c (pairVals news) hx
    (by rw [pairVals_length]) hnews (pairVals_one news) (by unfold maxLen; omega) (by omega) hB fun v' w' h1 h2 _ h4 => ?_
  rw [← pairVals_append, ← List.length_append] at h1
  exact h v' w' h1 h2 (below_of_grown hown hB h2) h4

/-- A slice of pairs that can be read. -/
def PairsAt (w : World) (v : Value) (l : List Pr) : Prop :=
  (v = .slice none 0 0 ∧ l = []) ∨ ∃ g cap, v = .slice (some ⟨g, 0, none⟩) l.length cap ∧ g < w.heap.size ∧ ∀ j u, (pairVals l)[j]? = some u → w.cell? ⟨g, j, none⟩ = some u
theorem PairsAt.of_own {w : World} {B : Nat} {v : Value} {l : List Pr} (h : w.ownsRow B 60 2 v l.length (pairVals l)) : PairsAt w v l := by
  rcases h.2 with ⟨rfl, h0⟩ | ⟨g, cap, cur, rfl, hb, hg, hn, hm, hc, ht⟩
  · exact .inl ⟨rfl, List.length_eq_zero_iff.1 h0⟩
  · refine .inr ⟨g, cap, rfl, (h.lt g rfl).2, fun j u hj => ?_⟩
    have hlt : j < l.length * 2 := by
      rw [← pairVals_length]
      rcases Nat.lt_or_ge j (pairVals l).length with q | q
      · exact q
      · rw [List.getElem?_eq_none q] at hj; cases hj
    rw [h.cellAt j hlt, hj]

/-- A result that is a slice of texts of the call's own. -/
def OwnsStrs (w : World) (ls : List (List UInt8)) (e : Ending) (w' : World) : Prop := ∃ v, e = .returned v ∧ w'.ownsRow w.heap.size 9 1 v ls.length (strVals ls) ∧ Below w.heap.size w w'
/-- A result that is a slice of pairs of the call's own. -/
def OwnsPairs (w : World) (ls : List Pr) (e : Ending) (w' : World) : Prop := ∃ v, e = .returned v ∧ w'.ownsRow w.heap.size 60 2 v ls.length (pairVals ls) ∧ Below w.heap.size w w'
/-- The values of a name. -/
def getL (nm : List UInt8) (l : List Pr) : List (List UInt8) := (l.filter fun p => sameB p.1 nm).map (·.2)
/-- The fields of other names. -/
def dropL (nm : List UInt8) (l : List Pr) : List Pr := l.filter fun p => !sameB p.1 nm
theorem getL_snoc (nm : List UInt8) (l : List Pr) (p : Pr) : getL nm (l ++ [p]) = getL nm l ++ (if sameB p.1 nm = true then [p.2] else []) := by
  unfold getL
  rw [List.filter_append, List.map_append]
  congr 1
  cases h : sameB p.1 nm <;> simp [h]
theorem dropL_snoc (nm : List UInt8) (l : List Pr) (p : Pr) : dropL nm (l ++ [p]) = dropL nm l ++ (if sameB p.1 nm = true then [] else [p]) := by
  unfold dropL
  rw [List.filter_append]
  congr 1
  cases h : sameB p.1 nm <;> simp [h]
theorem getL_le (nm : List UInt8) (l : List Pr) : (getL nm l).length ≤ l.length := by unfold getL; rw [List.length_map]; exact List.length_filter_le _ _
theorem dropL_le (nm : List UInt8) (l : List Pr) : (dropL nm l).length ≤ l.length := List.length_filter_le _ _
theorem take_snocP (l : List Pr) (k : Nat) (h : k < l.length) : l.take (k + 1) = l.take k ++ [l[k]] := by rw [List.take_succ_eq_append_getElem h]

theorem cell_two_new (w : World) (x y : Value) (t : TypeId) : ∀ j u, [x, y][j]? = some u → (w.alloc (.cells #[x, y] t)).cell? ((⟨w.heap.size, 0, none⟩ : Addr).add j) = some u := by
  intro j u hj
  match j, hj with
  | 0, hj => simp at hj; subst hj; simp [Addr.add]
  | 1, hj => simp at hj; subst hj; simp [Addr.add]

set_option maxHeartbeats 4000000 in
set_option maxRecDepth 100000 in
theorem Get_any (v : Value) (l : List Pr) (nm : ByteArray) (w : World) (hl : PairsAt w v l) (hn : nm.size ≤ maxLen) (hsz : ∀ p ∈ l, p.1.length ≤ 4096) (hlen : l.length ≤ 100000) :
    Calls Tryz.prog 59 #[v, .string nm] w (OwnsStrs w (getL nm.data.toList l)) := by
  obtain ⟨R, hR⟩ : ∃ R, R = getL nm.data.toList l := ⟨_, rfl⟩
  rw [← hR]
  have HR := Lib.hid hR; clear hR
  rcases hl with ⟨rfl, rfl⟩ | ⟨g, cap, rfl, hg, hc⟩
  · go_enter Tryz.func59, Tryz.ntmps59
    go_wp2
    refine wp_loop_rounds 1 ?_
    rw [rounds_succ]
    go_wp2
    go_ret
    exact ⟨_, rfl, by rw [HR.out]; exact World.ownsRow_nil _ _ _ _, Below.refl _ _⟩
  · have HC := Lib.hid hc; clear hc
    have HSz := Lib.hid hsz; clear hsz
    go_enter Tryz.func59, Tryz.ntmps59
    go_wp2
    go_loopw [5, 10] (fun out i wr => ∃ k : Nat, k ≤ l.length ∧ i = .int .i64 k ∧ Hid (wr.ownsRow w.heap.size 9 1 out (getL nm.data.toList (l.take k)).length (strVals (getL nm.data.toList (l.take k)))) ∧ Hid (Below w.heap.size w wr)) (fun _ i _ => l.length - (intOf i).toNat)
    case atStart => exact ⟨0, Nat.zero_le _, rfl, Lib.hid (World.ownsRow_nil _ _ _ _), Lib.hid (Below.refl _ _)⟩
    case round =>
      obtain ⟨k, hk, rfl, HO, HB⟩ := hrel
      have hsz := HB.out.size
      by_cases hlt : k < l.length
      · have hc1 : wr.cell? ⟨g, k * 2, none⟩ = some (.string ⟨l[k].1.toArray⟩) := by rw [below_cell HB.out _ hg]; exact HC.out _ _ (pairVals_at l k hlt).1
        have hc2 : wr.cell? ⟨g, k * 2 + 1, none⟩ = some (.string ⟨l[k].2.toArray⟩) := by rw [below_cell HB.out _ hg]; exact HC.out _ _ (pairVals_at l k hlt).2
        have HS : Hid (∀ W : World, Calls Tryz.prog 73 #[.string ⟨l[k].1.toArray⟩, .string nm] W fun e w' => e = .returned (.bool (sameB l[k].1 nm.data.toList)) ∧ Below W.heap.size W w') := Lib.hid fun W =>
          same_any ⟨l[k].1.toArray⟩ nm W (by have := HSz.out _ (List.getElem_mem hlt); unfold maxLen; show l[k].1.toArray.size ≤ _; simp; omega) hn
        have hT := getL_snoc nm.data.toList (l.take k) l[k]
        rw [← take_snocP l k hlt] at hT
        have hle : (getL nm.data.toList (l.take k)).length ≤ 100000 := by have := getL_le nm.data.toList (l.take k); rw [List.length_take] at this; omega
        generalize (⟨l[k].1.toArray⟩ : ByteArray) = p1 at hc1 HS
        obtain ⟨p2, hp2⟩ : ∃ p2, p2 = l[k].2 := ⟨_, rfl⟩
        rw [← hp2] at hc2 hT
        clear hp2
        cases hb : sameB l[k].1 nm.data.toList
        · rw [hb] at hT HS
          rw [if_neg (by decide), List.append_nil] at hT
          clear hb
          have HT := Lib.hid hT; clear hT
          go_wp2_with fail
          refine (HS.out _).mono ?_; rintro e w1 ⟨rfl, hb1⟩; have hz1 : w.heap.size ≤ w1.heap.size := by have := hb1.size; simp at this; omega
          have HB1 := Lib.hid (((HB.out.alloc hsz (.cells #[.string p1, .string ⟨p2.toArray⟩] 60))).trans (hb1.mono (by simp; omega)))
          have HO1 := Lib.hid (own_below (HO.out.alloc (.cells #[.string p1, .string ⟨p2.toArray⟩] 60)) hb1)
          clear hb1
          go_wp2
          go_roundw
          case rel => exact ⟨k + 1, by omega, by go_num, by rw [HT.out]; exact HO1, HB1⟩
          case measure => simp [intOf]; omega
        · rw [hb] at hT HS
          rw [if_pos rfl] at hT
          clear hb
          have HT := Lib.hid hT; clear hT
          go_wp2_with fail
          refine (HS.out _).mono ?_; rintro e w1 ⟨rfl, hb1⟩; have hz1 : w.heap.size ≤ w1.heap.size := by have := hb1.size; simp at this; omega
          have HB1 := Lib.hid (((HB.out.alloc hsz (.cells #[.string p1, .string ⟨p2.toArray⟩] 60))).trans (hb1.mono (by simp; omega)))
          have HO1 := Lib.hid (own_below (HO.out.alloc (.cells #[.string p1, .string ⟨p2.toArray⟩] 60)) hb1)
          have hc3 : w1.cell? ⟨wr.heap.size, 1, none⟩ = some (.string ⟨p2.toArray⟩) := by rw [below_cell hb1 _ (by simp)]; simp
          clear hb1
          go_wp2_with (at_builtin; refine app_strs rfl _ _ rfl w.heap.size _ [p2] _ rfl (HO1.out.alloc _) ⟨_, 0, none⟩ 1 1 rfl rfl (cell_one_new _ _ _) (by simp; omega) (by simp; omega) ?_; intro v' w2 hown' hg' hb' _; have HO2 := Lib.hid hown'; have HB2 := Lib.hid hb'; clear hown' hg' hb')
          go_roundw
          case rel => exact ⟨k + 1, by omega, by go_num, by rw [HT.out]; exact HO2, Lib.hid ((HB1.out.alloc (by omega) _).trans HB2.out)⟩
          case measure => simp [intOf]; omega
      · have HT : Hid (R = getL nm.data.toList (l.take k)) := Lib.hid (by rw [HR.out, List.take_of_length_le (by omega)])
        go_wp2
        go_ret
        exact ⟨_, rfl, by rw [HT.out]; exact HO.out, HB.out⟩
set_option maxHeartbeats 4000000 in
set_option maxRecDepth 100000 in
theorem Drop_any (v : Value) (l : List Pr) (nm : ByteArray) (w : World) (hl : PairsAt w v l) (hn : nm.size ≤ maxLen) (hsz : ∀ p ∈ l, p.1.length ≤ 4096) (hlen : l.length ≤ 100000) :
    Calls Tryz.prog 60 #[v, .string nm] w (OwnsPairs w (dropL nm.data.toList l)) := by
  obtain ⟨R, hR⟩ : ∃ R, R = dropL nm.data.toList l := ⟨_, rfl⟩
  rw [← hR]
  have HR := Lib.hid hR; clear hR
  rcases hl with ⟨rfl, rfl⟩ | ⟨g, cap, rfl, hg, hc⟩
  · go_enter Tryz.func60, Tryz.ntmps60
    go_wp2
    refine wp_loop_rounds 1 ?_
    rw [rounds_succ]
    go_wp2
    go_ret
    exact ⟨_, rfl, by rw [HR.out]; exact World.ownsRow_nil _ _ _ _, Below.refl _ _⟩
  · have HC := Lib.hid hc; clear hc
    have HSz := Lib.hid hsz; clear hsz
    go_enter Tryz.func60, Tryz.ntmps60
    go_wp2
    go_loopw [5, 10] (fun out i wr => ∃ k : Nat, k ≤ l.length ∧ i = .int .i64 k ∧ Hid (wr.ownsRow w.heap.size 60 2 out (dropL nm.data.toList (l.take k)).length (pairVals (dropL nm.data.toList (l.take k)))) ∧ Hid (Below w.heap.size w wr)) (fun _ i _ => l.length - (intOf i).toNat)
    case atStart => exact ⟨0, Nat.zero_le _, rfl, Lib.hid (World.ownsRow_nil _ _ _ _), Lib.hid (Below.refl _ _)⟩
    case round =>
      obtain ⟨k, hk, rfl, HO, HB⟩ := hrel
      have hsz := HB.out.size
      by_cases hlt : k < l.length
      · have hc1 : wr.cell? ⟨g, k * 2, none⟩ = some (.string ⟨l[k].1.toArray⟩) := by rw [below_cell HB.out _ hg]; exact HC.out _ _ (pairVals_at l k hlt).1
        have hc2 : wr.cell? ⟨g, k * 2 + 1, none⟩ = some (.string ⟨l[k].2.toArray⟩) := by rw [below_cell HB.out _ hg]; exact HC.out _ _ (pairVals_at l k hlt).2
        have HS : Hid (∀ W : World, Calls Tryz.prog 73 #[.string ⟨l[k].1.toArray⟩, .string nm] W fun e w' => e = .returned (.bool (sameB l[k].1 nm.data.toList)) ∧ Below W.heap.size W w') := Lib.hid fun W =>
          same_any ⟨l[k].1.toArray⟩ nm W (by have := HSz.out _ (List.getElem_mem hlt); unfold maxLen; show l[k].1.toArray.size ≤ _; simp; omega) hn
        have hT := dropL_snoc nm.data.toList (l.take k) l[k]
        rw [← take_snocP l k hlt] at hT
        have hle : (dropL nm.data.toList (l.take k)).length ≤ 100000 := by have := dropL_le nm.data.toList (l.take k); rw [List.length_take] at this; omega
        generalize hq : l[k] = q at hc1 hc2 HS hT
        clear hq
        obtain ⟨p1, p2⟩ := q
        simp only at hc1 hc2 HS hT
        cases hb : sameB p1 nm.data.toList
        · rw [hb] at hT HS
          rw [if_neg (by decide)] at hT
          clear hb
          have HT := Lib.hid hT; clear hT
          go_wp2_with fail
          refine (HS.out _).mono ?_; rintro e w1 ⟨rfl, hb1⟩; have hz1 : w.heap.size ≤ w1.heap.size := by have := hb1.size; simp at this; omega
          have HB1 := Lib.hid (((HB.out.alloc hsz (.cells #[.string ⟨p1.toArray⟩, .string ⟨p2.toArray⟩] 60))).trans (hb1.mono (by simp; omega)))
          have HO1 := Lib.hid (own_below (HO.out.alloc (.cells #[.string ⟨p1.toArray⟩, .string ⟨p2.toArray⟩] 60)) hb1)
          have hc3 : w1.cell? ⟨wr.heap.size, 0, none⟩ = some (.string ⟨p1.toArray⟩) := by rw [below_cell hb1 _ (by simp)]; simp
          have hc4 : w1.cell? ⟨wr.heap.size, 1, none⟩ = some (.string ⟨p2.toArray⟩) := by rw [below_cell hb1 _ (by simp)]; simp
          clear hb1
          go_wp2_with (at_builtin; refine app_pairs rfl _ _ rfl w.heap.size _ [(p1, p2)] _ rfl (HO1.out.alloc _) ⟨_, 0, none⟩ 1 1 rfl rfl (cell_two_new _ _ _ _) (by simp; omega) (by simp; omega) ?_; intro v' w2 hown' hg' hb' _; have HO2 := Lib.hid hown'; have HB2 := Lib.hid hb'; clear hown' hg' hb')
          go_roundw
          case rel => exact ⟨k + 1, by omega, by go_num, by rw [HT.out]; exact HO2, Lib.hid ((HB1.out.alloc (by omega) _).trans HB2.out)⟩
          case measure => simp [intOf]; omega
        · rw [hb] at hT HS
          rw [if_pos rfl, List.append_nil] at hT
          clear hb
          have HT := Lib.hid hT; clear hT
          go_wp2_with fail
          refine (HS.out _).mono ?_; rintro e w1 ⟨rfl, hb1⟩; have hz1 : w.heap.size ≤ w1.heap.size := by have := hb1.size; simp at this; omega
          have HB1 := Lib.hid (((HB.out.alloc hsz (.cells #[.string ⟨p1.toArray⟩, .string ⟨p2.toArray⟩] 60))).trans (hb1.mono (by simp; omega)))
          have HO1 := Lib.hid (own_below (HO.out.alloc (.cells #[.string ⟨p1.toArray⟩, .string ⟨p2.toArray⟩] 60)) hb1)
          clear hb1
          go_wp2
          go_roundw
          case rel => exact ⟨k + 1, by omega, by go_num, by rw [HT.out]; exact HO1, HB1⟩
          case measure => simp [intOf]; omega
      · have HT : Hid (R = dropL nm.data.toList (l.take k)) := Lib.hid (by rw [HR.out, List.take_of_length_le (by omega)])
        go_wp2
        go_ret
        exact ⟨_, rfl, by rw [HT.out]; exact HO.out, HB.out⟩
end Go.Proofs.YtfbpiknckjgfnaaGreatDoor
