/-
  Package cgi: ends: what it answers and leaves.
-/
import Derived.Test.YtfbpiknckjgfnaaGreatDoorCgiB
namespace Go.Proofs.YtfbpiknckjgfnaaGreatDoor
open Go.RowKit Go.Shelf

/-- append of pairs as a step of a region that draws. -/
theorem step_app_pairs {ops : Array Oper} {o : Oper} {a : Act} {K : Act → World → Prop} {Q : Exit → Act → World → Prop} {E : Prop} {w : World} (hgd : o.guard = none) (s x : Operand)
    (ho : o.op = .call { callee := .builtin .append, args := #[s, x], argTypes := #[32, 32] }) (B : Nat) (l news : List Pr) (v : Value) (hs : a.eval s = v)
    (hown : w.ownsRow B 60 2 v l.length (pairVals l)) (ad : Addr) (m c : Nat) (hx : a.eval x = .slice (some ad) m c) (hm : m = news.length)
    (hnews : ∀ j u, (pairVals news)[j]? = some u → w.cell? (ad.add j) = some u) (hlen : l.length + news.length ≤ 1000000) (hB : B ≤ w.heap.size)
    (h : ∀ v' w', w'.ownsRow B 60 2 v' (l ++ news).length (pairVals (l ++ news)) → w.grownBy w' v.ownBlock → Below B w w' → K (a.put o.dst v') w') :
    if Region.wanted o (yielded ops a.tmps) = true then Oper.wp Tryz.prog o a w K Q else E := by
  have hw : Region.wanted o (yielded ops a.tmps) = true := by simp [Region.wanted, hgd]
  rw [if_pos hw]
  obtain ⟨i, hi, hz0, hz1, hz2⟩ := info_parts Tryz.infoPair
  subst hm
  obtain ⟨v', w', hr, h2, h3, _, _⟩ := run_append_own_at (P := Tryz.prog) w B 32 o.type 60 i (.agg #[.string ByteArray.empty, .string ByteArray.empty]) 2 32 Tryz.underlying32 hi hz0 hz1 hz2 rfl (by decide) v l.length (pairVals l) hown ad news.length c (pairVals news)
    (by rw [pairVals_length]) hnews (pairVals_one news) (by unfold maxLen; omega) (by omega) hB
  unfold Oper.wp execOp
  simp only [ho, resolve, invoke, builtin, Sem.run_bind, Sem.run_pure, Result.andThen_ok, List.map_toArray, List.map_cons, List.map_nil, hs, hx, hr]
  rw [← pairVals_append, ← List.length_append] at h2
  exact h v' w' h2 h3 (below_of_grown hown hB h3)

/-- What is wrong with a line: 0, 10, 12. -/
def parseC (l : List UInt8) : Int :=
  if (Lib.cut l [58]).2.2 = false ∨ nameC (Lib.cut l [58]).1 = 10 ∨ valueC (lineV l) = 10 then 10 else if nameC (Lib.cut l [58]).1 ≠ 0 ∨ valueC (lineV l) ≠ 0 then 12 else 0
/-- Its pair. -/
def parseP (l : List UInt8) : Pr := if parseC l = 0 then ((Lib.cut l [58]).1, lineV l) else ([], [])
theorem Parse_said (s : ByteArray) (w : World) (hs : s.size < 4294967281) (hE : Env w) :
    Calls Tryz.prog 43 #[.string s] w fun e w' => e = .returned (.tuple #[.agg #[.string ⟨(parseP s.data.toList).1.toArray⟩, .string ⟨(parseP s.data.toList).2.toArray⟩], errV (parseC s.data.toList)]) ∧ Below w.heap.size w w' := by
  refine (Parse_any s w hs hE).mono fun e w' h => ⟨?_, h.2⟩
  rw [h.1]
  unfold parseV parseP parseC
  split
  · rfl
  · split
    · rfl
    · rfl
theorem parseP_small (l : List UInt8) (h : parseC l = 0) : (parseP l).1.length ≤ 64 ∧ (parseP l).2.length ≤ 512 := by
  unfold parseP
  rw [if_pos h]
  unfold parseC at h
  split at h
  · cases h
  · split at h
    · cases h
    · rename_i h1 h2
      simp only [not_or, Decidable.not_not] at h2
      obtain ⟨a, b⟩ := h2
      unfold nameC at a
      unfold valueC at b
      constructor
      · show (Lib.cut l [58]).1.length ≤ 64
        split at a
        · split at a
          · cases a
          · omega
        · cases a
      · show (lineV l).length ≤ 512
        split at b
        · split at b
          · cases b
          · omega
        · cases b

/-- A line without the byte 13 at its end. -/
def cutCR (l : List UInt8) : List UInt8 := Lib.trimSuffix l [13]
theorem cutCR_le (l : List UInt8) : (cutCR l).length ≤ l.length := by
  unfold cutCR Lib.trimSuffix
  split
  · rw [List.length_take]; omega
  · omega
/-- What ends leaves, and answers: 0, 10, 12. -/
def endsS (st : CgiS) : CgiS × Int :=
  match cutCR st.line with
  | [] => wholeS { st with line := [] }
  | c :: r =>
    if c = 32 ∨ c = 9 then ({ st with line := [] }, 10)
    else if parseC (c :: r) = 0 then
      if 32 ≤ st.fields.length then ({ st with line := [] }, 12) else ({ st with line := [], fields := st.fields ++ [parseP (c :: r)] }, 0)
    else ({ st with line := [] }, parseC (c :: r))

theorem own_apart {w : World} {B B' : Nat} {e e' : TypeId} {sz sz' n n' : Nat} {v v' : Value} {xs xs' : List Value} (h : w.ownsRow B e sz v n xs) (h' : w.ownsRow B' e' sz' v' n' xs') (he : e ≠ e') : v.ownBlock = none ∨ v.ownBlock ≠ v'.ownBlock := by
  rcases h.2 with ⟨rfl, _⟩ | ⟨g, cap, cur, rfl, _, hg, _⟩
  · exact .inl rfl
  · exact .inr fun q => own_ne h' hg he q.symm
theorem grown_cells {W w4 : World} {B p : Nat} {st : CgiS} {vl vf vh : Value} (h : Rep W B p st vl vf vh) {v : Value} {e : TypeId} {sz n B' : Nat} {xs : List Value} (ho : W.ownsRow B' e sz v n xs) (he : 49 ≠ e) (hg : W.grownBy w4 v.ownBlock) : w4.heap[p]? = some (.cells (cgiCells st vl vf vh) 49 (0, 0)) := by
  rw [hg.block p h.lt (fun q => own_ne ho h.cells he q.symm)]; exact h.cells
/-- The fields grow. -/
theorem Rep.growF {W w4 : World} {B p : Nat} {st : CgiS} {vl vf vh v' : Value} {l' : List Pr} (h : Rep W B p st vl vf vh) (hd : st.done = false) (hg : W.grownBy w4 vf.ownBlock) (ho : w4.ownsRow B 60 2 v' l'.length (pairVals l')) (hn : st.hf = []) :
    Rep (w4.setCell ⟨p, 3, none⟩ v') B p { st with fields := l' } vl v' vh := by
  have hc := grown_cells h h.fields (by decide) hg
  refine ⟨by rw [heap_setCell_same w4 p 3 _ _ v' hc]; rfl, own_set (h.line.kept hg (own_apart h.line h.fields (by decide))) hc (by decide) _ _, own_set ho hc (by decide) _ _, ?_, by simpa using Nat.le_trans h.size hg.size, h.nh⟩
  rw [h.nh hd]
  show (w4.setCell ⟨p, 3, none⟩ v').ownsRow B 60 2 (.slice none 0 0) st.hf.length (pairVals st.hf)
  rw [hn]
  exact World.ownsRow_nil _ _ _ _
/-- The line grows. -/
theorem Rep.growL {W w4 : World} {B p : Nat} {st : CgiS} {vl vf vh v' : Value} {l' : List UInt8} (h : Rep W B p st vl vf vh) (hg : W.grownBy w4 vl.ownBlock) (ho : w4.ownsRow B 5 1 v' l'.length (byteVals l')) :
    Rep (w4.setCell ⟨p, 2, none⟩ v') B p { st with line := l' } v' vf vh := by
  have hc := grown_cells h h.line (by decide) hg
  exact ⟨by rw [heap_setCell_same w4 p 2 _ _ v' hc]; rfl, own_set ho hc (by decide) _ _, own_set (h.fields.kept hg (own_apart h.fields h.line (by decide))) hc (by decide) _ _, own_set (h.head.kept hg (own_apart h.head h.line (by decide))) hc (by decide) _ _, by simpa using Nat.le_trans h.size hg.size, h.nh⟩

theorem cell_two_drew (w : World) (x y : Value) (o : Obj) (t : TypeId) : ∀ j u, [x, y][j]? = some u → ((w.alloc o).alloc (.cells #[x, y] t)).drew.cell? ((⟨w.heap.size + 1, 0, none⟩ : Addr).add j) = some u := by
  intro j u hj
  have e : w.heap.size + 1 = (w.alloc o).heap.size := by simp
  rw [e]
  exact cell_two_new (w.alloc o) x y t j u hj

/-- The reader as it lies somewhere. -/
def RepX (w : World) (B p : Nat) (st : CgiS) : Prop := ∃ vl vf vh, Rep w B p st vl vf vh

theorem TrimSuffix_cr (s : ByteArray) (w : World) (hs : s.size ≤ 9223372036854775807) :
    Calls Tryz.prog 41 #[.string s, .string ⟨#[13]⟩] w fun e w' => e = .returned (.string ⟨(cutCR s.data.toList).toArray⟩) ∧ w' = w :=
  Any.strings_TrimSuffix Tryz.laysTrimSuffix s ⟨#[13]⟩ w hs

set_option maxHeartbeats 8000000 in
set_option maxRecDepth 100000 in
theorem ends_any (w : World) (B p : Nat) (st : CgiS) (h : RepX w B p st) (hd : st.done = false) (hn : st.hf = []) (hE : Env w) (hBp : 1 ≠ p) (hS : SmallF st.fields) (hL : st.line.length ≤ 4000000) :
    Calls Tryz.prog 30 #[.pointer (some ⟨p, 0, none⟩)] w fun e w' => e = .returned (errV (endsS st).2) ∧ RepX w' B p (endsS st).1 ∧ But B p w w' := by
  obtain ⟨vl, vf, vh, h⟩ := h
  obtain ⟨o2, c2, rfl⟩ := own_slice h.fields
  have hp := h.lt
  have hB := h.size
  have hcv := conv_bytes h.line
  have HT := Lib.hid (TrimSuffix_cr ⟨st.line.toArray⟩ w (by show st.line.toArray.size ≤ _; simp; omega))
  have hcl := cutCR_le st.line
  have hc2 : w.cell? ⟨p, 2, none⟩ = some vl := h.at 2
  have hz2 := h.frozen 2
  have hEd : (⟨st.line.toArray⟩ : ByteArray).data.toList = st.line := rfl
  rw [hEd] at HT
  clear hEd
  -- behind 'r.line = nil'
  obtain ⟨W, hW⟩ : ∃ W, W = w.setCell ⟨p, 2, none⟩ (.slice none 0 0) := ⟨_, rfl⟩
  have h1 : Rep W B p { st with line := [] } (.slice none 0 0) (.slice o2 st.fields.length c2) vh := by rw [hW]; exact h.set 2 _ rfl (World.ownsRow_nil _ _ _ _) h.fields h.head h.nh
  have hE1 : Env W := by
    obtain ⟨m, hm⟩ := hE.maxLen
    refine ⟨⟨m, ?_⟩⟩
    rw [hW]
    rw [← hm]
    exact World.cell?_of_block (heap_setCell_other w ⟨p, 2, none⟩ _ _ hBp)
  have hb1 : But B p w W := by rw [hW]; exact (But.refl _ _ _).set _ _
  have H1 := Lib.hid h1
  have HE1 := Lib.hid hE1
  have HB1 := Lib.hid hb1
  have hp1 : p < W.heap.size := h1.lt
  have hBW : B ≤ W.heap.size := h1.size
  clear hE1 hb1
  obtain ⟨R, hR⟩ : ∃ R, R = endsS st := ⟨_, rfl⟩
  rw [← hR]
  unfold endsS at hR
  cases hc : cutCR st.line with
  | nil =>
    rw [hc] at hR HT
    simp only at hR
    have HW := Lib.hid (whole_any W B p { st with line := [] } (.slice none 0 0) (.slice o2 st.fields.length c2) vh h1 HE1.out hS)
    rw [← hR] at HW
    clear hR hc h h1
    go_enter Tryz.func30, Tryz.ntmps30
    go_wp2_with fail
    refine HT.out.mono ?_
    rintro e w1 ⟨rfl, rfl⟩
    go_wp2_with fail
    rw [← hW]
    refine HW.out.mono ?_
    rintro e w2 ⟨rfl, ⟨vh', hR2⟩, hb2⟩
    go_wp2
    go_ret
    exact ⟨rfl, ⟨_, _, vh', hR2⟩, HB1.out.trans hb2⟩
  | cons c r =>
    rw [hc] at hR HT
    simp only at hR
    have hlen : (c :: r).length ≤ 4000000 := by rw [← hc]; omega
    have HP : Hid (∀ W : World, Env W → Calls Tryz.prog 43 #[.string ⟨(c :: r).toArray⟩] W fun e w' => e = .returned (.tuple #[.agg #[.string ⟨(parseP (c :: r)).1.toArray⟩, .string ⟨(parseP (c :: r)).2.toArray⟩], errV (parseC (c :: r))]) ∧ Below W.heap.size W w') := Lib.hid fun W hW =>
      Parse_said ⟨(c :: r).toArray⟩ W (by show (c :: r).toArray.size < _; simp at hlen ⊢; omega) hW
    generalize parseP (c :: r) = pp at hR HP
    generalize parseC (c :: r) = pc at hR HP
    have hne : (⟨(c :: r).toArray⟩ : ByteArray).toList.isEmpty = false := by rw [ByteArray.toList_eq]; rfl
    have hpos : 0 < (⟨(c :: r).toArray⟩ : ByteArray).size := by show 0 < (c :: r).toArray.size; simp
    have hby : ((⟨(c :: r).toArray⟩ : ByteArray)[0]'hpos) = c := rfl
    have hcn : ∀ k : UInt8, c = k ↔ (c.toNat : Int) = (k.toNat : Int) := fun k => ⟨fun e => by rw [e], fun e => UInt8.toNat_inj.1 (by omega)⟩
    have hc32 := hcn 32
    have hc9 := hcn 9
    rw [show (((32 : UInt8).toNat : Nat) : Int) = 32 from rfl] at hc32
    rw [show (((9 : UInt8).toNat : Nat) : Int) = 9 from rfl] at hc9
    clear hcn hcl hlen
    simp only [hc32, hc9] at hR
    clear hc32 hc9 hc
    generalize (⟨(c :: r).toArray⟩ : ByteArray) = L at hne hpos hby HT HP
    subst hby
    clear h h1
    by_cases q1 : (L[0].toNat : Int) = 32
    · rw [if_pos (.inl q1)] at hR
      subst hR
      have hq : ((L[0].toNat : Int) == 32) = true := by rw [beq_iff_eq]; exact q1
      go_enter Tryz.func30, Tryz.ntmps30
      go_wp2_with fail
      refine HT.out.mono ?_
      rintro e w1 ⟨rfl, rfl⟩
      go_wp2
      rw [← hW]
      go_ret
      exact ⟨rfl, ⟨_, _, _, H1.out⟩, HB1.out⟩
    by_cases q2 : (L[0].toNat : Int) = 9
    · rw [if_pos (.inr q2)] at hR
      subst hR
      have hq : ((L[0].toNat : Int) == 32) = false := by rw [beq_eq_false_iff_ne]; exact q1
      have hq2 : ((L[0].toNat : Int) == 9) = true := by rw [beq_iff_eq]; exact q2
      go_enter Tryz.func30, Tryz.ntmps30
      go_wp2_with fail
      refine HT.out.mono ?_
      rintro e w1 ⟨rfl, rfl⟩
      go_wp2
      rw [← hW]
      go_ret
      exact ⟨rfl, ⟨_, _, _, H1.out⟩, HB1.out⟩
    rw [if_neg (by rintro (e | e) <;> omega)] at hR
    have hq : ((L[0].toNat : Int) == 32) = false := by rw [beq_eq_false_iff_ne]; exact q1
    have hq2 : ((L[0].toNat : Int) == 9) = false := by rw [beq_eq_false_iff_ne]; exact q2
    by_cases h3 : pc = 0
    · subst h3
      rw [if_pos rfl] at hR
      rw [errV_zero] at HP
      by_cases h4 : 32 ≤ st.fields.length
      · rw [if_pos h4] at hR
        subst hR
        go_enter Tryz.func30, Tryz.ntmps30
        go_wp2_with fail
        refine HT.out.mono ?_
        rintro e w1 ⟨rfl, rfl⟩
        go_wp2_with fail
        rw [← hW]
        refine (HP.out W HE1.out).mono ?_
        rintro e w2 ⟨rfl, hb2⟩
        have HR2 := Lib.hid (H1.out.below hb2)
        have HB2 := Lib.hid (HB1.out.step hb2 hB)
        have hz2' := hb2.size
        clear hb2
        have f3 : w2.cell? ⟨p, 3, none⟩ = some (.slice o2 st.fields.length c2) := HR2.out.at 3
        have hp2 := HR2.out.lt
        have h4i : (32 : Int) ≤ (st.fields.length : Int) := by omega
        generalize st.fields.length = nf at f3 h4i
        go_wp2
        go_ret
        exact ⟨rfl, ⟨_, _, _, HR2.out.below ((Below.refl _ _).alloc (Nat.le_refl _) _)⟩, HB2.out.step ((Below.refl _ _).alloc (Nat.le_refl _) _) hB⟩
      · rw [if_neg h4] at hR
        subst hR
        go_enter Tryz.func30, Tryz.ntmps30
        go_wp2_with fail
        refine HT.out.mono ?_
        rintro e w1 ⟨rfl, rfl⟩
        go_wp2_with fail
        rw [← hW]
        refine (HP.out W HE1.out).mono ?_
        rintro e w2 ⟨rfl, hb2⟩
        have HR2 := Lib.hid (H1.out.below hb2)
        have HB2 := Lib.hid (HB1.out.step hb2 hB)
        have hz2' := hb2.size
        clear hb2
        have f3 : w2.cell? ⟨p, 3, none⟩ = some (.slice o2 st.fields.length c2) := HR2.out.at 3
        have zf3 := HR2.out.frozen 3
        have hp2 := HR2.out.lt
        have h4i : ¬ (32 : Int) ≤ (st.fields.length : Int) := by omega
        go_wp2
        have hb3 : Below w2.heap.size w2 ((w2.alloc (.cells #[.string ⟨pp.1.toArray⟩, .string ⟨pp.2.toArray⟩] 60)).alloc (.cells #[.string ⟨pp.1.toArray⟩, .string ⟨pp.2.toArray⟩] 60)).drew := (((Below.refl _ _).alloc (Nat.le_refl _) _).alloc (by simp) _).drew
        have HR3 := Lib.hid (HR2.out.below hb3)
        have HB3 := Lib.hid (HB2.out.step hb3 hB)
        clear hb3
        go_region_law (refine step_app_pairs rfl _ _ rfl B st.fields [pp] _ rfl HR3.out.fields ⟨w2.heap.size + 1, 0, none⟩ 1 1 rfl rfl (cell_two_drew _ _ _ _ _) (by simp; omega) HR3.out.size ?_; intro v' w4 hown' hg' hb'; obtain ⟨o5, c5, rfl⟩ := own_slice hown'; have f34 := cell_of_row w4 p 3 _ _ _ (grown_cells HR3.out HR3.out.fields (by decide) hg'); have z34 := frozen_of_row w4 p 3 _ _ (grown_cells HR3.out HR3.out.fields (by decide) hg'); simp [cgiCells] at f34; have HO := Lib.hid hown'; have HG := Lib.hid hg'; have HB := Lib.hid hb'; clear hown' hg' hb')
        all_goals
          go_wp2
          go_ret
          exact ⟨rfl, ⟨_, _, _, Rep.growF (l' := st.fields ++ [pp]) HR3.out hd HG.out (by have q := HO.out; rw [List.length_append] at q ⊢; exact q) hn⟩, (HB3.out.trans (.of HB.out)).set _ _⟩
    · rw [if_neg h3] at hR
      subst hR
      rw [errV_pos h3] at HP ⊢
      have hE2 : ∀ W : World, (binOp .eql 27 (.iface 38 (.int .i64 pc)) .nilIface).run Tryz.prog W = .ok (.bool false) W := fun W => run_eql_iface_nil_right W _ _ Tryz.underlying27
      go_enter Tryz.func30, Tryz.ntmps30
      go_wp2_with fail
      refine HT.out.mono ?_
      rintro e w1 ⟨rfl, rfl⟩
      go_wp2_with fail
      rw [← hW]
      refine (HP.out W HE1.out).mono ?_
      rintro e w2 ⟨rfl, hb2⟩
      have HR2 := Lib.hid (H1.out.below hb2)
      have HB2 := Lib.hid (HB1.out.step hb2 hB)
      have hz2' := hb2.size
      clear hb2
      go_wp2
      go_ret
      exact ⟨rfl, ⟨_, _, _, HR2.out.below ((Below.refl _ _).alloc (Nat.le_refl _) _)⟩, HB2.out.step ((Below.refl _ _).alloc (Nat.le_refl _) _) hB⟩
end Go.Proofs.YtfbpiknckjgfnaaGreatDoor
