/-
  Package cgi: a reader in memory; whole: what it answers and leaves.
-/
import Derived.Test.YtfbpiknckjgfnaaGreatDoorCgiA
import Derived.OneCell
namespace Go.Proofs.YtfbpiknckjgfnaaGreatDoor
open Go.RowKit Go.Shelf

/-- A reader: how much may be, how much came; the line; the fields; the head's status, reason, fields; whether it is whole, dead. -/
structure CgiS where
  most : Int
  bytes : Int
  line : List UInt8
  fields : List Pr
  hs : Int
  hr : List UInt8
  hf : List Pr
  done : Bool
  dead : Bool
def cgiCells (st : CgiS) (vl vf vh : Value) : Array Value :=
  #[.int .i64 st.most, .int .i64 st.bytes, vl, vf, .int .i64 st.hs, .string ⟨st.hr.toArray⟩, vh, .bool st.done, .bool st.dead]
/-- The reader as it lies in the block p; its rows lie at B or above. -/
structure Rep (w : World) (B p : Nat) (st : CgiS) (vl vf vh : Value) : Prop where
  cells : w.heap[p]? = some (.cells (cgiCells st vl vf vh) 49 (0, 0))
  line : w.ownsRow B 5 1 vl st.line.length (byteVals st.line)
  fields : w.ownsRow B 60 2 vf st.fields.length (pairVals st.fields)
  head : w.ownsRow B 60 2 vh st.hf.length (pairVals st.hf)
  size : B ≤ w.heap.size
  nh : st.done = false → vh = .slice none 0 0
theorem Rep.lt {w : World} {B p : Nat} {st : CgiS} {vl vf vh : Value} (h : Rep w B p st vl vf vh) : p < w.heap.size := by
  rcases Nat.lt_or_ge p w.heap.size with q | q
  · exact q
  · have := h.cells; rw [Array.getElem?_eq_none q] at this; cases this
/-- Behind what turns nothing that was there. -/
theorem Rep.below {w w' : World} {B p : Nat} {st : CgiS} {vl vf vh : Value} (h : Rep w B p st vl vf vh) (hb : Below w.heap.size w w') : Rep w' B p st vl vf vh :=
  ⟨by rw [hb.block _ h.lt]; exact h.cells, own_below h.line hb, own_below h.fields hb, own_below h.head hb, Nat.le_trans h.size hb.size, h.nh⟩

/-- Nothing below B turned but the block p. -/
structure But (B p : Nat) (w w' : World) : Prop where
  os : w'.os = w.os
  tape : w'.tape = w.tape
  output : w'.output = w.output
  size : w.heap.size ≤ w'.heap.size
  block : ∀ k, k < B → k ≠ p → w'.heap[k]? = w.heap[k]?
theorem But.of {B p : Nat} {w w' : World} (h : Below B w w') : But B p w w' := ⟨h.os, h.tape, h.output, h.size, fun k hk _ => h.block k hk⟩
theorem But.refl (B p : Nat) (w : World) : But B p w w := .of (Below.refl _ _)
theorem But.trans {B p : Nat} {a b c : World} (h : But B p a b) (k : But B p b c) : But B p a c :=
  ⟨k.os.trans h.os, k.tape.trans h.tape, k.output.trans h.output, Nat.le_trans h.size k.size, fun j hj hp => (k.block j hj hp).trans (h.block j hj hp)⟩
theorem But.below {B B0 p : Nat} {w w' : World} (h : But B p w w') (hp : B0 ≤ p) (hB : B0 ≤ B) : Below B0 w w' :=
  ⟨h.os, h.tape, h.output, h.size, fun k hk => h.block k (by omega) (by omega)⟩
theorem But.set {B p : Nat} {a w : World} (h : But B p a w) (j : Nat) (u : Value) : But B p a (w.setCell ⟨p, j, none⟩ u) :=
  h.trans ⟨rfl, rfl, rfl, by simp, fun k _ hk => heap_setCell_other w ⟨p, j, none⟩ k u hk⟩
theorem But.step {B p : Nat} {a w w' : World} (h : But B p a w) (hb : Below w.heap.size w w') (hB : B ≤ a.heap.size) : But B p a w' :=
  h.trans (.of (hb.mono (Nat.le_trans hB h.size)))

theorem own_slice {w : World} {B : Nat} {e : TypeId} {sz n : Nat} {v : Value} {xs : List Value} (h : w.ownsRow B e sz v n xs) : ∃ o cap, v = .slice o n cap := by
  rcases h.2 with ⟨rfl, rfl⟩ | ⟨g, cap, cur, rfl, _⟩
  · exact ⟨none, 0, rfl⟩
  · exact ⟨_, _, rfl⟩
theorem own_form {w : World} {B : Nat} {e : TypeId} {sz n : Nat} {v : Value} {xs : List Value} (h : w.ownsRow B e sz v n xs) (hn : 0 < n) : ∃ g cap, v = .slice (some ⟨g, 0, none⟩) n cap ∧ g < w.heap.size := by
  rcases h.2 with ⟨_, h0⟩ | ⟨g, cap, cur, rfl, _⟩
  · omega
  · exact ⟨g, cap, rfl, (h.lt g rfl).2⟩

theorem own_ne {w : World} {B k : Nat} {e t : TypeId} {sz n : Nat} {v : Value} {xs : List Value} {cs : Array Value} {fz : Nat × Nat} (h : w.ownsRow B e sz v n xs) (hk : w.heap[k]? = some (.cells cs t fz)) (ht : t ≠ e) : v.ownBlock ≠ some k := by
  rcases h.2 with ⟨rfl, _⟩ | ⟨g, cap, cur, rfl, _, hg, _⟩
  · simp [Value.ownBlock]
  · intro e
    simp only [Value.ownBlock, Option.some.injEq] at e
    subst e
    rw [hg] at hk
    simp only [Option.some.injEq, Obj.cells.injEq] at hk
    exact ht hk.2.1.symm
theorem own_set {w : World} {B k : Nat} {e t : TypeId} {sz n : Nat} {v : Value} {xs : List Value} {cs : Array Value} {fz : Nat × Nat} (h : w.ownsRow B e sz v n xs) (hk : w.heap[k]? = some (.cells cs t fz)) (ht : t ≠ e) (j : Nat) (u : Value) : (w.setCell ⟨k, j, none⟩ u).ownsRow B e sz v n xs :=
  ownsRow_setCell_other h (a := ⟨k, j, none⟩) (own_ne h hk ht) u
theorem Rep.at {w : World} {B p : Nat} {st : CgiS} {vl vf vh : Value} (h : Rep w B p st vl vf vh) (j : Nat) : w.cell? ⟨p, j, none⟩ = (cgiCells st vl vf vh)[j]? := cell_of_row w p j _ _ _ h.cells
theorem Rep.frozen {w : World} {B p : Nat} {st : CgiS} {vl vf vh : Value} (h : Rep w B p st vl vf vh) (j : Nat) : w.frozen? ⟨p, j, none⟩ = false := frozen_of_row w p j _ _ h.cells
/-- One of its own cells is set. -/
theorem Rep.set {w : World} {B p : Nat} {st st' : CgiS} {vl vf vh vl' vf' vh' : Value} (h : Rep w B p st vl vf vh) (j : Nat) (u : Value) (hc : (cgiCells st vl vf vh).setIfInBounds j u = cgiCells st' vl' vf' vh')
    (h1 : w.ownsRow B 5 1 vl' st'.line.length (byteVals st'.line)) (h2 : w.ownsRow B 60 2 vf' st'.fields.length (pairVals st'.fields)) (h3 : w.ownsRow B 60 2 vh' st'.hf.length (pairVals st'.hf))
    (h4 : st'.done = false → vh' = .slice none 0 0) : Rep (w.setCell ⟨p, j, none⟩ u) B p st' vl' vf' vh' :=
  ⟨by rw [heap_setCell_same w p j _ _ u h.cells, hc], own_set h1 h.cells (by decide) j u, own_set h2 h.cells (by decide) j u, own_set h3 h.cells (by decide) j u, by simpa using h.size, h4⟩
/-- A cell of another variable is set. -/
theorem Rep.other {w : World} {B p : Nat} {st : CgiS} {vl vf vh : Value} (h : Rep w B p st vl vf vh) {k : Nat} {cs : Array Value} {t : TypeId} {fz : Nat × Nat} (hk : w.heap[k]? = some (.cells cs t fz)) (t1 : t ≠ 5) (t2 : t ≠ 60) (t3 : t ≠ 49) (j : Nat) (u : Value) : Rep (w.setCell ⟨k, j, none⟩ u) B p st vl vf vh := by
  have hne : p ≠ k := by
    intro e; subst e
    rw [h.cells] at hk
    simp only [Option.some.injEq, Obj.cells.injEq] at hk
    exact t3 hk.2.1.symm
  exact ⟨by rw [heap_setCell_other w ⟨k, j, none⟩ p u hne]; exact h.cells, own_set h.line hk t1 j u, own_set h.fields hk t2 j u, own_set h.head hk t2 j u, by simpa using h.size, h.nh⟩
/-- The head is laid. -/
theorem Rep.putHead {w : World} {B p : Nat} {st : CgiS} {vl vf vh vh' : Value} (h : Rep w B p st vl vf vh) (n : Int) (r : List UInt8) (hf : List Pr) (ho : w.ownsRow B 60 2 vh' hf.length (pairVals hf)) :
    Rep ((((w.setCell ⟨p, 4, none⟩ (.int .i64 n)).setCell ⟨p, 5, none⟩ (.string ⟨r.toArray⟩)).setCell ⟨p, 6, none⟩ vh').setCell ⟨p, 7, none⟩ (.bool true)) B p { st with hs := n, hr := r, hf := hf, done := true } vl vf vh' := by
  obtain ⟨hc, h1, h2, _, hs, _⟩ := h
  refine ⟨?_, ?_, ?_, ?_, by simpa using hs, fun e => by cases e⟩
  · rw [heap_setCell_same _ p 7 _ _ _ (heap_setCell_same _ p 6 _ _ _ (heap_setCell_same _ p 5 _ _ _ (heap_setCell_same w p 4 _ _ _ hc)))]; rfl
  all_goals
    refine own_set (own_set (own_set (own_set ‹_› hc (by decide) _ _) (heap_setCell_same w p 4 _ _ _ hc) (by decide) _ _) (heap_setCell_same _ p 5 _ _ _ (heap_setCell_same w p 4 _ _ _ hc)) (by decide) _ _) (heap_setCell_same _ p 6 _ _ _ (heap_setCell_same _ p 5 _ _ _ (heap_setCell_same w p 4 _ _ _ hc))) (by decide) _ _

def locName : List UInt8 := [76, 111, 99, 97, 116, 105, 111, 110]
def typName : List UInt8 := [67, 111, 110, 116, 101, 110, 116, 45, 84, 121, 112, 101]
/-- The head is whole: its status, its reason. -/
def CgiS.put (st : CgiS) (n : Int) (r : List UInt8) : CgiS := { st with hs := n, hr := r, hf := dropL statusName st.fields, done := true }
/-- What whole leaves, and answers: 0, 10. -/
def wholeS (st : CgiS) : CgiS × Int :=
  match getL statusName st.fields with
  | _ :: _ :: _ => (st, 10)
  | [s] => if (statusR s).2.2 = 0 then (st.put (statusR s).1 (statusR s).2.1, 0) else (st, (statusR s).2.2)
  | [] => match getL locName st.fields with
    | _ :: _ => (st.put 302 (reasonL 302), 0)
    | [] => match getL typName st.fields with
      | _ :: _ => (st.put 200 (reasonL 200), 0)
      | [] => (st, 10)

/-- The fields are no greater than fields are. -/
def SmallF (l : List Pr) : Prop := (∀ p ∈ l, p.1.length ≤ 64 ∧ p.2.length ≤ 512) ∧ l.length ≤ 32

theorem But.above {B p : Nat} {a w : World} (h : But B p a w) {k : Nat} (hk : B ≤ k) (j : Nat) (u : Value) : But B p a (w.setCell ⟨k, j, none⟩ u) :=
  h.trans ⟨rfl, rfl, rfl, by simp, fun i hi _ => heap_setCell_other w ⟨k, j, none⟩ i u (by show i ≠ k; omega)⟩
theorem fin_put {w w4 : World} {B p k : Nat} {st : CgiS} {vl vf vh v2 : Value} {cs : Array Value} (H : Rep w4 B p st vl vf vh) (hk : w4.heap[k]? = some (.cells cs 34 (0, 0)))
    (ho : w4.ownsRow B 60 2 v2 (dropL statusName st.fields).length (pairVals (dropL statusName st.fields))) (hb : But B p w w4) (hB : B ≤ k) (n : Int) (r : List UInt8) :
    (∃ vh', Rep ((((((w4.setCell ⟨k, 0, none⟩ (.int .i64 n)).setCell ⟨k, 1, none⟩ (.string ⟨r.toArray⟩)).setCell ⟨p, 4, none⟩ (.int .i64 n)).setCell ⟨p, 5, none⟩ (.string ⟨r.toArray⟩)).setCell ⟨p, 6, none⟩ v2).setCell ⟨p, 7, none⟩ (.bool true)) B p (st.put n r) vl vf vh') ∧
      But B p w ((((((w4.setCell ⟨k, 0, none⟩ (.int .i64 n)).setCell ⟨k, 1, none⟩ (.string ⟨r.toArray⟩)).setCell ⟨p, 4, none⟩ (.int .i64 n)).setCell ⟨p, 5, none⟩ (.string ⟨r.toArray⟩)).setCell ⟨p, 6, none⟩ v2).setCell ⟨p, 7, none⟩ (.bool true)) := by
  have hk1 := heap_setCell_same w4 k 0 _ _ (.int .i64 n) hk
  have H1 := (H.other hk (by decide) (by decide) (by decide) 0 (.int .i64 n)).other hk1 (by decide) (by decide) (by decide) 1 (.string ⟨r.toArray⟩)
  have o1 := own_set (own_set ho hk (by decide) 0 (.int .i64 n)) hk1 (by decide) 1 (.string ⟨r.toArray⟩)
  exact ⟨⟨v2, H1.putHead n r _ o1⟩, (((((hb.above hB _ _).above hB _ _).set _ _).set _ _).set _ _).set _ _⟩

set_option maxHeartbeats 8000000 in
set_option maxRecDepth 100000 in
theorem whole_any (w : World) (B p : Nat) (st : CgiS) (vl vf vh : Value) (h : Rep w B p st vl vf vh) (hE : Env w) (hS : SmallF st.fields) :
    Calls Tryz.prog 42 #[.pointer (some ⟨p, 0, none⟩)] w fun e w' => e = .returned (errV (wholeS st).2) ∧ (∃ vh', Rep w' B p (wholeS st).1 vl vf vh') ∧ But B p w w' := by
  have hp := h.lt
  have HG : Hid (∀ (nm : List UInt8) (W : World), nm.length ≤ 100 → Below w.heap.size w W → Calls Tryz.prog 59 #[vf, .string ⟨nm.toArray⟩] W (OwnsStrs W (getL nm st.fields))) := Lib.hid fun nm W hn hb =>
    Get_any vf st.fields ⟨nm.toArray⟩ W (.of_own (own_below h.fields hb)) (by unfold maxLen; show nm.toArray.size ≤ _; simp; omega) (fun q hq => by have := (hS.1 q hq).1; omega) (by have := hS.2; omega)
  have HD : Hid (∀ (W : World), Below w.heap.size w W → Calls Tryz.prog 60 #[vf, .string ⟨statusName.toArray⟩] W (OwnsPairs W (dropL statusName st.fields))) := Lib.hid fun W hb =>
    Drop_any vf st.fields ⟨statusName.toArray⟩ W (.of_own (own_below h.fields hb)) (by unfold maxLen; decide) (fun q hq => by have := (hS.1 q hq).1; omega) (by have := hS.2; omega)
  have hc3 : w.cell? ⟨p, 3, none⟩ = some vf := by rw [cell_of_row w p 3 _ _ _ h.cells]; rfl
  have hB := h.size
  have H := Lib.hid h
  have HE := Lib.hid hE
  clear h hE
  obtain ⟨R, hR⟩ : ∃ R, R = wholeS st := ⟨_, rfl⟩
  rw [← hR]
  unfold wholeS at hR
  have hc0 : ∀ w' : World, But B p w w' → w'.heap[p]? = w.heap[p]? → w'.cell? ⟨p, 3, none⟩ = some vf := fun w' _ he => by rw [cell_of_row w' p 3 _ _ _ (he.trans H.out.cells)]; rfl
  cases hg : getL statusName st.fields with
  | nil =>
    rw [hg] at hR
    simp only at hR
    have HG1 := Lib.hid (HG.out statusName w (by decide) (Below.refl _ _))
    rw [hg] at HG1
    clear hg
    have HGL : Hid (∀ W, Below w.heap.size w W → Calls Tryz.prog 59 #[vf, .string ⟨locName.toArray⟩] W (OwnsStrs W (getL locName st.fields))) := Lib.hid fun W => HG.out locName W (by decide)
    have HGT : Hid (∀ W, Below w.heap.size w W → Calls Tryz.prog 59 #[vf, .string ⟨typName.toArray⟩] W (OwnsStrs W (getL typName st.fields))) := Lib.hid fun W => HG.out typName W (by decide)
    cases hq : getL locName st.fields with
    | cons s l =>
      rw [hq] at hR HGL
      clear hq
      subst hR
      obtain ⟨u, hu⟩ : ∃ u, u = reasonL 302 := ⟨_, rfl⟩
      have HU : Hid (∀ W : World, Calls Tryz.prog 29 #[.int .i64 302] W fun e w' => e = .returned (.string ⟨u.toArray⟩) ∧ W = w') := Lib.hid fun W => by rw [hu]; exact Reason_any 302 W
      rw [← hu]
      clear hu
      go_enter Tryz.func42, Tryz.ntmps42
      go_wp2_with fail
      refine HG1.out.mono ?_
      rintro e w1 ⟨v1, rfl, hown1, hb1⟩
      obtain ⟨o1, c1, rfl⟩ := own_slice hown1
      have hc31 : w1.cell? ⟨p, 3, none⟩ = some vf := by rw [below_cell hb1 _ hp]; exact hc3
      have HB1 := Lib.hid hb1
      clear hown1 hb1
      simp only [List.length_nil]
      go_wp2_with fail
      refine (HD.out w1 HB1.out).mono ?_
      rintro e w2 ⟨v2, rfl, hown2, hb2⟩
      obtain ⟨o2, c2, rfl⟩ := own_slice hown2
      have HO2 := Lib.hid hown2
      have HB2 := Lib.hid (HB1.out.trans (hb2.mono HB1.out.size))
      clear hown2 hb2
      have hp2 : p < w2.heap.size := Nat.lt_of_lt_of_le hp HB2.out.size
      have hc32 : w2.cell? ⟨p, 3, none⟩ = some vf := by rw [below_cell HB2.out _ hp]; exact hc3
      go_wp2_with fail
      have hb3 := HB2.out.alloc HB2.out.size (.cells #[.int .i64 0, .string ⟨#[]⟩, .slice o2 (dropL statusName st.fields).length c2] 34)
      refine (HGL.out _ hb3).mono ?_
      rintro e w4 ⟨v4, rfl, hown4, hb4⟩
      obtain ⟨o4, c4, rfl⟩ := own_slice hown4
      clear hown4
      have hz4 : w2.heap.size < w4.heap.size := by have := hb4.size; simp at this; omega
      have hk : w4.heap[w2.heap.size]? = some (.cells #[.int .i64 0, .string ⟨#[]⟩, .slice o2 (dropL statusName st.fields).length c2] 34 (0, 0)) := by
        rw [hb4.block _ (by simp)]; exact heap_alloc_new w2 _
      have HO4 := Lib.hid (own_base (own_below (HO2.out.alloc (.cells #[.int .i64 0, .string ⟨#[]⟩, .slice o2 (dropL statusName st.fields).length c2] 34)) hb4) (Nat.le_trans hB HB1.out.size))
      have HB4 := Lib.hid (hb3.trans (hb4.mono hb3.size))
      clear hb3 hb4
      have HR4 := Lib.hid (H.out.below HB4.out)
      have e0 : w4.cell? ⟨w2.heap.size, 0, none⟩ = some (.int .i64 0) := cell_of_row w4 _ 0 _ _ _ hk
      have e1 : w4.cell? ⟨w2.heap.size, 1, none⟩ = some (.string ⟨#[]⟩) := cell_of_row w4 _ 1 _ _ _ hk
      have e2 : w4.cell? ⟨w2.heap.size, 2, none⟩ = some (.slice o2 (dropL statusName st.fields).length c2) := cell_of_row w4 _ 2 _ _ _ hk
      have z0 : w4.frozen? ⟨w2.heap.size, 0, none⟩ = false := frozen_of_row w4 _ 0 _ _ hk
      have z1 : w4.frozen? ⟨w2.heap.size, 1, none⟩ = false := frozen_of_row w4 _ 1 _ _ hk
      have p4 : w4.cell? ⟨p, 4, none⟩ = some (.int .i64 st.hs) := HR4.out.at 4
      have p5 : w4.cell? ⟨p, 5, none⟩ = some (.string ⟨st.hr.toArray⟩) := HR4.out.at 5
      have p6 : w4.cell? ⟨p, 6, none⟩ = some vh := HR4.out.at 6
      have p7 : w4.cell? ⟨p, 7, none⟩ = some (.bool st.done) := HR4.out.at 7
      have y4 := HR4.out.frozen 4
      have y5 := HR4.out.frozen 5
      have y6 := HR4.out.frozen 6
      have y7 := HR4.out.frozen 7
      have hne : p ≠ w2.heap.size := by have := HB2.out.size; omega
      simp only [List.length_cons]
      generalize hn : List.length _ + 1 = n
      have hn2 : 0 < n := by omega
      go_wp2_with fail
      refine (HU.out _).mono ?_
      rintro e w6 ⟨rfl, rfl⟩
      go_wp2
      go_ret
      exact ⟨rfl, fin_put HR4.out hk HO4.out (.of (HB4.out.mono hB)) (Nat.le_trans hB HB2.out.size) 302 u⟩
    | nil =>
      rw [hq] at hR HGL
      clear hq
      simp only at hR
      cases hq : getL typName st.fields with
      | cons s l =>
        rw [hq] at hR HGT
        clear hq
        subst hR
        obtain ⟨u, hu⟩ : ∃ u, u = reasonL 200 := ⟨_, rfl⟩
        have HU : Hid (∀ W : World, Calls Tryz.prog 29 #[.int .i64 200] W fun e w' => e = .returned (.string ⟨u.toArray⟩) ∧ W = w') := Lib.hid fun W => by rw [hu]; exact Reason_any 200 W
        rw [← hu]
        clear hu
        go_enter Tryz.func42, Tryz.ntmps42
        go_wp2_with fail
        refine HG1.out.mono ?_
        rintro e w1 ⟨v1, rfl, hown1, hb1⟩
        obtain ⟨o1, c1, rfl⟩ := own_slice hown1
        have hc31 : w1.cell? ⟨p, 3, none⟩ = some vf := by rw [below_cell hb1 _ hp]; exact hc3
        have HB1 := Lib.hid hb1
        clear hown1 hb1
        simp only [List.length_nil]
        go_wp2_with fail
        refine (HD.out w1 HB1.out).mono ?_
        rintro e w2 ⟨v2, rfl, hown2, hb2⟩
        obtain ⟨o2, c2, rfl⟩ := own_slice hown2
        have HO2 := Lib.hid hown2
        have HB2 := Lib.hid (HB1.out.trans (hb2.mono HB1.out.size))
        clear hown2 hb2
        have hp2 : p < w2.heap.size := Nat.lt_of_lt_of_le hp HB2.out.size
        have hc32 : w2.cell? ⟨p, 3, none⟩ = some vf := by rw [below_cell HB2.out _ hp]; exact hc3
        go_wp2_with fail
        have hb3 := HB2.out.alloc HB2.out.size (.cells #[.int .i64 0, .string ⟨#[]⟩, .slice o2 (dropL statusName st.fields).length c2] 34)
        refine (HGL.out _ hb3).mono ?_
        rintro e w4 ⟨v4, rfl, hown4, hb4⟩
        obtain ⟨o4, c4, rfl⟩ := own_slice hown4
        clear hown4
        have hz4 : w2.heap.size < w4.heap.size := by have := hb4.size; simp at this; omega
        have hk : w4.heap[w2.heap.size]? = some (.cells #[.int .i64 0, .string ⟨#[]⟩, .slice o2 (dropL statusName st.fields).length c2] 34 (0, 0)) := by
          rw [hb4.block _ (by simp)]; exact heap_alloc_new w2 _
        have HO4 := Lib.hid (own_base (own_below (HO2.out.alloc (.cells #[.int .i64 0, .string ⟨#[]⟩, .slice o2 (dropL statusName st.fields).length c2] 34)) hb4) (Nat.le_trans hB HB1.out.size))
        have HB4 := Lib.hid (hb3.trans (hb4.mono hb3.size))
        clear hb3 hb4
        have hc34 : w4.cell? ⟨p, 3, none⟩ = some vf := by rw [below_cell HB4.out _ hp]; exact hc3
        simp only [List.length_nil]
        go_wp2_with fail
        refine (HGT.out _ HB4.out).mono ?_
        rintro e w5 ⟨v5, rfl, hown5, hb5⟩
        obtain ⟨o5, c5, rfl⟩ := own_slice hown5
        clear hown5
        replace hk : w5.heap[w2.heap.size]? = some (.cells #[.int .i64 0, .string ⟨#[]⟩, .slice o2 (dropL statusName st.fields).length c2] 34 (0, 0)) := by rw [hb5.block _ hz4]; exact hk
        replace hz4 : w2.heap.size < w5.heap.size := Nat.lt_of_lt_of_le hz4 hb5.size
        replace HO4 := Lib.hid (own_below HO4.out hb5)
        replace HB4 := Lib.hid (HB4.out.trans (hb5.mono HB4.out.size))
        clear hb5
        have HR4 := Lib.hid (H.out.below HB4.out)
        have e0 : w5.cell? ⟨w2.heap.size, 0, none⟩ = some (.int .i64 0) := cell_of_row w5 _ 0 _ _ _ hk
        have e1 : w5.cell? ⟨w2.heap.size, 1, none⟩ = some (.string ⟨#[]⟩) := cell_of_row w5 _ 1 _ _ _ hk
        have e2 : w5.cell? ⟨w2.heap.size, 2, none⟩ = some (.slice o2 (dropL statusName st.fields).length c2) := cell_of_row w5 _ 2 _ _ _ hk
        have z0 : w5.frozen? ⟨w2.heap.size, 0, none⟩ = false := frozen_of_row w5 _ 0 _ _ hk
        have z1 : w5.frozen? ⟨w2.heap.size, 1, none⟩ = false := frozen_of_row w5 _ 1 _ _ hk
        have p4 : w5.cell? ⟨p, 4, none⟩ = some (.int .i64 st.hs) := HR4.out.at 4
        have p5 : w5.cell? ⟨p, 5, none⟩ = some (.string ⟨st.hr.toArray⟩) := HR4.out.at 5
        have p6 : w5.cell? ⟨p, 6, none⟩ = some vh := HR4.out.at 6
        have p7 : w5.cell? ⟨p, 7, none⟩ = some (.bool st.done) := HR4.out.at 7
        have y4 := HR4.out.frozen 4
        have y5 := HR4.out.frozen 5
        have y6 := HR4.out.frozen 6
        have y7 := HR4.out.frozen 7
        have hne : p ≠ w2.heap.size := by have := HB2.out.size; omega
        simp only [List.length_cons]
        generalize hn : List.length _ + 1 = n
        have hn2 : 0 < n := by omega
        go_wp2_with fail
        refine (HU.out _).mono ?_
        rintro e w6 ⟨rfl, rfl⟩
        go_wp2
        go_ret
        exact ⟨rfl, fin_put HR4.out hk HO4.out (.of (HB4.out.mono hB)) (Nat.le_trans hB HB2.out.size) 200 u⟩
      | nil =>
        rw [hq] at hR HGT
        clear hq
        subst hR
        go_enter Tryz.func42, Tryz.ntmps42
        go_wp2_with fail
        refine HG1.out.mono ?_
        rintro e w1 ⟨v1, rfl, hown1, hb1⟩
        obtain ⟨o1, c1, rfl⟩ := own_slice hown1
        have hc31 : w1.cell? ⟨p, 3, none⟩ = some vf := by rw [below_cell hb1 _ hp]; exact hc3
        have HB1 := Lib.hid hb1
        clear hown1 hb1
        simp only [List.length_nil]
        go_wp2_with fail
        refine (HD.out w1 HB1.out).mono ?_
        rintro e w2 ⟨v2, rfl, hown2, hb2⟩
        obtain ⟨o2, c2, rfl⟩ := own_slice hown2
        have HO2 := Lib.hid hown2
        have HB2 := Lib.hid (HB1.out.trans (hb2.mono HB1.out.size))
        clear hown2 hb2
        have hp2 : p < w2.heap.size := Nat.lt_of_lt_of_le hp HB2.out.size
        have hc32 : w2.cell? ⟨p, 3, none⟩ = some vf := by rw [below_cell HB2.out _ hp]; exact hc3
        go_wp2_with fail
        have hb3 := HB2.out.alloc HB2.out.size (.cells #[.int .i64 0, .string ⟨#[]⟩, .slice o2 (dropL statusName st.fields).length c2] 34)
        refine (HGL.out _ hb3).mono ?_
        rintro e w4 ⟨v4, rfl, hown4, hb4⟩
        obtain ⟨o4, c4, rfl⟩ := own_slice hown4
        clear hown4
        have hz4 : w2.heap.size < w4.heap.size := by have := hb4.size; simp at this; omega
        have hk : w4.heap[w2.heap.size]? = some (.cells #[.int .i64 0, .string ⟨#[]⟩, .slice o2 (dropL statusName st.fields).length c2] 34 (0, 0)) := by
          rw [hb4.block _ (by simp)]; exact heap_alloc_new w2 _
        have HO4 := Lib.hid (own_base (own_below (HO2.out.alloc (.cells #[.int .i64 0, .string ⟨#[]⟩, .slice o2 (dropL statusName st.fields).length c2] 34)) hb4) (Nat.le_trans hB HB1.out.size))
        have HB4 := Lib.hid (hb3.trans (hb4.mono hb3.size))
        clear hb3 hb4
        have hc34 : w4.cell? ⟨p, 3, none⟩ = some vf := by rw [below_cell HB4.out _ hp]; exact hc3
        simp only [List.length_nil]
        go_wp2_with fail
        refine (HGT.out _ HB4.out).mono ?_
        rintro e w5 ⟨v5, rfl, hown5, hb5⟩
        obtain ⟨o5, c5, rfl⟩ := own_slice hown5
        clear hown5
        replace hk : w5.heap[w2.heap.size]? = some (.cells #[.int .i64 0, .string ⟨#[]⟩, .slice o2 (dropL statusName st.fields).length c2] 34 (0, 0)) := by rw [hb5.block _ hz4]; exact hk
        replace hz4 : w2.heap.size < w5.heap.size := Nat.lt_of_lt_of_le hz4 hb5.size
        replace HO4 := Lib.hid (own_below HO4.out hb5)
        replace HB4 := Lib.hid (HB4.out.trans (hb5.mono HB4.out.size))
        clear hb5
        go_wp2
        go_ret
        exact ⟨rfl, ⟨vh, H.out.below HB4.out⟩, .of (HB4.out.mono hB)⟩
  | cons s l =>
  cases l with
  | cons s2 l =>
    rw [hg] at hR
    simp only at hR
    subst hR
    have HG1 := Lib.hid (HG.out statusName w (by decide) (Below.refl _ _))
    rw [hg] at HG1
    clear hg
    go_enter Tryz.func42, Tryz.ntmps42
    go_wp2_with fail
    refine HG1.out.mono ?_
    rintro e w1 ⟨v1, rfl, hown1, hb1⟩
    obtain ⟨o1, c1, rfl⟩ := own_slice hown1
    have hc31 : w1.cell? ⟨p, 3, none⟩ = some vf := by rw [below_cell hb1 _ hp]; exact hc3
    have HB1 := Lib.hid hb1
    clear hown1 hb1
    simp only [List.length_cons]
    generalize hn : l.length + 1 + 1 = n
    go_wp2_with fail
    refine (HD.out w1 HB1.out).mono ?_
    rintro e w2 ⟨v2, rfl, hown2, hb2⟩
    obtain ⟨o2, c2, rfl⟩ := own_slice hown2
    have HO2 := Lib.hid hown2
    have HB2 := Lib.hid (HB1.out.trans (hb2.mono HB1.out.size))
    clear hown2 hb2
    have hn2 : 1 < n := by omega
    go_wp2
    go_ret
    exact ⟨rfl, ⟨vh, H.out.below ((HB2.out.alloc HB2.out.size _))⟩, .of (Below.mono ((HB2.out.alloc HB2.out.size _)) hB)⟩
  | nil =>
    rw [hg] at hR
    simp only at hR
    have HG1 := Lib.hid (HG.out statusName w (by decide) (Below.refl _ _))
    rw [hg] at HG1
    have hs5 : s.length ≤ 512 := by
      have : s ∈ getL statusName st.fields := by rw [hg]; exact .head _
      simp only [getL, List.mem_map] at this
      obtain ⟨q, hq, rfl⟩ := this
      exact (hS.1 q (List.mem_filter.1 hq).1).2
    clear hg
    have HSt : Hid (∀ W : World, Below w.heap.size w W → Calls Tryz.prog 16 #[.string ⟨s.toArray⟩] W fun e w' => e = .returned (.tuple #[.int .i64 (statusR s).1, .string ⟨(statusR s).2.1.toArray⟩, errV (statusR s).2.2]) ∧ Below W.heap.size W w') := Lib.hid fun W hb =>
      Status_any ⟨s.toArray⟩ W (by show s.toArray.size < _; simp; omega) (HE.out.below hb)
    generalize statusR s = q at hR HSt
    obtain ⟨q1, q2, q3⟩ := q
    simp only at hR HSt
    go_enter Tryz.func42, Tryz.ntmps42
    go_wp2_with fail
    refine HG1.out.mono ?_
    rintro e w1 ⟨v1, rfl, hown1, hb1⟩
    obtain ⟨g1, c1, rfl, hg1⟩ := own_form hown1 (by simp)
    have hc31 : w1.cell? ⟨p, 3, none⟩ = some vf := by rw [below_cell hb1 _ hp]; exact hc3
    have hcs : w1.cell? ⟨g1, 0, none⟩ = some (.string ⟨s.toArray⟩) := by rw [hown1.cellAt 0 (by simp)]; rfl
    have HB1 := Lib.hid hb1
    clear hown1 hb1
    simp only [List.length_cons, List.length_nil]
    go_wp2_with fail
    refine (HD.out w1 HB1.out).mono ?_
    rintro e w2 ⟨v2, rfl, hown2, hb2⟩
    obtain ⟨o2, c2, rfl⟩ := own_slice hown2
    have hg12 : g1 < w2.heap.size := Nat.lt_of_lt_of_le hg1 hb2.size
    have hcs2 : w2.cell? ⟨g1, 0, none⟩ = some (.string ⟨s.toArray⟩) := by rw [below_cell hb2 _ hg1]; exact hcs
    have HO2 := Lib.hid hown2
    have HB2 := Lib.hid (HB1.out.trans (hb2.mono HB1.out.size))
    clear hown2 hb2
    go_wp2_with fail
    have hb3 := HB2.out.alloc HB2.out.size (.cells #[.int .i64 0, .string ⟨#[]⟩, .slice o2 (dropL statusName st.fields).length c2] 34)
    refine (HSt.out _ hb3).mono ?_
    rintro e w4 ⟨rfl, hb4⟩
    have hz4 : w2.heap.size < w4.heap.size := by have := hb4.size; simp at this; omega
    have hk : w4.heap[w2.heap.size]? = some (.cells #[.int .i64 0, .string ⟨#[]⟩, .slice o2 (dropL statusName st.fields).length c2] 34 (0, 0)) := by
      rw [hb4.block _ (by simp)]; exact heap_alloc_new w2 _
    have HR4 := Lib.hid (H.out.below (hb3.trans (hb4.mono hb3.size)))
    have HO4 := Lib.hid (own_base (own_below (HO2.out.alloc (.cells #[.int .i64 0, .string ⟨#[]⟩, .slice o2 (dropL statusName st.fields).length c2] 34)) hb4) (Nat.le_trans hB HB1.out.size))
    have HB4 := Lib.hid (hb3.trans (hb4.mono hb3.size))
    clear hb3 hb4
    have e0 : w4.cell? ⟨w2.heap.size, 0, none⟩ = some (.int .i64 0) := cell_of_row w4 _ 0 _ _ _ hk
    have e1 : w4.cell? ⟨w2.heap.size, 1, none⟩ = some (.string ⟨#[]⟩) := cell_of_row w4 _ 1 _ _ _ hk
    have e2 : w4.cell? ⟨w2.heap.size, 2, none⟩ = some (.slice o2 (dropL statusName st.fields).length c2) := cell_of_row w4 _ 2 _ _ _ hk
    have z0 : w4.frozen? ⟨w2.heap.size, 0, none⟩ = false := frozen_of_row w4 _ 0 _ _ hk
    have z1 : w4.frozen? ⟨w2.heap.size, 1, none⟩ = false := frozen_of_row w4 _ 1 _ _ hk
    have p4 : w4.cell? ⟨p, 4, none⟩ = some (.int .i64 st.hs) := HR4.out.at 4
    have p5 : w4.cell? ⟨p, 5, none⟩ = some (.string ⟨st.hr.toArray⟩) := HR4.out.at 5
    have p6 : w4.cell? ⟨p, 6, none⟩ = some vh := HR4.out.at 6
    have p7 : w4.cell? ⟨p, 7, none⟩ = some (.bool st.done) := HR4.out.at 7
    have y4 := HR4.out.frozen 4
    have y5 := HR4.out.frozen 5
    have y6 := HR4.out.frozen 6
    have y7 := HR4.out.frozen 7
    have hne : p ≠ w2.heap.size := by have := HB2.out.size; omega
    by_cases h3 : q3 = 0
    · subst h3
      rw [if_pos rfl] at hR
      subst hR
      rw [errV_zero]
      go_wp2
      go_ret
      exact ⟨rfl, fin_put HR4.out hk HO4.out (.of (HB4.out.mono hB)) (Nat.le_trans hB HB2.out.size) q1 q2⟩
    · rw [if_neg h3] at hR
      subst hR
      rw [errV_pos h3]
      have hE1 : ∀ W : World, (binOp .eql 27 (.iface 38 (.int .i64 q3)) .nilIface).run Tryz.prog W = .ok (.bool false) W := fun W => run_eql_iface_nil_right W _ _ Tryz.underlying27
      go_wp2
      go_ret
      have hk1 := heap_setCell_same w4 _ 0 _ _ (.int .i64 q1) hk
      exact ⟨congrArg Ending.returned (errV_pos h3).symm, ⟨vh, (HR4.out.other hk (by decide) (by decide) (by decide) 0 (.int .i64 q1)).other hk1 (by decide) (by decide) (by decide) 1 (.string ⟨q2.toArray⟩)⟩,
        ((But.of (HB4.out.mono hB)).above (Nat.le_trans hB HB2.out.size) _ _).above (Nat.le_trans hB HB2.out.size) _ _⟩
end Go.Proofs.YtfbpiknckjgfnaaGreatDoor
