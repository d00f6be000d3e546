/-
  Package cgi: New, Done, Head: what they answer.
-/
import Derived.Test.YtfbpiknckjgfnaaGreatDoorCgiE
import Derived.Handy
namespace Go.Proofs.YtfbpiknckjgfnaaGreatDoor
open Go.RowKit Go.Shelf

/-- A new reader. -/
def newS (most : Int) : CgiS := ⟨most, 0, [], [], 0, [], [], false, false⟩
def newCells (most : Int) : Array Value := cgiCells (newS most) (.slice none 0 0) (.slice none 0 0) (.slice none 0 0)
theorem newS_live (most : Int) (h : most ≤ 1000000) : Live (newS most) := ⟨⟨fun _ hq => absurd hq (List.not_mem_nil), Nat.zero_le _⟩, Int.le_refl _, by show (0 : Int) ≤ _; decide, h, by show ((0 : Nat) : Int) ≤ 0; decide, fun _ => rfl, .inr rfl⟩
theorem new_rep {W : World} {B p : Nat} {most : Int} (h : W.heap[p]? = some (.cells (newCells most) 49 (0, 0))) (hB : B ≤ W.heap.size) : RepX W B p (newS most) :=
  ⟨_, _, _, h, World.ownsRow_nil _ _ _ _, World.ownsRow_nil _ _ _ _, World.ownsRow_nil _ _ _ _, hB, fun _ => rfl⟩
theorem New_any (most : Int) (w : World) :
    Calls Tryz.prog 7 #[.int .i64 most] w fun e w' => e = .returned (.pointer (some ⟨w.heap.size, 0, none⟩)) ∧ w' = w.alloc (.cells (newCells most) 49) := by
  go_enter Tryz.func7, Tryz.ntmps7
  go_wp2
  go_ret
  exact ⟨rfl, rfl⟩
theorem Done_any (w : World) (B p : Nat) (st : CgiS) (h : RepX w B p st) :
    Calls Tryz.prog 10 #[.pointer (some ⟨p, 0, none⟩)] w fun e w' => e = .returned (.bool st.done) ∧ w = w' := by
  obtain ⟨vl, vf, vh, h⟩ := h
  have c7 : w.cell? ⟨p, 7, none⟩ = some (.bool st.done) := h.at 7
  clear h
  go_enter Tryz.func10, Tryz.ntmps10
  go_wp2
  go_ret
  exact ⟨rfl, rfl⟩

theorem Tryz.sizeHead : (Tryz.prog.info? 34).map (·.size) = some 3 := by kernel_rfl
/-- A head that a call made. -/
def OwnsHead (w : World) (st : CgiS) (e : Ending) (w' : World) : Prop :=
  ∃ v, e = .returned (.agg #[.int .i64 st.hs, .string ⟨st.hr.toArray⟩, v]) ∧ w'.ownsRow w.heap.size 60 2 v st.hf.length (pairVals st.hf) ∧ Below w.heap.size w w'
set_option maxHeartbeats 4000000 in
theorem Head_any (w : World) (B p : Nat) (st : CgiS) (h : RepX w B p st) (hl : st.hf.length ≤ 1000) :
    Calls Tryz.prog 12 #[.pointer (some ⟨p, 0, none⟩)] w (OwnsHead w st) := by
  obtain ⟨vl, vf, vh, h⟩ := h
  have p4 : w.cell? ⟨p, 4, none⟩ = some (.int .i64 st.hs) := h.at 4
  have p5 : w.cell? ⟨p, 5, none⟩ = some (.string ⟨st.hr.toArray⟩) := h.at 5
  have p6 : w.cell? ⟨p, 6, none⟩ = some vh := h.at 6
  have hp := h.lt
  rcases h.head.2 with ⟨rfl, h0⟩ | ⟨g, cap, cur, rfl, hb, hg, hn, hm, hc, ht⟩
  · have h0 : st.hf = [] := List.length_eq_zero_iff.1 h0
    have H0 := Lib.hid h0
    clear h h0
    go_enter Tryz.func12, Tryz.ntmps12
    go_wp2
    go_returns
    exact ⟨_, rfl, by rw [H0.out]; exact World.ownsRow_nil _ _ _ _, ((Below.refl _ _).alloc (Nat.le_refl _) _).alloc (by simp) _⟩
  · obtain ⟨n, hnn⟩ : ∃ n, n = st.hf.length := ⟨_, rfl⟩
    rw [← hnn] at p6
    obtain ⟨A, hA⟩ : ∃ A, A = Obj.cells #[.int .i64 0, .string ⟨#[]⟩, .slice none 0 0] 34 := ⟨_, rfl⟩
    obtain ⟨D, hD⟩ : ∃ D, D = Obj.cells #[.int .i64 st.hs, .string ⟨st.hr.toArray⟩, .slice (some ⟨g, 0, none⟩) n cap] 34 := ⟨_, rfl⟩
    have hcs := Lib.hid (((h.head.alloc A).alloc D).cells (g := g) rfl)
    have kA : ((w.alloc A).alloc D).heap[w.heap.size]? = some A := by
      rw [Below.heap_alloc (w.alloc A) D w.heap.size (by simp)]; exact heap_alloc_new w A
    have kD : ((w.alloc A).alloc D).heap[w.heap.size + 1]? = some D := by
      have := heap_alloc_new (w.alloc A) D
      rw [show (w.alloc A).heap.size = w.heap.size + 1 by simp] at this
      exact this
    have HB2 : Hid (Below w.heap.size w ((w.alloc A).alloc D)) := Lib.hid (((Below.refl _ _).alloc (Nat.le_refl _) _).alloc (by simp) _)
    have hz2 : ((w.alloc A).alloc D).heap.size = w.heap.size + 2 := by simp
    have HA := Lib.hid hA
    have HD := Lib.hid hD
    have HN := Lib.hid hnn
    subst hA hD
    clear h hb hg hn hm hc ht hnn HA HD
    have KA := Lib.hid kA
    have KD := Lib.hid kD
    clear kA kD
    go_enter Tryz.func12, Tryz.ntmps12
    go_wp2_with (at_builtin; refine app_pairs rfl _ _ rfl w.heap.size [] st.hf _ rfl (World.ownsRow_nil _ _ _ _) ⟨g, 0, none⟩ n cap rfl HN.out hcs.out (by simp; omega) HB2.out.size ?_; intro v' w4 hown' hg' hb' _; obtain ⟨o5, c5, rfl⟩ := own_slice hown'; have kA := (hg'.block w.heap.size (by simp; omega) (show some _ ≠ none by simp)).trans KA.out; have kD := (hg'.block (w.heap.size + 1) (by simp) (show some _ ≠ none by simp)).trans KD.out; have a0 := cell_of_row w4 _ 0 _ _ _ kA; have a1 := cell_of_row w4 _ 1 _ _ _ kA; have a2 := cell_of_row w4 _ 2 _ _ _ kA; have d0 := cell_of_row w4 _ 0 _ _ _ kD; have d1 := cell_of_row w4 _ 1 _ _ _ kD; have d2 := cell_of_row w4 _ 2 _ _ _ kD; have y0 := frozen_of_row w4 _ 0 _ _ kA; have y1 := frozen_of_row w4 _ 1 _ _ kA; have y2 := frozen_of_row w4 _ 2 _ _ kA; have z2 := frozen_of_row w4 _ 2 _ _ kD; simp at a0 a1 a2 d0 d1 d2; have HO := Lib.hid hown'; have HB := Lib.hid hb'; have KA4 := Lib.hid kA; have KD4 := Lib.hid kD; clear hown' hg' hb' kA kD KA KD)
    have hne : w.heap.size ≠ w.heap.size + 1 := by omega
    have s1 := (heap_setCell_other w4 ⟨w.heap.size + 1, 2, none⟩ w.heap.size (.slice o5 st.hf.length c5) hne).trans KA4.out
    have s2 := heap_setCell_same _ _ 0 _ _ (.int .i64 st.hs) s1
    have s3 := heap_setCell_same _ _ 1 _ _ (.string ⟨st.hr.toArray⟩) s2
    have s4 := heap_setCell_same _ _ 2 _ _ (.slice o5 st.hf.length c5) s3
    (try simp only [Exit.inBlock, Exit.then])
    refine bodyPost_ret (v := .agg #[.int .i64 st.hs, .string ⟨st.hr.toArray⟩, .slice o5 st.hf.length c5]) (results_cell_row rfl _ _ w.heap.size _ _ _ _ rfl s4 Tryz.underlying34 rfl (Tryz.sizeHead.trans rfl)) rfl ⟨_, rfl, ?_, ?_⟩
    · exact own_set (own_set (own_set (own_set (by simpa using HO.out) KD4.out (by decide) _ _) s1 (by decide) _ _) s2 (by decide) _ _) s3 (by decide) _ _
    · exact (((((HB2.out.trans HB.out).setCell (by simp) _).setCell (by simp) _).setCell (by simp) _).setCell (by simp) _)
end Go.Proofs.YtfbpiknckjgfnaaGreatDoor
