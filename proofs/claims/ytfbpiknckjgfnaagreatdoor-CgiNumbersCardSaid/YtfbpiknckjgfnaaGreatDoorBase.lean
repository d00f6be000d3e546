/-
  Small laws used everywhere: a slice of bytes, of texts that a call owns; what stands in the package-level variables, carried from world to world.
-/
import Derived.Test.YtfbpiknckjgfnaaGreatDoorChecked
import Derived.WalkKit
import Derived.WalkSpells
import Derived.BigQuiet
import Derived.Lib.Hide
import Derived.Deep.QuietTactic
import Derived.Laws.BytesArg
import Derived.StillTailTactics
import Derived.Maps.AppendAt
import Derived.Deep.RegionLaw
import Derived.Handy
namespace Go.Proofs.YtfbpiknckjgfnaaGreatDoor
open Go.RowKit

theorem ret_bool {a b : Bool} (h : a = b) : Ending.returned (.bool a) = .returned (.bool b) := by rw [h]
theorem ret_str {a b : List UInt8} (h : a = b) : Ending.returned (.string ⟨a.toArray⟩) = .returned (.string ⟨b.toArray⟩) := by rw [h]
theorem ret_int {k : IntKind} {a b : Int} (h : a = b) : Ending.returned (.int k a) = .returned (.int k b) := by rw [h]
theorem below_drewN {B : Nat} {a w : World} (h : Below B a w) (q : Nat) : Below B a (w.drewN q) := ⟨h.os, h.tape, h.output, h.size, h.block⟩
theorem take_snoc (s : ByteArray) (k : Nat) (h : k < s.size) : s.data.toList.take (k + 1) = s.data.toList.take k ++ [s[k]] := by
  rw [List.take_succ_eq_append_getElem (by simpa using h)]; rfl
theorem len_eq (s : ByteArray) : s.data.toList.length = s.size := by simp
theorem take_all (s : ByteArray) (k : Nat) (hk : k ≤ s.size) (h : ¬ k < s.size) : s.data.toList.take k = s.data.toList := List.take_of_length_le (by rw [len_eq]; omega)

/-- Bytes as cells. -/
def byteVals (l : List UInt8) : List Value := l.map fun b => Value.int .u8 (b.toNat : Int)
theorem byteVals_length (l : List UInt8) : (byteVals l).length = l.length := by simp [byteVals]
theorem byteVals_append (a b : List UInt8) : byteVals (a ++ b) = byteVals a ++ byteVals b := by simp [byteVals]
theorem byteVals_at (l : List UInt8) (j : Nat) (h : j < l.length) : (byteVals l)[j]? = some (.int .u8 (l[j].toNat : Int)) := by simp [byteVals, h]
theorem byteVals_one (l : List UInt8) : ∀ u ∈ byteVals l, u.oneCell' = true := by
  intro u hu
  simp only [byteVals, List.mem_map] at hu
  obtain ⟨b, _, rfl⟩ := hu
  rfl
theorem byteVals_cell (c : UInt8) : [Value.int .u8 (c.toNat : Int)] = byteVals [c] := rfl

/-- Texts as cells. -/
def strVal (l : List UInt8) : Value := .string ⟨l.toArray⟩
def strVals (l : List (List UInt8)) : List Value := l.map strVal
theorem strVals_length (l : List (List UInt8)) : (strVals l).length = l.length := by simp [strVals]
theorem strVals_append (a b : List (List UInt8)) : strVals (a ++ b) = strVals a ++ strVals b := by simp [strVals]
theorem strVals_at (l : List (List UInt8)) (j : Nat) (h : j < l.length) : (strVals l)[j]? = some (strVal l[j]) := by simp [strVals, h]
theorem strVals_one (l : List (List UInt8)) : ∀ u ∈ strVals l, u.oneCell' = true := by
  intro u hu
  simp only [strVals, List.mem_map] at hu
  obtain ⟨b, _, rfl⟩ := hu
  rfl

theorem Tryz.infoU8 : (Tryz.prog.info? 5).map (fun i => (i.zero, i.size, i.bytes)) = some (some (.int .u8 0), 1, 1) := by kernel_rfl
theorem Tryz.infoStr : (Tryz.prog.info? 9).map (fun i => (i.zero, i.size, i.bytes)) = some (some (.string ByteArray.empty), 1, 16) := by kernel_rfl

theorem below_of_grown {B : Nat} {w w' : World} {v : Value} {e : TypeId} {sz n : Nat} {xs : List Value} (hown : w.ownsRow B e sz v n xs) (hB : B ≤ w.heap.size) (hg : w.grownBy w' v.ownBlock) : Below B w w' :=
  (Below.refl B w).grown hg hB fun k hk => (hown.lt k hk).1

/-- append of bytes to a slice of bytes that the call owns. -/
theorem app_bytes {ops : Array Oper} {rest : List Oper} {o : Oper} {a : Act} {Q : Exit → Act → World → Prop} {w : World} (hgd : o.guard = none) (s x : Operand)
    (ho : o.op = .call { callee := .builtin .append, args := #[s, x], argTypes := #[22, 22] }) (B : Nat) (l news : List UInt8) (v : Value) (hs : a.eval s = v)
    (hown : w.ownsRow B 5 1 v l.length (byteVals l)) (ad : Addr) (m c : Nat) (hx : a.eval x = .slice (some ad) m c) (hm : m = news.length)
    (hnews : ∀ j u, (byteVals news)[j]? = some u → w.cell? (ad.add j) = some u) (hlen : l.length + news.length ≤ 70368744177664) (hB : B ≤ w.heap.size)
    (h : ∀ v' w', w'.ownsRow B 5 1 v' (l ++ news).length (byteVals (l ++ news)) → w.grownBy w' v.ownBlock → Below B w w' → (v'.ownBlock = v.ownBlock ∨ v'.ownBlock = some w.heap.size) → wpList Tryz.prog ops Q rest (a.put o.dst v') w') :
    wpList Tryz.prog ops Q (o :: rest) a w := by
  obtain ⟨i, hi, hz0, hz1, hz2⟩ := info_parts Tryz.infoU8
  subst hm
  refine wpList_append_own_at w hgd s x 22 ho B 5 i (.int .u8 0) 1 1 Tryz.underlying22 hi hz0 hz1 hz2 rfl (by decide) v l.length (byteVals l) hs hown ad news.length c (byteVals news) hx
    (by rw [byteVals_length, Nat.mul_one]) hnews (byteVals_one news) (by unfold maxLen; omega) (by omega) hB fun v' w' h1 h2 _ h4 => ?_
  rw [← byteVals_append, ← List.length_append] at h1
  exact h v' w' h1 h2 (below_of_grown hown hB h2) h4

/-- The same as a step of a region that draws its order. -/
theorem step_app_bytes {ops : Array Oper} {o : Oper} {a : Act} {K : Act → World → Prop} {Q : Exit → Act → World → Prop} {E : Prop} {w : World} (hgd : o.guard = none) (s x : Operand)
    (ho : o.op = .call { callee := .builtin .append, args := #[s, x], argTypes := #[22, 22] }) (B : Nat) (l news : List UInt8) (v : Value) (hs : a.eval s = v)
    (hown : w.ownsRow B 5 1 v l.length (byteVals l)) (ad : Addr) (m c : Nat) (hx : a.eval x = .slice (some ad) m c) (hm : m = news.length)
    (hnews : ∀ j u, (byteVals news)[j]? = some u → w.cell? (ad.add j) = some u) (hlen : l.length + news.length ≤ 70368744177664) (hB : B ≤ w.heap.size)
    (h : ∀ v' w', w'.ownsRow B 5 1 v' (l ++ news).length (byteVals (l ++ news)) → w.grownBy w' v.ownBlock → Below B w w' → K (a.put o.dst v') w') :
    if Region.wanted o (yielded ops a.tmps) = true then Oper.wp Tryz.prog o a w K Q else E := by
  have hw : Region.wanted o (yielded ops a.tmps) = true := by simp [Region.wanted, hgd]
  rw [if_pos hw]
  obtain ⟨i, hi, hz0, hz1, hz2⟩ := info_parts Tryz.infoU8
  subst hm
  obtain ⟨v', w', hr, h2, h3, _, _⟩ := run_append_own_at (P := Tryz.prog) w B 22 o.type 5 i (.int .u8 0) 1 1 Tryz.underlying22 hi hz0 hz1 hz2 rfl (by decide) v l.length (byteVals l) hown ad news.length c (byteVals news)
    (by rw [byteVals_length, Nat.mul_one]) hnews (byteVals_one news) (by unfold maxLen; omega) (by omega) hB
  unfold Oper.wp execOp
  simp only [ho, resolve, invoke, builtin, Sem.run_bind, Sem.run_pure, Result.andThen_ok, List.map_toArray, List.map_cons, List.map_nil, hs, hx, hr]
  rw [← byteVals_append, ← List.length_append] at h2
  exact h v' w' h2 h3 (below_of_grown hown hB h3)

/-- append of texts to a slice of texts that the call owns. -/
theorem app_strs {ops : Array Oper} {rest : List Oper} {o : Oper} {a : Act} {Q : Exit → Act → World → Prop} {w : World} (hgd : o.guard = none) (s x : Operand)
    (ho : o.op = .call { callee := .builtin .append, args := #[s, x], argTypes := #[39, 39] }) (B : Nat) (l news : List (List UInt8)) (v : Value) (hs : a.eval s = v)
    (hown : w.ownsRow B 9 1 v l.length (strVals l)) (ad : Addr) (m c : Nat) (hx : a.eval x = .slice (some ad) m c) (hm : m = news.length)
    (hnews : ∀ j u, (strVals news)[j]? = some u → w.cell? (ad.add j) = some u) (hlen : l.length + news.length ≤ 4398046511104) (hB : B ≤ w.heap.size)
    (h : ∀ v' w', w'.ownsRow B 9 1 v' (l ++ news).length (strVals (l ++ news)) → w.grownBy w' v.ownBlock → Below B w w' → (v'.ownBlock = v.ownBlock ∨ v'.ownBlock = some w.heap.size) → wpList Tryz.prog ops Q rest (a.put o.dst v') w') :
    wpList Tryz.prog ops Q (o :: rest) a w := by
  obtain ⟨i, hi, hz0, hz1, hz2⟩ := info_parts Tryz.infoStr
  subst hm
  refine wpList_append_own_at w hgd s x 39 ho B 9 i (.string ByteArray.empty) 1 16 Tryz.underlying39 hi hz0 hz1 hz2 rfl (by decide) v l.length (strVals l) hs hown ad news.length c (strVals news) hx
    (by rw [strVals_length, Nat.mul_one]) hnews (strVals_one news) (by unfold maxLen; omega) (by omega) hB fun v' w' h1 h2 _ h4 => ?_
  rw [← strVals_append, ← List.length_append] at h1
  exact h v' w' h1 h2 (below_of_grown hown hB h2) h4

/-- string(b) of bytes that the call owns. -/
theorem conv_bytes {w : World} {B : Nat} {v : Value} {l : List UInt8} (h : w.ownsRow B 5 1 v l.length (byteVals l)) :
    (convert 22 9 v).run Tryz.prog w = .ok (.string ⟨l.toArray⟩) w := by
  rcases h.2 with ⟨rfl, h0⟩ | ⟨g, cap, cur, rfl, hb, hg, hn, hm, hc, ht⟩
  · obtain rfl := List.length_eq_zero_iff.1 h0
    exact run_convert_bytes_nil w 22 5 Tryz.underlying22 Tryz.underlying5 0 0 9 Tryz.underlying9
  · have e : (⟨l.toArray⟩ : ByteArray) = strOfNums (l.map fun b => (b.toNat : Int)) := by
      apply ByteArray.ext
      apply Array.ext'
      rw [strOfNums_data, List.map_map]
      have hid : ((fun n : Int => UInt8.ofNat n.toNat) ∘ fun b : UInt8 => (b.toNat : Int)) = id := by funext b; simp
      rw [hid]
      simp
    rw [e]
    refine run_convert_bytes_arg w 22 5 Tryz.underlying22 Tryz.underlying5 g 0 l.length cap (l.map fun b => (b.toNat : Int)) (by simp) (fun i hi => ?_) 9 Tryz.underlying9
    have := h.cellAt i (by omega)
    rw [Nat.zero_add, this, byteVals_at l i hi]
    simp [List.getD, hi]
/-- The cells of a slice of texts that the call owns. -/
theorem strs_cell {w : World} {B : Nat} {g n cap : Nat} {l : List (List UInt8)} (h : w.ownsRow B 9 1 (.slice (some ⟨g, 0, none⟩) n cap) l.length (strVals l)) (hn : n = l.length) (j : Nat) (hj : j < l.length) : w.cell? ⟨g, j, none⟩ = some (strVal l[j]) := by
  subst hn
  rw [h.cellAt j (by omega), strVals_at l j hj]
end Go.Proofs.YtfbpiknckjgfnaaGreatDoor
