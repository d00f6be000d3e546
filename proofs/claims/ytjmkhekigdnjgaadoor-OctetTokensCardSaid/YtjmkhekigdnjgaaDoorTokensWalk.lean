/-
  OctetTokens' walk.
-/
import Derived.Test.YtjmkhekigdnjgaaDoorLaw1A
namespace Go.Proofs.YtjmkhekigdnjgaaDoor
open Go.RowKit Go.Shelf

/-- The text of one new byte. -/
theorem conv_one (b : UInt8) (W : World) : (convert 32 9 (.slice (some ⟨W.heap.size, 0, none⟩) 1 1)).run Tryd.prog (W.alloc (.cells #[.int .u8 (b.toNat : Int)] 5)) = .ok (.string ⟨#[b]⟩) (W.alloc (.cells #[.int .u8 (b.toNat : Int)] 5)) := by
  have h : (W.alloc (.cells #[.int .u8 (b.toNat : Int)] 5)).ownsRow W.heap.size 5 1 (.slice (some ⟨W.heap.size, 0, none⟩) 1 1) [b].length (byteVals [b]) :=
    ⟨by simp [byteVals], .inr ⟨W.heap.size, 1, _, rfl, Nat.le_refl _, heap_alloc_new W _, by simp, by unfold maxLen; omega, by simp, by simp [byteVals]⟩⟩
  exact conv_bytes h
def some14 : List UInt8 := [33, 35, 36, 37, 38, 39, 42, 43, 45, 46, 94, 95, 124, 126]
theorem token_some (b : UInt8) : tokenB (b.toNat : Int) = (plainB (b.toNat : Int) || some14.contains b || b == 96) := by
  have key : ∀ n : Fin 256, tokenB (n.val : Int) = (plainB (n.val : Int) || some14.contains (UInt8.ofNat n.val) || UInt8.ofNat n.val == 96) := by decide +kernel
  have := key ⟨b.toNat, b.toNat_lt⟩
  simpa using this
theorem some_step (b : UInt8) (k : Nat) (h : k < 14) (g : Bool) (hg : g = (plainB (b.toNat : Int) || (some14.take k).contains b)) :
    (g || ((some14[k]'h).toNat : Int) == (b.toNat : Int)) = (plainB (b.toNat : Int) || (some14.take (k + 1)).contains b) := by
  have e : (((some14[k]'h).toNat : Int) == (b.toNat : Int)) = (b == some14[k]'h) := by
    rw [Bool.eq_iff_iff, beq_iff_eq, beq_iff_eq]
    constructor
    · intro h; exact (UInt8.toNat_inj.1 (by omega))
    · intro h; rw [h]
  rw [e, hg, List.take_succ_eq_append_getElem (by exact h), List.contains_append, Bool.or_assoc]
  simp [Bool.beq_eq_decide_eq]
theorem tok_ab (b : UInt8) : allB tokenB [97, b, 98] = allB tokenB [b] := by
  have h1 : tokenB ((97 : UInt8).toNat : Int) = true := by decide
  have h2 : tokenB ((98 : UInt8).toNat : Int) = true := by decide
  simp only [allB, List.all_cons, List.all_nil, h1, h2, Bool.true_and, Bool.and_true, List.isEmpty_cons, Bool.not_false]

set_option maxHeartbeats 4000000 in
set_option maxRecDepth 100000 in
theorem tokens_core (b : UInt8) (w : World) (hE : Env w) (p : Bool) (hp : plainB (b.toNat : Int) = p) :
    Calls Tryd.prog 6 #[.int .u8 (b.toNat : Int)] w fun e w' => e = .returned (.bool true) ∧ Below w.heap.size w w' := by
  have HK := Lib.hid (known_true w hE)
  clear hE
  have hcv := conv_one b
  have HT : Hid (∀ W : World, Calls Tryd.prog 17 #[.string ⟨#[b]⟩] W fun e w' => e = .returned (.bool (allB tokenB [b])) ∧ W = w') := Lib.hid fun W => Token_any ⟨#[b]⟩ W (by unfold maxLen; show 1 ≤ _; decide)
  have HT2 : Hid (∀ W : World, Calls Tryd.prog 17 #[.string (⟨#[97]⟩ ++ ⟨#[b]⟩ ++ ⟨#[98]⟩)] W fun e w' => e = .returned (.bool (allB tokenB [b])) ∧ W = w') := Lib.hid fun W => by
    have := Token_any (⟨#[97]⟩ ++ ⟨#[b]⟩ ++ ⟨#[98]⟩) W (by unfold maxLen; show 3 ≤ _; decide)
    rw [show (⟨#[97]⟩ ++ ⟨#[b]⟩ ++ ⟨#[98]⟩ : ByteArray).data.toList = [97, b, 98] by simp, tok_ab] at this
    exact this
  have e1 : allB tokenB [b] = tokenB (b.toNat : Int) := by simp [allB]
  rw [e1] at HT HT2
  clear e1
  have hc0 : 0 ≤ (b.toNat : Int) := by omega
  have hc1 : (b.toNat : Int) ≤ 255 := by have := b.toNat_lt; omega
  have HS : Hid (∀ k (h : k < 14) (g : Bool), g = (p || (some14.take k).contains b) → (g || ((some14[k]'h).toNat : Int) == (b.toNat : Int)) = (p || (some14.take (k + 1)).contains b)) := Lib.hid fun k h g hg => by
    rw [← hp] at hg ⊢; exact some_step b k h g hg
  have HF : Hid (tokenB (b.toNat : Int) = (p || some14.contains b || (b.toNat : Int) == 96)) := Lib.hid (by
    rw [token_some, hp]
    congr 1
    rw [Bool.eq_iff_iff, beq_iff_eq, beq_iff_eq]
    constructor
    · intro h; rw [h]; rfl
    · intro h; exact UInt8.toNat_inj.1 (by simpa using (by omega : b.toNat = 96)))
  have hq := hp
  unfold plainB at hq
  clear hp
  have HQ := Lib.hid hq
  clear hq
  generalize tokenB (b.toNat : Int) = T at HT HT2 HF
  generalize (b.toNat : Int) = c at hc0 hc1 HQ HS HF hcv ⊢
  have HX : Hid (∀ q : Bool, q = (decide (97 ≤ c) && decide (c ≤ 122) || decide (65 ≤ c) && decide (c ≤ 90) || decide (48 ≤ c) && decide (c ≤ 57)) → q = p) := Lib.hid fun q h => h.trans HQ.out
  clear HQ
  by_cases a1 : 97 ≤ c <;> by_cases a2 : c ≤ 122 <;> by_cases a3 : 65 ≤ c <;> by_cases a4 : c ≤ 90 <;> by_cases a5 : 48 ≤ c <;> by_cases a6 : c ≤ 57 <;> try (exfalso; omega)
  all_goals
    go_enter Tryd.func6, Tryd.ntmps6
    go_wp2_with (go_at_call 7; refine HK.out.mono ?_; rintro e w1 ⟨rfl, hb1⟩; have HB1 := Lib.hid hb1; have hz1 := hb1.size; clear hb1)
    have hMs : (⟨#[33, 35, 36, 37, 38, 39, 42, 43, 45, 46, 94, 95, 124, 126]⟩ : ByteArray).size = 14 := rfl
    obtain ⟨M, hM⟩ : ∃ M, M = (⟨#[33, 35, 36, 37, 38, 39, 42, 43, 45, 46, 94, 95, 124, 126]⟩ : ByteArray) := ⟨_, rfl⟩
    have hA' : Hid (∀ k (h : k < 14) (hk : k < M.size), M[k]'hk = some14[k]'h) := Lib.hid (fun k h hk => by subst hM; rfl)
    rw [← hM] at hMs ⊢
    clear hM
    go_loop [3, 5] (fun g i => ∃ (k : Nat) (gb : Bool), k ≤ 14 ∧ g = .bool gb ∧ i = .int .i64 k ∧ Hid (gb = (p || (some14.take k).contains b))) (fun _ i => 14 - (intOf i).toNat)
    case atStart =>
      refine ⟨0, _, Nat.zero_le _, rfl, rfl, ?_⟩
      refine Lib.hid ((HX.out _ ?_).trans (by simp))
      rw [Bool.eq_iff_iff]
      simp only [Bool.or_eq_true, Bool.and_eq_true, decide_eq_true_eq, true_iff, Bool.false_eq_true, false_iff]
      omega
    case round =>
      obtain ⟨k, gb, hk, rfl, rfl, HG⟩ := hrel
      clear a1 a2 a3 a4 a5 a6
      by_cases hlt : k < 14
      · have hN := HS.out k hlt gb HG.out
        have hlM : k < M.size := by rw [hMs]; exact hlt
        have hm : ((M[k]'hlM).toNat : Int) = ((some14[k]'hlt).toNat : Int) := by rw [hA'.out k hlt hlM]
        generalize ((some14[k]'hlt).toNat : Int) = x at hN hm
        cases gb
        · have HN : Hid ((x == c) = (p || (some14.take (k + 1)).contains b)) := Lib.hid (by simpa using hN)
          clear hN
          go_wp2
          go_round
          case rel => exact ⟨k + 1, _, by omega, rfl, by go_num, HN⟩
          case measure => simp [intOf]; omega
        · have HN : Hid (true = (p || (some14.take (k + 1)).contains b)) := Lib.hid (by simpa using hN)
          clear hN
          go_wp2
          go_round
          case rel => exact ⟨k + 1, _, by omega, rfl, by go_num, HN⟩
          case measure => simp [intOf]; omega
      · have hg := HG.out
        rw [List.take_of_length_le (by show 14 ≤ k; omega)] at hg
        have hf := HF.out
        rw [← hg] at hf
        cases gb
        · have hT : T = (c == 96) := by simpa using hf
          subst hT
          clear hg hf
          go_wp2_with (first
            | (go_at_call 17; with_reducible refine (HT.out _).mono ?_; rintro e w2 ⟨rfl, rfl⟩)
            | (go_at_call 17; with_reducible refine (HT2.out _).mono ?_; rintro e w2 ⟨rfl, rfl⟩))
          go_ret
          exact ⟨rfl, HB1.out.alloc hz1 _⟩
        · have hT : T = true := by simpa using hf
          subst hT
          clear hg hf
          go_wp2_with (first
            | (go_at_call 17; with_reducible refine (HT.out _).mono ?_; rintro e w2 ⟨rfl, rfl⟩)
            | (go_at_call 17; with_reducible refine (HT2.out _).mono ?_; rintro e w2 ⟨rfl, rfl⟩))
          go_ret
          exact ⟨rfl, HB1.out.alloc hz1 _⟩
theorem OctetTokens_walk (b : UInt8) (w : World) (hE : Env w) :
    Calls Tryd.prog 6 #[.int .u8 (b.toNat : Int)] w fun e w' => e = .returned (.bool true) ∧ Below w.heap.size w w' := tokens_core b w hE _ rfl
end Go.Proofs.YtjmkhekigdnjgaaDoor
