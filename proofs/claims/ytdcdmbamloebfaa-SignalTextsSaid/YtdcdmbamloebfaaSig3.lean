/- The contract of awake; the walk of the statement SignalFires. -/
import Derived.Test.YtdcdmbamloebfaaSigRef2
namespace Go.Proofs.Ytdcdmbamloebfaa.Sig
open Go Go.RowKit Go.Proofs.Ytdcdmbamloebfaa.Bits
set_option linter.unusedVariables false
set_option linter.unusedSimpArgs false
theorem awake_any (w : World) : Calls Try.prog 15 #[] w fun e w' => e = .returned (.bool true) ∧ Below w.heap.size w w' := by
  have HC := Lib.hid (change_any 0 7 0 8)
  rw [show changeV 0 7 0 8 = 8 by decide +kernel, show changeE 7 0 8 = 0 by decide +kernel] at HC
  have HT := Lib.hid (text_any 259)
  rw [show txt 259 = [114, 119, 48] by decide +kernel] at HT
  have HF := Lib.hid (first_any 4)
  rw [show firstN 4 = 2 from rfl] at HF
  go_enter Try.func15, Try.ntmps15
  go_wp2_with (first | (go_at_call 9; (with_reducible refine (HC.out _).mono ?_); rintro e w1 ⟨rfl, rfl⟩) | (go_at_call 23; (with_reducible refine (HT.out _).mono ?_); rintro e w1 ⟨rfl, hb1⟩) | (go_at_call 21; (with_reducible refine (HF.out _).mono ?_); rintro e w1 ⟨rfl, rfl⟩))
  go_ret
  exact ⟨rfl, hb1⟩
/-- A bit below k that both have. -/
def anyN (n m : Int) : Nat → Bool
  | 0 => false
  | k + 1 => anyN n m k || (tb n k && tb m k)
theorem anyN_iff (n m : Int) : ∀ k, anyN n m k = true ↔ ∃ i, i < k ∧ tb n i = true ∧ tb m i = true
  | 0 => by simp [anyN]
  | k + 1 => by
    simp only [anyN, Bool.or_eq_true, Bool.and_eq_true, anyN_iff n m k]
    constructor
    · rintro (⟨i, h, h1, h2⟩ | ⟨h1, h2⟩)
      · exact ⟨i, by omega, h1, h2⟩
      · exact ⟨k, by omega, h1, h2⟩
    · rintro ⟨i, h, h1, h2⟩
      rcases Nat.lt_or_ge i k with h' | h'
      · exact .inl ⟨i, h', h1, h2⟩
      · obtain rfl : i = k := by omega
        exact .inr ⟨h1, h2⟩
theorem anyN_and (n m : Int) : anyN n m 64 = (bits .and .i64 n m != 0) := by
  rw [Bool.eq_iff_iff, anyN_iff, bne_iff_ne]
  constructor
  · rintro ⟨i, hi, h1, h2⟩ h
    have := tb_and n m hi
    rw [h, h1, h2, tb_zero] at this
    cases this
  · intro h
    apply Classical.byContradiction
    intro h2
    apply h
    refine tb_ext (bits_range _ _ _) (by decide) fun i hi => ?_
    rw [tb_and n m hi, tb_zero]
    cases h3 : tb n i <;> cases h4 : tb m i <;> try rfl
    exact absurd ⟨i, hi, h3, h4⟩ h2
theorem and_tb (x : Int) (k : Nat) : bits .and .i64 (x / 2 ^ k) 1 = (if tb x k then 1 else 0) := by
  rw [and_one]
  unfold tb
  by_cases h : x / 2 ^ k % 2 = 1
  · simp [h]
  · rw [if_neg (by simp [h])]
    omega
theorem below_drewN {B : Nat} {a w : World} (h : Below B a w) (n : Nat) : Below B a (w.drewN n) := ⟨h.os, h.tape, h.output, by simpa using h.size, fun k hk => by have := h.block k hk; simpa using this⟩
set_option maxHeartbeats 4000000 in
theorem fires_walk (s old want : Int) (w : World) : Calls Try.prog 5 #[.int .i64 s, .int .i64 old, .int .i64 want] w fun e w' => e = .returned (.bool true) ∧ Below w.heap.size w w' := by
  have HA := Lib.hid awake_any
  have HM := Lib.hid (meets_any s want)
  have hF := fires_any s old want
  rw [show (bits .and .i64 s want != 0 && bits .and .i64 old want == 0) = (anyN s want 64 && !anyN old want 64) by rw [anyN_and, anyN_and]; simp [bne]] at hF
  have HF := Lib.hid hF
  clear hF
  have HM0 := Lib.hid (fun (i : Nat) hi => tb_and s want (i := i) hi)
  generalize bits .and .i64 s want = m at *
  go_enter Try.func5, Try.ntmps5
  go_wp2
  go_loopw [7, 8, 13] (fun a b i wr => ∃ k : Nat, k ≤ 64 ∧ i = .int .i64 k ∧ a = .bool (anyN s want k) ∧ b = .bool (anyN old want k) ∧ Below w.heap.size w wr) (fun _ _ i _ => 64 - (intOf i).toNat)
  case atStart => exact ⟨0, by omega, rfl, rfl, rfl, Below.refl _ _⟩
  case round =>
    obtain ⟨k, hk, rfl, rfl, rfl, hb⟩ := hrel
    by_cases hlt : k < 64
    · have r1 : anyN s want (k + 1) = (anyN s want k || (tb s k && tb want k)) := rfl
      have r2 : anyN old want (k + 1) = (anyN old want k || (tb old k && tb want k)) := rfl
      have a1 := and_tb s k
      have a2 := and_tb want k
      have a3 := and_tb old k
      have a4 := and_tb m k
      rw [HM0.out k hlt] at a4
      generalize anyN s want k = g1 at *
      generalize anyN old want k = g2 at *
      generalize tb s k = b1 at *
      generalize tb want k = b2 at *
      generalize tb old k = b3 at *
      have R1 := Lib.hid r1
      have R2 := Lib.hid r2
      clear r1 r2
      cases b1 <;> cases b2 <;> cases b3 <;> cases g1 <;> cases g2
      all_goals
        simp only [Bool.and_true, Bool.and_false, Bool.false_eq_true, if_true, if_false] at a1 a2 a3 a4
        go_wp2_with (first | (go_at_call 17; (with_reducible refine (HM.out _).mono ?_); rintro e w1 ⟨rfl, rfl⟩))
        go_quiet (fail)
        go_wp2_with (first | (go_at_call 17; (with_reducible refine (HM.out _).mono ?_); rintro e w1 ⟨rfl, rfl⟩))
        go_roundw
        case rel => exact ⟨k + 1, by omega, by go_num, by rw [R1.out]; rfl, by rw [R2.out]; rfl, below_drewN hb _⟩
        case measure => simp [intOf]; omega
    · obtain rfl : k = 64 := by omega
      generalize anyN s want 64 = g1 at *
      generalize anyN old want 64 = g2 at *
      cases g1 <;> cases g2
      all_goals
        go_wp2_with (first | (go_at_call 18; (with_reducible refine (HF.out _).mono ?_); rintro e w1 ⟨rfl, rfl⟩) | (go_at_call 15; (with_reducible refine (HA.out _).mono ?_); rintro e w1 ⟨rfl, hb1⟩))
        go_ret
        exact ⟨rfl, hb.trans (hb1.mono hb.size)⟩
end Go.Proofs.Ytdcdmbamloebfaa.Sig
