/- Contracts of rights: Right, Has, Meet, Without, Reduce, Need, Default; the reference's Has and Sub; awake. -/
import Derived.Test.YtpkmpenjnbpblaaRtText
import Derived.LoopTactic
import Derived.WalkMore
namespace Go.Proofs.Ytpkmpenjnbpblaa.Rt
open Go Go.RowKit Go.Proofs.Ytpkmpenjnbpblaa.Mem Go.Proofs.Ytpkmpenjnbpblaa.Bits
set_option linter.unusedVariables false
set_option linter.unusedSimpArgs false
def rightN (r : Int) : Bool := bits .andNot .i64 r 4095 == 0
def hasN (r need : Int) : Bool := bits .andNot .i64 need r == 0
theorem right_any (r : Int) (w : World) : Calls Try.prog 17 #[.int .i64 r] w fun e w' => e = .returned (.bool (rightN r)) ∧ w = w' := by
  go_enter Try.func17, Try.ntmps17
  go_wp2
  go_ret
  exact ⟨rfl, rfl⟩
theorem has_any (r o : Int) (w : World) : Calls Try.prog 10 #[.int .i64 r, .int .i64 o] w fun e w' => e = .returned (.bool (hasN r o)) ∧ w = w' := by
  go_enter Try.func10, Try.ntmps10
  go_wp2
  go_ret
  exact ⟨rfl, rfl⟩
theorem meet_any (r o : Int) (w : World) : Calls Try.prog 11 #[.int .i64 r, .int .i64 o] w fun e w' => e = .returned (.int .i64 (bits .and .i64 r o)) ∧ w = w' := by
  go_enter Try.func11, Try.ntmps11
  go_wp2
  go_ret
  exact ⟨rfl, rfl⟩
theorem without_any (r o : Int) (w : World) : Calls Try.prog 12 #[.int .i64 r, .int .i64 o] w fun e w' => e = .returned (.int .i64 (bits .andNot .i64 r o)) ∧ w = w' := by
  go_enter Try.func12, Try.ntmps12
  go_wp2
  go_ret
  exact ⟨rfl, rfl⟩
def redV (r o : Int) : Int := if o = 2147483648 then r else if rightN o && hasN r o then o else 0
def redS (r o : Int) : Int := if o = 2147483648 then 0 else if rightN o && hasN r o then 0 else -10
theorem reduce_any (r o : Int) (w : World) : Calls Try.prog 7 #[.int .i64 r, .int .i64 o] w fun e w' => e = .returned (.tuple #[.int .i64 (redV r o), .int .i64 (redS r o)]) ∧ w = w' := by
  have H1 := Lib.hid (right_any o)
  have H2 := Lib.hid (has_any r o)
  unfold redV redS
  by_cases ho : o = 2147483648
  · subst ho
    rw [if_pos rfl, if_pos rfl]
    go_enter Try.func7, Try.ntmps7
    go_wp2
    go_ret2
    exact ⟨rfl, rfl⟩
  · rw [if_neg ho, if_neg ho]
    have z1 : (o == 2147483648) = false := beq_eq_false_iff_ne.mpr ho
    clear ho
    cases h1 : rightN o
    · rw [h1] at H1
      clear h1
      go_enter Try.func7, Try.ntmps7
      go_wp2_with (first
        | (go_at_call 17; (with_reducible refine (H1.out _).mono ?_); rintro e w1 ⟨rfl, rfl⟩)
        | (go_at_call 10; (with_reducible refine (H2.out _).mono ?_); rintro e w1 ⟨rfl, rfl⟩))
      go_ret2
      exact ⟨rfl, rfl⟩
    · cases h2 : hasN r o
      all_goals
        rw [h1] at H1
        rw [h2] at H2
        clear h1 h2
        go_enter Try.func7, Try.ntmps7
        go_wp2_with (first
          | (go_at_call 17; (with_reducible refine (H1.out _).mono ?_); rintro e w1 ⟨rfl, rfl⟩)
          | (go_at_call 10; (with_reducible refine (H2.out _).mono ?_); rintro e w1 ⟨rfl, rfl⟩))
        go_ret2
        exact ⟨rfl, rfl⟩
theorem need_any (r o : Int) (w : World) : Calls Try.prog 20 #[.int .i64 r, .int .i64 o] w fun e w' => e = .returned (.int .i64 (if hasN r o then 0 else -30)) ∧ w = w' := by
  have H2 := Lib.hid (has_any r o)
  cases h2 : hasN r o
  all_goals
    rw [h2] at H2
    clear h2
    go_enter Try.func20, Try.ntmps20
    go_wp2_with (first
      | (go_at_call 10; (with_reducible refine (H2.out _).mono ?_); rintro e w1 ⟨rfl, rfl⟩))
    go_ret
    exact ⟨rfl, rfl⟩
theorem default7 (w : World) : Calls Try.prog 21 #[.int .i64 7] w fun e w' => e = .returned (.int .i64 211) ∧ w = w' := by
  go_enter Try.func21, Try.ntmps21
  go_wp2
  go_ret
  exact ⟨rfl, rfl⟩
theorem rhas_any (n : Int) (i : Nat) (hi : i < 64) (w : World) : Calls Try.prog 18 #[.int .i64 n, .int .i64 i] w fun e w' => e = .returned (.bool (tb n i)) ∧ w = w' := by
  have ha := and_one (n / 2 ^ i)
  by_cases h1 : n / 2 ^ i % 2 = 1
  · have t1 : tb n i = true := decide_eq_true h1
    rw [h1] at ha
    rw [t1]
    clear h1 t1
    go_enter Try.func18, Try.ntmps18
    go_wp2
    go_ret
    exact ⟨rfl, rfl⟩
  · have t1 : tb n i = false := decide_eq_false h1
    have h0 : n / 2 ^ i % 2 = 0 := by omega
    rw [h0] at ha
    rw [t1]
    clear h1 t1 h0
    go_enter Try.func18, Try.ntmps18
    go_wp2
    go_ret
    exact ⟨rfl, rfl⟩
def subN (n m : Int) (k : Nat) : Bool := decide (∀ i, i < k → tb m i = true → tb n i = true)
set_option maxHeartbeats 1000000 in
theorem sub_any (n m : Int) (w : World) : Calls Try.prog 9 #[.int .i64 n, .int .i64 m] w fun e w' => e = .returned (.bool (subN n m 64)) ∧ w = w' := by
  go_enter Try.func9, Try.ntmps9
  go_wp2
  go_loopw [5] (fun i wr => ∃ k : Nat, k ≤ 64 ∧ i = .int .i64 k ∧ Hid (∀ i, i < k → tb m i = true → tb n i = true) ∧ wr = w) (fun i _ => 64 - (intOf i).toNat)
  case atStart => exact ⟨0, by omega, rfl, Lib.hid (fun i h => by omega), rfl⟩
  case round =>
    obtain ⟨k, hk, rfl, hA, rfl⟩ := hrel
    by_cases hlt : k < 64
    · have h1 := Lib.hid (rhas_any m k hlt)
      have h2 := Lib.hid (rhas_any n k hlt)
      cases ht1 : tb m k
      · rw [ht1] at h1
        have HA : Hid (∀ i, i < k + 1 → tb m i = true → tb n i = true) := Lib.hid (fun i hi h => by
          rcases Nat.lt_or_ge i k with h' | h'
          · exact hA.out i h' h
          · obtain rfl : i = k := by omega
            rw [ht1] at h; cases h)
        clear ht1 hA
        go_wp2_with (first
          | (go_at_call 18; (with_reducible refine (h1.out _).mono ?_); rintro e w1 ⟨rfl, rfl⟩)
          | (go_at_call 18; (with_reducible refine (h2.out _).mono ?_); rintro e w1 ⟨rfl, rfl⟩))
        go_roundw
        case rel => exact ⟨k + 1, by omega, by go_num, HA, by first | rfl | trivial⟩
        case measure => simp [intOf]; omega
      · cases ht2 : tb n k
        · rw [ht1] at h1
          rw [ht2] at h2
          have HF : Hid (subN n m 64 = false) := Lib.hid (decide_eq_false (fun h => by
            have := h k hlt ht1
            rw [ht2] at this; cases this))
          clear ht1 ht2 hA
          go_wp2_with (first
            | (go_at_call 18; (with_reducible refine (h1.out _).mono ?_); rintro e w1 ⟨rfl, rfl⟩)
            | (go_at_call 18; (with_reducible refine (h2.out _).mono ?_); rintro e w1 ⟨rfl, rfl⟩))
          go_ret
          exact ⟨by rw [HF.out]; rfl, rfl⟩
        · rw [ht1] at h1
          rw [ht2] at h2
          have HA : Hid (∀ i, i < k + 1 → tb m i = true → tb n i = true) := Lib.hid (fun i hi h => by
            rcases Nat.lt_or_ge i k with h' | h'
            · exact hA.out i h' h
            · obtain rfl : i = k := by omega
              exact ht2)
          clear ht1 ht2 hA
          go_wp2_with (first
            | (go_at_call 18; (with_reducible refine (h1.out _).mono ?_); rintro e w1 ⟨rfl, rfl⟩)
            | (go_at_call 18; (with_reducible refine (h2.out _).mono ?_); rintro e w1 ⟨rfl, rfl⟩))
          go_roundw
          case rel => exact ⟨k + 1, by omega, by go_num, HA, by first | rfl | trivial⟩
          case measure => simp [intOf]; omega
    · obtain rfl : k = 64 := by omega
      have HT : Hid (subN n m 64 = true) := Lib.hid (decide_eq_true hA.out)
      clear hA
      go_wp2
      go_ret
      exact ⟨by rw [HT.out]; rfl, rfl⟩
theorem txt5 : txt 5 = [68, 82] := by decide
theorem awake_any (w : World) : Calls Try.prog 8 #[] w fun e w' => e = .returned (.bool true) ∧ Below w.heap.size w w' := by
  have H1 := reduce_any 15 4
  rw [show redV 15 4 = 4 by decide, show redS 15 4 = 0 by decide] at H1
  have H2 := text_any 5
  rw [txt5] at H2
  have HR := Lib.hid H1
  have HT := Lib.hid H2
  have HD := Lib.hid default7
  clear H1 H2
  go_enter Try.func8, Try.ntmps8
  go_wp2_with (first
    | (go_at_call 7; (with_reducible refine (HR.out _).mono ?_); rintro e w1 ⟨rfl, rfl⟩)
    | (go_at_call 21; (with_reducible refine (HD.out _).mono ?_); rintro e w1 ⟨rfl, rfl⟩)
    | (go_at_call 13; (with_reducible refine (HT.out _).mono ?_); rintro e w2 ⟨rfl, hb2⟩))
  go_ret
  exact ⟨rfl, hb2⟩
/-! ### plain laws on bits -/
theorem and_low12 (x : Int) : bits .and .i64 x 4095 = x % 4096 := by
  have h16 : (BitVec.ofInt 64 4095).toNat = 2 ^ 12 - 1 := by decide
  have key : (BitVec.ofInt 64 x &&& BitVec.ofInt 64 4095).toNat = (x % ((2 ^ 64 : Nat) : Int)).toNat % 2 ^ 12 := by
    rw [BitVec.toNat_and, BitVec.toNat_ofInt, h16, Nat.and_two_pow_sub_one_eq_mod]
  show IntKind.i64.wrap ((BitVec.ofInt 64 x &&& BitVec.ofInt 64 4095).toNat : Nat) = x % 4096
  rw [key, IntKind.wrap_i64]
  omega
def in64 (x : Int) : Prop := -9223372036854775808 ≤ x ∧ x ≤ 9223372036854775807
theorem in64_wf {x : Int} (h : (Lit.int .i64 x).wf = true) : in64 x := by
  simp [Lit.wf, IntKind.min, IntKind.max, IntKind.signed, IntKind.bits] at h
  unfold in64
  omega
theorem has_iff {r o : Int} (ho : in64 o) : hasN r o = true ↔ ∀ i, i < 64 → tb o i = true → tb r i = true := by
  unfold hasN
  rw [beq_iff_eq]
  constructor
  · intro h i hi ht
    have := tb_andNot o r hi
    rw [h, tb_zero, ht] at this
    simpa using this.symm
  · intro h
    refine tb_ext (bits_range _ _ _) (by decide) fun i hi => ?_
    rw [tb_andNot o r hi, tb_zero]
    cases ht : tb o i
    · rfl
    · rw [h i hi ht]; rfl
theorem has_sub {r o : Int} (ho : in64 o) : hasN r o = subN r o 64 := by
  have := has_iff (r := r) ho
  unfold subN
  cases h : hasN r o
  · symm
    exact decide_eq_false (fun h' => by rw [this.2 h'] at h; cases h)
  · symm
    exact decide_eq_true (this.1 h)
theorem has_self {o : Int} (ho : in64 o) : hasN o o = true := (has_iff ho).2 fun _ _ h => h
theorem right_iff {b : Int} (hb : in64 b) : rightN b = true ↔ 0 ≤ b ∧ b ≤ 4095 := by
  have hlow := and_low12 b
  have key : rightN b = true ↔ bits .and .i64 b 4095 = b := by
    unfold rightN
    rw [beq_iff_eq]
    constructor
    · intro h
      refine tb_ext (bits_range _ _ _) hb fun i hi => ?_
      have := tb_andNot b 4095 hi
      rw [h, tb_zero] at this
      rw [tb_and b 4095 hi]
      cases ht : tb b i
      · rfl
      · rw [ht] at this
        simp at this
        rw [this]; rfl
    · intro h
      refine tb_ext (bits_range _ _ _) (by decide) fun i hi => ?_
      have := tb_and b 4095 hi
      rw [h] at this
      rw [tb_andNot b 4095 hi, tb_zero]
      cases ht : tb b i
      · rfl
      · rw [ht] at this
        simp at this
        rw [this]; rfl
  rw [key, hlow]
  omega
end Go.Proofs.Ytpkmpenjnbpblaa.Rt
