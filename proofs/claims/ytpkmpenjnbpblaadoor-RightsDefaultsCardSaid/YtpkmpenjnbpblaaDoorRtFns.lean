/- Contracts of rights: Right, Has, Meet, Without, Reduce, Need, Default; the reference's Has and Sub; awake. -/
import Derived.Test.YtpkmpenjnbpblaaDoorRtText
import Derived.LoopTactic
import Derived.WalkMore
namespace Go.Proofs.YtpkmpenjnbpblaaDoor.Rt
open Go Go.RowKit Go.Proofs.YtpkmpenjnbpblaaDoor.Mem Go.Proofs.YtpkmpenjnbpblaaDoor.Bits
set_option linter.unusedVariables false
set_option linter.unusedSimpArgs false
def rightN (r : Int) : Bool := bits .andNot .i64 r 4095 == 0
def hasN (r need : Int) : Bool := bits .andNot .i64 need r == 0
theorem right_any (r : Int) (w : World) : Calls Tryd.prog 7 #[.int .i64 r] w fun e w' => e = .returned (.bool (rightN r)) ∧ w = w' := by
  go_enter Tryd.func7, Tryd.ntmps7
  go_wp2
  go_ret
  exact ⟨rfl, rfl⟩
theorem has_any (r o : Int) (w : World) : Calls Tryd.prog 13 #[.int .i64 r, .int .i64 o] w fun e w' => e = .returned (.bool (hasN r o)) ∧ w = w' := by
  go_enter Tryd.func13, Tryd.ntmps13
  go_wp2
  go_ret
  exact ⟨rfl, rfl⟩
def redV (r o : Int) : Int := if o = 2147483648 then r else if rightN o && hasN r o then o else 0
def redS (r o : Int) : Int := if o = 2147483648 then 0 else if rightN o && hasN r o then 0 else -10
theorem reduce_any (r o : Int) (w : World) : Calls Tryd.prog 15 #[.int .i64 r, .int .i64 o] w fun e w' => e = .returned (.tuple #[.int .i64 (redV r o), .int .i64 (redS r o)]) ∧ w = w' := by
  have H1 := Lib.hid (right_any o)
  have H2 := Lib.hid (has_any r o)
  unfold redV redS
  by_cases ho : o = 2147483648
  · subst ho
    rw [if_pos rfl, if_pos rfl]
    go_enter Tryd.func15, Tryd.ntmps15
    go_wp2
    go_ret2
    exact ⟨rfl, rfl⟩
  · rw [if_neg ho, if_neg ho]
    have z1 : (o == 2147483648) = false := beq_eq_false_iff_ne.mpr ho
    clear ho
    cases h1 : rightN o
    · rw [h1] at H1
      clear h1
      go_enter Tryd.func15, Tryd.ntmps15
      go_wp2_with (first
        | (go_at_call 7; (with_reducible refine (H1.out _).mono ?_); rintro e w1 ⟨rfl, rfl⟩)
        | (go_at_call 13; (with_reducible refine (H2.out _).mono ?_); rintro e w1 ⟨rfl, rfl⟩))
      go_ret2
      exact ⟨rfl, rfl⟩
    · cases h2 : hasN r o
      all_goals
        rw [h1] at H1
        rw [h2] at H2
        clear h1 h2
        go_enter Tryd.func15, Tryd.ntmps15
        go_wp2_with (first
          | (go_at_call 7; (with_reducible refine (H1.out _).mono ?_); rintro e w1 ⟨rfl, rfl⟩)
          | (go_at_call 13; (with_reducible refine (H2.out _).mono ?_); rintro e w1 ⟨rfl, rfl⟩))
        go_ret2
        exact ⟨rfl, rfl⟩
theorem default7 (w : World) : Calls Tryd.prog 5 #[.int .i64 7] w fun e w' => e = .returned (.int .i64 211) ∧ w = w' := by
  go_enter Tryd.func5, Tryd.ntmps5
  go_wp2
  go_ret
  exact ⟨rfl, rfl⟩
def subN (n m : Int) (k : Nat) : Bool := decide (∀ i, i < k → tb m i = true → tb n i = true)
theorem txt5 : txt 5 = [68, 82] := by decide
theorem awake_any (w : World) : Calls Tryd.prog 10 #[] w fun e w' => e = .returned (.bool true) ∧ Below w.heap.size w w' := by
  have H1 := reduce_any 15 4
  rw [show redV 15 4 = 4 by decide, show redS 15 4 = 0 by decide] at H1
  have H2 := text_any 5
  rw [txt5] at H2
  have HR := Lib.hid H1
  have HT := Lib.hid H2
  have HD := Lib.hid default7
  clear H1 H2
  go_enter Tryd.func10, Tryd.ntmps10
  go_wp2_with (first
    | (go_at_call 15; (with_reducible refine (HR.out _).mono ?_); rintro e w1 ⟨rfl, rfl⟩)
    | (go_at_call 5; (with_reducible refine (HD.out _).mono ?_); rintro e w1 ⟨rfl, rfl⟩)
    | (go_at_call 12; (with_reducible refine (HT.out _).mono ?_); rintro e w2 ⟨rfl, hb2⟩))
  go_ret
  exact ⟨rfl, hb2⟩
/-! ### plain laws on bits -/
theorem and_low12 (x : Int) : bits .and .i64 x 4095 = x % 4096 := by
  have h16 : (BitVec.ofInt 64 4095).toNat = 2 ^ 12 - 1 := by decide
  have key : (BitVec.ofInt 64 x &&& BitVec.ofInt 64 4095).toNat = (x % ((2 ^ 64 : Nat) : Int)).toNat % 2 ^ 12 := by
    rw [BitVec.toNat_and, BitVec.toNat_ofInt, h16, Nat.and_two_pow_sub_one_eq_mod]
  show IntKind.i64.wrap ((BitVec.ofInt 64 x &&& BitVec.ofInt 64 4095).toNat : Nat) = x % 4096
  rw [key, IntKind.wrap_i64]
  omega
def in64 (x : Int) : Prop := -9223372036854775808 ≤ x ∧ x ≤ 9223372036854775807
theorem in64_wf {x : Int} (h : (Lit.int .i64 x).wf = true) : in64 x := by
  simp [Lit.wf, IntKind.min, IntKind.max, IntKind.signed, IntKind.bits] at h
  unfold in64
  omega
theorem has_iff {r o : Int} (ho : in64 o) : hasN r o = true ↔ ∀ i, i < 64 → tb o i = true → tb r i = true := by
  unfold hasN
  rw [beq_iff_eq]
  constructor
  · intro h i hi ht
    have := tb_andNot o r hi
    rw [h, tb_zero, ht] at this
    simpa using this.symm
  · intro h
    refine tb_ext (bits_range _ _ _) (by decide) fun i hi => ?_
    rw [tb_andNot o r hi, tb_zero]
    cases ht : tb o i
    · rfl
    · rw [h i hi ht]; rfl
theorem has_sub {r o : Int} (ho : in64 o) : hasN r o = subN r o 64 := by
  have := has_iff (r := r) ho
  unfold subN
  cases h : hasN r o
  · symm
    exact decide_eq_false (fun h' => by rw [this.2 h'] at h; cases h)
  · symm
    exact decide_eq_true (this.1 h)
theorem has_self {o : Int} (ho : in64 o) : hasN o o = true := (has_iff ho).2 fun _ _ h => h
theorem right_iff {b : Int} (hb : in64 b) : rightN b = true ↔ 0 ≤ b ∧ b ≤ 4095 := by
  have hlow := and_low12 b
  have key : rightN b = true ↔ bits .and .i64 b 4095 = b := by
    unfold rightN
    rw [beq_iff_eq]
    constructor
    · intro h
      refine tb_ext (bits_range _ _ _) hb fun i hi => ?_
      have := tb_andNot b 4095 hi
      rw [h, tb_zero] at this
      rw [tb_and b 4095 hi]
      cases ht : tb b i
      · rfl
      · rw [ht] at this
        simp at this
        rw [this]; rfl
    · intro h
      refine tb_ext (bits_range _ _ _) (by decide) fun i hi => ?_
      have := tb_and b 4095 hi
      rw [h] at this
      rw [tb_andNot b 4095 hi, tb_zero]
      cases ht : tb b i
      · rfl
      · rw [ht] at this
        simp at this
        rw [this]; rfl
  rw [key, hlow]
  omega
end Go.Proofs.YtpkmpenjnbpblaaDoor.Rt
