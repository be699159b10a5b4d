/- Plain lemmas on the bits of 64-bit whole numbers: a bit is told by division, and the model's bitwise words are told bit by bit. -/
import Derived.RowKit
import Derived.Laws.BitsLemmas
namespace Go.Proofs.YtpkmpenjnbpblaaDoor.Bits
open Go Go.RowKit
set_option linter.unusedVariables false

/-- The bit i of a whole number. -/
def tb (x : Int) (i : Nat) : Bool := decide (x / 2 ^ i % 2 = 1)

theorem pow2_pos (i : Nat) : (0 : Int) < 2 ^ i := Int.pow_pos (by decide)
theorem split64 {i : Nat} (h : i < 64) : ∃ d : Int, (18446744073709551616 : Int) = 2 ^ i * (2 * d) := by
  refine ⟨2 ^ (63 - i), ?_⟩
  rw [show (2 : Int) * 2 ^ (63 - i) = 2 ^ (64 - i) by rw [← Int.pow_succ']; congr 1; omega, ← Int.pow_add, show i + (64 - i) = 64 by omega]
  rfl
theorem tb_add (x q : Int) {i : Nat} (h : i < 64) : tb (x + 18446744073709551616 * q) i = tb x i := by
  obtain ⟨d, hd⟩ := split64 h
  unfold tb
  rw [hd, Int.mul_assoc, Int.add_mul_ediv_left _ _ (by have := pow2_pos i; omega), Int.mul_assoc, Int.add_mul_emod_self_left]
theorem tb_emod (x : Int) {i : Nat} (h : i < 64) : tb (x % 18446744073709551616) i = tb x i := by
  rw [← tb_add (x % 18446744073709551616) (x / 18446744073709551616) h, Int.emod_add_mul_ediv]
theorem tb_nat (n i : Nat) : tb (n : Int) i = n.testBit i := by
  rw [Nat.testBit_eq_decide_div_mod_eq]
  unfold tb
  apply decide_eq_decide.mpr
  have : ((n : Int) / 2 ^ i % 2) = ((n / 2 ^ i % 2 : Nat) : Int) := by simp
  rw [this]
  omega
theorem getLsb_ofInt (x : Int) {i : Nat} (h : i < 64) : (BitVec.ofInt 64 x).getLsbD i = tb x i := by
  rw [BitVec.getLsbD, BitVec.toNat_ofInt, ← tb_nat, Int.toNat_of_nonneg (Int.emod_nonneg _ (by decide))]
  exact tb_emod x h
theorem tb_wrap (x : Int) {i : Nat} (h : i < 64) : tb (IntKind.i64.wrap x) i = tb x i := by
  rw [IntKind.wrap_i64, show (x + 9223372036854775808) % 18446744073709551616 - 9223372036854775808 = x + 18446744073709551616 * (-((x + 9223372036854775808) / 18446744073709551616)) by omega]
  exact tb_add x _ h
theorem tb_wrap64 (x : Int) {i : Nat} (h : i < 64) : tb (wrap64 x) i = tb x i := by
  rw [show wrap64 x = IntKind.i64.wrap x by unfold wrap64; rw [IntKind.wrap_i64]]
  exact tb_wrap x h
theorem tb_and (x y : Int) {i : Nat} (h : i < 64) : tb (Go.bits .and .i64 x y) i = (tb x i && tb y i) := by
  show tb (IntKind.i64.wrap ((BitVec.ofInt 64 x &&& BitVec.ofInt 64 y).toNat : Int)) i = _
  rw [tb_wrap _ h, tb_nat, ← getLsb_ofInt x h, ← getLsb_ofInt y h, ← BitVec.getLsbD_and]
  rfl
theorem tb_or (x y : Int) {i : Nat} (h : i < 64) : tb (Go.bits .or .i64 x y) i = (tb x i || tb y i) := by
  show tb (IntKind.i64.wrap ((BitVec.ofInt 64 x ||| BitVec.ofInt 64 y).toNat : Int)) i = _
  rw [tb_wrap _ h, tb_nat, ← getLsb_ofInt x h, ← getLsb_ofInt y h, ← BitVec.getLsbD_or]
  rfl
theorem tb_xor (x y : Int) {i : Nat} (h : i < 64) : tb (Go.bits .xor .i64 x y) i = (tb x i ^^ tb y i) := by
  show tb (IntKind.i64.wrap ((BitVec.ofInt 64 x ^^^ BitVec.ofInt 64 y).toNat : Int)) i = _
  rw [tb_wrap _ h, tb_nat, ← getLsb_ofInt x h, ← getLsb_ofInt y h, ← BitVec.getLsbD_xor]
  rfl
theorem tb_andNot (x y : Int) {i : Nat} (h : i < 64) : tb (Go.bits .andNot .i64 x y) i = (tb x i && !tb y i) := by
  show tb (IntKind.i64.wrap ((BitVec.ofInt 64 x &&& ~~~ BitVec.ofInt 64 y).toNat : Int)) i = _
  rw [tb_wrap _ h, tb_nat, ← getLsb_ofInt x h, ← getLsb_ofInt y h]
  have e : (!(BitVec.ofInt 64 y).getLsbD i) = (~~~ BitVec.ofInt 64 y).getLsbD i := by rw [BitVec.getLsbD_not]; simp [h]
  rw [e, ← BitVec.getLsbD_and]
  rfl
/-- Numbers of 64 bits are alike if their bits are. -/
theorem tb_ext {x y : Int} (hx : -9223372036854775808 ≤ x ∧ x ≤ 9223372036854775807) (hy : -9223372036854775808 ≤ y ∧ y ≤ 9223372036854775807) (h : ∀ i, i < 64 → tb x i = tb y i) : x = y := by
  have e : BitVec.ofInt 64 x = BitVec.ofInt 64 y := BitVec.eq_of_getLsbD_eq (fun i hi => by rw [getLsb_ofInt x hi, getLsb_ofInt y hi, h i hi])
  have e2 := congrArg BitVec.toNat e
  rw [BitVec.toNat_ofInt, BitVec.toNat_ofInt] at e2
  have h1 := Int.emod_nonneg x (show (18446744073709551616 : Int) ≠ 0 by decide)
  have h2 := Int.emod_nonneg y (show (18446744073709551616 : Int) ≠ 0 by decide)
  have e3 : x % 18446744073709551616 = y % 18446744073709551616 := by
    have : (((x % ((2 ^ 64 : Nat) : Int)).toNat : Nat) : Int) = ((y % ((2 ^ 64 : Nat) : Int)).toNat : Nat) := by rw [e2]
    rwa [Int.toNat_of_nonneg (by exact h1), Int.toNat_of_nonneg (by exact h2)] at this
  omega
theorem bits_range (op : BinOp) (x y : Int) : -9223372036854775808 ≤ Go.bits op .i64 x y ∧ Go.bits op .i64 x y ≤ 9223372036854775807 := by
  unfold Go.bits
  simp only [IntKind.wrap_i64]
  omega
theorem tb_zero (i : Nat) : tb 0 i = false := by simp [tb]
theorem and_one (x : Int) : Go.bits .and .i64 x 1 = x % 2 := by
  have h127 : (BitVec.ofInt 64 1).toNat = 2 ^ 1 - 1 := by decide
  have key : (BitVec.ofInt 64 x &&& BitVec.ofInt 64 1).toNat = (x % ((2 ^ 64 : Nat) : Int)).toNat % 2 ^ 1 := by
    rw [BitVec.toNat_and, BitVec.toNat_ofInt, h127, Nat.and_two_pow_sub_one_eq_mod]
  show IntKind.i64.wrap ((BitVec.ofInt 64 x &&& BitVec.ofInt 64 1).toNat : Nat) = x % 2
  rw [key, IntKind.wrap_i64]
  omega
theorem bit_one (x : Int) (i : Nat) : (Go.bits .and .i64 (x / 2 ^ i) 1 = 1) ↔ tb x i = true := by
  rw [and_one]
  unfold tb
  simp
theorem bit_step (c : Int) (i : Nat) : c % 2 ^ (i + 1) = c % 2 ^ i + c / 2 ^ i % 2 * 2 ^ i := by
  have hp := pow2_pos i
  have e1 := Int.mul_ediv_add_emod c (2 ^ (i + 1))
  have e2 := Int.mul_ediv_add_emod c (2 ^ i)
  have e3 := Int.mul_ediv_add_emod (c / 2 ^ i) 2
  rw [show c / 2 ^ i / 2 = c / 2 ^ (i + 1) by rw [Int.ediv_ediv_of_nonneg (Int.le_of_lt hp), Int.pow_succ]] at e3
  have e4 : (2 : Int) ^ (i + 1) = 2 ^ i * 2 := Int.pow_succ 2 i
  rw [e4] at e1 e3 ⊢
  generalize (2 : Int) ^ i = p at *
  generalize c / (p * 2) = q at *
  generalize c / p % 2 = b at *
  grind
end Go.Proofs.YtpkmpenjnbpblaaDoor.Bits
