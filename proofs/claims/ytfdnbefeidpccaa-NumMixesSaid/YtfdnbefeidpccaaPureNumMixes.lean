/- A number is mixed as the document says, never below 0; no condition. -/
import Derived.Test.YtfdnbefeidpccaaPNumMixesx1
import Derived.Laws.MathBits
namespace Go.Proofs.Ytfdnbefeidpccaa.Pure
open Go Go.RowKit Go.Proofs.Ytfdnbefeidpccaa.PNumMixes Go.Proofs.YtfdnbefeidpccaaW.PrintWords Go.Proofs.YtfdnbefeidpccaaW.PrintLast Go.Proofs.YtfdnbefeidpccaaW.PrintMore
set_option linter.unusedVariables false
set_option linter.unusedSimpArgs false
theorem wf_i64 {a : Int} (h : (Lit.int .i64 a).wf = true) : -9223372036854775808 ≤ a ∧ a ≤ 9223372036854775807 := by
  simp [Lit.wf, IntKind.min, IntKind.max, IntKind.signed, IntKind.bits] at h; omega
theorem dne {p q : Prop} [Decidable p] [Decidable q] : ((decide p) != (decide q)) = true ↔ ¬ (p ↔ q) := by
  by_cases p <;> by_cases q <;> simp [*]
theorem wrap64_in {x : Int} (h : -9223372036854775808 ≤ x) (h' : x ≤ 9223372036854775807) : wrap64 x = x := by unfold wrap64; omega
theorem wu64 (x : Int) : IntKind.u64.wrap x = x % 18446744073709551616 := by simp [IntKind.wrap, IntKind.bits, IntKind.signed]
theorem add_yes {a b : Int} (ha : -9223372036854775808 ≤ a ∧ a ≤ 9223372036854775807) (hb : -9223372036854775808 ≤ b ∧ b ≤ 9223372036854775807) (h : -9223372036854775808 ≤ a + b ∧ a + b ≤ 9223372036854775807) : num_Add.f a b = some (a + b, true) := by
  unfold num_Add.f
  rw [wrap64_in h.1 h.2]
  split
  · next h1 => rw [dne] at h1; rw [if_pos (by omega)]
  · rfl
theorem add_no {a b : Int} (ha : -9223372036854775808 ≤ a ∧ a ≤ 9223372036854775807) (hb : -9223372036854775808 ≤ b ∧ b ≤ 9223372036854775807) (h : ¬ (-9223372036854775808 ≤ a + b ∧ a + b ≤ 9223372036854775807)) : num_Add.f a b = some (0, false) := by
  unfold num_Add.f
  have hw : wrap64 (a + b) = if 0 ≤ a then a + b - 18446744073709551616 else a + b + 18446744073709551616 := by unfold wrap64; split <;> omega
  rw [hw, if_pos (by rw [dne]; split <;> omega), if_neg (by omega)]
theorem awake_t : jacinthlaw01_awake.f = some true := by simp only [jacinthlaw01_awake.f]; rw [add_yes (by omega) (by omega) (by omega), add_no (by omega) (by omega) (by omega)]; rfl

theorem mix_red (a : Int) : ((a % 18446744073709551616 * 2862933555777941757 % 18446744073709551616 + 3037000493) % 18446744073709551616) = (a * 2862933555777941757 + 3037000493) % 18446744073709551616 := by
  rw [Int.mul_emod, Int.emod_emod, ← Int.mul_emod, Int.emod_add_emod]
theorem half_red (x : Int) : x % 18446744073709551616 * 2 % 18446744073709551616 / 2 = x % 9223372036854775808 := by omega
theorem mix_eq (a : Int) : num_Mix.f a = some ((a * 2862933555777941757 + 3037000493) % 9223372036854775808) := by
  unfold num_Mix.f
  simp only [wu64]
  rw [mix_red, half_red, wrap64_in (by omega) (by omega)]
theorem pow2_pos (i : Nat) : (0 : Int) < 2 ^ i := Int.pow_pos (by decide)
theorem and_one (x : Int) : Go.bits .and .i64 x 1 = x % 2 := by
  have h127 : (BitVec.ofInt 64 1).toNat = 2 ^ 1 - 1 := by decide
  have key : (BitVec.ofInt 64 x &&& BitVec.ofInt 64 1).toNat = (x % ((2 ^ 64 : Nat) : Int)).toNat % 2 ^ 1 := by
    rw [BitVec.toNat_and, BitVec.toNat_ofInt, h127, Nat.and_two_pow_sub_one_eq_mod]
  show IntKind.i64.wrap ((BitVec.ofInt 64 x &&& BitVec.ofInt 64 1).toNat : Nat) = x % 2
  rw [key, IntKind.wrap_i64]
  omega
theorem bit_step (c : Int) (i : Nat) : c % 2 ^ (i + 1) = c % 2 ^ i + c / 2 ^ i % 2 * 2 ^ i := by
  have hp := pow2_pos i
  have e1 := Int.mul_ediv_add_emod c (2 ^ (i + 1))
  have e2 := Int.mul_ediv_add_emod c (2 ^ i)
  have e3 := Int.mul_ediv_add_emod (c / 2 ^ i) 2
  rw [show c / 2 ^ i / 2 = c / 2 ^ (i + 1) by rw [Int.ediv_ediv_of_nonneg (Int.le_of_lt hp), Int.pow_succ]] at e3
  have e4 : (2 : Int) ^ (i + 1) = 2 ^ i * 2 := Int.pow_succ 2 i
  rw [e4] at e1 e3 ⊢
  generalize (2 : Int) ^ i = p at *
  generalize c / (p * 2) = q at *
  generalize c / p % 2 = b at *
  grind

theorem shr_c (i : Nat) (h : i ≤ 64) : shr .i64 2862933555777941757 i = 2862933555777941757 / 2 ^ i := by
  unfold shr
  rw [Int.toNat_natCast, Nat.min_eq_left (by simpa [IntKind.bits] using h)]
theorem shl_u (u : Int) (i : Nat) (h : i ≤ 64) : shl .u64 u i = (u * 2 ^ i) % 18446744073709551616 := by
  unfold shl
  rw [Int.toNat_natCast, Nat.min_eq_left (by simpa [IntKind.bits] using h), wu64]
theorem and_low63 (z : Int) (h0 : 0 ≤ z) (h1 : z < 18446744073709551616) : Go.bits .and .u64 z 9223372036854775807 = z % 9223372036854775808 := by
  have h127 : (BitVec.ofInt 64 9223372036854775807).toNat = 2 ^ 63 - 1 := by decide
  have key : (BitVec.ofInt 64 z &&& BitVec.ofInt 64 9223372036854775807).toNat = (z % ((2 ^ 64 : Nat) : Int)).toNat % 2 ^ 63 := by
    rw [BitVec.toNat_and, BitVec.toNat_ofInt, h127, Nat.and_two_pow_sub_one_eq_mod]
  show IntKind.u64.wrap ((BitVec.ofInt 64 z &&& BitVec.ofInt 64 9223372036854775807).toNat : Nat) = z % 9223372036854775808
  rw [key, wu64]
  omega
theorem mixes_end (a : Int) (k : Nat) : jacinthlaw01_NumMixes.l0 (k + 1) a (a % 18446744073709551616) (a % 18446744073709551616 * 2862933555777941757 % 18446744073709551616) 64 = some true := by
  simp only [jacinthlaw01_NumMixes.l0, mix_eq, Option.bind_some, awake_t]
  rw [if_neg (by decide), if_pos (by omega), if_pos]
  rw [wu64, wu64, and_low63 _ (by omega) (by omega), Int.mul_emod, Int.emod_emod, ← Int.mul_emod]
  generalize a * 2862933555777941757 = x
  omega
theorem mixes_loop (a : Int) (d : Nat) : ∀ (i k : Nat), i ≤ 64 → 64 - i = d → d < k →
    jacinthlaw01_NumMixes.l0 k a (a % 18446744073709551616) ((a % 18446744073709551616 * (2862933555777941757 % 2 ^ i)) % 18446744073709551616) i = some true := by
  induction d with
  | zero =>
    intro i k hi hd hk
    obtain ⟨k, rfl⟩ : ∃ m, k = m + 1 := ⟨k - 1, by omega⟩
    obtain rfl : i = 64 := by omega
    exact mixes_end a k
  | succ d ih =>
    intro i k hi hd hk
    obtain ⟨k, rfl⟩ : ∃ m, k = m + 1 := ⟨k - 1, by omega⟩
    have h := ih (i + 1) k (by omega) (by omega) (by omega)
    simp only [jacinthlaw01_NumMixes.l0]
    rw [if_pos (by omega), if_pos (by omega), shr_c i hi, shl_u _ i hi, wrap64_in (by omega) (by omega), and_one, wu64]
    rw [bit_step] at h
    by_cases hb : (2862933555777941757 : Int) / 2 ^ i % 2 = 1
    · rw [if_pos hb]
      rw [hb] at h
      rw [← Int.add_emod, ← Int.mul_add]
      rw [Int.one_mul] at h
      exact h
    · rw [if_neg hb]
      rw [show (2862933555777941757 : Int) / 2 ^ i % 2 = 0 by omega, Int.zero_mul, Int.add_zero] at h
      exact h
theorem NumMixes_all (a : Int) : jacinthlaw01_NumMixes.f 65 a = some true := by
  have h := mixes_loop a 64 0 65 (by omega) (by omega) (by omega)
  rw [show (2862933555777941757 : Int) % 2 ^ 0 = 0 by decide, Int.mul_zero] at h
  unfold jacinthlaw01_NumMixes.f
  rw [wu64]
  exact h
theorem NumMixes : jacinthlaw01_NumMixes.Pure := by
  intro a _
  exact ⟨65, NumMixes_all a⟩
end Go.Proofs.Ytfdnbefeidpccaa.Pure
