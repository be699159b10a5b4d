/- Two numbers that are mixed are alike just if they were alike but for the highest bit; no condition. -/
import Derived.Test.YtfdnbefeidpccaaPNumMixedx1
import Derived.Laws.MathBits
namespace Go.Proofs.Ytfdnbefeidpccaa.Pure
open Go Go.RowKit Go.Proofs.Ytfdnbefeidpccaa.PNumMixed Go.Proofs.YtfdnbefeidpccaaW.PrintWords Go.Proofs.YtfdnbefeidpccaaW.PrintLast Go.Proofs.YtfdnbefeidpccaaW.PrintMore
set_option linter.unusedVariables false
set_option linter.unusedSimpArgs false
theorem wf_i64 {a : Int} (h : (Lit.int .i64 a).wf = true) : -9223372036854775808 ≤ a ∧ a ≤ 9223372036854775807 := by
  simp [Lit.wf, IntKind.min, IntKind.max, IntKind.signed, IntKind.bits] at h; omega
theorem dne {p q : Prop} [Decidable p] [Decidable q] : ((decide p) != (decide q)) = true ↔ ¬ (p ↔ q) := by
  by_cases p <;> by_cases q <;> simp [*]
theorem wrap64_in {x : Int} (h : -9223372036854775808 ≤ x) (h' : x ≤ 9223372036854775807) : wrap64 x = x := by unfold wrap64; omega
theorem wu64 (x : Int) : IntKind.u64.wrap x = x % 18446744073709551616 := by simp [IntKind.wrap, IntKind.bits, IntKind.signed]
theorem add_yes {a b : Int} (ha : -9223372036854775808 ≤ a ∧ a ≤ 9223372036854775807) (hb : -9223372036854775808 ≤ b ∧ b ≤ 9223372036854775807) (h : -9223372036854775808 ≤ a + b ∧ a + b ≤ 9223372036854775807) : num_Add.f a b = some (a + b, true) := by
  unfold num_Add.f
  rw [wrap64_in h.1 h.2]
  split
  · next h1 => rw [dne] at h1; rw [if_pos (by omega)]
  · rfl
theorem add_no {a b : Int} (ha : -9223372036854775808 ≤ a ∧ a ≤ 9223372036854775807) (hb : -9223372036854775808 ≤ b ∧ b ≤ 9223372036854775807) (h : ¬ (-9223372036854775808 ≤ a + b ∧ a + b ≤ 9223372036854775807)) : num_Add.f a b = some (0, false) := by
  unfold num_Add.f
  have hw : wrap64 (a + b) = if 0 ≤ a then a + b - 18446744073709551616 else a + b + 18446744073709551616 := by unfold wrap64; split <;> omega
  rw [hw, if_pos (by rw [dne]; split <;> omega), if_neg (by omega)]
theorem awake_t : jacinthlaw01_awake.f = some true := by simp only [jacinthlaw01_awake.f]; rw [add_yes (by omega) (by omega) (by omega), add_no (by omega) (by omega) (by omega)]; rfl

theorem mix_red (a : Int) : ((a % 18446744073709551616 * 2862933555777941757 % 18446744073709551616 + 3037000493) % 18446744073709551616) = (a * 2862933555777941757 + 3037000493) % 18446744073709551616 := by
  rw [Int.mul_emod, Int.emod_emod, ← Int.mul_emod, Int.emod_add_emod]
theorem half_red (x : Int) : x % 18446744073709551616 * 2 % 18446744073709551616 / 2 = x % 9223372036854775808 := by omega
theorem mix_alike (a b : Int) : (a * 2862933555777941757 + 3037000493) % 9223372036854775808 = (b * 2862933555777941757 + 3037000493) % 9223372036854775808 ↔ a % 18446744073709551616 * 2 % 18446744073709551616 = b % 18446744073709551616 * 2 % 18446744073709551616 := by
  have e : ∀ x : Int, x % 18446744073709551616 * 2 % 18446744073709551616 = (x % 9223372036854775808) * 2 := fun x => by omega
  rw [e a, e b]
  have hc : (a % 9223372036854775808 * 2 = b % 9223372036854775808 * 2) ↔ a % 9223372036854775808 = b % 9223372036854775808 := by omega
  rw [hc]
  constructor
  · intro h
    have h1 := Int.emod_emod_of_dvd
    have h2 : (9223372036854775808 : Int) ∣ (a * 2862933555777941757 + 3037000493) - (b * 2862933555777941757 + 3037000493) := Int.dvd_of_emod_eq_zero (Int.emod_eq_emod_iff_emod_sub_eq_zero.mp h)
    obtain ⟨k, hk⟩ := h2
    have h3 : a - b = 9223372036854775808 * (k * 6910325060097862741 - 2144964056186308417 * (a - b)) := by grind
    have h4 : (9223372036854775808 : Int) ∣ a - b := ⟨_, h3⟩
    exact Int.emod_eq_emod_iff_emod_sub_eq_zero.mpr (Int.emod_eq_zero_of_dvd h4)
  · intro h
    rw [← Int.emod_add_emod, Int.mul_emod, h, ← Int.mul_emod, Int.emod_add_emod]
theorem mix_eq (a : Int) : num_Mix.f a = some ((a * 2862933555777941757 + 3037000493) % 9223372036854775808) := by
  unfold num_Mix.f
  simp only [wu64]
  rw [mix_red, half_red, wrap64_in (by omega) (by omega)]
theorem beqd (a b : Int) : (a == b) = decide (a = b) := by rfl
theorem NumMixed_all (a b : Int) : jacinthlaw01_NumMixed.f a b = some true := by
  unfold jacinthlaw01_NumMixed.f
  simp only [mix_eq, Option.bind_some, wu64, awake_t]
  rw [if_pos (by omega), if_pos (by omega), if_pos]
  have h := mix_alike a b
  simp only [beqd, beq_iff_eq, decide_eq_decide]
  exact h
theorem NumMixed : jacinthlaw01_NumMixed.Pure := by
  intro a b _ _
  exact NumMixed_all a b
end Go.Proofs.Ytfdnbefeidpccaa.Pure
