/- The pages of a range are those of its first and of its last byte and all between, none if it is empty; no condition. -/
import Derived.Test.YtfdnbefeidpccaaPNumPagesx1
import Derived.Laws.MathBits
namespace Go.Proofs.Ytfdnbefeidpccaa.Pure
open Go Go.RowKit Go.Proofs.Ytfdnbefeidpccaa.PNumPages Go.Proofs.YtfdnbefeidpccaaW.PrintWords Go.Proofs.YtfdnbefeidpccaaW.PrintLast Go.Proofs.YtfdnbefeidpccaaW.PrintMore
set_option linter.unusedVariables false
set_option linter.unusedSimpArgs false
theorem wf_i64 {a : Int} (h : (Lit.int .i64 a).wf = true) : -9223372036854775808 ≤ a ∧ a ≤ 9223372036854775807 := by
  simp [Lit.wf, IntKind.min, IntKind.max, IntKind.signed, IntKind.bits] at h; omega
theorem dne {p q : Prop} [Decidable p] [Decidable q] : ((decide p) != (decide q)) = true ↔ ¬ (p ↔ q) := by
  by_cases p <;> by_cases q <;> simp [*]
theorem wrap64_in {x : Int} (h : -9223372036854775808 ≤ x) (h' : x ≤ 9223372036854775807) : wrap64 x = x := by unfold wrap64; omega
theorem add_yes {a b : Int} (ha : -9223372036854775808 ≤ a ∧ a ≤ 9223372036854775807) (hb : -9223372036854775808 ≤ b ∧ b ≤ 9223372036854775807) (h : -9223372036854775808 ≤ a + b ∧ a + b ≤ 9223372036854775807) : num_Add.f a b = some (a + b, true) := by
  unfold num_Add.f
  rw [wrap64_in h.1 h.2]
  split
  · next h1 => rw [dne] at h1; rw [if_pos (by omega)]
  · rfl
theorem add_no {a b : Int} (ha : -9223372036854775808 ≤ a ∧ a ≤ 9223372036854775807) (hb : -9223372036854775808 ≤ b ∧ b ≤ 9223372036854775807) (h : ¬ (-9223372036854775808 ≤ a + b ∧ a + b ≤ 9223372036854775807)) : num_Add.f a b = some (0, false) := by
  unfold num_Add.f
  have hw : wrap64 (a + b) = if 0 ≤ a then a + b - 18446744073709551616 else a + b + 18446744073709551616 := by unfold wrap64; split <;> omega
  rw [hw, if_pos (by rw [dne]; split <;> omega), if_neg (by omega)]
theorem awake_t : jacinthlaw01_awake.f = some true := by simp only [jacinthlaw01_awake.f]; rw [add_yes (by omega) (by omega) (by omega), add_no (by omega) (by omega) (by omega)]; rfl

theorem beqd (a b : Int) : (a == b) = decide (a = b) := by rfl
theorem pages_no {a b : Int} (ha : -9223372036854775808 ≤ a ∧ a ≤ 9223372036854775807) (hb : -9223372036854775808 ≤ b ∧ b ≤ 9223372036854775807) (h : a < 0 ∨ b < 0 ∨ 9223372036854775807 < a + b) : num_Pages.f 1 a b = some (0, 0, false) := by
  unfold num_Pages.f
  by_cases h3 : -9223372036854775808 ≤ a + b ∧ a + b ≤ 9223372036854775807
  · rw [add_yes ha hb h3]
    simp only [Option.bind_some, num_Pages.j0, if_true]
    by_cases h1 : a < 0
    · rw [if_pos h1]
    · rw [if_neg h1, if_pos (by omega)]
  · rw [add_no ha hb h3]
    simp only [Option.bind_some, num_Pages.j0, if_true, Bool.not_false]
    split
    · rfl
    · split <;> rfl
theorem pages_yes {a b : Int} (h0 : 0 ≤ a) (h1 : 0 ≤ b) (h : a + b ≤ 9223372036854775807) : num_Pages.f 1 a b = some (a / 64, if b = 0 then 0 else (a + b - 1) / 64 - a / 64 + 1, true) := by
  unfold num_Pages.f
  rw [add_yes (by omega) (by omega) (by omega)]
  simp only [Option.bind_some, num_Pages.j0, Bool.not_true]
  rw [if_neg (by omega), if_neg (by omega), if_neg (by decide)]
  rw [Int.tdiv_eq_ediv_of_nonneg h0, wrap64_in (x := a / 64) (by omega) (by omega)]
  by_cases hb : b = 0
  · rw [if_pos hb, if_pos hb]
  · rw [if_neg hb, if_neg hb, wrap64_in (x := a + b - 1) (by omega) (by omega), Int.tdiv_eq_ediv_of_nonneg (by omega), wrap64_in (x := (a + b - 1) / 64) (by omega) (by omega), wrap64_in (x := (a + b - 1) / 64 - a / 64) (by omega) (by omega), wrap64_in (by omega) (by omega)]
theorem NumPages_all (a b c : Int) (ha : -9223372036854775808 ≤ a ∧ a ≤ 9223372036854775807) (hb : -9223372036854775808 ≤ b ∧ b ≤ 9223372036854775807) (hc : -9223372036854775808 ≤ c ∧ c ≤ 9223372036854775807) : jacinthlaw01_NumPages.f 1 a b c = some true := by
  unfold jacinthlaw01_NumPages.f
  by_cases h : a < 0 ∨ b < 0 ∨ 9223372036854775807 < a + b
  · rw [pages_no ha hb h]
    simp only [Option.bind_some, awake_t, if_true]
    rw [if_neg (by decide)]
    split
    · rfl
    · split
      · rfl
      · rw [if_pos]; rw [wrap64_in (by omega) (by omega)]; omega
  · rw [pages_yes (by omega) (by omega) (by omega)]
    simp only [Option.bind_some, awake_t, if_true]
    have hz : ((b == 0) == ((if b = 0 then (0 : Int) else (a + b - 1) / 64 - a / 64 + 1) == 0)) = true := by
      simp only [beqd, beq_iff_eq, decide_eq_decide]
      split <;> omega
    have hl : (if b = 0 then (0 : Int) else (a + b - 1) / 64 - a / 64 + 1) ≤ b := by split <;> omega
    simp only [hz, if_pos hl, if_true]
    by_cases h1 : c ≥ a
    · rw [if_pos h1, if_pos (by omega), if_pos (by omega), wrap64_in (x := c - a) (by omega) (by omega), Int.tdiv_eq_ediv_of_nonneg (by omega), wrap64_in (x := c / 64) (by omega) (by omega), wrap64_in (x := c / 64 - a / 64) (by omega) (by omega)]
      split
      · rw [if_pos (by omega), if_pos]; rw [if_neg (by omega)]; omega
      · rfl
    · rw [if_neg h1, if_pos (by omega), if_pos (by omega)]
theorem NumPages : jacinthlaw01_NumPages.Pure := by
  intro a b c ha hb hc
  exact ⟨1, NumPages_all a b c (wf_i64 ha) (wf_i64 hb) (wf_i64 hc)⟩
end Go.Proofs.Ytfdnbefeidpccaa.Pure
