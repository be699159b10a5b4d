/- What is rounded up is rounded down again to itself, lies less than one multiple above, and is told just if it is a number; no condition. -/
import Derived.Test.YtfdnbefeidpccaaPNumUpx1
import Derived.Laws.MathBits
namespace Go.Proofs.Ytfdnbefeidpccaa.Pure
open Go Go.RowKit Go.Proofs.Ytfdnbefeidpccaa.PNumUp Go.Proofs.YtfdnbefeidpccaaW.PrintWords Go.Proofs.YtfdnbefeidpccaaW.PrintLast Go.Proofs.YtfdnbefeidpccaaW.PrintMore
set_option linter.unusedVariables false
set_option linter.unusedSimpArgs false
theorem wf_i64 {a : Int} (h : (Lit.int .i64 a).wf = true) : -9223372036854775808 ≤ a ∧ a ≤ 9223372036854775807 := by
  simp [Lit.wf, IntKind.min, IntKind.max, IntKind.signed, IntKind.bits] at h; omega
theorem dne {p q : Prop} [Decidable p] [Decidable q] : ((decide p) != (decide q)) = true ↔ ¬ (p ↔ q) := by
  by_cases p <;> by_cases q <;> simp [*]
theorem wrap64_in {x : Int} (h : -9223372036854775808 ≤ x) (h' : x ≤ 9223372036854775807) : wrap64 x = x := by unfold wrap64; omega
theorem add_yes {a b : Int} (ha : -9223372036854775808 ≤ a ∧ a ≤ 9223372036854775807) (hb : -9223372036854775808 ≤ b ∧ b ≤ 9223372036854775807) (h : -9223372036854775808 ≤ a + b ∧ a + b ≤ 9223372036854775807) : num_Add.f a b = some (a + b, true) := by
  unfold num_Add.f
  rw [wrap64_in h.1 h.2]
  split
  · next h1 => rw [dne] at h1; rw [if_pos (by omega)]
  · rfl
theorem add_no {a b : Int} (ha : -9223372036854775808 ≤ a ∧ a ≤ 9223372036854775807) (hb : -9223372036854775808 ≤ b ∧ b ≤ 9223372036854775807) (h : ¬ (-9223372036854775808 ≤ a + b ∧ a + b ≤ 9223372036854775807)) : num_Add.f a b = some (0, false) := by
  unfold num_Add.f
  have hw : wrap64 (a + b) = if 0 ≤ a then a + b - 18446744073709551616 else a + b + 18446744073709551616 := by unfold wrap64; split <;> omega
  rw [hw, if_pos (by rw [dne]; split <;> omega), if_neg (by omega)]
theorem awake_t : jacinthlaw01_awake.f = some true := by simp only [jacinthlaw01_awake.f]; rw [add_yes (by omega) (by omega) (by omega), add_no (by omega) (by omega) (by omega)]; rfl

theorem beqd (a b : Int) : (a == b) = decide (a = b) := by rfl
theorem emod_le {n t : Int} (h0 : 0 ≤ n) (h : 1 ≤ t) : n % t ≤ n := by
  have h1 := Int.mul_ediv_add_emod n t
  have h2 := Int.mul_nonneg (show 0 ≤ t by omega) (Int.ediv_nonneg h0 (show 0 ≤ t by omega))
  omega
theorem sub_emod_self (n t : Int) : (n - n % t) % t = 0 := by
  have h1 := Int.mul_ediv_add_emod n t
  rw [show n - n % t = t * (n / t) by omega, Int.mul_emod_right]
theorem down_no {n t : Int} (h : t < 1 ∨ n < 0) : num_Down.f n t = some (0, false) := by
  unfold num_Down.f
  split
  · rfl
  · rw [if_pos (by omega)]
theorem down_yes {n t : Int} (h : 1 ≤ t) (h0 : 0 ≤ n) (hn : n ≤ 9223372036854775807) : num_Down.f n t = some (n - n % t, true) := by
  unfold num_Down.f
  have := Int.emod_nonneg n (b := t) (by omega)
  have := emod_le (n := n) (t := t) h0 h
  rw [if_neg (by omega), if_neg (by omega), if_neg (by omega), Int.tmod_eq_emod_of_nonneg h0, wrap64_in (by omega) (by omega)]
theorem up_no {n t : Int} (h : t < 1 ∨ n < 0) : num_Up.f n t = some (0, false) := by
  unfold num_Up.f
  rw [down_no h]
  simp
theorem up_same {n t : Int} (h : 1 ≤ t) (h0 : 0 ≤ n) (hn : n ≤ 9223372036854775807) (hm : n % t = 0) : num_Up.f n t = some (n, true) := by
  unfold num_Up.f
  rw [down_yes h h0 hn]
  simp [hm]
theorem up_yes {n t : Int} (h : 1 ≤ t) (h0 : 0 ≤ n) (hn : n ≤ 9223372036854775807) (ht : t ≤ 9223372036854775807) (hm : n % t ≠ 0) (hs : n - n % t + t ≤ 9223372036854775807) : num_Up.f n t = some (n - n % t + t, true) := by
  have := Int.emod_nonneg n (b := t) (by omega)
  have := emod_le (n := n) (t := t) h0 h
  unfold num_Up.f
  rw [down_yes h h0 hn]
  simp only [Option.bind_some, if_true]
  rw [if_neg (by omega), add_yes (by omega) (by omega) (by omega)]
  rfl
theorem up_great {n t : Int} (h : 1 ≤ t) (h0 : 0 ≤ n) (hn : n ≤ 9223372036854775807) (ht : t ≤ 9223372036854775807) (hm : n % t ≠ 0) (hs : 9223372036854775807 < n - n % t + t) : num_Up.f n t = some (0, false) := by
  have := Int.emod_nonneg n (b := t) (by omega)
  have := emod_le (n := n) (t := t) h0 h
  unfold num_Up.f
  rw [down_yes h h0 hn]
  simp only [Option.bind_some, if_true]
  rw [if_neg (by omega), add_no (by omega) (by omega) (by omega)]
  rfl
theorem NumUp_all (n t : Int) (hn : -9223372036854775808 ≤ n ∧ n ≤ 9223372036854775807) (ht : -9223372036854775808 ≤ t ∧ t ≤ 9223372036854775807) : jacinthlaw01_NumUp.f 1 n t = some true := by
  unfold jacinthlaw01_NumUp.f
  by_cases h : t < 1 ∨ n < 0
  · rw [down_no h, up_no h]
    simp only [Option.bind_some, jacinthlaw01_NumUp.j0, awake_t]
    by_cases h1 : t < 1
    · rw [if_pos h1]; rfl
    · rw [if_neg h1, if_pos (by simp; omega)]; rfl
  · have hb := Int.emod_nonneg n (b := t) (by omega)
    have hl := Int.emod_lt_of_pos n (b := t) (by omega)
    have hx := emod_le (n := n) (t := t) (by omega) (by omega)
    rw [down_yes (by omega) (by omega) hn.2]
    by_cases hm : n % t = 0
    · rw [up_same (by omega) (by omega) hn.2 hm]
      simp only [Option.bind_some, jacinthlaw01_NumUp.j0, awake_t]
      rw [if_neg (by omega), if_neg (by simp; omega), if_pos (by trivial), down_yes (by omega) (by omega) hn.2, hm, Int.tmod_eq_emod_of_nonneg (by omega), hm]
      simp only [Option.bind_some, Int.sub_zero, Int.sub_self]
      rw [wrap64_in (by omega) (by omega), if_pos (by trivial), if_pos (by trivial), if_pos (by omega), if_pos (by omega), if_neg (by omega)]
      simp
    · by_cases hs : n - n % t + t ≤ 9223372036854775807
      · rw [up_yes (by omega) (by omega) hn.2 ht.2 hm hs]
        simp only [Option.bind_some, jacinthlaw01_NumUp.j0, awake_t]
        have hz : (n - n % t + t) % t = 0 := by
          rw [Int.add_emod_right, sub_emod_self]
        rw [if_neg (by omega), if_neg (by simp; omega), if_pos (by trivial), down_yes (by omega) (by omega) hs, hz]
        simp only [Option.bind_some, Int.sub_zero]
        rw [Int.tmod_eq_emod_of_nonneg (by omega), wrap64_in (by omega) (by omega), if_pos (by trivial), if_pos (by trivial), if_pos (by omega), if_pos (by omega), if_neg (by omega), if_pos]
        simp only [beqd, beq_iff_eq, decide_eq_decide]
        omega
      · rw [up_great (by omega) (by omega) hn.2 ht.2 hm (by omega)]
        simp only [Option.bind_some, jacinthlaw01_NumUp.j0, awake_t]
        rw [if_neg (by omega), if_neg (by simp; omega), if_neg (by decide), if_pos (by trivial), if_neg (by omega), if_pos (by rw [wrap64_in (by omega) (by omega)]; omega), if_pos (by trivial)]
theorem NumUp : jacinthlaw01_NumUp.Pure := by
  intro a b ha hb
  exact ⟨1, NumUp_all a b (wf_i64 ha) (wf_i64 hb)⟩
end Go.Proofs.Ytfdnbefeidpccaa.Pure
