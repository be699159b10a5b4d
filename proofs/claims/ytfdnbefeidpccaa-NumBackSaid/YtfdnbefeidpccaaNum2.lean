/- Contracts of package num: Down, Up, Within, Overlap, Pages; and of the statements' awake. -/
import Derived.Test.YtfdnbefeidpccaaNum
namespace Go.Proofs.Ytfdnbefeidpccaa.Num
open Go Go.RowKit
set_option linter.unusedVariables false
set_option linter.unusedSimpArgs false
theorem emod_le {n t : Int} (h0 : 0 ≤ n) (h : 1 ≤ t) : n % t ≤ n := by
  have h1 := Int.mul_ediv_add_emod n t
  have h2 := Int.mul_nonneg (show 0 ≤ t by omega) (Int.ediv_nonneg h0 (show 0 ≤ t by omega))
  omega
theorem down_no (n t : Int) (h : t < 1 ∨ n < 0) (w : World) : Calls Try.prog 22 #[.int .i64 n, .int .i64 t] w fun e w' => e = .returned (.tuple #[.int .i64 0, .bool false]) ∧ w = w' := by
  by_cases h1 : t < 1
  · go_enter Try.func22, Try.ntmps22
    go_wp2
    go_ret2
    exact ⟨rfl, rfl⟩
  · have h2 : n < 0 := by omega
    clear h
    go_enter Try.func22, Try.ntmps22
    go_wp2
    go_ret2
    exact ⟨rfl, rfl⟩
theorem down_yes (n t : Int) (h : 1 ≤ t) (h0 : 0 ≤ n) (hn : n ≤ 9223372036854775807) (w : World) : Calls Try.prog 22 #[.int .i64 n, .int .i64 t] w fun e w' => e = .returned (.tuple #[.int .i64 (n - n % t), .bool true]) ∧ w = w' := by
  have r0 := Int.emod_nonneg n (b := t) (by omega)
  have r1 := emod_le h0 h
  have e1 := Int.tmod_eq_emod_of_nonneg (b := t) h0
  have hz1 : (t == 0) = false := beq_eq_false_iff_ne.mpr (by omega)
  have hz2 : (t != 0) = true := bne_iff_ne.mpr (by omega)
  have hz3 : ¬ t = 0 := by omega
  generalize hr : n % t = r at *
  have HR := Lib.hid hr
  clear hr
  go_enter Try.func22, Try.ntmps22
  go_wp2
  all_goals first
    | (go_ret2; exact ⟨rfl, rfl⟩)
    | (go_show; sorry)
theorem up_no (n t : Int) (h : t < 1 ∨ n < 0) (w : World) : Calls Try.prog 23 #[.int .i64 n, .int .i64 t] w fun e w' => e = .returned (.tuple #[.int .i64 0, .bool false]) ∧ w = w' := by
  have H := Lib.hid (down_no n t h)
  clear h
  go_enter Try.func23, Try.ntmps23
  go_wp2_with (first | (go_at_call 22; (with_reducible refine (H.out _).mono ?_); rintro e w' ⟨rfl, rfl⟩))
  go_ret2
  exact ⟨rfl, rfl⟩
theorem up_same (n t : Int) (h : 1 ≤ t) (h0 : 0 ≤ n) (hn : n ≤ 9223372036854775807) (hm : n % t = 0) (w : World) : Calls Try.prog 23 #[.int .i64 n, .int .i64 t] w fun e w' => e = .returned (.tuple #[.int .i64 n, .bool true]) ∧ w = w' := by
  have H0 := down_yes n t h h0 hn
  rw [hm, Int.sub_zero] at H0
  have H := Lib.hid H0
  clear H0 hm
  go_enter Try.func23, Try.ntmps23
  go_wp2_with (first | (go_at_call 22; (with_reducible refine (H.out _).mono ?_); rintro e w' ⟨rfl, rfl⟩))
  go_ret2
  exact ⟨rfl, rfl⟩
theorem up_more (n t : Int) (h : 1 ≤ t) (ht : t ≤ 9223372036854775807) (h0 : 0 ≤ n) (hn : n ≤ 9223372036854775807) (hm : n % t ≠ 0) (w : World) :
    Calls Try.prog 23 #[.int .i64 n, .int .i64 t] w fun e w' => e = .returned (tells (n - n % t + t)) ∧ w = w' := by
  have H := Lib.hid (down_yes n t h h0 hn)
  have r0 := Int.emod_nonneg n (b := t) (by omega)
  have r1 := emod_le h0 h
  have hf : fits (n - n % t) := by unfold fits; omega
  have HA := Lib.hid (add_any (n - n % t) t hf (by unfold fits; omega))
  have hl : n - n % t < n := by omega
  generalize n - n % t = l at *
  have z1 : (l == n) = false := beq_eq_false_iff_ne.mpr (by omega)
  have z2 : (l != n) = true := bne_iff_ne.mpr (by omega)
  clear hm r0 r1 hf hl
  by_cases hy : fits (l + t)
  · rw [tells_yes hy] at HA ⊢
    clear hy
    go_enter Try.func23, Try.ntmps23
    go_wp2_with (first | (go_at_call 22; (with_reducible refine (H.out _).mono ?_); rintro e w' ⟨rfl, rfl⟩) | (go_at_call 16; (with_reducible refine (HA.out _).mono ?_); rintro e w' ⟨rfl, rfl⟩))
    go_ret2
    exact ⟨rfl, rfl⟩
  · rw [tells_no hy] at HA ⊢
    clear hy
    go_enter Try.func23, Try.ntmps23
    go_wp2_with (first | (go_at_call 22; (with_reducible refine (H.out _).mono ?_); rintro e w' ⟨rfl, rfl⟩) | (go_at_call 16; (with_reducible refine (HA.out _).mono ?_); rintro e w' ⟨rfl, rfl⟩))
    go_ret2
    exact ⟨rfl, rfl⟩
theorem within_any (a n s : Int) (ha : fits a) (hs : fits s) (w : World) : Calls Try.prog 24 #[.int .i64 a, .int .i64 n, .int .i64 s] w fun e w' => e = .returned (.bool (decide (0 ≤ a ∧ 0 ≤ n ∧ a + n ≤ s))) ∧ w = w' := by
  obtain ⟨a0, a1⟩ := ha
  obtain ⟨s0, s1⟩ := hs
  by_cases h1 : 0 ≤ a
  · by_cases h2 : 0 ≤ n
    · by_cases h3 : a ≤ s
      · rw [show decide (0 ≤ a ∧ 0 ≤ n ∧ a + n ≤ s) = decide (n ≤ s - a) from decide_eq_decide.mpr (by omega)]
        go_enter Try.func24, Try.ntmps24
        go_wp2
        go_ret
        exact ⟨rfl, rfl⟩
      · rw [decide_eq_false (by omega)]
        go_enter Try.func24, Try.ntmps24
        go_wp2
        go_ret
        exact ⟨rfl, rfl⟩
    · rw [decide_eq_false (by omega)]
      go_enter Try.func24, Try.ntmps24
      go_wp2
      go_ret
      exact ⟨rfl, rfl⟩
  · rw [decide_eq_false (by omega)]
    go_enter Try.func24, Try.ntmps24
    go_wp2
    go_ret
    exact ⟨rfl, rfl⟩
theorem awake_any (w : World) : Calls Try.prog 14 #[] w fun e w' => e = .returned (.bool true) ∧ w = w' := by
  have H1 := add_any 2 3 (by decide) (by decide)
  have H2 := add_any 9223372036854775807 1 (by decide) (by decide)
  rw [tells_yes (by decide)] at H1
  rw [tells_no (by decide)] at H2
  have HA := Lib.hid H1
  have HB := Lib.hid H2
  clear H1 H2
  go_enter Try.func14, Try.ntmps14
  go_wp2_with (first | (go_at_call 16; (with_reducible refine (HA.out _).mono ?_); rintro e w' ⟨rfl, rfl⟩) | (go_at_call 16; (with_reducible refine (HB.out _).mono ?_); rintro e w' ⟨rfl, rfl⟩))
  go_ret
  exact ⟨rfl, rfl⟩
end Go.Proofs.Ytfdnbefeidpccaa.Num
