/- The walk of the statement NumSigns. -/
import Derived.Test.YtfdnbefeidpccaaNum2
import Derived.Deep.DeepCutAuto
namespace Go.Proofs.Ytfdnbefeidpccaa.Num
open Go Go.RowKit
set_option linter.unusedVariables false
set_option linter.unusedSimpArgs false
theorem mul_sign {a b : Int} (h1 : a ≠ 0) (h2 : b ≠ 0) : a * b < 0 ↔ ¬ (a < 0 ↔ b < 0) := by
  by_cases h3 : a < 0 <;> by_cases h4 : b < 0
  · have := Int.mul_pos_of_neg_of_neg h3 h4; simp [h3, h4]; omega
  · have := Int.mul_neg_of_neg_of_pos h3 (show 0 < b by omega); simp [h3, h4]; omega
  · have := Int.mul_neg_of_pos_of_neg (show 0 < a by omega) h4; simp [h3, h4]; omega
  · have := Int.mul_pos (show 0 < a by omega) (show 0 < b by omega); simp [h3, h4]; omega
set_option maxHeartbeats 1000000 in
set_option maxRecDepth 100000 in
theorem signs_walk (a b : Int) (ha : fits a) (hb : fits b) (w : World) : Calls Try.prog 11 #[.int .i64 a, .int .i64 b] w fun e w' => e = .returned (.bool true) ∧ w = w' := by
  have HM := Lib.hid (mul_any a b ha hb)
  have HA := Lib.hid (add_any a b ha hb)
  have HS := Lib.hid (sub_any 0 a (by decide) ha)
  obtain ⟨a0, a1⟩ := ha
  obtain ⟨b0, b1⟩ := hb
  go_enter Try.func11, Try.ntmps11
  go_upto_region 2 with (first | (go_at_call 28; (with_reducible refine (HM.out _).mono ?_); rintro e w1 ⟨rfl, rfl⟩; simp only [tells]))
  go_cut [5, 6, 37] (fun _ _ c wx => c = .bool false ∧ wx = w)
  case first =>
    by_cases hz : a = 0
    · have z1 : (a == 0) = true := beq_iff_eq.mpr hz
      have z2 : (a != 0) = false := bne_eq_false_iff_eq.mpr hz
      clear hz HM HA HS
      cases okB (a * b)
      all_goals
        go_wp2
        go_meet
        case rel => exact ⟨rfl, rfl⟩
    · by_cases hy : b = 0
      · have z1 : (b == 0) = true := beq_iff_eq.mpr hy
        have z2 : (b != 0) = false := bne_eq_false_iff_eq.mpr hy
        have z3 : (a == 0) = false := beq_eq_false_iff_ne.mpr hz
        have z4 : (a != 0) = true := bne_iff_ne.mpr hz
        clear hz hy HM HA HS
        cases okB (a * b)
        all_goals
          go_wp2
          go_meet
          case rel => exact ⟨rfl, rfl⟩
      · have z1 : (b == 0) = false := beq_eq_false_iff_ne.mpr hy
        have z2 : (b != 0) = true := bne_iff_ne.mpr hy
        have z3 : (a == 0) = false := beq_eq_false_iff_ne.mpr hz
        have z4 : (a != 0) = true := bne_iff_ne.mpr hz
        have hs := mul_sign hz hy
        clear hz hy HM HA HS
        by_cases hf : fits (a * b)
        · rw [show okB (a * b) = true by simp [okB, hf], show okV (a * b) = a * b by simp [okV, hf]]
          generalize a * b = p at *
          clear hf
          have hp : (decide (p < 0) != (decide (a < 0) != decide (b < 0))) = false := by
            by_cases h3 : a < 0 <;> by_cases h4 : b < 0 <;> simp [h3, h4] at hs ⊢ <;> omega
          clear hs
          go_wp2
          go_meet
          case rel => exact ⟨by revert hp; cases decide (p < 0) <;> cases decide (a < 0) <;> cases decide (b < 0) <;> simp, rfl⟩
        · rw [show okB (a * b) = false by simp [okB, hf]]
          clear hf hs
          go_wp2
          go_meet
          case rel => exact ⟨rfl, rfl⟩
  case rest =>
    obtain ⟨rfl, rfl⟩ := hcut
    go_upto_region 5 with (first | (go_at_call 16; (with_reducible refine (HA.out _).mono ?_); rintro e w1 ⟨rfl, rfl⟩; simp only [tells]))
    go_cut [7, 8, 59] (fun _ _ c wy => c = .bool false ∧ wy = wc)
    case first =>
      clear HM HA HS
      by_cases hf : fits (a + b)
      · rw [show okB (a + b) = true by simp [okB, hf], show okV (a + b) = a + b by simp [okV, hf]]
        by_cases h1 : 0 ≤ a
        · by_cases h2 : 0 ≤ b
          · by_cases h3 : a < b
            · have h4 : decide (a + b < b) = false := decide_eq_false (by omega)
              clear hf
              go_wp2
              go_meet
              case rel => exact ⟨by first | rfl | rw [h4], rfl⟩
            · have h4 : decide (a + b < a) = false := decide_eq_false (by omega)
              clear hf
              go_wp2
              go_meet
              case rel => exact ⟨by first | rfl | rw [h4], rfl⟩
          · clear hf
            go_wp2
            go_meet
            case rel => exact ⟨rfl, rfl⟩
        · clear hf
          go_wp2
          go_meet
          case rel => exact ⟨rfl, rfl⟩
      · rw [show okB (a + b) = false by simp [okB, hf]]
        clear hf
        go_wp2
        go_meet
        case rel => exact ⟨rfl, rfl⟩
    case rest =>
      obtain ⟨rfl, rfl⟩ := hcut
      clear HM HA
      have HS' := HS.out
      clear HS
      by_cases hm : a = -9223372036854775808
      · subst hm
        rw [tells_no (by decide)] at HS'
        have HS := Lib.hid HS'
        clear HS'
        go_wp2_with (first | (go_at_call 17; (with_reducible refine (HS.out _).mono ?_); rintro e w1 ⟨rfl, rfl⟩) | (go_at_call 14; (with_reducible refine (awake_any _).mono ?_); rintro e w5 ⟨rfl, rfl⟩))
        go_ret
        exact ⟨rfl, rfl⟩
      · have hn : fits (0 - a) := ⟨by omega, by omega⟩
        rw [tells_yes hn] at HS'
        have HS := Lib.hid HS'
        have HA2 := add_any a (0 - a) ⟨a0, a1⟩ hn
        rw [tells_yes ⟨by omega, by omega⟩, show a + (0 - a) = 0 by omega] at HA2
        have HA := Lib.hid HA2
        clear HS' HA2 hm hn
        generalize 0 - a = n at *
        go_wp2_with (first | (go_at_call 17; (with_reducible refine (HS.out _).mono ?_); rintro e w1 ⟨rfl, rfl⟩) | (go_at_call 16; (with_reducible refine (HA.out _).mono ?_); rintro e w1 ⟨rfl, rfl⟩) | (go_at_call 14; (with_reducible refine (awake_any _).mono ?_); rintro e w5 ⟨rfl, rfl⟩))
        go_ret
        exact ⟨rfl, rfl⟩
theorem signs_row (a : Int) (ha : (Lit.int .i64 a).wf = true) (b : Int) (hb : (Lit.int .i64 b).wf = true) (w : World) :
    Calls Try.prog 11 #[.int .i64 a, .int .i64 b] w fun e w' => e = .returned (.bool true) ∧ Below w.heap.size w w' :=
  (signs_walk a b (wf_i64 ha) (wf_i64 hb) w).mono fun _ _ ⟨he, hw⟩ => ⟨he, hw ▸ Below.refl _ _⟩
end Go.Proofs.Ytfdnbefeidpccaa.Num
