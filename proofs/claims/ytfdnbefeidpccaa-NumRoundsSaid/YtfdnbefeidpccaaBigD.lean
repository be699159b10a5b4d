/- Contract of Int (package jacinthref01). -/
import Derived.Test.YtfdnbefeidpccaaBigC
import Derived.Test.YtfdnbefeidpccaaNum
import Derived.Handy
namespace Go.Proofs.Ytfdnbefeidpccaa.Big
open Go Go.RowKit Go.Proofs.Ytfdnbefeidpccaa.Mem
open Go.Proofs.Ytfdnbefeidpccaa.Num (fits)
set_option linter.unusedVariables false
set_option linter.unusedSimpArgs false
theorem arr4 (d0 d1 d2 d3 : Int) (neg : Bool) : bigA [d0, d1, d2, d3, 0, 0, 0, 0, 0, 0, 0, 0] neg = #[.int .i64 d0, .int .i64 d1, .int .i64 d2, .int .i64 d3, .int .i64 0, .int .i64 0, .int .i64 0, .int .i64 0, .int .i64 0, .int .i64 0, .int .i64 0, .int .i64 0, .bool neg] := rfl
set_option maxHeartbeats 2000000 in
theorem int_f_yes (d0 d1 d2 d3 : Int) (h0 : 0 ≤ d0) (h0' : d0 < 65536) (h1 : 0 ≤ d1) (h1' : d1 < 65536) (h2 : 0 ≤ d2) (h2' : d2 < 65536) (h3 : 0 ≤ d3) (h3' : d3 ≤ 32767) (w : World) :
    Calls Try.prog 27 #[.agg (bigA [d0, d1, d2, d3, 0, 0, 0, 0, 0, 0, 0, 0] false)] w fun e w' => e = .returned (.tuple #[.int .i64 (((d3 * 65536 + d2) * 65536 + d1) * 65536 + d0), .bool true]) ∧ Below w.heap.size w w' := by
  rw [arr4]
  go_enter Try.func27, Try.ntmps27
  go_wp2
  go_rounds 9
  all_goals go_rounds 5
  all_goals first
    | (exfalso; simp at *; omega)
    | (go_ret2; exact ⟨rfl, (Below.refl _ _).alloc (Nat.le_refl _) _⟩)
set_option maxHeartbeats 2000000 in
theorem int_f_no (d0 d1 d2 d3 : Int) (h0 : 0 ≤ d0) (h0' : d0 < 65536) (h1 : 0 ≤ d1) (h1' : d1 < 65536) (h2 : 0 ≤ d2) (h2' : d2 < 65536) (h3 : 0 ≤ d3) (h3' : 32767 < d3) (h3'' : d3 < 65536) (w : World) :
    Calls Try.prog 27 #[.agg (bigA [d0, d1, d2, d3, 0, 0, 0, 0, 0, 0, 0, 0] false)] w fun e w' => e = .returned (.tuple #[.int .i64 0, .bool false]) ∧ Below w.heap.size w w' := by
  rw [arr4]
  go_enter Try.func27, Try.ntmps27
  go_wp2
  go_rounds 9
  all_goals go_rounds 5
  all_goals first
    | (exfalso; simp at *; omega)
    | (go_ret2; exact ⟨rfl, (Below.refl _ _).alloc (Nat.le_refl _) _⟩)
set_option maxHeartbeats 2000000 in
theorem int_t_yes (d0 d1 d2 d3 : Int) (h0 : 0 ≤ d0) (h0' : d0 < 65536) (h1 : 0 ≤ d1) (h1' : d1 < 65536) (h2 : 0 ≤ d2) (h2' : d2 < 65536) (h3 : 0 ≤ d3) (h3' : d3 ≤ 32768) (hs : ((d3 * 65536 + d2) * 65536 + d1) * 65536 + d0 ≤ 9223372036854775808) (w : World) :
    Calls Try.prog 27 #[.agg (bigA [d0, d1, d2, d3, 0, 0, 0, 0, 0, 0, 0, 0] true)] w fun e w' => e = .returned (.tuple #[.int .i64 (((-d3 * 65536 + -d2) * 65536 + -d1) * 65536 + -d0), .bool true]) ∧ Below w.heap.size w w' := by
  rw [arr4]
  go_enter Try.func27, Try.ntmps27
  go_wp2
  go_rounds 9
  all_goals go_rounds 5
  all_goals first
    | (exfalso; simp at *; omega)
    | (go_ret2; exact ⟨rfl, (Below.refl _ _).alloc (Nat.le_refl _) _⟩)
set_option maxHeartbeats 2000000 in
theorem int_t_no1 (d0 d1 d2 d3 : Int) (h0 : 0 ≤ d0) (h0' : d0 < 65536) (h1 : 0 ≤ d1) (h1' : d1 < 65536) (h2 : 0 ≤ d2) (h2' : d2 < 65536) (h3 : 0 ≤ d3) (h3' : 32768 < d3) (h3'' : d3 < 65536) (w : World) :
    Calls Try.prog 27 #[.agg (bigA [d0, d1, d2, d3, 0, 0, 0, 0, 0, 0, 0, 0] true)] w fun e w' => e = .returned (.tuple #[.int .i64 0, .bool false]) ∧ Below w.heap.size w w' := by
  rw [arr4]
  go_enter Try.func27, Try.ntmps27
  go_wp2
  go_rounds 9
  all_goals go_rounds 5
  all_goals first
    | (exfalso; simp at *; omega)
    | (go_ret2; exact ⟨rfl, (Below.refl _ _).alloc (Nat.le_refl _) _⟩)
set_option maxHeartbeats 2000000 in
theorem int_t_no2 (d0 : Int) (h0 : 0 < d0) (h0' : d0 < 65536) (w : World) :
    Calls Try.prog 27 #[.agg (bigA [d0, 0, 0, 32768, 0, 0, 0, 0, 0, 0, 0, 0] true)] w fun e w' => e = .returned (.tuple #[.int .i64 0, .bool false]) ∧ Below w.heap.size w w' := by
  have e1 : wrap64 (-9223372036854775808 + -d0) = 9223372036854775808 - d0 := by unfold wrap64; omega
  rw [arr4]
  go_enter Try.func27, Try.ntmps27
  go_wp2
  go_rounds 9
  all_goals go_rounds 5
  all_goals first
    | (exfalso; simp at *; omega)
    | (go_ret2; exact ⟨rfl, (Below.refl _ _).alloc (Nat.le_refl _) _⟩)
set_option maxHeartbeats 2000000 in
theorem int_t_no3 (d0 d1 d2 : Int) (h0 : 0 ≤ d0) (h0' : d0 < 65536) (h1 : 0 ≤ d1) (h1' : d1 < 65536) (h2 : 0 ≤ d2) (h2' : d2 < 65536) (hq : 0 < d2 * 65536 + d1) (w : World) :
    Calls Try.prog 27 #[.agg (bigA [d0, d1, d2, 32768, 0, 0, 0, 0, 0, 0, 0, 0] true)] w fun e w' => e = .returned (.tuple #[.int .i64 0, .bool false]) ∧ Below w.heap.size w w' := by
  rw [arr4]
  go_enter Try.func27, Try.ntmps27
  go_wp2
  go_rounds 9
  all_goals go_rounds 5
  all_goals first
    | (exfalso; simp at *; omega)
    | (go_ret2; exact ⟨rfl, (Below.refl _ _).alloc (Nat.le_refl _) _⟩)
    | (exfalso; have hw := (by assumption : wrap64 (wrap64 (((-2147483648 + -d2) * 65536 + -d1) * 65536) + -d0) ≤ 0); unfold wrap64 at hw; omega)
set_option maxHeartbeats 2000000 in
theorem int_high (D : List Int) (neg : Bool) (hl : D.length = 12) (j : Nat) (h4 : 4 ≤ j) (h12 : j < 12) (hj : D.getD j 0 ≠ 0) (w : World) :
    Calls Try.prog 27 #[.agg (bigA D neg)] w fun e w' => e = .returned (.tuple #[.int .i64 0, .bool false]) ∧ Below w.heap.size w w' := by
  have HJ := Lib.hid hj
  have HL := Lib.hid hl
  clear hj hl
  go_enter Try.func27, Try.ntmps27
  go_wp2
  go_loopw [4] (fun i wr => ∃ k : Nat, 4 ≤ k ∧ k ≤ j ∧ i = .int .i64 k ∧ Blk wr w.heap.size 30 (bigA D neg) ∧ Below w.heap.size w wr) (fun i _ => 12 - (intOf i).toNat)
  case atStart => exact ⟨4, by omega, h4, rfl, Blk.newAt rfl, (Below.refl _ _).alloc (Nat.le_refl _) _⟩
  case round =>
    obtain ⟨k, hk4, hkj, rfl, bA, hb⟩ := hrel
    have cA := bA.cellv (bigA_at (k := k) (by have := HL.out; omega))
    have hne : D.getD k 0 = 0 → k < j := fun h => by
      rcases Nat.lt_or_ge k j with h' | h'
      · exact h'
      · obtain rfl : k = j := by omega
        exact absurd h HJ.out
    have HN := Lib.hid hne
    clear hne
    generalize hx : D.getD k 0 = x at cA HN
    clear hx
    by_cases hz : x = 0
    · subst hz
      have hkj' := HN.out (by trivial)
      clear HN
      go_wp2
      go_roundw
      case rel => exact ⟨k + 1, by omega, by omega, by go_num, bA, hb⟩
      case measure => simp [intOf]; omega
    · have h1 : (x == 0) = false := beq_eq_false_iff_ne.mpr hz
      have h2 : (x != 0) = true := bne_iff_ne.mpr hz
      clear hz
      go_wp2
      go_ret2
      exact ⟨rfl, hb⟩
theorem val_high {D : List Int} (h : ∀ k, 0 ≤ D.getD k 0 ∧ D.getD k 0 < 65536) {j : Nat} (h4 : 4 ≤ j) (h12 : j < 12) (hj : D.getD j 0 ≠ 0) : 18446744073709551616 ≤ val D 12 := by
  have hmono : ∀ d k, val D k ≤ val D (k + d) := by
    intro d
    induction d with
    | zero => intro k; exact Int.le_refl _
    | succ d ih =>
      intro k
      rw [← Nat.add_assoc, val_succ]
      have h1 := ih k
      have h2 := Int.mul_nonneg (h (k + d)).1 (Int.le_of_lt (pow_pos (k + d)))
      omega
  have h1 := hmono (12 - (j + 1)) (j + 1)
  rw [show j + 1 + (12 - (j + 1)) = 12 by omega, val_succ] at h1
  have h2 := (val_bound h j).1
  have hp : (65536 : Int) ^ 4 ≤ 65536 ^ j := by
    obtain ⟨e, rfl⟩ : ∃ e, j = 4 + e := ⟨j - 4, by omega⟩
    rw [Int.pow_add]
    have h3 := pow_pos e
    have h4 : (65536 : Int) ^ 4 * 1 ≤ 65536 ^ 4 * 65536 ^ e := Int.mul_le_mul_of_nonneg_left (by omega) (by decide)
    omega
  have h3 := (h j).1
  have h5 : 1 * (65536 : Int) ^ j ≤ D.getD j 0 * 65536 ^ j := Int.mul_le_mul_of_nonneg_right (by omega) (Int.le_of_lt (pow_pos j))
  have hp4 : (65536 : Int) ^ 4 = 18446744073709551616 := by decide
  omega
theorem low_form {D : List Int} (hl : D.length = 12) (hz : ∀ j, 4 ≤ j → j < 12 → D.getD j 0 = 0) : ∃ d0 d1 d2 d3, D = [d0, d1, d2, d3, 0, 0, 0, 0, 0, 0, 0, 0] := by
  match D, hl with
  | [d0, d1, d2, d3, d4, d5, d6, d7, d8, d9, d10, d11], _ =>
    have e4 := hz 4 (by omega) (by omega)
    have e5 := hz 5 (by omega) (by omega)
    have e6 := hz 6 (by omega) (by omega)
    have e7 := hz 7 (by omega) (by omega)
    have e8 := hz 8 (by omega) (by omega)
    have e9 := hz 9 (by omega) (by omega)
    have e10 := hz 10 (by omega) (by omega)
    have e11 := hz 11 (by omega) (by omega)
    simp only [List.getD_cons_succ, List.getD_cons_zero] at e4 e5 e6 e7 e8 e9 e10 e11
    subst e4 e5 e6 e7 e8 e9 e10 e11
    exact ⟨d0, d1, d2, d3, rfl⟩
theorem int_any {D : List Int} {m : Int} (neg : Bool) (hV : V D m) (w : World) :
    Calls Try.prog 27 #[.agg (bigA D neg)] w fun e w' => e = .returned (.tuple #[.int .i64 (if fits (sg neg m) then sg neg m else 0), .bool (decide (fits (sg neg m)))]) ∧ Below w.heap.size w w' := by
  by_cases hz : ∃ j, 4 ≤ j ∧ j < 12 ∧ D.getD j 0 ≠ 0
  · obtain ⟨j, h4, h12, hj⟩ := hz
    have hv := val_high hV.dig h4 h12 hj
    rw [hV.val] at hv
    have hn : ¬ fits (sg neg m) := by unfold fits sg; split <;> omega
    rw [if_neg hn, decide_eq_false hn]
    exact int_high D neg hV.len j h4 h12 hj w
  · obtain ⟨d0, d1, d2, d3, rfl⟩ := low_form hV.len (fun j h4 h12 => Classical.byContradiction fun h => hz ⟨j, h4, h12, h⟩)
    have hm := hV.val
    have g0 := hV.dig 0
    have g1 := hV.dig 1
    have g2 := hV.dig 2
    have g3 := hV.dig 3
    simp only [List.getD_cons_succ, List.getD_cons_zero] at g0 g1 g2 g3
    have hm' : m = ((d3 * 65536 + d2) * 65536 + d1) * 65536 + d0 := by
      rw [← hm]
      simp only [val, List.getD_cons_succ, List.getD_cons_zero]
      omega
    clear hm hV hz
    cases neg with
    | false =>
      have hs : sg false m = m := rfl
      rw [hs]
      by_cases h3 : d3 ≤ 32767
      · have hf : fits m := by unfold fits; omega
        rw [if_pos hf, decide_eq_true hf, hm']
        exact int_f_yes d0 d1 d2 d3 g0.1 g0.2 g1.1 g1.2 g2.1 g2.2 g3.1 h3 w
      · have hf : ¬ fits m := by unfold fits; omega
        rw [if_neg hf, decide_eq_false hf]
        exact int_f_no d0 d1 d2 d3 g0.1 g0.2 g1.1 g1.2 g2.1 g2.2 g3.1 (by omega) g3.2 w
    | true =>
      have hs : sg true m = -m := rfl
      rw [hs]
      by_cases h3 : m ≤ 9223372036854775808
      · have hf : fits (-m) := by unfold fits; omega
        rw [if_pos hf, decide_eq_true hf, show -m = ((-d3 * 65536 + -d2) * 65536 + -d1) * 65536 + -d0 by omega]
        exact int_t_yes d0 d1 d2 d3 g0.1 g0.2 g1.1 g1.2 g2.1 g2.2 g3.1 (by omega) (by omega) w
      · have hf : ¬ fits (-m) := by unfold fits; omega
        rw [if_neg hf, decide_eq_false hf]
        by_cases h4 : 32768 < d3
        · exact int_t_no1 d0 d1 d2 d3 g0.1 g0.2 g1.1 g1.2 g2.1 g2.2 g3.1 h4 g3.2 w
        · obtain rfl : d3 = 32768 := by omega
          by_cases h5 : 0 < d2 * 65536 + d1
          · exact int_t_no3 d0 d1 d2 g0.1 g0.2 g1.1 g1.2 g2.1 g2.2 h5 w
          · obtain rfl : d2 = 0 := by omega
            obtain rfl : d1 = 0 := by omega
            exact int_t_no2 d0 (by omega) g0.2 w
end Go.Proofs.Ytfdnbefeidpccaa.Big
