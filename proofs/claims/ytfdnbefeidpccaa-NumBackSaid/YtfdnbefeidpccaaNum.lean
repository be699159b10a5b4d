/- Contracts of package num, told by plain arithmetic. -/
import Derived.Test.YtfdnbefeidpccaaProg
import Derived.WalkKit
import Derived.KernelRfl
import Derived.Below
import Derived.WideLaws
import Derived.Outline
import Derived.Lib.Hide
import Derived.Laws.MathBits
namespace Go.Proofs.Ytfdnbefeidpccaa.Num
open Go Go.RowKit
set_option linter.unusedVariables false
set_option linter.unusedSimpArgs false
/-- Is it a number of 64 bits? -/
def fits (v : Int) : Prop := -9223372036854775808 ≤ v ∧ v ≤ 9223372036854775807
instance (v : Int) : Decidable (fits v) := inferInstanceAs (Decidable (_ ∧ _))
theorem wf_i64 {a : Int} (h : (Lit.int .i64 a).wf = true) : fits a := by
  simp [Lit.wf, IntKind.min, IntKind.max, IntKind.signed, IntKind.bits] at h
  unfold fits
  omega
/-- A number, or that it is none: as the functions of num tell it. -/
def okV (v : Int) : Int := if fits v then v else 0
def okB (v : Int) : Bool := decide (fits v)
def tells (v : Int) : Value := .tuple #[.int .i64 (okV v), .bool (okB v)]
theorem tells_yes {v : Int} (h : fits v) : tells v = .tuple #[.int .i64 v, .bool true] := by simp [tells, okV, okB, h]
theorem tells_no {v : Int} (h : ¬ fits v) : tells v = .tuple #[.int .i64 0, .bool false] := by simp [tells, okV, okB, h]
theorem add_any (a b : Int) (ha : fits a) (hb : fits b) (w : World) : Calls Try.prog 16 #[.int .i64 a, .int .i64 b] w fun e w' => e = .returned (tells (a + b)) ∧ w = w' := by
  obtain ⟨a0, a1⟩ := ha
  obtain ⟨b0, b1⟩ := hb
  by_cases h : fits (a + b)
  · rw [tells_yes h]
    obtain ⟨h0, h1⟩ := h
    go_enter Try.func16, Try.ntmps16
    go_wp2
    all_goals first
      | (exfalso; simp at *; omega)
      | (go_ret2; exact ⟨rfl, rfl⟩)
  · rw [tells_no h]
    have hw : wrap64 (a + b) = if 0 ≤ a then a + b - 18446744073709551616 else a + b + 18446744073709551616 := by unfold fits at h; unfold wrap64; split <;> omega
    unfold fits at h
    by_cases h0 : 0 ≤ a
    · rw [if_pos h0] at hw
      have h1 : 0 < b := by omega
      have h2 : a + b - 18446744073709551616 ≤ a := by omega
      go_enter Try.func16, Try.ntmps16
      go_wp2
      all_goals first
        | (exfalso; simp at *; omega)
        | (go_ret2; exact ⟨rfl, rfl⟩)
    · rw [if_neg h0] at hw
      have h1 : b < 0 := by omega
      have h2 : a < a + b + 18446744073709551616 := by omega
      go_enter Try.func16, Try.ntmps16
      go_wp2
      all_goals first
        | (exfalso; simp at *; omega)
        | (go_ret2; exact ⟨rfl, rfl⟩)
theorem sub_any (a b : Int) (ha : fits a) (hb : fits b) (w : World) : Calls Try.prog 17 #[.int .i64 a, .int .i64 b] w fun e w' => e = .returned (tells (a - b)) ∧ w = w' := by
  obtain ⟨a0, a1⟩ := ha
  obtain ⟨b0, b1⟩ := hb
  by_cases h : fits (a - b)
  · rw [tells_yes h]
    obtain ⟨h0, h1⟩ := h
    go_enter Try.func17, Try.ntmps17
    go_wp2
    all_goals first
      | (exfalso; simp at *; omega)
      | (go_ret2; exact ⟨rfl, rfl⟩)
  · rw [tells_no h]
    have hw : wrap64 (a - b) = if 0 ≤ a then a - b - 18446744073709551616 else a - b + 18446744073709551616 := by unfold fits at h; unfold wrap64; split <;> omega
    unfold fits at h
    by_cases h0 : 0 ≤ a
    · rw [if_pos h0] at hw
      have h1 : b < 0 := by omega
      have h2 : a - b - 18446744073709551616 < a := by omega
      go_enter Try.func17, Try.ntmps17
      go_wp2
      all_goals first
        | (exfalso; simp at *; omega)
        | (go_ret2; exact ⟨rfl, rfl⟩)
    · rw [if_neg h0] at hw
      have h1 : 0 < b := by omega
      have h2 : a ≤ a - b + 18446744073709551616 := by omega
      go_enter Try.func17, Try.ntmps17
      go_wp2
      all_goals first
        | (exfalso; simp at *; omega)
        | (go_ret2; exact ⟨rfl, rfl⟩)
/-- How far from 0. -/
def mag (n : Int) : Int := if n < 0 then -n else n
theorem wu64 (x : Int) : IntKind.u64.wrap x = x % 18446744073709551616 := by simp [IntKind.wrap, IntKind.bits, IntKind.signed]
theorem size_any (a : Int) (ha : fits a) (w : World) : Calls Try.prog 34 #[.int .i64 a] w fun e w' => e = .returned (.int .u64 (mag a)) ∧ w = w' := by
  obtain ⟨a0, a1⟩ := ha
  by_cases h : a < 0
  · have e1 : IntKind.u64.wrap a = a + 18446744073709551616 := by rw [wu64]; omega
    have e2 : IntKind.u64.wrap (-(a + 18446744073709551616)) = -a := by rw [wu64]; omega
    rw [show mag a = -a from if_pos h]
    go_enter Try.func34, Try.ntmps34
    go_wp2
    go_ret
    exact ⟨rfl, rfl⟩
  · have e1 : IntKind.u64.wrap a = a := by rw [wu64]; omega
    rw [show mag a = a from if_neg h]
    go_enter Try.func34, Try.ntmps34
    go_wp2
    go_ret
    exact ⟨rfl, rfl⟩
set_option maxHeartbeats 1000000 in
theorem mul64_any (a b : Int) (ha : 0 ≤ a) (ha' : a < 18446744073709551616) (hb : 0 ≤ b) (hb' : b < 18446744073709551616) (w : World) :
    Calls Try.prog 33 #[.int .u64 a, .int .u64 b] w fun e w' => e = .returned (.tuple #[.int .u64 (a * b / 18446744073709551616), .int .u64 (a * b % 18446744073709551616)]) ∧ w = w' := by
  have e1 := and_low32 a ha ha'
  have e2 := and_low32 b hb hb'
  go_enter Try.func33, Try.ntmps33
  go_wp2
  go_ret2
  refine ⟨?_, rfl⟩
  simp only [Array.getD_eq_getD_getElem?, List.getElem?_toArray, List.getElem?_cons_succ, List.getElem?_cons_zero, Option.getD_some]
  rw [and_low32 _ (by rw [wu64]; omega) (by rw [wu64]; omega)]
  simp only [wu64]
  rw [mul64_arith a b ha ha' hb hb']
theorem mag_nn {n : Int} (h : fits n) : 0 ≤ mag n ∧ mag n ≤ 9223372036854775808 := by unfold fits at h; unfold mag; split <;> omega
theorem mag_mul (a b : Int) : mag a * mag b = if (decide (a < 0) != decide (b < 0)) = true then -(a * b) else a * b := by
  unfold mag
  by_cases h1 : a < 0 <;> by_cases h2 : b < 0 <;> simp [h1, h2, Int.neg_mul, Int.mul_neg]
/-- What Mul does, told by the two sizes and by what the signs are. -/
theorem mul_walk (a b x y p : Int) (d yes : Bool) (hx : ∀ w, Calls Try.prog 34 #[.int .i64 a] w fun e w' => e = .returned (.int .u64 x) ∧ w = w') (hy : ∀ w, Calls Try.prog 34 #[.int .i64 b] w fun e w' => e = .returned (.int .u64 y) ∧ w = w')
    (hi lo : Int) (hm : ∀ w, Calls Try.prog 33 #[.int .u64 x, .int .u64 y] w fun e w' => e = .returned (.tuple #[.int .u64 hi, .int .u64 lo]) ∧ w = w')
    (h0 : 0 ≤ hi) (h1 : 0 ≤ lo) (hd : (decide (a < 0) != decide (b < 0)) = d) (hp : wrap64 (a * b) = p)
    (hyes : yes = true → hi = 0 ∧ lo ≤ (if d then 9223372036854775808 else 9223372036854775807)) (hno : yes = false → hi = 0 → lo > (if d then 9223372036854775808 else 9223372036854775807)) (w : World) :
    Calls Try.prog 28 #[.int .i64 a, .int .i64 b] w fun e w' => e = .returned (.tuple #[.int .i64 (if yes then p else 0), .bool yes]) ∧ w = w' := by
  have HX := Lib.hid hx
  have HY := Lib.hid hy
  have HM := Lib.hid hm
  clear hx hy hm
  have key : ∀ (c : Int), (if d then (9223372036854775808 : Int) else 9223372036854775807) = c → 0 ≤ c → 
      Calls Try.prog 28 #[.int .i64 a, .int .i64 b] w fun e w' => e = .returned (.tuple #[.int .i64 (if yes then p else 0), .bool yes]) ∧ w = w' := by
    intro c hc hc0
    rw [hc] at hyes hno
    have HP := Lib.hid hp
    clear hp
    by_cases ha : a < 0 <;> by_cases hb : b < 0
    all_goals
      simp only [ha, hb, decide_true, decide_false, bne_self_eq_false, Bool.bne_true, Bool.bne_false, Bool.not_false, Bool.not_true, Bool.true_bne, Bool.false_bne] at hd
      subst hd
      simp only [if_true, if_false, Bool.false_eq_true] at hc
      subst hc
      have hy2 := hyes
      have hn2 := hno
      (first | (have da := decide_eq_false ha) | (have da := decide_eq_true ha))
      (first | (have db := decide_eq_false hb) | (have db := decide_eq_true hb))
      clear hyes hno
      cases yes
      · simp only [true_implies] at hn2
        clear hy2
        by_cases hz : hi = 0
        · have hn3 := hn2 hz
          clear hn2
          subst hz
          go_enter Try.func28, Try.ntmps28
          go_wp2_with (first | (go_at_call 34; (with_reducible refine (HX.out _).mono ?_); rintro e w' ⟨rfl, rfl⟩) | (go_at_call 34; (with_reducible refine (HY.out _).mono ?_); rintro e w' ⟨rfl, rfl⟩) | (go_at_call 33; (with_reducible refine (HM.out _).mono ?_); rintro e w' ⟨rfl, rfl⟩))
          all_goals first
            | (go_ret2; exact ⟨rfl, rfl⟩)
            | (exfalso; simp at *; omega)
            | (exfalso; omega)
        · have z1 : (hi == 0) = false := beq_eq_false_iff_ne.mpr hz
          have z2 : (hi != 0) = true := bne_iff_ne.mpr hz
          clear hn2 hz
          go_enter Try.func28, Try.ntmps28
          go_wp2_with (first | (go_at_call 34; (with_reducible refine (HX.out _).mono ?_); rintro e w' ⟨rfl, rfl⟩) | (go_at_call 34; (with_reducible refine (HY.out _).mono ?_); rintro e w' ⟨rfl, rfl⟩) | (go_at_call 33; (with_reducible refine (HM.out _).mono ?_); rintro e w' ⟨rfl, rfl⟩))
          all_goals first
            | (go_ret2; exact ⟨rfl, rfl⟩)
            | (exfalso; simp at *; omega)
      · simp only [true_implies] at hy2
        clear hn2
        obtain ⟨rfl, hy3⟩ := hy2
        go_enter Try.func28, Try.ntmps28
        go_wp2_with (first | (go_at_call 34; (with_reducible refine (HX.out _).mono ?_); rintro e w' ⟨rfl, rfl⟩) | (go_at_call 34; (with_reducible refine (HY.out _).mono ?_); rintro e w' ⟨rfl, rfl⟩) | (go_at_call 33; (with_reducible refine (HM.out _).mono ?_); rintro e w' ⟨rfl, rfl⟩))
        all_goals first
          | (go_ret2; exact ⟨by have e := HP.out; subst e; simp, rfl⟩)
          | (exfalso; simp at *; omega)
          | (exfalso; omega)
  exact key _ rfl (by split <;> decide)
theorem mul_any (a b : Int) (ha : fits a) (hb : fits b) (w : World) : Calls Try.prog 28 #[.int .i64 a, .int .i64 b] w fun e w' => e = .returned (tells (a * b)) ∧ w = w' := by
  have ma := mag_nn ha
  have mb := mag_nn hb
  have hm := mag_mul a b
  have hp := Int.mul_nonneg ma.1 mb.1
  have hf : fits (a * b) ↔ mag a * mag b ≤ (if (decide (a < 0) != decide (b < 0)) = true then 9223372036854775808 else 9223372036854775807) := by
    rw [hm] at hp ⊢
    unfold fits
    split at hp <;> simp only [*, if_true, if_false, Bool.false_eq_true] <;> omega
  have C := fun w => mul64_any (mag a) (mag b) ma.1 (by omega) mb.1 (by omega) w
  clear hm
  generalize mag a * mag b = P at *
  have hc : (if (decide (a < 0) != decide (b < 0)) = true then (9223372036854775808 : Int) else 9223372036854775807) ≤ 9223372036854775808 := by split <;> decide
  have key := mul_walk a b (mag a) (mag b) (wrap64 (a * b)) _ (decide (fits (a * b))) (fun w => size_any a ha w) (fun w => size_any b hb w) _ _ C (by omega) (by omega) rfl rfl
    (fun h => by have h1 := hf.mp (of_decide_eq_true h); omega)
    (fun h h0 => by have h1 := mt hf.mpr (of_decide_eq_false h); omega) w
  refine key.mono ?_
  rintro e w' ⟨rfl, rfl⟩
  refine ⟨?_, rfl⟩
  unfold tells okV okB
  by_cases h : fits (a * b)
  · rw [decide_eq_true h, if_pos h, if_pos rfl]
    unfold fits at h
    rw [show wrap64 (a * b) = a * b by unfold wrap64; omega]
  · rw [decide_eq_false h, if_neg h]
    rfl
end Go.Proofs.Ytfdnbefeidpccaa.Num
