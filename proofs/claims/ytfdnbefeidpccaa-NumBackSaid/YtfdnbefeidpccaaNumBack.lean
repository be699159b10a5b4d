/- The walk of the statement NumBack; the contract of Overlap. -/
import Derived.Test.YtfdnbefeidpccaaNum2
import Derived.Deep.DeepCutAuto
import Derived.Deep.QuietTactic
import Derived.BigQuiet
import Derived.WalkLawsBesides
namespace Go.Proofs.Ytfdnbefeidpccaa.Num
open Go Go.RowKit
set_option linter.unusedVariables false
set_option linter.unusedSimpArgs false
def over (a n b m : Int) : Bool := decide (0 ≤ a ∧ 0 ≤ b ∧ 0 < n ∧ 0 < m ∧ a < b + m ∧ b < a + n)
def mn (x y : Int) : Int := if y < x then y else x
theorem run_min4 (P : Program) (ats : Array TypeId) (ty : TypeId) (a b c d : Int) (w : World) :
    (Builtin.min_ ats ty #[.int .i64 a, .int .i64 b, .int .i64 c, .int .i64 d]).run P w = .ok (.int .i64 (mn (mn (mn a b) c) d)) w := by
  have e : ∀ x y : Int, Builtin.min2 (.int .i64 x) (.int .i64 y) = pure (.int .i64 (mn x y)) := fun x y => by simp only [Builtin.min2, mn]
  simp only [Builtin.min_, List.foldlM_cons, List.foldlM_nil, e, pure_bind]
  rfl
theorem mn4_lt (a b c d : Int) : mn (mn (mn a b) c) d < 0 ↔ a < 0 ∨ b < 0 ∨ c < 0 ∨ d < 0 := by
  unfold mn
  split <;> split <;> split <;> omega
theorem overlap_any (a n b m : Int) (ha : fits a) (hb : fits b) (w : World) : Calls Try.prog 26 #[.int .i64 a, .int .i64 n, .int .i64 b, .int .i64 m] w fun e w' => e = .returned (.bool (over a n b m)) ∧ w = w' := by
  obtain ⟨a0, a1⟩ := ha
  obtain ⟨b0, b1⟩ := hb
  have hm := mn4_lt a n b m
  have hmin := fun w => run_min4 Try.prog #[3, 3, 3, 3] 3 a n b m w
  unfold over
  generalize mn (mn (mn a n) b) m = q at *
  by_cases hq : q < 0
  · rw [hm] at hq
    rw [decide_eq_false (by omega)]
    have hq' := hm.mpr hq
    clear hm hq
    go_enter Try.func26, Try.ntmps26
    go_wp2
    go_ret
    exact ⟨rfl, rfl⟩
  · have hq' : 0 ≤ q := by omega
    rw [hm] at hq
    clear hm
    by_cases hn : n = 0
    · subst hn
      rw [decide_eq_false (by omega)]
      clear hq
      go_enter Try.func26, Try.ntmps26
      go_wp2
      go_ret
      exact ⟨rfl, rfl⟩
    · have n1 : (n == 0) = false := beq_eq_false_iff_ne.mpr hn
      have n2 : (n != 0) = true := bne_iff_ne.mpr hn
      by_cases hmz : m = 0
      · subst hmz
        rw [decide_eq_false (by omega)]
        clear hq hn
        go_enter Try.func26, Try.ntmps26
        go_wp2
        go_ret
        exact ⟨rfl, rfl⟩
      · have m1 : (m == 0) = false := beq_eq_false_iff_ne.mpr hmz
        have m2 : (m != 0) = true := bne_iff_ne.mpr hmz
        by_cases hab : a ≤ b
        · rw [show decide (0 ≤ a ∧ 0 ≤ b ∧ 0 < n ∧ 0 < m ∧ a < b + m ∧ b < a + n) = decide (b - a < n) from decide_eq_decide.mpr (by omega)]
          have q1 : 0 ≤ a := by omega
          have q2 : 0 ≤ b := by omega
          clear hq hn hmz
          go_enter Try.func26, Try.ntmps26
          go_wp2
          go_ret
          exact ⟨rfl, rfl⟩
        · rw [show decide (0 ≤ a ∧ 0 ≤ b ∧ 0 < n ∧ 0 < m ∧ a < b + m ∧ b < a + n) = decide (a - b < m) from decide_eq_decide.mpr (by omega)]
          have q1 : 0 ≤ a := by omega
          have q2 : 0 ≤ b := by omega
          clear hq hn hmz
          go_enter Try.func26, Try.ntmps26
          go_wp2
          go_ret
          exact ⟨rfl, rfl⟩
theorem quiet_left {P : Program} {f : FuncId} {args : Array Value} {w : World} {n : Nat} {v : Value}
    (h : Calls P f args (w.drewN n) fun e w' => e = .returned v ∧ w.drewN n = w') : Calls P f args (w.drewN n) fun e w'' => e = .returned v ∧ ∃ m, w'' = w.drewN m :=
  h.mono fun _ _ ⟨he, hm⟩ => ⟨he, n, hm.symm⟩
theorem over_comm (a n b m : Int) : over b m a n = over a n b m := by
  unfold over
  exact decide_eq_decide.mpr (by omega)
set_option maxRecDepth 100000 in
set_option maxHeartbeats 1000000 in
theorem back_walk (a b p q r s : Int) (ha : fits a) (hb : fits b) (hp : fits p) (hr : fits r) (hs : fits s) (w : World) :
    Calls Try.prog 12 #[.int .i64 a, .int .i64 b, .agg #[.int .i64 p, .int .i64 q, .int .i64 r, .int .i64 s]] w fun e w' => e = .returned (.bool true) ∧ Below w.heap.size w w' := by
  have HM := Lib.hid (mul_any a b ha hb)
  have HA := Lib.hid (add_any a b ha hb)
  have HA2 := Lib.hid (add_any b a hb ha)
  have HS := Lib.hid (fun h => sub_any (a + b) b h hb)
  have HO1 := Lib.hid (overlap_any p q r s hp hr)
  have HO2 := Lib.hid (overlap_any r s p q hr hp)
  have HW1 := Lib.hid (within_any p q r hp hr)
  have HW2 := Lib.hid (within_any p q s hp hs)
  obtain ⟨a0, a1⟩ := ha
  obtain ⟨b0, b1⟩ := hb
  clear hp hr hs
  go_enter Try.func12, Try.ntmps12
  go_upto_if 21 with (first | (go_at_call 16; (with_reducible refine (HA.out _).mono ?_); rintro e w1 ⟨rfl, rfl⟩; simp only [tells]))
  go_cut [7, 8] (fun _ _ wx => wx = (w.alloc (.cells #[.int .i64 p, .int .i64 q, .int .i64 r, .int .i64 s] 41)))
  case first =>
    clear HM HA HO1 HO2 HW1 HW2
    by_cases hf : fits (a + b)
    · have HS2 := HS.out hf
      have HA3 := HA2.out
      rw [Int.add_sub_cancel, tells_yes ⟨a0, a1⟩] at HS2
      rw [Int.add_comm b a, tells_yes hf] at HA3
      have K1 := Lib.hid HS2
      have K2 := Lib.hid HA3
      rw [show okB (a + b) = true by simp [okB, hf], show okV (a + b) = a + b by simp [okV, hf]]
      clear HS HA2 HS2 HA3 hf
      generalize a + b = c at *
      go_wp2_with (first | (go_at_call 17; (with_reducible refine (K1.out _).mono ?_); rintro e w1 ⟨rfl, rfl⟩) | (go_at_call 16; (with_reducible refine (K2.out _).mono ?_); rintro e w1 ⟨rfl, rfl⟩))
      go_meet
      case rel => rfl
    · rw [show okB (a + b) = false by simp [okB, hf]]
      clear hf HS HA2
      go_wp2
      go_meet
      case rel => rfl
  case rest =>
    obtain rfl := hcut
    clear HA HA2 HS
    go_upto_region 8 with (first | (go_at_call 28; (with_reducible refine (HM.out _).mono ?_); rintro e w1 ⟨rfl, rfl⟩; simp only [tells]))
    go_cut [13, 14, 67] (fun _ _ c wy => c = .bool false ∧ wy = (w.alloc (.cells #[.int .i64 p, .int .i64 q, .int .i64 r, .int .i64 s] 41)))
    case first =>
      clear HM HO1 HO2 HW1 HW2
      by_cases hz : b = 0
      · have z1 : (b == 0) = true := beq_iff_eq.mpr hz
        have z2 : (b != 0) = false := bne_eq_false_iff_eq.mpr hz
        clear hz
        cases okB (a * b)
        all_goals
          go_wp2
          go_meet
          case rel => exact ⟨rfl, rfl⟩
      · have z1 : (b == 0) = false := beq_eq_false_iff_ne.mpr hz
        have z2 : (b != 0) = true := bne_iff_ne.mpr hz
        by_cases hf : fits (a * b)
        · rw [show okB (a * b) = true by simp [okB, hf], show okV (a * b) = a * b by simp [okV, hf]]
          have e1 : (a * b).tdiv b = a := Int.mul_tdiv_cancel a hz
          have hf1 := hf.1
          have hf2 := hf.2
          clear hf
          generalize a * b = c at *
          go_wp2
          go_meet
          case rel => exact ⟨rfl, rfl⟩
        · rw [show okB (a * b) = false by simp [okB, hf]]
          clear hf
          go_wp2
          go_meet
          case rel => exact ⟨rfl, rfl⟩
    case rest =>
      obtain ⟨rfl, rfl⟩ := hcut
      clear HM
      go_upto_region 10 with fail
      go_cut [91] (fun c wz => c = .bool false ∧ wz = (w.alloc (.cells #[.int .i64 p, .int .i64 q, .int .i64 r, .int .i64 s] 41)))
      case first =>
        clear HO1 HO2
        by_cases hi : 0 ≤ p ∧ 0 ≤ q ∧ p + q ≤ r
        · have K := HW1.out
          rw [decide_eq_true hi] at K
          have K1 := Lib.hid K
          clear K HW1
          by_cases hg : r ≤ s
          · have K := HW2.out
            rw [decide_eq_true ⟨hi.1, hi.2.1, by omega⟩] at K
            have K2 := Lib.hid K
            clear K HW2 hi
            go_wp2_with (first | (go_at_call 24; (with_reducible refine (K1.out _).mono ?_); rintro e w1 ⟨rfl, rfl⟩) | (go_at_call 24; (with_reducible refine (K2.out _).mono ?_); rintro e w1 ⟨rfl, rfl⟩))
            go_meet
            case rel => exact ⟨rfl, rfl⟩
          · clear HW2 hi
            go_wp2_with (first | (go_at_call 24; (with_reducible refine (K1.out _).mono ?_); rintro e w1 ⟨rfl, rfl⟩))
            go_meet
            case rel => exact ⟨rfl, rfl⟩
        · have K := HW1.out
          rw [decide_eq_false hi] at K
          have K1 := Lib.hid K
          clear K HW1 hi HW2
          go_wp2_with (first | (go_at_call 24; (with_reducible refine (K1.out _).mono ?_); rintro e w1 ⟨rfl, rfl⟩))
          go_meet
          case rel => exact ⟨rfl, rfl⟩
      case rest =>
        obtain ⟨rfl, rfl⟩ := hcut
        clear HW1 HW2
        have K := HO2.out
        rw [over_comm] at K
        have K2 := Lib.hid K
        clear K HO2
        generalize over p q r s = o at *
        go_wp2_with fail
        go_quiet ((first | (go_at_call 26; with_reducible exact quiet_left (HO1.out _)) | (go_at_call 26; with_reducible exact quiet_left (K2.out _)) | (go_at_call 14; with_reducible exact quiet_left (awake_any _))))
        go_wp2
        go_ret
        exact ⟨rfl, ⟨rfl, rfl, rfl, by simp, fun k hk => Below.heap_alloc _ _ _ hk⟩⟩
theorem back_row (a : Int) (ha : (Lit.int .i64 a).wf = true) (b : Int) (hb : (Lit.int .i64 b).wf = true) (p q r s : Int) (hp : (Lit.int .i64 p).wf = true) (_hq : (Lit.int .i64 q).wf = true) (hr : (Lit.int .i64 r).wf = true) (hs : (Lit.int .i64 s).wf = true) (w : World) :
    Calls Try.prog 12 #[.int .i64 a, .int .i64 b, .agg #[.int .i64 p, .int .i64 q, .int .i64 r, .int .i64 s]] w fun e w' => e = .returned (.bool true) ∧ Below w.heap.size w w' :=
  back_walk a b p q r s (wf_i64 ha) (wf_i64 hb) (wf_i64 hp) (wf_i64 hr) (wf_i64 hs) w
end Go.Proofs.Ytfdnbefeidpccaa.Num
