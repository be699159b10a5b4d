-- PRINTED BY print.sh 35421559b90ae4d0a3588c463048766b98c2df88dd9212a6774a882060cdf62d: not written by this session
import Derived.Test.YtfdnbefeidpccaaPNumPagesx0
namespace Go.Proofs.Ytfdnbefeidpccaa.PNumPages
open Go.RowKit Go.Proofs.YtfdnbefeidpccaaW.PrintWords Go.Proofs.YtfdnbefeidpccaaW.PrintLast Go.Proofs.YtfdnbefeidpccaaW.PrintMore
attribute [local go_sem] max2_int min2_int max_two min_two max_three min_three max_four min_four   -- for this text's walks alone
set_option linter.unusedVariables false
set_option linter.unusedSimpArgs false

/-! ### num_Add: function 16 -/
def num_Add.f (a0 : Int) (a1 : Int) : Option (Int × Bool) := if ((decide ((wrap64 (a0 + a1)) > a0)) != (decide (a1 > 0))) = true then (if a1 = 0 then (some (wrap64 (a0 + a1), true)) else (some (0, false))) else (some (wrap64 (a0 + a1), true))
set_option maxHeartbeats 8000000 in
set_option maxRecDepth 100000 in
theorem num_Add.calls (a0 : Int) (a1 : Int) (r1 : Int) (r2 : Bool) (w : World) (h : num_Add.f a0 a1 = some (r1, r2)) :
    Calls Try.prog 16 #[.int .i64 a0, .int .i64 a1] w fun e w' => e = .returned (.tuple #[.int .i64 r1, .bool r2]) ∧ Drawn0 w w' := by
  have H : (if ((decide ((wrap64 (a0 + a1)) > a0)) != (decide (a1 > 0))) = true then (if a1 = 0 then (some (wrap64 (a0 + a1), true)) else (some (0, false))) else (some (wrap64 (a0 + a1), true))) = some (r1, r2) := h
  clear h
  by_cases c3 : ((decide ((wrap64 (a0 + a1)) > a0)) != (decide (a1 > 0))) = true
  · rw [if_pos c3] at H
    have c3b0 : ((decide ((wrap64 (a0 + a1)) > a0)) != (decide (a1 > 0))) = true := c3
    (try (have c3b1 : decide ((decide ((wrap64 (a0 + a1)) > a0)) = (decide (a1 > 0))) = false := by simpa using c3))
    (try (have c3b2 : ((decide ((wrap64 (a0 + a1)) > a0)) == (decide (a1 > 0))) = false := by simpa using c3))
    (try (have c3b3 : ¬ ((decide ((wrap64 (a0 + a1)) > a0)) = (decide (a1 > 0))) := by simpa using c3))
    clear c3
    by_cases c4 : a1 = 0
    · rw [if_pos c4] at H
      have c4b0 : (a1 == 0) = true := beq_iff_eq.mpr c4
      have c4b1 : (a1 != 0) = false := bne_eq_false_iff_eq.mpr c4
      clear c4
      simp only [Option.some.injEq, Prod.mk.injEq] at H
      obtain ⟨rfl, rfl⟩ := H
      go_enter Try.func16, Try.ntmps16
      go_wp2
      go_ret2
      exact ⟨by first | rfl | (simp; done) | (simp [*]; done), by repeat (first | exact Drawn0.refl _ | apply Drawn0.step)⟩
    · rw [if_neg c4] at H
      have c4b0 : (a1 == 0) = false := beq_eq_false_iff_ne.mpr c4
      have c4b1 : (a1 != 0) = true := bne_iff_ne.mpr c4
      simp only [Option.some.injEq, Prod.mk.injEq] at H
      obtain ⟨rfl, rfl⟩ := H
      go_enter Try.func16, Try.ntmps16
      go_wp2
      go_ret2
      exact ⟨by first | rfl | (simp; done) | (simp [*]; done), by repeat (first | exact Drawn0.refl _ | apply Drawn0.step)⟩
  · rw [if_neg c3] at H
    have c3b0 : ((decide ((wrap64 (a0 + a1)) > a0)) != (decide (a1 > 0))) = false := by simpa using c3
    (try (have c3b1 : decide ((decide ((wrap64 (a0 + a1)) > a0)) = (decide (a1 > 0))) = true := by simpa using c3))
    (try (have c3b2 : ((decide ((wrap64 (a0 + a1)) > a0)) == (decide (a1 > 0))) = true := by simpa using c3))
    clear c3
    simp only [Option.some.injEq, Prod.mk.injEq] at H
    obtain ⟨rfl, rfl⟩ := H
    go_enter Try.func16, Try.ntmps16
    go_wp2
    go_ret2
    exact ⟨by first | rfl | (simp; done) | (simp [*]; done), by repeat (first | exact Drawn0.refl _ | apply Drawn0.step)⟩

/-! ### jacinthlaw01_awake: function 14 -/
def jacinthlaw01_awake.f  : Option (Bool) := (num_Add.f 2 3).bind fun bt101 => ((num_Add.f 9223372036854775807 1).bind fun bt103 => (if bt101.1 = 5 then (if bt101.2 = true then (some (!bt103.2)) else (some false)) else (some false)))
set_option maxHeartbeats 8000000 in
set_option maxRecDepth 100000 in
theorem jacinthlaw01_awake.calls  (r : Bool) (w : World) (h : jacinthlaw01_awake.f  = some r) :
    Calls Try.prog 14 #[] w fun e w' => e = .returned (.bool r) ∧ Drawn0 w w' := by
  have H : ((num_Add.f 2 3).bind fun bt101 => ((num_Add.f 9223372036854775807 1).bind fun bt103 => (if bt101.1 = 5 then (if bt101.2 = true then (some (!bt103.2)) else (some false)) else (some false)))) = some r := h
  clear h
  replace H := Option.bind_eq_some_iff.mp H
  obtain ⟨⟨t101, t102⟩, A10, H⟩ := H
  replace H : ((num_Add.f 9223372036854775807 1).bind fun bt103 => (if t101 = 5 then (if t102 = true then (some (!bt103.2)) else (some false)) else (some false))) = some r := H
  have A1 := Aside0.mk A10
  clear A10
  replace H := Option.bind_eq_some_iff.mp H
  obtain ⟨⟨t103, t104⟩, A20, H⟩ := H
  replace H : (if t101 = 5 then (if t102 = true then (some (!t104)) else (some false)) else (some false)) = some r := H
  have A2 := Aside0.mk A20
  clear A20
  by_cases c3 : t101 = 5
  · rw [if_pos c3] at H
    have c3b0 : (t101 == 5) = true := beq_iff_eq.mpr c3
    have c3b1 : (t101 != 5) = false := bne_eq_false_iff_eq.mpr c3
    clear c3
    by_cases c4 : t102 = true
    · subst c4
      have H1 : (some (!t104)) = some r := by rw [if_pos rfl] at H; exact H
      clear H
      have H := H1
      clear H1
      obtain rfl := Option.some.inj H
      go_enter Try.func14, Try.ntmps14
      go_wp2_with (first | ((with_reducible refine gate_callee (f := 16) rfl ?_); refine goesL_ (some 6) rfl rfl Try.func16 (by kernel_rfl) rfl #[.int .i64 2, .int .i64 3] rfl (by (try simp only [List.map_toArray, List.map_cons, List.map_nil]); first | done | rfl | (simp only [List.length_drop, List.length_take]; rfl)) ?_; (with_reducible refine (num_Add.calls 2 3 t101 true _ A1.out).mono ?_); rintro e w' ⟨rfl, ⟨nd, rfl⟩⟩; refine ⟨_, rfl, ?_⟩) | ((with_reducible refine gate_callee (f := 16) rfl ?_); refine goesL_ (some 10) rfl rfl Try.func16 (by kernel_rfl) rfl #[.int .i64 9223372036854775807, .int .i64 1] rfl (by (try simp only [List.map_toArray, List.map_cons, List.map_nil]); first | done | rfl | (simp only [List.length_drop, List.length_take]; rfl)) ?_; (with_reducible refine (num_Add.calls 9223372036854775807 1 t103 t104 _ A2.out).mono ?_); rintro e w' ⟨rfl, ⟨nd, rfl⟩⟩; refine ⟨_, rfl, ?_⟩))
      go_ret
      exact ⟨by first | rfl | (simp; done) | (simp [*]; done), by repeat (first | exact Drawn0.refl _ | apply Drawn0.step)⟩
    · replace c4 := Bool.eq_false_iff.mpr c4
      subst c4
      have H1 : (some false) = some r := by rw [if_neg (show ¬ (false = true) by decide)] at H; exact H
      clear H
      have H := H1
      clear H1
      obtain rfl := Option.some.inj H
      go_enter Try.func14, Try.ntmps14
      go_wp2_with (first | ((with_reducible refine gate_callee (f := 16) rfl ?_); refine goesL_ (some 6) rfl rfl Try.func16 (by kernel_rfl) rfl #[.int .i64 2, .int .i64 3] rfl (by (try simp only [List.map_toArray, List.map_cons, List.map_nil]); first | done | rfl | (simp only [List.length_drop, List.length_take]; rfl)) ?_; (with_reducible refine (num_Add.calls 2 3 t101 false _ A1.out).mono ?_); rintro e w' ⟨rfl, ⟨nd, rfl⟩⟩; refine ⟨_, rfl, ?_⟩) | ((with_reducible refine gate_callee (f := 16) rfl ?_); refine goesL_ (some 10) rfl rfl Try.func16 (by kernel_rfl) rfl #[.int .i64 9223372036854775807, .int .i64 1] rfl (by (try simp only [List.map_toArray, List.map_cons, List.map_nil]); first | done | rfl | (simp only [List.length_drop, List.length_take]; rfl)) ?_; (with_reducible refine (num_Add.calls 9223372036854775807 1 t103 t104 _ A2.out).mono ?_); rintro e w' ⟨rfl, ⟨nd, rfl⟩⟩; refine ⟨_, rfl, ?_⟩))
      go_ret
      exact ⟨by first | rfl | (simp; done) | (simp [*]; done), by repeat (first | exact Drawn0.refl _ | apply Drawn0.step)⟩
  · rw [if_neg c3] at H
    have c3b0 : (t101 == 5) = false := beq_eq_false_iff_ne.mpr c3
    have c3b1 : (t101 != 5) = true := bne_iff_ne.mpr c3
    obtain rfl := Option.some.inj H
    go_enter Try.func14, Try.ntmps14
    go_wp2_with (first | ((with_reducible refine gate_callee (f := 16) rfl ?_); refine goesL_ (some 6) rfl rfl Try.func16 (by kernel_rfl) rfl #[.int .i64 2, .int .i64 3] rfl (by (try simp only [List.map_toArray, List.map_cons, List.map_nil]); first | done | rfl | (simp only [List.length_drop, List.length_take]; rfl)) ?_; (with_reducible refine (num_Add.calls 2 3 t101 t102 _ A1.out).mono ?_); rintro e w' ⟨rfl, ⟨nd, rfl⟩⟩; refine ⟨_, rfl, ?_⟩) | ((with_reducible refine gate_callee (f := 16) rfl ?_); refine goesL_ (some 10) rfl rfl Try.func16 (by kernel_rfl) rfl #[.int .i64 9223372036854775807, .int .i64 1] rfl (by (try simp only [List.map_toArray, List.map_cons, List.map_nil]); first | done | rfl | (simp only [List.length_drop, List.length_take]; rfl)) ?_; (with_reducible refine (num_Add.calls 9223372036854775807 1 t103 t104 _ A2.out).mono ?_); rintro e w' ⟨rfl, ⟨nd, rfl⟩⟩; refine ⟨_, rfl, ?_⟩))
    go_ret
    exact ⟨by first | rfl | (simp; done) | (simp [*]; done), by repeat (first | exact Drawn0.refl _ | apply Drawn0.step)⟩

/-! ### num_Pages: function 21 -/
def num_Pages.j0 : Nat → Int → Int → Int → Bool → Option (Int × Int × Bool)
  | 0, _, _, _, _ => none
  | k + 1, x0, x1, x7, x24 => if x24 = true then (some (0, 0, false)) else (if x1 = 0 then (some (wrap64 (Int.tdiv x0 64), 0, true)) else (some (wrap64 (Int.tdiv x0 64), wrap64 ((wrap64 ((wrap64 (Int.tdiv (wrap64 (x7 - 1)) 64)) - (wrap64 (Int.tdiv x0 64)))) + 1), true)))
def num_Pages.f (k : Nat) (a0 : Int) (a1 : Int) : Option (Int × Int × Bool) := (num_Add.f a0 a1).bind fun bt105 => (if a0 < 0 then (num_Pages.j0 k a0 a1 bt105.1 true) else (if a1 < 0 then (num_Pages.j0 k a0 a1 bt105.1 true) else (num_Pages.j0 k a0 a1 bt105.1 (!bt105.2))))
theorem num_Pages.mono_l : ∀ k, (∀ y0 y1 y2 y3, LeO (num_Pages.j0 k y0 y1 y2 y3) (num_Pages.j0 (k + 1) y0 y1 y2 y3))
  | 0 => fun _ _ _ _ r h => by simp [num_Pages.j0] at h
  | k + 1 => by
    have ih0 := num_Pages.mono_l k
    · intro y0 y1 y2 y3
      unfold num_Pages.j0
      repeat' first
      | (with_reducible exact ih0 _ _ _ _)
      | (with_reducible exact LeO.refl _)
      | (with_reducible exact LeO.none _)
      | (with_reducible refine LeO.ite ?_ ?_)
      | (with_reducible refine LeO.bind ?_ (fun _ => ?_))
      | exact ih0 _ _ _ _
      | exact LeO.none _
      | refine LeO.ite ?_ ?_
      | refine LeO.bind ?_ (fun _ => ?_)
theorem num_Pages.mono : ∀ a0 a1 k, LeO (num_Pages.f k a0 a1) (num_Pages.f (k + 1) a0 a1) := by
  intro a0 a1 k
  have ih0 := num_Pages.mono_l k
  unfold num_Pages.f
  repeat' first
      | (with_reducible exact ih0 _ _ _ _)
      | (with_reducible exact LeO.refl _)
      | (with_reducible exact LeO.none _)
      | (with_reducible refine LeO.ite ?_ ?_)
      | (with_reducible refine LeO.bind ?_ (fun _ => ?_))
      | exact ih0 _ _ _ _
      | exact LeO.none _
      | refine LeO.ite ?_ ?_
      | refine LeO.bind ?_ (fun _ => ?_)
set_option maxHeartbeats 8000000 in
set_option maxRecDepth 100000 in
theorem num_Pages.calls (k : Nat) (a0 : Int) (a1 : Int) (r1 : Int) (r2 : Int) (r3 : Bool) (w : World) (h : num_Pages.f k a0 a1 = some (r1, r2, r3)) :
    Calls Try.prog 21 #[.int .i64 a0, .int .i64 a1] w fun e w' => e = .returned (.tuple #[.int .i64 r1, .int .i64 r2, .bool r3]) ∧ Drawn0 w w' := by
  have H : ((num_Add.f a0 a1).bind fun bt105 => (if a0 < 0 then (num_Pages.j0 k a0 a1 bt105.1 true) else (if a1 < 0 then (num_Pages.j0 k a0 a1 bt105.1 true) else (num_Pages.j0 k a0 a1 bt105.1 (!bt105.2))))) = some (r1, r2, r3) := h
  clear h
  replace H := Option.bind_eq_some_iff.mp H
  obtain ⟨⟨t105, t106⟩, A30, H⟩ := H
  replace H : (if a0 < 0 then (num_Pages.j0 k a0 a1 t105 true) else (if a1 < 0 then (num_Pages.j0 k a0 a1 t105 true) else (num_Pages.j0 k a0 a1 t105 (!t106)))) = some (r1, r2, r3) := H
  have A3 := Aside0.mk A30
  clear A30
  have HC4 := Aside0.mk H
  clear H
  go_enter Try.func21, Try.ntmps21
  go_upto_region 2 with (first | ((with_reducible refine gate_callee (f := 16) rfl ?_); refine goesL_ (some 12) rfl rfl Try.func16 (by kernel_rfl) rfl #[.int .i64 a0, .int .i64 a1] rfl (by (try simp only [List.map_toArray, List.map_cons, List.map_nil]); first | done | rfl | (simp only [List.length_drop, List.length_take]; rfl)) ?_; (with_reducible refine (num_Add.calls a0 a1 t105 t106 _ A3.out).mono ?_); rintro e w' ⟨rfl, ⟨nd, rfl⟩⟩; refine ⟨_, rfl, ?_⟩))
  (try simp only [Act.put, List.setIfInBounds_toArray, List.set_cons_zero, List.set_cons_succ])
  go_cut [24] (fun v24 wc => ∃ (kq : Nat) (x24_3 : Bool), v24 = .bool x24_3 ∧ Aside0 (num_Pages.j0 kq a0 a1 t105 x24_3 = some (r1, r2, r3)) ∧ Aside0 (kq ≤ k) ∧ Drawn0 w wc)
  case first =>
    have H := HC4.out
    clear HC4
    by_cases c5 : a0 < 0
    · rw [if_pos c5] at H
      have c5b0 : decide (a0 < 0) = true := decide_eq_true c5
      clear c5
      (first | rw [c5b0] | (simp only [i64_w, i32_w]; rw [c5b0]) | skip)
      have H' := Aside0.mk H
      clear H
      go_wp2
      go_meet
      case rel => exact ⟨_, (true), (by first | rfl | (simp; done) | (simp [*]; done)), H', ⟨by first | omega | exact Nat.le_refl _⟩, by repeat (first | exact Drawn0.refl _ | apply Drawn0.step)⟩
    · rw [if_neg c5] at H
      have c5b0 : decide (a0 < 0) = false := decide_eq_false c5
      clear c5
      (first | rw [c5b0] | (simp only [i64_w, i32_w]; rw [c5b0]) | skip)
      by_cases c6 : a1 < 0
      · rw [if_pos c6] at H
        have c6b0 : decide (a1 < 0) = true := decide_eq_true c6
        clear c6
        have H' := Aside0.mk H
        clear H
        go_wp2
        go_meet
        case rel => exact ⟨_, (true), (by first | rfl | (simp; done) | (simp [*]; done)), H', ⟨by first | omega | exact Nat.le_refl _⟩, by repeat (first | exact Drawn0.refl _ | apply Drawn0.step)⟩
      · rw [if_neg c6] at H
        have c6b0 : decide (a1 < 0) = false := decide_eq_false c6
        clear c6
        have H' := Aside0.mk H
        clear H
        go_wp2
        go_meet
        case rel => exact ⟨_, (!t106), (by first | rfl | (simp; done) | (simp [*]; done)), H', ⟨by first | omega | exact Nat.le_refl _⟩, by repeat (first | exact Drawn0.refl _ | apply Drawn0.step)⟩
  case rest =>
    clear HC4
    try clear c1
    try clear c2
    try clear p2
    try clear c5
    try clear c5b0
    try clear c6
    try clear c6b0
    obtain ⟨kq, x24_3, rfl, HA, HJ3, ⟨mc3, rfl⟩⟩ := hcut
    cases kq with
    | zero => exact absurd HA.out (by simp [num_Pages.j0])
    | succ kj3 =>
      have H := HA.out
      clear HA
      simp only [num_Pages.j0] at H
      by_cases c7 : x24_3 = true
      · subst c7
        have H1 : (some (0, 0, false)) = some (r1, r2, r3) := by rw [if_pos rfl] at H; exact H
        clear H
        have H := H1
        clear H1
        simp only [Option.some.injEq, Prod.mk.injEq] at H
        obtain ⟨rfl, rfl, rfl⟩ := H
        go_wp2
        go_ret3
        exact ⟨by first | rfl | (simp; done) | (simp [*]; done), by repeat (first | exact Drawn0.refl _ | apply Drawn0.step)⟩
      · replace c7 := Bool.eq_false_iff.mpr c7
        subst c7
        have H1 : (if a1 = 0 then (some (wrap64 (Int.tdiv a0 64), 0, true)) else (some (wrap64 (Int.tdiv a0 64), wrap64 ((wrap64 ((wrap64 (Int.tdiv (wrap64 (t105 - 1)) 64)) - (wrap64 (Int.tdiv a0 64)))) + 1), true))) = some (r1, r2, r3) := by rw [if_neg (show ¬ (false = true) by decide)] at H; exact H
        clear H
        have H := H1
        clear H1
        by_cases c8 : a1 = 0
        · rw [if_pos c8] at H
          have c8b0 : (a1 == 0) = true := beq_iff_eq.mpr c8
          have c8b1 : (a1 != 0) = false := bne_eq_false_iff_eq.mpr c8
          clear c8
          simp only [Option.some.injEq, Prod.mk.injEq] at H
          obtain ⟨rfl, rfl, rfl⟩ := H
          go_wp2
          go_ret3
          exact ⟨by first | rfl | (simp; done) | (simp [*]; done), by repeat (first | exact Drawn0.refl _ | apply Drawn0.step)⟩
        · rw [if_neg c8] at H
          have c8b0 : (a1 == 0) = false := beq_eq_false_iff_ne.mpr c8
          have c8b1 : (a1 != 0) = true := bne_iff_ne.mpr c8
          simp only [Option.some.injEq, Prod.mk.injEq] at H
          obtain ⟨rfl, rfl, rfl⟩ := H
          go_wp2
          go_ret3
          exact ⟨by first | rfl | (simp; done) | (simp [*]; done), by repeat (first | exact Drawn0.refl _ | apply Drawn0.step)⟩

/-! ### jacinthlaw01_NumPages: function 6 -/
def jacinthlaw01_NumPages.f (k : Nat) (a0 : Int) (a1 : Int) (a2 : Int) : Option (Bool) := (num_Pages.f k a0 a1).bind fun bt107 => (if bt107.2.2 = true then (if a2 ≥ a0 then (if a0 ≥ 0 then (if a1 ≥ 0 then (if ((wrap64 (a2 - a0)) < a1) then (if (wrap64 (Int.tdiv a2 64)) ≥ bt107.1 then (if (wrap64 ((wrap64 (Int.tdiv a2 64)) - bt107.1)) < bt107.2.1 then (if ((a1 == 0) == (bt107.2.1 == 0)) = true then (if bt107.2.1 ≤ a1 then ((jacinthlaw01_awake.f).bind fun t110 => (some t110)) else (some false)) else (some false)) else (some false)) else (some false)) else (if ((a1 == 0) == (bt107.2.1 == 0)) = true then (if bt107.2.1 ≤ a1 then ((jacinthlaw01_awake.f).bind fun t111 => (some t111)) else (some false)) else (some false))) else (some false)) else (some false)) else (if a0 ≥ 0 then (if a1 ≥ 0 then (if ((a1 == 0) == (bt107.2.1 == 0)) = true then (if bt107.2.1 ≤ a1 then ((jacinthlaw01_awake.f).bind fun t112 => (some t112)) else (some false)) else (some false)) else (some false)) else (some false))) else (if a0 < 0 then (if bt107.1 = 0 then (if bt107.2.1 = 0 then ((jacinthlaw01_awake.f).bind fun t113 => (some t113)) else (some false)) else (some false)) else (if a1 < 0 then (if bt107.1 = 0 then (if bt107.2.1 = 0 then ((jacinthlaw01_awake.f).bind fun t114 => (some t114)) else (some false)) else (some false)) else (if a0 > (wrap64 (9223372036854775807 - a1)) then (if bt107.1 = 0 then (if bt107.2.1 = 0 then ((jacinthlaw01_awake.f).bind fun t115 => (some t115)) else (some false)) else (some false)) else (some false)))))
theorem jacinthlaw01_NumPages.mono : ∀ a0 a1 a2 k, LeO (jacinthlaw01_NumPages.f k a0 a1 a2) (jacinthlaw01_NumPages.f (k + 1) a0 a1 a2) := by
  intro a0 a1 a2 k
  unfold jacinthlaw01_NumPages.f
  repeat' first
      | (with_reducible exact num_Pages.mono _ _ _)
      | (with_reducible exact LeO.refl _)
      | (with_reducible exact LeO.none _)
      | (with_reducible refine LeO.ite ?_ ?_)
      | (with_reducible refine LeO.bind ?_ (fun _ => ?_))
      | exact num_Pages.mono _ _ _
      | exact LeO.none _
      | refine LeO.ite ?_ ?_
      | refine LeO.bind ?_ (fun _ => ?_)
set_option maxHeartbeats 8000000 in
set_option maxRecDepth 100000 in
theorem jacinthlaw01_NumPages.calls (k : Nat) (a0 : Int) (a1 : Int) (a2 : Int) (r : Bool) (w : World) (h : jacinthlaw01_NumPages.f k a0 a1 a2 = some r) :
    Calls Try.prog 6 #[.int .i64 a0, .int .i64 a1, .int .i64 a2] w fun e w' => e = .returned (.bool r) ∧ Drawn0 w w' := by
  have H : ((num_Pages.f k a0 a1).bind fun bt107 => (if bt107.2.2 = true then (if a2 ≥ a0 then (if a0 ≥ 0 then (if a1 ≥ 0 then (if ((wrap64 (a2 - a0)) < a1) then (if (wrap64 (Int.tdiv a2 64)) ≥ bt107.1 then (if (wrap64 ((wrap64 (Int.tdiv a2 64)) - bt107.1)) < bt107.2.1 then (if ((a1 == 0) == (bt107.2.1 == 0)) = true then (if bt107.2.1 ≤ a1 then ((jacinthlaw01_awake.f).bind fun t110 => (some t110)) else (some false)) else (some false)) else (some false)) else (some false)) else (if ((a1 == 0) == (bt107.2.1 == 0)) = true then (if bt107.2.1 ≤ a1 then ((jacinthlaw01_awake.f).bind fun t111 => (some t111)) else (some false)) else (some false))) else (some false)) else (some false)) else (if a0 ≥ 0 then (if a1 ≥ 0 then (if ((a1 == 0) == (bt107.2.1 == 0)) = true then (if bt107.2.1 ≤ a1 then ((jacinthlaw01_awake.f).bind fun t112 => (some t112)) else (some false)) else (some false)) else (some false)) else (some false))) else (if a0 < 0 then (if bt107.1 = 0 then (if bt107.2.1 = 0 then ((jacinthlaw01_awake.f).bind fun t113 => (some t113)) else (some false)) else (some false)) else (if a1 < 0 then (if bt107.1 = 0 then (if bt107.2.1 = 0 then ((jacinthlaw01_awake.f).bind fun t114 => (some t114)) else (some false)) else (some false)) else (if a0 > (wrap64 (9223372036854775807 - a1)) then (if bt107.1 = 0 then (if bt107.2.1 = 0 then ((jacinthlaw01_awake.f).bind fun t115 => (some t115)) else (some false)) else (some false)) else (some false)))))) = some r := h
  clear h
  replace H := Option.bind_eq_some_iff.mp H
  obtain ⟨⟨t107, t108, t109⟩, A40, H⟩ := H
  replace H : (if t109 = true then (if a2 ≥ a0 then (if a0 ≥ 0 then (if a1 ≥ 0 then (if ((wrap64 (a2 - a0)) < a1) then (if (wrap64 (Int.tdiv a2 64)) ≥ t107 then (if (wrap64 ((wrap64 (Int.tdiv a2 64)) - t107)) < t108 then (if ((a1 == 0) == (t108 == 0)) = true then (if t108 ≤ a1 then ((jacinthlaw01_awake.f).bind fun t110 => (some t110)) else (some false)) else (some false)) else (some false)) else (some false)) else (if ((a1 == 0) == (t108 == 0)) = true then (if t108 ≤ a1 then ((jacinthlaw01_awake.f).bind fun t111 => (some t111)) else (some false)) else (some false))) else (some false)) else (some false)) else (if a0 ≥ 0 then (if a1 ≥ 0 then (if ((a1 == 0) == (t108 == 0)) = true then (if t108 ≤ a1 then ((jacinthlaw01_awake.f).bind fun t112 => (some t112)) else (some false)) else (some false)) else (some false)) else (some false))) else (if a0 < 0 then (if t107 = 0 then (if t108 = 0 then ((jacinthlaw01_awake.f).bind fun t113 => (some t113)) else (some false)) else (some false)) else (if a1 < 0 then (if t107 = 0 then (if t108 = 0 then ((jacinthlaw01_awake.f).bind fun t114 => (some t114)) else (some false)) else (some false)) else (if a0 > (wrap64 (9223372036854775807 - a1)) then (if t107 = 0 then (if t108 = 0 then ((jacinthlaw01_awake.f).bind fun t115 => (some t115)) else (some false)) else (some false)) else (some false))))) = some r := H
  have A4 := Aside0.mk A40
  clear A40
  by_cases c5 : t109 = true
  · subst c5
    have H1 : (if a2 ≥ a0 then (if a0 ≥ 0 then (if a1 ≥ 0 then (if ((wrap64 (a2 - a0)) < a1) then (if (wrap64 (Int.tdiv a2 64)) ≥ t107 then (if (wrap64 ((wrap64 (Int.tdiv a2 64)) - t107)) < t108 then (if ((a1 == 0) == (t108 == 0)) = true then (if t108 ≤ a1 then ((jacinthlaw01_awake.f).bind fun t110 => (some t110)) else (some false)) else (some false)) else (some false)) else (some false)) else (if ((a1 == 0) == (t108 == 0)) = true then (if t108 ≤ a1 then ((jacinthlaw01_awake.f).bind fun t111 => (some t111)) else (some false)) else (some false))) else (some false)) else (some false)) else (if a0 ≥ 0 then (if a1 ≥ 0 then (if ((a1 == 0) == (t108 == 0)) = true then (if t108 ≤ a1 then ((jacinthlaw01_awake.f).bind fun t112 => (some t112)) else (some false)) else (some false)) else (some false)) else (some false))) = some r := by rw [if_pos rfl] at H; exact H
    clear H
    have H := H1
    clear H1
    by_cases c6 : a2 ≥ a0
    · rw [if_pos c6] at H
      have c6b0 : decide (a0 ≤ a2) = true := decide_eq_true c6
      clear c6
      by_cases c7 : a0 ≥ 0
      · rw [if_pos c7] at H
        have c7b0 : decide (0 ≤ a0) = true := decide_eq_true c7
        clear c7
        by_cases c8 : a1 ≥ 0
        · rw [if_pos c8] at H
          have c8b0 : decide (0 ≤ a1) = true := decide_eq_true c8
          clear c8
          by_cases c9 : ((wrap64 (a2 - a0)) < a1)
          · rw [if_pos c9] at H
            have c9b0 : decide ((wrap64 (a2 - a0)) < a1) = true := decide_eq_true c9
            clear c9
            by_cases c10 : (wrap64 (Int.tdiv a2 64)) ≥ t107
            · rw [if_pos c10] at H
              have c10b0 : decide (t107 ≤ (wrap64 (Int.tdiv a2 64))) = true := decide_eq_true c10
              clear c10
              by_cases c11 : (wrap64 ((wrap64 (Int.tdiv a2 64)) - t107)) < t108
              · rw [if_pos c11] at H
                have c11b0 : decide ((wrap64 ((wrap64 (Int.tdiv a2 64)) - t107)) < t108) = true := decide_eq_true c11
                clear c11
                by_cases c12 : ((a1 == 0) == (t108 == 0)) = true
                · rw [if_pos c12] at H
                  have c12b0 : ((a1 == 0) == (t108 == 0)) = true := c12
                  (try (have c12b1 : decide ((a1 == 0) = (t108 == 0)) = true := by simpa using c12))
                  (try (have c12b2 : ((a1 == 0) == (t108 == 0)) = true := by simpa using c12))
                  clear c12
                  by_cases c13 : t108 ≤ a1
                  · rw [if_pos c13] at H
                    have c13b0 : decide (t108 ≤ a1) = true := decide_eq_true c13
                    clear c13
                    replace H := Option.bind_eq_some_iff.mp H
                    obtain ⟨t110, A140, H⟩ := H
                    replace H : (some t110) = some r := H
                    have A14 := Aside0.mk A140
                    clear A140
                    obtain rfl := Option.some.inj H
                    go_enter Try.func6, Try.ntmps6
                    go_wp2_with (first | ((with_reducible refine gate_callee (f := 21) rfl ?_); refine goesL_ (some 15) rfl rfl Try.func21 (by kernel_rfl) rfl #[.int .i64 a0, .int .i64 a1] rfl (by (try simp only [List.map_toArray, List.map_cons, List.map_nil]); first | done | rfl | (simp only [List.length_drop, List.length_take]; rfl)) ?_; (with_reducible refine (num_Pages.calls k a0 a1 t107 t108 true _ A4.out).mono ?_); rintro e w' ⟨rfl, ⟨nd, rfl⟩⟩; refine ⟨_, rfl, ?_⟩) | (go_at_call 14; (with_reducible refine (jacinthlaw01_awake.calls  t110 _ A14.out).mono ?_); rintro e w' ⟨rfl, ⟨nd, rfl⟩⟩))
                    go_ret
                    exact ⟨by first | rfl | (simp; done) | (simp [*]; done), by repeat (first | exact Drawn0.refl _ | apply Drawn0.step)⟩
                  · rw [if_neg c13] at H
                    have c13b0 : decide (t108 ≤ a1) = false := decide_eq_false c13
                    clear c13
                    obtain rfl := Option.some.inj H
                    go_enter Try.func6, Try.ntmps6
                    go_wp2_with (first | ((with_reducible refine gate_callee (f := 21) rfl ?_); refine goesL_ (some 15) rfl rfl Try.func21 (by kernel_rfl) rfl #[.int .i64 a0, .int .i64 a1] rfl (by (try simp only [List.map_toArray, List.map_cons, List.map_nil]); first | done | rfl | (simp only [List.length_drop, List.length_take]; rfl)) ?_; (with_reducible refine (num_Pages.calls k a0 a1 t107 t108 true _ A4.out).mono ?_); rintro e w' ⟨rfl, ⟨nd, rfl⟩⟩; refine ⟨_, rfl, ?_⟩))
                    go_ret
                    exact ⟨by first | rfl | (simp; done) | (simp [*]; done), by repeat (first | exact Drawn0.refl _ | apply Drawn0.step)⟩
                · rw [if_neg c12] at H
                  have c12b0 : ((a1 == 0) == (t108 == 0)) = false := by simpa using c12
                  (try (have c12b1 : decide ((a1 == 0) = (t108 == 0)) = false := by simpa using c12))
                  (try (have c12b2 : ((a1 == 0) == (t108 == 0)) = false := by simpa using c12))
                  (try (have c12b3 : ¬ ((a1 == 0) = (t108 == 0)) := by simpa using c12))
                  clear c12
                  obtain rfl := Option.some.inj H
                  go_enter Try.func6, Try.ntmps6
                  go_wp2_with (first | ((with_reducible refine gate_callee (f := 21) rfl ?_); refine goesL_ (some 15) rfl rfl Try.func21 (by kernel_rfl) rfl #[.int .i64 a0, .int .i64 a1] rfl (by (try simp only [List.map_toArray, List.map_cons, List.map_nil]); first | done | rfl | (simp only [List.length_drop, List.length_take]; rfl)) ?_; (with_reducible refine (num_Pages.calls k a0 a1 t107 t108 true _ A4.out).mono ?_); rintro e w' ⟨rfl, ⟨nd, rfl⟩⟩; refine ⟨_, rfl, ?_⟩))
                  go_ret
                  exact ⟨by first | rfl | (simp; done) | (simp [*]; done), by repeat (first | exact Drawn0.refl _ | apply Drawn0.step)⟩
              · rw [if_neg c11] at H
                have c11b0 : decide ((wrap64 ((wrap64 (Int.tdiv a2 64)) - t107)) < t108) = false := decide_eq_false c11
                clear c11
                obtain rfl := Option.some.inj H
                go_enter Try.func6, Try.ntmps6
                go_wp2_with (first | ((with_reducible refine gate_callee (f := 21) rfl ?_); refine goesL_ (some 15) rfl rfl Try.func21 (by kernel_rfl) rfl #[.int .i64 a0, .int .i64 a1] rfl (by (try simp only [List.map_toArray, List.map_cons, List.map_nil]); first | done | rfl | (simp only [List.length_drop, List.length_take]; rfl)) ?_; (with_reducible refine (num_Pages.calls k a0 a1 t107 t108 true _ A4.out).mono ?_); rintro e w' ⟨rfl, ⟨nd, rfl⟩⟩; refine ⟨_, rfl, ?_⟩))
                go_ret
                exact ⟨by first | rfl | (simp; done) | (simp [*]; done), by repeat (first | exact Drawn0.refl _ | apply Drawn0.step)⟩
            · rw [if_neg c10] at H
              have c10b0 : decide (t107 ≤ (wrap64 (Int.tdiv a2 64))) = false := decide_eq_false c10
              clear c10
              obtain rfl := Option.some.inj H
              go_enter Try.func6, Try.ntmps6
              go_wp2_with (first | ((with_reducible refine gate_callee (f := 21) rfl ?_); refine goesL_ (some 15) rfl rfl Try.func21 (by kernel_rfl) rfl #[.int .i64 a0, .int .i64 a1] rfl (by (try simp only [List.map_toArray, List.map_cons, List.map_nil]); first | done | rfl | (simp only [List.length_drop, List.length_take]; rfl)) ?_; (with_reducible refine (num_Pages.calls k a0 a1 t107 t108 true _ A4.out).mono ?_); rintro e w' ⟨rfl, ⟨nd, rfl⟩⟩; refine ⟨_, rfl, ?_⟩))
              go_ret
              exact ⟨by first | rfl | (simp; done) | (simp [*]; done), by repeat (first | exact Drawn0.refl _ | apply Drawn0.step)⟩
          · rw [if_neg c9] at H
            have c9b0 : decide ((wrap64 (a2 - a0)) < a1) = false := decide_eq_false c9
            clear c9
            by_cases c15 : ((a1 == 0) == (t108 == 0)) = true
            · rw [if_pos c15] at H
              have c15b0 : ((a1 == 0) == (t108 == 0)) = true := c15
              (try (have c15b1 : decide ((a1 == 0) = (t108 == 0)) = true := by simpa using c15))
              (try (have c15b2 : ((a1 == 0) == (t108 == 0)) = true := by simpa using c15))
              clear c15
              by_cases c16 : t108 ≤ a1
              · rw [if_pos c16] at H
                have c16b0 : decide (t108 ≤ a1) = true := decide_eq_true c16
                clear c16
                replace H := Option.bind_eq_some_iff.mp H
                obtain ⟨t111, A170, H⟩ := H
                replace H : (some t111) = some r := H
                have A17 := Aside0.mk A170
                clear A170
                obtain rfl := Option.some.inj H
                go_enter Try.func6, Try.ntmps6
                go_wp2_with (first | ((with_reducible refine gate_callee (f := 21) rfl ?_); refine goesL_ (some 15) rfl rfl Try.func21 (by kernel_rfl) rfl #[.int .i64 a0, .int .i64 a1] rfl (by (try simp only [List.map_toArray, List.map_cons, List.map_nil]); first | done | rfl | (simp only [List.length_drop, List.length_take]; rfl)) ?_; (with_reducible refine (num_Pages.calls k a0 a1 t107 t108 true _ A4.out).mono ?_); rintro e w' ⟨rfl, ⟨nd, rfl⟩⟩; refine ⟨_, rfl, ?_⟩) | (go_at_call 14; (with_reducible refine (jacinthlaw01_awake.calls  t111 _ A17.out).mono ?_); rintro e w' ⟨rfl, ⟨nd, rfl⟩⟩))
                go_ret
                exact ⟨by first | rfl | (simp; done) | (simp [*]; done), by repeat (first | exact Drawn0.refl _ | apply Drawn0.step)⟩
              · rw [if_neg c16] at H
                have c16b0 : decide (t108 ≤ a1) = false := decide_eq_false c16
                clear c16
                obtain rfl := Option.some.inj H
                go_enter Try.func6, Try.ntmps6
                go_wp2_with (first | ((with_reducible refine gate_callee (f := 21) rfl ?_); refine goesL_ (some 15) rfl rfl Try.func21 (by kernel_rfl) rfl #[.int .i64 a0, .int .i64 a1] rfl (by (try simp only [List.map_toArray, List.map_cons, List.map_nil]); first | done | rfl | (simp only [List.length_drop, List.length_take]; rfl)) ?_; (with_reducible refine (num_Pages.calls k a0 a1 t107 t108 true _ A4.out).mono ?_); rintro e w' ⟨rfl, ⟨nd, rfl⟩⟩; refine ⟨_, rfl, ?_⟩))
                go_ret
                exact ⟨by first | rfl | (simp; done) | (simp [*]; done), by repeat (first | exact Drawn0.refl _ | apply Drawn0.step)⟩
            · rw [if_neg c15] at H
              have c15b0 : ((a1 == 0) == (t108 == 0)) = false := by simpa using c15
              (try (have c15b1 : decide ((a1 == 0) = (t108 == 0)) = false := by simpa using c15))
              (try (have c15b2 : ((a1 == 0) == (t108 == 0)) = false := by simpa using c15))
              (try (have c15b3 : ¬ ((a1 == 0) = (t108 == 0)) := by simpa using c15))
              clear c15
              obtain rfl := Option.some.inj H
              go_enter Try.func6, Try.ntmps6
              go_wp2_with (first | ((with_reducible refine gate_callee (f := 21) rfl ?_); refine goesL_ (some 15) rfl rfl Try.func21 (by kernel_rfl) rfl #[.int .i64 a0, .int .i64 a1] rfl (by (try simp only [List.map_toArray, List.map_cons, List.map_nil]); first | done | rfl | (simp only [List.length_drop, List.length_take]; rfl)) ?_; (with_reducible refine (num_Pages.calls k a0 a1 t107 t108 true _ A4.out).mono ?_); rintro e w' ⟨rfl, ⟨nd, rfl⟩⟩; refine ⟨_, rfl, ?_⟩))
              go_ret
              exact ⟨by first | rfl | (simp; done) | (simp [*]; done), by repeat (first | exact Drawn0.refl _ | apply Drawn0.step)⟩
        · rw [if_neg c8] at H
          have c8b0 : decide (0 ≤ a1) = false := decide_eq_false c8
          clear c8
          obtain rfl := Option.some.inj H
          go_enter Try.func6, Try.ntmps6
          go_wp2_with (first | ((with_reducible refine gate_callee (f := 21) rfl ?_); refine goesL_ (some 15) rfl rfl Try.func21 (by kernel_rfl) rfl #[.int .i64 a0, .int .i64 a1] rfl (by (try simp only [List.map_toArray, List.map_cons, List.map_nil]); first | done | rfl | (simp only [List.length_drop, List.length_take]; rfl)) ?_; (with_reducible refine (num_Pages.calls k a0 a1 t107 t108 true _ A4.out).mono ?_); rintro e w' ⟨rfl, ⟨nd, rfl⟩⟩; refine ⟨_, rfl, ?_⟩))
          go_ret
          exact ⟨by first | rfl | (simp; done) | (simp [*]; done), by repeat (first | exact Drawn0.refl _ | apply Drawn0.step)⟩
      · rw [if_neg c7] at H
        have c7b0 : decide (0 ≤ a0) = false := decide_eq_false c7
        clear c7
        obtain rfl := Option.some.inj H
        go_enter Try.func6, Try.ntmps6
        go_wp2_with (first | ((with_reducible refine gate_callee (f := 21) rfl ?_); refine goesL_ (some 15) rfl rfl Try.func21 (by kernel_rfl) rfl #[.int .i64 a0, .int .i64 a1] rfl (by (try simp only [List.map_toArray, List.map_cons, List.map_nil]); first | done | rfl | (simp only [List.length_drop, List.length_take]; rfl)) ?_; (with_reducible refine (num_Pages.calls k a0 a1 t107 t108 true _ A4.out).mono ?_); rintro e w' ⟨rfl, ⟨nd, rfl⟩⟩; refine ⟨_, rfl, ?_⟩))
        go_ret
        exact ⟨by first | rfl | (simp; done) | (simp [*]; done), by repeat (first | exact Drawn0.refl _ | apply Drawn0.step)⟩
    · rw [if_neg c6] at H
      have c6b0 : decide (a0 ≤ a2) = false := decide_eq_false c6
      clear c6
      by_cases c18 : a0 ≥ 0
      · rw [if_pos c18] at H
        have c18b0 : decide (0 ≤ a0) = true := decide_eq_true c18
        clear c18
        by_cases c19 : a1 ≥ 0
        · rw [if_pos c19] at H
          have c19b0 : decide (0 ≤ a1) = true := decide_eq_true c19
          clear c19
          by_cases c20 : ((a1 == 0) == (t108 == 0)) = true
          · rw [if_pos c20] at H
            have c20b0 : ((a1 == 0) == (t108 == 0)) = true := c20
            (try (have c20b1 : decide ((a1 == 0) = (t108 == 0)) = true := by simpa using c20))
            (try (have c20b2 : ((a1 == 0) == (t108 == 0)) = true := by simpa using c20))
            clear c20
            by_cases c21 : t108 ≤ a1
            · rw [if_pos c21] at H
              have c21b0 : decide (t108 ≤ a1) = true := decide_eq_true c21
              clear c21
              replace H := Option.bind_eq_some_iff.mp H
              obtain ⟨t112, A220, H⟩ := H
              replace H : (some t112) = some r := H
              have A22 := Aside0.mk A220
              clear A220
              obtain rfl := Option.some.inj H
              go_enter Try.func6, Try.ntmps6
              go_wp2_with (first | ((with_reducible refine gate_callee (f := 21) rfl ?_); refine goesL_ (some 15) rfl rfl Try.func21 (by kernel_rfl) rfl #[.int .i64 a0, .int .i64 a1] rfl (by (try simp only [List.map_toArray, List.map_cons, List.map_nil]); first | done | rfl | (simp only [List.length_drop, List.length_take]; rfl)) ?_; (with_reducible refine (num_Pages.calls k a0 a1 t107 t108 true _ A4.out).mono ?_); rintro e w' ⟨rfl, ⟨nd, rfl⟩⟩; refine ⟨_, rfl, ?_⟩) | (go_at_call 14; (with_reducible refine (jacinthlaw01_awake.calls  t112 _ A22.out).mono ?_); rintro e w' ⟨rfl, ⟨nd, rfl⟩⟩))
              go_ret
              exact ⟨by first | rfl | (simp; done) | (simp [*]; done), by repeat (first | exact Drawn0.refl _ | apply Drawn0.step)⟩
            · rw [if_neg c21] at H
              have c21b0 : decide (t108 ≤ a1) = false := decide_eq_false c21
              clear c21
              obtain rfl := Option.some.inj H
              go_enter Try.func6, Try.ntmps6
              go_wp2_with (first | ((with_reducible refine gate_callee (f := 21) rfl ?_); refine goesL_ (some 15) rfl rfl Try.func21 (by kernel_rfl) rfl #[.int .i64 a0, .int .i64 a1] rfl (by (try simp only [List.map_toArray, List.map_cons, List.map_nil]); first | done | rfl | (simp only [List.length_drop, List.length_take]; rfl)) ?_; (with_reducible refine (num_Pages.calls k a0 a1 t107 t108 true _ A4.out).mono ?_); rintro e w' ⟨rfl, ⟨nd, rfl⟩⟩; refine ⟨_, rfl, ?_⟩))
              go_ret
              exact ⟨by first | rfl | (simp; done) | (simp [*]; done), by repeat (first | exact Drawn0.refl _ | apply Drawn0.step)⟩
          · rw [if_neg c20] at H
            have c20b0 : ((a1 == 0) == (t108 == 0)) = false := by simpa using c20
            (try (have c20b1 : decide ((a1 == 0) = (t108 == 0)) = false := by simpa using c20))
            (try (have c20b2 : ((a1 == 0) == (t108 == 0)) = false := by simpa using c20))
            (try (have c20b3 : ¬ ((a1 == 0) = (t108 == 0)) := by simpa using c20))
            clear c20
            obtain rfl := Option.some.inj H
            go_enter Try.func6, Try.ntmps6
            go_wp2_with (first | ((with_reducible refine gate_callee (f := 21) rfl ?_); refine goesL_ (some 15) rfl rfl Try.func21 (by kernel_rfl) rfl #[.int .i64 a0, .int .i64 a1] rfl (by (try simp only [List.map_toArray, List.map_cons, List.map_nil]); first | done | rfl | (simp only [List.length_drop, List.length_take]; rfl)) ?_; (with_reducible refine (num_Pages.calls k a0 a1 t107 t108 true _ A4.out).mono ?_); rintro e w' ⟨rfl, ⟨nd, rfl⟩⟩; refine ⟨_, rfl, ?_⟩))
            go_ret
            exact ⟨by first | rfl | (simp; done) | (simp [*]; done), by repeat (first | exact Drawn0.refl _ | apply Drawn0.step)⟩
        · rw [if_neg c19] at H
          have c19b0 : decide (0 ≤ a1) = false := decide_eq_false c19
          clear c19
          obtain rfl := Option.some.inj H
          go_enter Try.func6, Try.ntmps6
          go_wp2_with (first | ((with_reducible refine gate_callee (f := 21) rfl ?_); refine goesL_ (some 15) rfl rfl Try.func21 (by kernel_rfl) rfl #[.int .i64 a0, .int .i64 a1] rfl (by (try simp only [List.map_toArray, List.map_cons, List.map_nil]); first | done | rfl | (simp only [List.length_drop, List.length_take]; rfl)) ?_; (with_reducible refine (num_Pages.calls k a0 a1 t107 t108 true _ A4.out).mono ?_); rintro e w' ⟨rfl, ⟨nd, rfl⟩⟩; refine ⟨_, rfl, ?_⟩))
          go_ret
          exact ⟨by first | rfl | (simp; done) | (simp [*]; done), by repeat (first | exact Drawn0.refl _ | apply Drawn0.step)⟩
      · rw [if_neg c18] at H
        have c18b0 : decide (0 ≤ a0) = false := decide_eq_false c18
        clear c18
        obtain rfl := Option.some.inj H
        go_enter Try.func6, Try.ntmps6
        go_wp2_with (first | ((with_reducible refine gate_callee (f := 21) rfl ?_); refine goesL_ (some 15) rfl rfl Try.func21 (by kernel_rfl) rfl #[.int .i64 a0, .int .i64 a1] rfl (by (try simp only [List.map_toArray, List.map_cons, List.map_nil]); first | done | rfl | (simp only [List.length_drop, List.length_take]; rfl)) ?_; (with_reducible refine (num_Pages.calls k a0 a1 t107 t108 true _ A4.out).mono ?_); rintro e w' ⟨rfl, ⟨nd, rfl⟩⟩; refine ⟨_, rfl, ?_⟩))
        go_ret
        exact ⟨by first | rfl | (simp; done) | (simp [*]; done), by repeat (first | exact Drawn0.refl _ | apply Drawn0.step)⟩
  · replace c5 := Bool.eq_false_iff.mpr c5
    subst c5
    have H1 : (if a0 < 0 then (if t107 = 0 then (if t108 = 0 then ((jacinthlaw01_awake.f).bind fun t113 => (some t113)) else (some false)) else (some false)) else (if a1 < 0 then (if t107 = 0 then (if t108 = 0 then ((jacinthlaw01_awake.f).bind fun t114 => (some t114)) else (some false)) else (some false)) else (if a0 > (wrap64 (9223372036854775807 - a1)) then (if t107 = 0 then (if t108 = 0 then ((jacinthlaw01_awake.f).bind fun t115 => (some t115)) else (some false)) else (some false)) else (some false)))) = some r := by rw [if_neg (show ¬ (false = true) by decide)] at H; exact H
    clear H
    have H := H1
    clear H1
    by_cases c23 : a0 < 0
    · rw [if_pos c23] at H
      have c23b0 : decide (a0 < 0) = true := decide_eq_true c23
      clear c23
      by_cases c24 : t107 = 0
      · rw [if_pos c24] at H
        have c24b0 : (t107 == 0) = true := beq_iff_eq.mpr c24
        have c24b1 : (t107 != 0) = false := bne_eq_false_iff_eq.mpr c24
        clear c24
        by_cases c25 : t108 = 0
        · rw [if_pos c25] at H
          have c25b0 : (t108 == 0) = true := beq_iff_eq.mpr c25
          have c25b1 : (t108 != 0) = false := bne_eq_false_iff_eq.mpr c25
          clear c25
          replace H := Option.bind_eq_some_iff.mp H
          obtain ⟨t113, A260, H⟩ := H
          replace H : (some t113) = some r := H
          have A26 := Aside0.mk A260
          clear A260
          obtain rfl := Option.some.inj H
          go_enter Try.func6, Try.ntmps6
          go_wp2_with (first | ((with_reducible refine gate_callee (f := 21) rfl ?_); refine goesL_ (some 15) rfl rfl Try.func21 (by kernel_rfl) rfl #[.int .i64 a0, .int .i64 a1] rfl (by (try simp only [List.map_toArray, List.map_cons, List.map_nil]); first | done | rfl | (simp only [List.length_drop, List.length_take]; rfl)) ?_; (with_reducible refine (num_Pages.calls k a0 a1 t107 t108 false _ A4.out).mono ?_); rintro e w' ⟨rfl, ⟨nd, rfl⟩⟩; refine ⟨_, rfl, ?_⟩) | (go_at_call 14; (with_reducible refine (jacinthlaw01_awake.calls  t113 _ A26.out).mono ?_); rintro e w' ⟨rfl, ⟨nd, rfl⟩⟩))
          go_ret
          exact ⟨by first | rfl | (simp; done) | (simp [*]; done), by repeat (first | exact Drawn0.refl _ | apply Drawn0.step)⟩
        · rw [if_neg c25] at H
          have c25b0 : (t108 == 0) = false := beq_eq_false_iff_ne.mpr c25
          have c25b1 : (t108 != 0) = true := bne_iff_ne.mpr c25
          obtain rfl := Option.some.inj H
          go_enter Try.func6, Try.ntmps6
          go_wp2_with (first | ((with_reducible refine gate_callee (f := 21) rfl ?_); refine goesL_ (some 15) rfl rfl Try.func21 (by kernel_rfl) rfl #[.int .i64 a0, .int .i64 a1] rfl (by (try simp only [List.map_toArray, List.map_cons, List.map_nil]); first | done | rfl | (simp only [List.length_drop, List.length_take]; rfl)) ?_; (with_reducible refine (num_Pages.calls k a0 a1 t107 t108 false _ A4.out).mono ?_); rintro e w' ⟨rfl, ⟨nd, rfl⟩⟩; refine ⟨_, rfl, ?_⟩))
          go_ret
          exact ⟨by first | rfl | (simp; done) | (simp [*]; done), by repeat (first | exact Drawn0.refl _ | apply Drawn0.step)⟩
      · rw [if_neg c24] at H
        have c24b0 : (t107 == 0) = false := beq_eq_false_iff_ne.mpr c24
        have c24b1 : (t107 != 0) = true := bne_iff_ne.mpr c24
        obtain rfl := Option.some.inj H
        go_enter Try.func6, Try.ntmps6
        go_wp2_with (first | ((with_reducible refine gate_callee (f := 21) rfl ?_); refine goesL_ (some 15) rfl rfl Try.func21 (by kernel_rfl) rfl #[.int .i64 a0, .int .i64 a1] rfl (by (try simp only [List.map_toArray, List.map_cons, List.map_nil]); first | done | rfl | (simp only [List.length_drop, List.length_take]; rfl)) ?_; (with_reducible refine (num_Pages.calls k a0 a1 t107 t108 false _ A4.out).mono ?_); rintro e w' ⟨rfl, ⟨nd, rfl⟩⟩; refine ⟨_, rfl, ?_⟩))
        go_ret
        exact ⟨by first | rfl | (simp; done) | (simp [*]; done), by repeat (first | exact Drawn0.refl _ | apply Drawn0.step)⟩
    · rw [if_neg c23] at H
      have c23b0 : decide (a0 < 0) = false := decide_eq_false c23
      clear c23
      by_cases c27 : a1 < 0
      · rw [if_pos c27] at H
        have c27b0 : decide (a1 < 0) = true := decide_eq_true c27
        clear c27
        by_cases c28 : t107 = 0
        · rw [if_pos c28] at H
          have c28b0 : (t107 == 0) = true := beq_iff_eq.mpr c28
          have c28b1 : (t107 != 0) = false := bne_eq_false_iff_eq.mpr c28
          clear c28
          by_cases c29 : t108 = 0
          · rw [if_pos c29] at H
            have c29b0 : (t108 == 0) = true := beq_iff_eq.mpr c29
            have c29b1 : (t108 != 0) = false := bne_eq_false_iff_eq.mpr c29
            clear c29
            replace H := Option.bind_eq_some_iff.mp H
            obtain ⟨t114, A300, H⟩ := H
            replace H : (some t114) = some r := H
            have A30 := Aside0.mk A300
            clear A300
            obtain rfl := Option.some.inj H
            go_enter Try.func6, Try.ntmps6
            go_wp2_with (first | ((with_reducible refine gate_callee (f := 21) rfl ?_); refine goesL_ (some 15) rfl rfl Try.func21 (by kernel_rfl) rfl #[.int .i64 a0, .int .i64 a1] rfl (by (try simp only [List.map_toArray, List.map_cons, List.map_nil]); first | done | rfl | (simp only [List.length_drop, List.length_take]; rfl)) ?_; (with_reducible refine (num_Pages.calls k a0 a1 t107 t108 false _ A4.out).mono ?_); rintro e w' ⟨rfl, ⟨nd, rfl⟩⟩; refine ⟨_, rfl, ?_⟩) | (go_at_call 14; (with_reducible refine (jacinthlaw01_awake.calls  t114 _ A30.out).mono ?_); rintro e w' ⟨rfl, ⟨nd, rfl⟩⟩))
            go_ret
            exact ⟨by first | rfl | (simp; done) | (simp [*]; done), by repeat (first | exact Drawn0.refl _ | apply Drawn0.step)⟩
          · rw [if_neg c29] at H
            have c29b0 : (t108 == 0) = false := beq_eq_false_iff_ne.mpr c29
            have c29b1 : (t108 != 0) = true := bne_iff_ne.mpr c29
            obtain rfl := Option.some.inj H
            go_enter Try.func6, Try.ntmps6
            go_wp2_with (first | ((with_reducible refine gate_callee (f := 21) rfl ?_); refine goesL_ (some 15) rfl rfl Try.func21 (by kernel_rfl) rfl #[.int .i64 a0, .int .i64 a1] rfl (by (try simp only [List.map_toArray, List.map_cons, List.map_nil]); first | done | rfl | (simp only [List.length_drop, List.length_take]; rfl)) ?_; (with_reducible refine (num_Pages.calls k a0 a1 t107 t108 false _ A4.out).mono ?_); rintro e w' ⟨rfl, ⟨nd, rfl⟩⟩; refine ⟨_, rfl, ?_⟩))
            go_ret
            exact ⟨by first | rfl | (simp; done) | (simp [*]; done), by repeat (first | exact Drawn0.refl _ | apply Drawn0.step)⟩
        · rw [if_neg c28] at H
          have c28b0 : (t107 == 0) = false := beq_eq_false_iff_ne.mpr c28
          have c28b1 : (t107 != 0) = true := bne_iff_ne.mpr c28
          obtain rfl := Option.some.inj H
          go_enter Try.func6, Try.ntmps6
          go_wp2_with (first | ((with_reducible refine gate_callee (f := 21) rfl ?_); refine goesL_ (some 15) rfl rfl Try.func21 (by kernel_rfl) rfl #[.int .i64 a0, .int .i64 a1] rfl (by (try simp only [List.map_toArray, List.map_cons, List.map_nil]); first | done | rfl | (simp only [List.length_drop, List.length_take]; rfl)) ?_; (with_reducible refine (num_Pages.calls k a0 a1 t107 t108 false _ A4.out).mono ?_); rintro e w' ⟨rfl, ⟨nd, rfl⟩⟩; refine ⟨_, rfl, ?_⟩))
          go_ret
          exact ⟨by first | rfl | (simp; done) | (simp [*]; done), by repeat (first | exact Drawn0.refl _ | apply Drawn0.step)⟩
      · rw [if_neg c27] at H
        have c27b0 : decide (a1 < 0) = false := decide_eq_false c27
        clear c27
        by_cases c31 : a0 > (wrap64 (9223372036854775807 - a1))
        · rw [if_pos c31] at H
          have c31b0 : decide ((wrap64 (9223372036854775807 - a1)) < a0) = true := decide_eq_true c31
          clear c31
          by_cases c32 : t107 = 0
          · rw [if_pos c32] at H
            have c32b0 : (t107 == 0) = true := beq_iff_eq.mpr c32
            have c32b1 : (t107 != 0) = false := bne_eq_false_iff_eq.mpr c32
            clear c32
            by_cases c33 : t108 = 0
            · rw [if_pos c33] at H
              have c33b0 : (t108 == 0) = true := beq_iff_eq.mpr c33
              have c33b1 : (t108 != 0) = false := bne_eq_false_iff_eq.mpr c33
              clear c33
              replace H := Option.bind_eq_some_iff.mp H
              obtain ⟨t115, A340, H⟩ := H
              replace H : (some t115) = some r := H
              have A34 := Aside0.mk A340
              clear A340
              obtain rfl := Option.some.inj H
              go_enter Try.func6, Try.ntmps6
              go_wp2_with (first | ((with_reducible refine gate_callee (f := 21) rfl ?_); refine goesL_ (some 15) rfl rfl Try.func21 (by kernel_rfl) rfl #[.int .i64 a0, .int .i64 a1] rfl (by (try simp only [List.map_toArray, List.map_cons, List.map_nil]); first | done | rfl | (simp only [List.length_drop, List.length_take]; rfl)) ?_; (with_reducible refine (num_Pages.calls k a0 a1 t107 t108 false _ A4.out).mono ?_); rintro e w' ⟨rfl, ⟨nd, rfl⟩⟩; refine ⟨_, rfl, ?_⟩) | (go_at_call 14; (with_reducible refine (jacinthlaw01_awake.calls  t115 _ A34.out).mono ?_); rintro e w' ⟨rfl, ⟨nd, rfl⟩⟩))
              go_ret
              exact ⟨by first | rfl | (simp; done) | (simp [*]; done), by repeat (first | exact Drawn0.refl _ | apply Drawn0.step)⟩
            · rw [if_neg c33] at H
              have c33b0 : (t108 == 0) = false := beq_eq_false_iff_ne.mpr c33
              have c33b1 : (t108 != 0) = true := bne_iff_ne.mpr c33
              obtain rfl := Option.some.inj H
              go_enter Try.func6, Try.ntmps6
              go_wp2_with (first | ((with_reducible refine gate_callee (f := 21) rfl ?_); refine goesL_ (some 15) rfl rfl Try.func21 (by kernel_rfl) rfl #[.int .i64 a0, .int .i64 a1] rfl (by (try simp only [List.map_toArray, List.map_cons, List.map_nil]); first | done | rfl | (simp only [List.length_drop, List.length_take]; rfl)) ?_; (with_reducible refine (num_Pages.calls k a0 a1 t107 t108 false _ A4.out).mono ?_); rintro e w' ⟨rfl, ⟨nd, rfl⟩⟩; refine ⟨_, rfl, ?_⟩))
              go_ret
              exact ⟨by first | rfl | (simp; done) | (simp [*]; done), by repeat (first | exact Drawn0.refl _ | apply Drawn0.step)⟩
          · rw [if_neg c32] at H
            have c32b0 : (t107 == 0) = false := beq_eq_false_iff_ne.mpr c32
            have c32b1 : (t107 != 0) = true := bne_iff_ne.mpr c32
            obtain rfl := Option.some.inj H
            go_enter Try.func6, Try.ntmps6
            go_wp2_with (first | ((with_reducible refine gate_callee (f := 21) rfl ?_); refine goesL_ (some 15) rfl rfl Try.func21 (by kernel_rfl) rfl #[.int .i64 a0, .int .i64 a1] rfl (by (try simp only [List.map_toArray, List.map_cons, List.map_nil]); first | done | rfl | (simp only [List.length_drop, List.length_take]; rfl)) ?_; (with_reducible refine (num_Pages.calls k a0 a1 t107 t108 false _ A4.out).mono ?_); rintro e w' ⟨rfl, ⟨nd, rfl⟩⟩; refine ⟨_, rfl, ?_⟩))
            go_ret
            exact ⟨by first | rfl | (simp; done) | (simp [*]; done), by repeat (first | exact Drawn0.refl _ | apply Drawn0.step)⟩
        · rw [if_neg c31] at H
          have c31b0 : decide ((wrap64 (9223372036854775807 - a1)) < a0) = false := decide_eq_false c31
          clear c31
          obtain rfl := Option.some.inj H
          go_enter Try.func6, Try.ntmps6
          go_wp2_with (first | ((with_reducible refine gate_callee (f := 21) rfl ?_); refine goesL_ (some 15) rfl rfl Try.func21 (by kernel_rfl) rfl #[.int .i64 a0, .int .i64 a1] rfl (by (try simp only [List.map_toArray, List.map_cons, List.map_nil]); first | done | rfl | (simp only [List.length_drop, List.length_take]; rfl)) ?_; (with_reducible refine (num_Pages.calls k a0 a1 t107 t108 false _ A4.out).mono ?_); rintro e w' ⟨rfl, ⟨nd, rfl⟩⟩; refine ⟨_, rfl, ?_⟩))
          go_ret
          exact ⟨by first | rfl | (simp; done) | (simp [*]; done), by repeat (first | exact Drawn0.refl _ | apply Drawn0.step)⟩

/-- THE ONE PURE STATEMENT of jacinthlaw01_NumPages: yours. -/
def jacinthlaw01_NumPages.Pure : Prop := ∀ (a0 : Int) (a1 : Int) (a2 : Int), (Lit.int .i64 a0).wf = true → (Lit.int .i64 a1).wf = true → (Lit.int .i64 a2).wf = true → ∃ k, jacinthlaw01_NumPages.f k a0 a1 a2 = some true
theorem jacinthlaw01_NumPages.walk (P : jacinthlaw01_NumPages.Pure) (a0 : Int) (a1 : Int) (a2 : Int) (w : World) (w0 : (Lit.int .i64 a0).wf = true) (w1 : (Lit.int .i64 a1).wf = true) (w2 : (Lit.int .i64 a2).wf = true) :
    Calls Try.prog 6 #[.int .i64 a0, .int .i64 a1, .int .i64 a2] w fun e w' => e = .returned (.bool true) ∧ Below w.heap.size w w' := by
  obtain ⟨k, h⟩ := P a0 a1 a2 w0 w1 w2
  refine (jacinthlaw01_NumPages.calls k a0 a1 a2 true w h).mono ?_
  rintro e w' ⟨rfl, hd⟩
  exact ⟨rfl, hd.below⟩

end Go.Proofs.Ytfdnbefeidpccaa.PNumPages
