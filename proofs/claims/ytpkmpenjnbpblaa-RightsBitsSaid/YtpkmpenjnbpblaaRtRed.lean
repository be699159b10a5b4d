/- The walks of RightsReduces and RightsSets. -/
import Derived.Test.YtpkmpenjnbpblaaRtFns
import Derived.Deep.DeepCutAuto
namespace Go.Proofs.Ytpkmpenjnbpblaa.Rt
open Go Go.RowKit Go.Proofs.Ytpkmpenjnbpblaa.Mem Go.Proofs.Ytpkmpenjnbpblaa.Bits
set_option linter.unusedVariables false
set_option linter.unusedSimpArgs false
set_option maxHeartbeats 1000000 in
theorem reduces_walk (a b : Int) (ha : in64 a) (hb : in64 b) (w : World) : Calls Try.prog 3 #[.int .i64 a, .int .i64 b] w fun e w' => e = .returned (.bool true) ∧ Below w.heap.size w w' := by
  have HA := Lib.hid awake_any
  have H1 := reduce_any a b
  have H2 := reduce_any b b
  have HS := sub_any a b
  have HH := has_any a b
  rw [← has_sub hb] at HS
  have hr := right_iff hb
  by_cases hb1 : b = 2147483648
  · subst hb1
    rw [show redV a 2147483648 = a from if_pos rfl, show redS a 2147483648 = 0 from if_pos rfl] at H1
    have K1 := Lib.hid H1
    clear H1 H2 HS HH hr ha hb
    go_enter Try.func3, Try.ntmps3
    go_wp2_with (first
      | (go_at_call 7; (with_reducible refine (K1.out _).mono ?_); rintro e w1 ⟨rfl, rfl⟩)
      | (go_at_call 8; (with_reducible refine (HA.out _).mono ?_); rintro e w2 ⟨rfl, hb2⟩))
    go_ret
    exact ⟨rfl, hb2⟩
  · have z1 : (b == 2147483648) = false := beq_eq_false_iff_ne.mpr hb1
    unfold redV redS at H1 H2
    simp only [hb1, if_false] at H1 H2
    by_cases hrange : 0 ≤ b ∧ b ≤ 4095
    · obtain ⟨hb0, hb2⟩ := hrange
      rw [hr.2 ⟨hb0, hb2⟩, has_self hb] at H2
      rw [hr.2 ⟨hb0, hb2⟩] at H1
      cases hh : hasN a b
      · rw [hh] at H1 HS HH
        simp only [Bool.and_false, Bool.false_eq_true, if_false] at H1
        have K1 := Lib.hid H1
        have KS := Lib.hid HS
        clear H1 H2 HS HH hr ha hb hb1 hh
        go_enter Try.func3, Try.ntmps3
        go_wp2_with (first
          | (go_at_call 7; (with_reducible refine (K1.out _).mono ?_); rintro e w1 ⟨rfl, rfl⟩)
          | (go_at_call 9; (with_reducible refine (KS.out _).mono ?_); rintro e w1 ⟨rfl, rfl⟩)
          | (go_at_call 8; (with_reducible refine (HA.out _).mono ?_); rintro e w2 ⟨rfl, hb2⟩))
        go_ret
        exact ⟨rfl, hb2⟩
      · rw [hh] at H1 HS HH
        simp only [Bool.and_true, if_true] at H1 H2
        have K1 := Lib.hid H1
        have K2 := Lib.hid H2
        have KS := Lib.hid HS
        have KH := Lib.hid HH
        clear H1 H2 HS HH hr ha hb hb1 hh
        go_enter Try.func3, Try.ntmps3
        go_wp2_with (first
          | (go_at_call 7; (with_reducible refine (K1.out _).mono ?_); rintro e w1 ⟨rfl, rfl⟩)
          | (go_at_call 7; (with_reducible refine (K2.out _).mono ?_); rintro e w1 ⟨rfl, rfl⟩)
          | (go_at_call 9; (with_reducible refine (KS.out _).mono ?_); rintro e w1 ⟨rfl, rfl⟩)
          | (go_at_call 10; (with_reducible refine (KH.out _).mono ?_); rintro e w1 ⟨rfl, rfl⟩)
          | (go_at_call 8; (with_reducible refine (HA.out _).mono ?_); rintro e w2 ⟨rfl, hb2⟩))
        go_ret
        exact ⟨rfl, hb2⟩
    · have hrf : rightN b = false := by
        cases h : rightN b
        · rfl
        · exact absurd (hr.1 h) hrange
      rw [hrf] at H1
      simp only [Bool.false_and, Bool.false_eq_true, if_false] at H1
      have K1 := Lib.hid H1
      have hcase : b < 0 ∨ (0 ≤ b ∧ 4095 < b) := by omega
      clear H1 H2 HS HH hr ha hb hb1 hrf hrange
      rcases hcase with hc | ⟨hc0, hc⟩
      all_goals
        go_enter Try.func3, Try.ntmps3
        go_wp2_with (first
          | (go_at_call 7; (with_reducible refine (K1.out _).mono ?_); rintro e w1 ⟨rfl, rfl⟩)
          | (go_at_call 8; (with_reducible refine (HA.out _).mono ?_); rintro e w2 ⟨rfl, hb2⟩))
        go_ret
        exact ⟨rfl, hb2⟩
theorem has_or {r o p : Int} (ho : in64 o) (hp : in64 p) : hasN r (bits .or .i64 o p) = (hasN r o && hasN r p) := by
  have h1 := has_iff (r := r) (o := bits .or .i64 o p) (bits_range _ _ _)
  have h2 := has_iff (r := r) ho
  have h3 := has_iff (r := r) hp
  apply Bool.eq_iff_iff.2
  rw [h1, Bool.and_eq_true, h2, h3]
  constructor
  · intro h
    exact ⟨fun i hi ht => h i hi (by rw [tb_or o p hi, ht]; rfl), fun i hi ht => h i hi (by rw [tb_or o p hi, ht]; simp)⟩
  · rintro ⟨ha, hb⟩ i hi ht
    rw [tb_or o p hi] at ht
    cases h : tb o i
    · rw [h] at ht
      exact hb i hi (by simpa using ht)
    · exact ha i hi h
theorem has_trans {r o p : Int} (ho : in64 o) (hp : in64 p) (h1 : hasN r o = true) (h2 : hasN o p = true) : hasN r p = true :=
  (has_iff hp).2 fun i hi ht => (has_iff ho).1 h1 i hi ((has_iff hp).1 h2 i hi ht)
theorem meet_or (r o : Int) (hr : in64 r) : bits .or .i64 (bits .and .i64 r o) (bits .andNot .i64 r o) = r := by
  refine tb_ext (bits_range _ _ _) hr fun i hi => ?_
  rw [tb_or _ _ hi, tb_and _ _ hi, tb_andNot _ _ hi]
  cases tb r i <;> cases tb o i <;> rfl
theorem meet_and (r o : Int) : bits .and .i64 (bits .and .i64 r o) (bits .andNot .i64 r o) = 0 := by
  refine tb_ext (bits_range _ _ _) (by decide) fun i hi => ?_
  rw [tb_and _ _ hi, tb_and _ _ hi, tb_andNot _ _ hi, tb_zero]
  cases tb r i <;> cases tb o i <;> rfl
theorem meet_comm (r o : Int) : bits .and .i64 o r = bits .and .i64 r o := by
  refine tb_ext (bits_range _ _ _) (bits_range _ _ _) fun i hi => ?_
  rw [tb_and _ _ hi, tb_and _ _ hi, Bool.and_comm]
theorem has_meet (r o : Int) : hasN r (bits .and .i64 r o) = true :=
  (has_iff (bits_range _ _ _)).2 fun i hi ht => by
    rw [tb_and _ _ hi] at ht
    exact (Bool.and_eq_true _ _ ▸ ht).1
/-- What comes of reducing twice. -/
theorem twice {r o p : Int} (hr : in64 r) (ho : in64 o) (hp : in64 p) (hs : redS r o = 0) :
    redS (redV r o) p = -10 ∨ (redS (redV r o) p = 0 ∧ redS r p = 0 ∧ redV (redV r o) p = redV r p) ∨ (redS (redV r o) p = 0 ∧ redS r p = 0 ∧ p = 2147483648 ∧ redV (redV r o) p = redV r o) := by
  by_cases hp1 : p = 2147483648
  · subst hp1
    exact .inr (.inr ⟨if_pos rfl, if_pos rfl, rfl, if_pos rfl⟩)
  · have hx : redV r o = r ∨ (redV r o = o ∧ hasN r o = true) := by
      unfold redV redS at *
      by_cases ho1 : o = 2147483648
      · rw [if_pos ho1]; exact .inl rfl
      · rw [if_neg ho1] at hs ⊢
        cases hh : rightN o && hasN r o
        · rw [hh] at hs; simp at hs
        · rw [if_pos rfl]
          exact .inr ⟨rfl, by simp at hh; exact hh.2⟩
    rcases hx with hx | ⟨hx, hro⟩
    · rw [hx]
      unfold redS redV
      rw [if_neg hp1]
      cases hh : rightN p && hasN r p
      · exact .inl (by simp)
      · exact .inr (.inl ⟨by simp, by simp, rfl⟩)
    · rw [hx]
      unfold redS redV
      simp only [hp1, if_false]
      cases hh : rightN p && hasN o p
      · exact .inl (by simp)
      · simp at hh
        have := has_trans ho hp hro hh.2
        rw [hh.1, this]
        exact .inr (.inl ⟨by simp, by simp, by simp⟩)
theorem redS_two (r o : Int) : redS r o = 0 ∨ redS r o = -10 := by
  unfold redS
  split
  · exact .inl rfl
  · split
    · exact .inl rfl
    · exact .inr rfl
set_option maxRecDepth 8000 in
set_option maxHeartbeats 4000000 in
theorem sets_walk (r o p : Int) (hr : in64 r) (ho : in64 o) (hp : in64 p) (w : World) : Calls Try.prog 4 #[.int .i64 r, .int .i64 o, .int .i64 p] w fun e w' => e = .returned (.bool true) ∧ Below w.heap.size w w' := by
  have HA := Lib.hid awake_any
  have e1 := meet_or r o hr
  have e2 := meet_and r o
  have HM := meet_any r o
  have HM2 := meet_any o r
  have HW := without_any r o
  have H4 := has_any r (bits .and .i64 r o)
  rw [has_meet] at H4
  rw [meet_comm] at HM2
  have H5 := has_any r (bits .or .i64 o p)
  rw [has_or ho hp] at H5
  have H6 := has_any r o
  have H7 := has_any r p
  have H8 := has_any o p
  have ht8 : hasN r o = true → hasN o p = true → hasN r p = true := fun a b => has_trans ho hp a b
  have R1 := reduce_any r o
  have R2 := reduce_any (redV r o) p
  have R3 := reduce_any r p
  have htw := fun h => twice hr ho hp h
  have hs2 := redS_two r o
  generalize bits .and .i64 r o = m at *
  generalize bits .andNot .i64 r o = q at *
  generalize hasN r o = bro at *
  generalize hasN r p = brp at *
  generalize hasN o p = bop at *
  generalize redV r o = x at *
  generalize redS r o = s at *
  generalize redV x p = y at *
  generalize redS x p = t at *
  generalize redV r p = z at *
  generalize redS r p = u at *
  have KM := Lib.hid HM
  have KM2 := Lib.hid HM2
  have KW := Lib.hid HW
  have K4 := Lib.hid H4
  have K5 := Lib.hid H5
  have K6 := Lib.hid H6
  have K7 := Lib.hid H7
  have K8 := Lib.hid H8
  have L1 := Lib.hid R1
  have L2 := Lib.hid R2
  have L3 := Lib.hid R3
  have z1 : (r != r) = false := by simp
  have z2 : (m != m) = false := by simp
  clear HM HM2 HW H4 H5 H6 H7 H8 R1 R2 R3 hr ho hp
  go_enter Try.func4, Try.ntmps4
  go_upto_region 4 with (first
    | (go_at_call 11; (with_reducible refine (KM.out _).mono ?_); rintro e w1 ⟨rfl, rfl⟩)
    | (go_at_call 11; (with_reducible refine (KM2.out _).mono ?_); rintro e w1 ⟨rfl, rfl⟩)
    | (go_at_call 12; (with_reducible refine (KW.out _).mono ?_); rintro e w1 ⟨rfl, rfl⟩)
    | (go_at_call 10; (with_reducible refine (K4.out _).mono ?_); rintro e w1 ⟨rfl, rfl⟩))
  go_cut [84] (fun c wx => c = .bool false ∧ wx = w)
  case first =>
    clear e1 e2 KM KM2 KW K4 L1 L2 L3 htw hs2 HA
    cases bro <;> cases brp <;> cases bop
    case true.false.true => exact absurd (ht8 rfl rfl) (by decide)
    all_goals
      clear ht8
      go_wp2_with (first
        | (go_at_call 10; (with_reducible refine (K5.out _).mono ?_); rintro e w1 ⟨rfl, rfl⟩)
        | (go_at_call 10; (with_reducible refine (K6.out _).mono ?_); rintro e w1 ⟨rfl, rfl⟩)
        | (go_at_call 10; (with_reducible refine (K7.out _).mono ?_); rintro e w1 ⟨rfl, rfl⟩)
        | (go_at_call 10; (with_reducible refine (K8.out _).mono ?_); rintro e w1 ⟨rfl, rfl⟩))
      go_meet
      case rel => exact ⟨rfl, by first | rfl | trivial⟩
  case rest =>
    obtain ⟨rfl, hwc⟩ := hcut
    have hwc' := hwc.symm
    subst hwc'
    clear e1 e2 KM KM2 KW K4 K5 K6 K7 K8 ht8 z1 z2
    rcases hs2 with rfl | rfl
    · have h3 := htw rfl
      clear htw
      rcases h3 with rfl | ⟨rfl, rfl, rfl⟩ | ⟨rfl, rfl, rfl, rfl⟩
      all_goals
        go_wp2_with (first
          | (go_at_call 7; (with_reducible refine (L1.out _).mono ?_); rintro e w1 ⟨rfl, rfl⟩)
          | (go_at_call 7; (with_reducible refine (L2.out _).mono ?_); rintro e w1 ⟨rfl, rfl⟩)
          | (go_at_call 7; (with_reducible refine (L3.out _).mono ?_); rintro e w1 ⟨rfl, rfl⟩)
          | (go_at_call 8; (with_reducible refine (HA.out _).mono ?_); rintro e w2 ⟨rfl, hb2⟩))
        all_goals go_ret
        all_goals exact ⟨rfl, hb2⟩
    · clear htw
      go_wp2_with (first
        | (go_at_call 7; (with_reducible refine (L1.out _).mono ?_); rintro e w1 ⟨rfl, rfl⟩)
        | (go_at_call 8; (with_reducible refine (HA.out _).mono ?_); rintro e w2 ⟨rfl, hb2⟩))
      go_ret
      exact ⟨rfl, hb2⟩
theorem reduces_row (a : Int) (ha : (Lit.int .i64 a).wf = true) (b : Int) (hb : (Lit.int .i64 b).wf = true) (w : World) :
    Calls Try.prog 3 #[.int .i64 a, .int .i64 b] w fun e w' => e = .returned (.bool true) ∧ Below w.heap.size w w' := reduces_walk a b (in64_wf ha) (in64_wf hb) w
theorem sets_row (a : Int) (ha : (Lit.int .i64 a).wf = true) (b : Int) (hb : (Lit.int .i64 b).wf = true) (c : Int) (hc : (Lit.int .i64 c).wf = true) (w : World) :
    Calls Try.prog 4 #[.int .i64 a, .int .i64 b, .int .i64 c] w fun e w' => e = .returned (.bool true) ∧ Below w.heap.size w w' := sets_walk a b c (in64_wf ha) (in64_wf hb) (in64_wf hc) w
end Go.Proofs.Ytpkmpenjnbpblaa.Rt
