/- The walks of the statements SignalKinds and SignalUsers. -/
import Derived.Test.YtdcdmbamloebfaaSigChg
namespace Go.Proofs.Ytdcdmbamloebfaa.Sig
open Go Go.RowKit Go.Proofs.Ytdcdmbamloebfaa.Bits
set_option linter.unusedVariables false
set_option linter.unusedSimpArgs false
theorem eight {i : Int} (h : 0 ≤ i ∧ i ≤ 7) : i = 0 ∨ i = 1 ∨ i = 2 ∨ i = 3 ∨ i = 4 ∨ i = 5 ∨ i = 6 ∨ i = 7 := by omega
theorem user_out {i : Int} (h : ¬(0 ≤ i ∧ i ≤ 7)) : userN i = 0 := if_neg h
theorem user_ne {i : Int} (h : 0 ≤ i ∧ i ≤ 7) : userN i ≠ 0 := by
  rcases eight h with rfl | rfl | rfl | rfl | rfl | rfl | rfl | rfl <;> decide
theorem user_same {i k : Int} (h : 0 ≤ i ∧ i ≤ 7) : userN i = userN k ↔ i = k := by
  constructor
  · intro e
    by_cases hk : 0 ≤ k ∧ k ≤ 7
    · rcases eight h with rfl | rfl | rfl | rfl | rfl | rfl | rfl | rfl <;> rcases eight hk with rfl | rfl | rfl | rfl | rfl | rfl | rfl | rfl <;> first | rfl | (exact absurd e (by decide))
    · rw [user_out hk] at e
      exact absurd e (user_ne h)
  · intro e; rw [e]
theorem user_mask (i : Int) : bits .andNot .i64 (userN i) 65280 = 0 := by
  by_cases h : 0 ≤ i ∧ i ≤ 7
  · rcases eight h with rfl | rfl | rfl | rfl | rfl | rfl | rfl | rfl <;> decide +kernel
  · rw [user_out h]; decide +kernel
theorem sub_trans {a b c : Int} (h1 : bits .andNot .i64 a b = 0) (h2 : bits .andNot .i64 b c = 0) : bits .andNot .i64 a c = 0 := by
  rw [andNot_zero] at *
  exact fun i hi h => h2 i hi (h1 i hi h)
theorem mask_of {kd : Int} (h : 1 ≤ kd ∧ kd ≤ 11) : bits .andNot .i64 65280 (ofN kd) = 0 := by
  rcases kinds kd with rfl | rfl | rfl | rfl | rfl | rfl | rfl | rfl | rfl | rfl | rfl | h2
  case inr.inr.inr.inr.inr.inr.inr.inr.inr.inr.inr => omega
  all_goals decide +kernel
theorem mask_mine {kd : Int} (h : 1 ≤ kd ∧ kd ≤ 11) (h9 : kd ≠ 9) : bits .andNot .i64 65280 (mineN kd) = 0 := by
  rcases kinds kd with rfl | rfl | rfl | rfl | rfl | rfl | rfl | rfl | rfl | rfl | rfl | h2
  case inr.inr.inr.inr.inr.inr.inr.inr.inr.inr.inr => omega
  case inr.inr.inr.inr.inr.inr.inr.inr.inl => omega
  all_goals decide +kernel
theorem first_of (kd : Int) : bits .andNot .i64 (firstN kd) (ofN kd) = 0 := by
  rcases kinds kd with rfl | rfl | rfl | rfl | rfl | rfl | rfl | rfl | rfl | rfl | rfl | h
  case inr.inr.inr.inr.inr.inr.inr.inr.inr.inr.inr =>
    rw [show firstN kd = 0 by unfold firstN; rw [if_neg (by omega), if_neg (by omega)], show ofN kd = 0 by unfold ofN; rw [if_neg (by omega), if_neg (by omega), if_neg (by omega), if_neg (by omega), if_neg (by omega), if_neg (by omega)]]
    decide +kernel
  all_goals decide +kernel
theorem or_zero (i : Int) : bits .andNot .i64 (bits .or .i64 0 (userN i)) (userN i) = 0 := by
  rw [andNot_zero]
  intro j hj h
  rw [tb_or _ _ hj, tb_zero] at h
  simpa using h
theorem chg_yes {kd i : Int} (h : 1 ≤ kd ∧ kd ≤ 11) (h9 : kd ≠ 9) : changeE kd 0 (userN i) = 0 := if_pos (sub_trans (or_zero i) (sub_trans (user_mask i) (mask_mine h h9)))
theorem chg_none {kd i : Int} (h : ¬(0 ≤ i ∧ i ≤ 7)) : changeE kd 0 (userN i) = 0 := by
  refine if_pos (sub_trans (or_zero i) ?_)
  rw [user_out h, andNot_zero]
  intro j hj h
  rw [tb_zero] at h
  cases h
theorem chg_no {kd i : Int} (h : kd = 9 ∨ kd < 1 ∨ 11 < kd) (hi : 0 ≤ i ∧ i ≤ 7) : changeE kd 0 (userN i) = -10 := by
  have e : mineN kd = 0 := by
    unfold mineN
    rw [if_neg (by omega)]
    split
    · rfl
    · rw [if_neg (by omega)]
  refine if_neg ?_
  rw [e]
  rcases eight hi with rfl | rfl | rfl | rfl | rfl | rfl | rfl | rfl <;> decide +kernel
theorem right_yes {x kd : Int} (h : bits .andNot .i64 x (ofN kd) = 0) (w : World) : Calls Try.prog 14 #[.int .i64 x, .int .i64 kd] w fun e w' => e = .returned (.bool true) ∧ w = w' := by
  have := right_any x kd w
  rwa [h] at this
set_option maxHeartbeats 4000000 in
theorem users_walk (kd i k : Int) (w : World) : Calls Try.prog 7 #[.int .i64 kd, .int .i64 i, .int .i64 k] w fun e w' => e = .returned (.bool true) ∧ Below w.heap.size w w' := by
  have HA := Lib.hid awake_any
  have H1 := Lib.hid (user_any i)
  have H2 := Lib.hid (user_any k)
  have H3 := Lib.hid (mine_any kd)
  have H4 := Lib.hid (first_any kd)
  have H5 := Lib.hid (right_yes ((andNot_zero (mineN kd) (ofN kd)).2 (mine_of kd)))
  have H6 := Lib.hid (right_yes (first_of kd))
  have H7 := Lib.hid (fun h => right_yes (sub_trans (user_mask i) (mask_of (kd := kd) h)))
  have H8 := Lib.hid (change_any 0 kd 0 (userN i))
  by_cases hi : 0 ≤ i ∧ i ≤ 7
  · have e0 := user_ne hi
    have z0 : (userN i == 0) = false := beq_eq_false_iff_ne.mpr e0
    have es := user_same (i := i) (k := k) hi
    have eq1 : (userN i == userN k) = (i == k) := by rw [Bool.eq_iff_iff, beq_iff_eq, beq_iff_eq, es]
    have eq2 : ((i == k) != (i == k)) = false := by simp
    obtain ⟨i0, i1⟩ := hi
    have hkd : (1 ≤ kd ∧ kd ≤ 11 ∧ kd ≠ 9) ∨ kd = 9 ∨ kd < 1 ∨ 11 < kd := by omega
    rcases hkd with ⟨k0, k1, k9⟩ | h9 | hlt | hgt
    · have H9 := Lib.hid (H7.out ⟨k0, k1⟩)
      rw [chg_yes ⟨k0, k1⟩ k9] at H8
      have z9 : (kd == 9) = false := beq_eq_false_iff_ne.mpr k9
      have z9' : (kd != 9) = true := bne_iff_ne.mpr k9
      clear k9 H7 es e0
      generalize changeV 0 kd 0 (userN i) = v at *
      generalize mineN kd = m at *
      generalize firstN kd = f at *
      generalize userN i = a at *
      generalize userN k = b at *
      go_enter Try.func7, Try.ntmps7
      go_wp2_with (first | (go_at_call 22; first | (with_reducible refine (H1.out _).mono ?_); rintro e w1 ⟨rfl, rfl⟩ | (with_reducible refine (H2.out _).mono ?_); rintro e w1 ⟨rfl, rfl⟩) | (go_at_call 20; (with_reducible refine (H3.out _).mono ?_); rintro e w1 ⟨rfl, rfl⟩) | (go_at_call 21; (with_reducible refine (H4.out _).mono ?_); rintro e w1 ⟨rfl, rfl⟩) | (go_at_call 14; first | (with_reducible refine (H5.out _).mono ?_); rintro e w1 ⟨rfl, rfl⟩ | (with_reducible refine (H6.out _).mono ?_); rintro e w1 ⟨rfl, rfl⟩ | (with_reducible refine (H9.out _).mono ?_); rintro e w1 ⟨rfl, rfl⟩) | (go_at_call 9; (with_reducible refine (H8.out _).mono ?_); rintro e w1 ⟨rfl, rfl⟩) | (go_at_call 15; (with_reducible refine (HA.out _).mono ?_); rintro e w1 ⟨rfl, hb1⟩))
      go_ret
      exact ⟨rfl, hb1⟩
    · subst h9
      have H9 := Lib.hid (H7.out ⟨by decide, by decide⟩)
      rw [chg_no (.inl rfl) ⟨i0, i1⟩] at H8
      clear H7 es e0
      generalize changeV 0 9 0 (userN i) = v at *
      generalize mineN 9 = m at *
      generalize firstN 9 = f at *
      generalize userN i = a at *
      generalize userN k = b at *
      go_enter Try.func7, Try.ntmps7
      go_wp2_with (first | (go_at_call 22; first | (with_reducible refine (H1.out _).mono ?_); rintro e w1 ⟨rfl, rfl⟩ | (with_reducible refine (H2.out _).mono ?_); rintro e w1 ⟨rfl, rfl⟩) | (go_at_call 20; (with_reducible refine (H3.out _).mono ?_); rintro e w1 ⟨rfl, rfl⟩) | (go_at_call 21; (with_reducible refine (H4.out _).mono ?_); rintro e w1 ⟨rfl, rfl⟩) | (go_at_call 14; first | (with_reducible refine (H5.out _).mono ?_); rintro e w1 ⟨rfl, rfl⟩ | (with_reducible refine (H6.out _).mono ?_); rintro e w1 ⟨rfl, rfl⟩ | (with_reducible refine (H9.out _).mono ?_); rintro e w1 ⟨rfl, rfl⟩) | (go_at_call 9; (with_reducible refine (H8.out _).mono ?_); rintro e w1 ⟨rfl, rfl⟩) | (go_at_call 15; (with_reducible refine (HA.out _).mono ?_); rintro e w1 ⟨rfl, hb1⟩))
      go_ret
      exact ⟨rfl, hb1⟩
    all_goals
      rw [chg_no (by omega) ⟨i0, i1⟩] at H8
      clear H7 es e0
      generalize changeV 0 kd 0 (userN i) = v at *
      generalize mineN kd = m at *
      generalize firstN kd = f at *
      generalize userN i = a at *
      generalize userN k = b at *
      go_enter Try.func7, Try.ntmps7
      go_wp2_with (first | (go_at_call 22; first | (with_reducible refine (H1.out _).mono ?_); rintro e w1 ⟨rfl, rfl⟩ | (with_reducible refine (H2.out _).mono ?_); rintro e w1 ⟨rfl, rfl⟩) | (go_at_call 20; (with_reducible refine (H3.out _).mono ?_); rintro e w1 ⟨rfl, rfl⟩) | (go_at_call 21; (with_reducible refine (H4.out _).mono ?_); rintro e w1 ⟨rfl, rfl⟩) | (go_at_call 14; first | (with_reducible refine (H5.out _).mono ?_); rintro e w1 ⟨rfl, rfl⟩ | (with_reducible refine (H6.out _).mono ?_); rintro e w1 ⟨rfl, rfl⟩) | (go_at_call 9; (with_reducible refine (H8.out _).mono ?_); rintro e w1 ⟨rfl, rfl⟩) | (go_at_call 15; (with_reducible refine (HA.out _).mono ?_); rintro e w1 ⟨rfl, hb1⟩))
      go_ret
      exact ⟨rfl, hb1⟩
  · rw [chg_none hi] at H8
    rw [user_out hi] at *
    have hi' : i < 0 ∨ 7 < i := by omega
    have hkd : (1 ≤ kd ∧ kd ≤ 11) ∨ kd < 1 ∨ 11 < kd := by omega
    rcases hkd with ⟨k0, k1⟩ | hlt | hgt
    all_goals try have H9 := Lib.hid (H7.out ⟨k0, k1⟩)
    all_goals
      clear H7 hi
      generalize changeV 0 kd 0 0 = v at *
      generalize mineN kd = m at *
      generalize firstN kd = f at *
      generalize userN k = b at *
      rcases hi' with hi | hi
      all_goals
        go_enter Try.func7, Try.ntmps7
        go_wp2_with (first | (go_at_call 22; first | (with_reducible refine (H1.out _).mono ?_); rintro e w1 ⟨rfl, rfl⟩ | (with_reducible refine (H2.out _).mono ?_); rintro e w1 ⟨rfl, rfl⟩) | (go_at_call 20; (with_reducible refine (H3.out _).mono ?_); rintro e w1 ⟨rfl, rfl⟩) | (go_at_call 21; (with_reducible refine (H4.out _).mono ?_); rintro e w1 ⟨rfl, rfl⟩) | (go_at_call 14; first | (with_reducible refine (H5.out _).mono ?_); rintro e w1 ⟨rfl, rfl⟩ | (with_reducible refine (H6.out _).mono ?_); rintro e w1 ⟨rfl, rfl⟩ | (with_reducible refine (H9.out _).mono ?_); rintro e w1 ⟨rfl, rfl⟩) | (go_at_call 9; (with_reducible refine (H8.out _).mono ?_); rintro e w1 ⟨rfl, rfl⟩) | (go_at_call 15; (with_reducible refine (HA.out _).mono ?_); rintro e w1 ⟨rfl, hb1⟩))
        go_ret
        exact ⟨rfl, hb1⟩
end Go.Proofs.Ytdcdmbamloebfaa.Sig
