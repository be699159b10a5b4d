/- The walk of the statement SignalKinds. -/
import Derived.Test.YtdcdmbamloebfaaSigUsers
namespace Go.Proofs.Ytdcdmbamloebfaa.Sig
open Go Go.RowKit Go.Proofs.Ytdcdmbamloebfaa.Bits
set_option linter.unusedVariables false
set_option linter.unusedSimpArgs false
theorem first_else {kd : Int} (h : kd < 4 ∨ (6 < kd ∧ kd ≠ 11)) : firstN kd = 0 := by
  unfold firstN
  rw [if_neg (by omega), if_neg (by omega)]
theorem first_two {kd : Int} (h : 4 ≤ kd ∧ kd ≤ 6) : firstN kd = 2 := by
  unfold firstN
  rw [if_pos (by omega)]
set_option maxHeartbeats 8000000 in
theorem kinds_walk (kd i : Int) (w : World) : Calls Try.prog 6 #[.int .i64 kd, .int .i64 i] w fun e w' => e = .returned (.bool true) ∧ Below w.heap.size w w' := by
  have HA := Lib.hid awake_any
  have H1 := Lib.hid (user_any i)
  have H2 := Lib.hid (of_any kd)
  have H3 := Lib.hid (mine_any kd)
  have H4 := Lib.hid (first_any kd)
  have H5 := Lib.hid (refOf_any kd)
  have H6 := Lib.hid (refMine_any kd)
  have H7 := Lib.hid (bits_of_any kd)
  have H8 := Lib.hid (bits_mine_any kd)
  generalize mineN kd = m at *
  generalize ofN kd = o at *
  have hk : (4 ≤ kd ∧ kd ≤ 6) ∨ kd = 11 ∨ kd < 4 ∨ (6 < kd ∧ kd ≠ 11) := by omega
  have hi : i = 0 ∨ i = 1 ∨ i = 2 ∨ i = 3 ∨ i = 4 ∨ i = 5 ∨ i = 6 ∨ i = 7 ∨ i < 0 ∨ 7 < i := by omega
  rcases hk with hk | hk | hk | ⟨hk, hk2⟩
  case' inl => rw [first_two hk] at H4; obtain ⟨k1, k2⟩ := hk
  case' inr.inl => subst hk; rw [show firstN 11 = 32 from rfl] at H4
  case' inr.inr.inl => rw [first_else (.inl hk)] at H4; have z11 : (kd == 11) = false := beq_eq_false_iff_ne.mpr (by omega)
  case' inr.inr.inr => rw [first_else (.inr ⟨hk, hk2⟩)] at H4; have z11 : (kd == 11) = false := beq_eq_false_iff_ne.mpr hk2; clear hk2
  all_goals
    rcases hi with rfl | rfl | rfl | rfl | rfl | rfl | rfl | rfl | hi | hi
    all_goals
      try rw [user_out (i := i) (by omega)] at H1
      try rw [show userN 0 = 256 from rfl] at H1
      try rw [show userN 1 = 512 from rfl] at H1
      try rw [show userN 2 = 1024 from rfl] at H1
      try rw [show userN 3 = 2048 from rfl] at H1
      try rw [show userN 4 = 4096 from rfl] at H1
      try rw [show userN 5 = 8192 from rfl] at H1
      try rw [show userN 6 = 16384 from rfl] at H1
      try rw [show userN 7 = 32768 from rfl] at H1
      go_enter Try.func6, Try.ntmps6
      go_wp2_with (first | (go_at_call 19; (with_reducible refine (H2.out _).mono ?_); rintro e w1 ⟨rfl, rfl⟩) | (go_at_call 13; (with_reducible refine (H5.out _).mono ?_); rintro e w1 ⟨rfl, hb5⟩) | (go_at_call 11; (with_reducible refine (H6.out _).mono ?_); rintro e w1 ⟨rfl, rfl⟩) | (go_at_call 10; first | (with_reducible refine (H7.out _).mono ?_); rintro e w1 ⟨rfl, n7, rfl⟩ | (with_reducible refine (H8.out _).mono ?_); rintro e w1 ⟨rfl, n8, rfl⟩) | (go_at_call 20; (with_reducible refine (H3.out _).mono ?_); rintro e w1 ⟨rfl, rfl⟩) | (go_at_call 21; (with_reducible refine (H4.out _).mono ?_); rintro e w1 ⟨rfl, rfl⟩) | (go_at_call 22; (with_reducible refine (H1.out _).mono ?_); rintro e w1 ⟨rfl, rfl⟩) | (go_at_call 15; (with_reducible refine (HA.out _).mono ?_); rintro e w1 ⟨rfl, hb1⟩))
      go_ret
      exact ⟨rfl, (below_drewN hb5 _).trans (hb1.mono (by simpa using hb5.size))⟩
theorem kinds_row (k : Int) (hk : (Lit.int .i64 k).wf = true) (i : Int) (hi : (Lit.int .i64 i).wf = true) (w : World) :
    Calls Try.prog 6 #[.int .i64 k, .int .i64 i] w fun e w' => e = .returned (.bool true) ∧ Below w.heap.size w w' := kinds_walk k i w
theorem users_row (d : Int) (hd : (Lit.int .i64 d).wf = true) (i : Int) (hi : (Lit.int .i64 i).wf = true) (k : Int) (hk : (Lit.int .i64 k).wf = true) (w : World) :
    Calls Try.prog 7 #[.int .i64 d, .int .i64 i, .int .i64 k] w fun e w' => e = .returned (.bool true) ∧ Below w.heap.size w w' := users_walk d i k w
end Go.Proofs.Ytdcdmbamloebfaa.Sig
