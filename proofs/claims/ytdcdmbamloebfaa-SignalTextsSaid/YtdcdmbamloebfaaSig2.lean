/- Contracts of package signal: Of, Mine, First, User, Right, Change, Meets, Fires. -/
import Derived.Test.YtdcdmbamloebfaaSigText
namespace Go.Proofs.Ytdcdmbamloebfaa.Sig
open Go Go.RowKit Go.Proofs.Ytdcdmbamloebfaa.Bits
set_option linter.unusedVariables false
set_option linter.unusedSimpArgs false
/-- The signals of a type. -/
def ofN (k : Int) : Int :=
  if k = 1 ∨ k = 2 ∨ k = 3 then 65296 else if k = 4 ∨ k = 5 ∨ k = 6 then 65287 else if k = 7 ∨ k = 10 then 65288 else if k = 8 then 65292 else if k = 9 then 65281 else if k = 11 then 65312 else 0
/-- Those that users may change. -/
def mineN (k : Int) : Int :=
  if k = 7 ∨ k = 8 then 65288 else if k = 9 then 0 else if 1 ≤ k ∧ k ≤ 11 then 65280 else 0
def firstN (k : Int) : Int := if k = 4 ∨ k = 5 ∨ k = 6 then 2 else if k = 11 then 32 else 0
theorem kinds (k : Int) : k = 1 ∨ k = 2 ∨ k = 3 ∨ k = 4 ∨ k = 5 ∨ k = 6 ∨ k = 7 ∨ k = 8 ∨ k = 9 ∨ k = 10 ∨ k = 11 ∨ (k < 1 ∨ 11 < k) := by omega
theorem of_any (k : Int) (w : World) : Calls Try.prog 19 #[.int .i64 k] w fun e w' => e = .returned (.int .i64 (ofN k)) ∧ w = w' := by
  rcases kinds k with rfl | rfl | rfl | rfl | rfl | rfl | rfl | rfl | rfl | rfl | rfl | h
  case inr.inr.inr.inr.inr.inr.inr.inr.inr.inr.inr =>
    have e : ofN k = 0 := by unfold ofN; rw [if_neg (by omega), if_neg (by omega), if_neg (by omega), if_neg (by omega), if_neg (by omega), if_neg (by omega)]
    rw [e]
    have z : ∀ c : Int, 1 ≤ c → c ≤ 11 → (k == c) = false := fun c h1 h2 => beq_eq_false_iff_ne.mpr (by omega)
    have z1 := z 1 (by omega) (by omega); have z2 := z 2 (by omega) (by omega); have z3 := z 3 (by omega) (by omega); have z4 := z 4 (by omega) (by omega)
    have z5 := z 5 (by omega) (by omega); have z6 := z 6 (by omega) (by omega); have z7 := z 7 (by omega) (by omega); have z8 := z 8 (by omega) (by omega)
    have z9 := z 9 (by omega) (by omega); have z10 := z 10 (by omega) (by omega); have z11 := z 11 (by omega) (by omega)
    clear z e h
    go_enter Try.func19, Try.ntmps19
    go_wp2
    go_ret
    exact ⟨rfl, rfl⟩
  all_goals
    go_enter Try.func19, Try.ntmps19
    go_wp2
    go_ret
    exact ⟨rfl, rfl⟩
theorem mine_any (k : Int) (w : World) : Calls Try.prog 20 #[.int .i64 k] w fun e w' => e = .returned (.int .i64 (mineN k)) ∧ w = w' := by
  have H := Lib.hid (of_any k)
  rcases kinds k with rfl | rfl | rfl | rfl | rfl | rfl | rfl | rfl | rfl | rfl | rfl | h
  case inr.inr.inr.inr.inr.inr.inr.inr.inr.inr.inr =>
    have e0 : ofN k = 0 := by unfold ofN; rw [if_neg (by omega), if_neg (by omega), if_neg (by omega), if_neg (by omega), if_neg (by omega), if_neg (by omega)]
    have e : mineN k = 0 := by unfold mineN; rw [if_neg (by omega), if_neg (by omega), if_neg (by omega)]
    rw [e]
    rw [e0] at H
    have z : ∀ c : Int, 1 ≤ c → c ≤ 11 → (k == c) = false := fun c h1 h2 => beq_eq_false_iff_ne.mpr (by omega)
    have z7 := z 7 (by omega) (by omega); have z8 := z 8 (by omega) (by omega); have z9 := z 9 (by omega) (by omega)
    clear z e h e0
    go_enter Try.func20, Try.ntmps20
    go_wp2_with (first | (go_at_call 19; (with_reducible refine (H.out _).mono ?_); rintro e w1 ⟨rfl, rfl⟩))
    go_ret
    exact ⟨rfl, rfl⟩
  all_goals
    go_enter Try.func20, Try.ntmps20
    go_wp2_with (first | (go_at_call 19; (with_reducible refine (H.out _).mono ?_); rintro e w1 ⟨rfl, rfl⟩))
    go_ret
    exact ⟨rfl, rfl⟩
theorem first_any (k : Int) (w : World) : Calls Try.prog 21 #[.int .i64 k] w fun e w' => e = .returned (.int .i64 (firstN k)) ∧ w = w' := by
  rcases kinds k with rfl | rfl | rfl | rfl | rfl | rfl | rfl | rfl | rfl | rfl | rfl | h
  case inr.inr.inr.inr.inr.inr.inr.inr.inr.inr.inr =>
    have e : firstN k = 0 := by unfold firstN; rw [if_neg (by omega), if_neg (by omega)]
    rw [e]
    have z : ∀ c : Int, 1 ≤ c → c ≤ 11 → (k == c) = false := fun c h1 h2 => beq_eq_false_iff_ne.mpr (by omega)
    have z4 := z 4 (by omega) (by omega); have z5 := z 5 (by omega) (by omega); have z6 := z 6 (by omega) (by omega); have z11 := z 11 (by omega) (by omega)
    clear z e h
    go_enter Try.func21, Try.ntmps21
    go_wp2
    go_ret
    exact ⟨rfl, rfl⟩
  all_goals
    go_enter Try.func21, Try.ntmps21
    go_wp2
    go_ret
    exact ⟨rfl, rfl⟩
/-- One of the user's own. -/
def userN (i : Int) : Int := if 0 ≤ i ∧ i ≤ 7 then 2 ^ (i.toNat + 8) else 0
theorem user_any (i : Int) (w : World) : Calls Try.prog 22 #[.int .i64 i] w fun e w' => e = .returned (.int .i64 (userN i)) ∧ w = w' := by
  have h : i = 0 ∨ i = 1 ∨ i = 2 ∨ i = 3 ∨ i = 4 ∨ i = 5 ∨ i = 6 ∨ i = 7 ∨ i < 0 ∨ 7 < i := by omega
  rcases h with rfl | rfl | rfl | rfl | rfl | rfl | rfl | rfl | h | h
  case inr.inr.inr.inr.inr.inr.inr.inr.inl =>
    rw [show userN i = 0 from if_neg (by omega)]
    go_enter Try.func22, Try.ntmps22
    go_wp2
    go_ret
    exact ⟨rfl, rfl⟩
  case inr.inr.inr.inr.inr.inr.inr.inr.inr =>
    rw [show userN i = 0 from if_neg (by omega)]
    go_enter Try.func22, Try.ntmps22
    go_wp2
    go_ret
    exact ⟨rfl, rfl⟩
  all_goals
    go_enter Try.func22, Try.ntmps22
    go_wp2
    go_ret
    exact ⟨rfl, rfl⟩
theorem right_any (s k : Int) (w : World) : Calls Try.prog 14 #[.int .i64 s, .int .i64 k] w fun e w' => e = .returned (.bool (bits .andNot .i64 s (ofN k) == 0)) ∧ w = w' := by
  have H := Lib.hid (of_any k)
  go_enter Try.func14, Try.ntmps14
  go_wp2_with (first | (go_at_call 19; (with_reducible refine (H.out _).mono ?_); rintro e w1 ⟨rfl, rfl⟩))
  go_ret
  exact ⟨rfl, rfl⟩
theorem meets_any (s k : Int) (w : World) : Calls Try.prog 17 #[.int .i64 s, .int .i64 k] w fun e w' => e = .returned (.int .i64 (bits .and .i64 s k)) ∧ w = w' := by
  go_enter Try.func17, Try.ntmps17
  go_wp2
  go_ret
  exact ⟨rfl, rfl⟩
/-- What Change tells. -/
def changeV (s k c t : Int) : Int := if bits .andNot .i64 (bits .or .i64 c t) (mineN k) = 0 then bits .or .i64 (bits .andNot .i64 s c) t else 0
def changeE (k c t : Int) : Int := if bits .andNot .i64 (bits .or .i64 c t) (mineN k) = 0 then 0 else -10
theorem change_any (s k c t : Int) (w : World) : Calls Try.prog 9 #[.int .i64 s, .int .i64 k, .int .i64 c, .int .i64 t] w fun e w' => e = .returned (.tuple #[.int .i64 (changeV s k c t), .int .i64 (changeE k c t)]) ∧ w = w' := by
  have H := Lib.hid (mine_any k)
  unfold changeV changeE
  by_cases h : bits .andNot .i64 (bits .or .i64 c t) (mineN k) = 0
  · rw [if_pos h, if_pos h]
    go_enter Try.func9, Try.ntmps9
    go_wp2_with (first | (go_at_call 20; (with_reducible refine (H.out _).mono ?_); rintro e w1 ⟨rfl, rfl⟩))
    go_ret2
    exact ⟨rfl, rfl⟩
  · rw [if_neg h, if_neg h]
    have z1 : (bits .andNot .i64 (bits .or .i64 c t) (mineN k) == 0) = false := beq_eq_false_iff_ne.mpr h
    have z2 : (bits .andNot .i64 (bits .or .i64 c t) (mineN k) != 0) = true := bne_iff_ne.mpr h
    clear h
    go_enter Try.func9, Try.ntmps9
    go_wp2_with (first | (go_at_call 20; (with_reducible refine (H.out _).mono ?_); rintro e w1 ⟨rfl, rfl⟩))
    go_ret2
    exact ⟨rfl, rfl⟩
theorem fires_any (s o m : Int) (w : World) : Calls Try.prog 18 #[.int .i64 s, .int .i64 o, .int .i64 m] w fun e w' => e = .returned (.bool (bits .and .i64 s m != 0 && bits .and .i64 o m == 0)) ∧ w = w' := by
  by_cases h : bits .and .i64 s m = 0
  · have z1 : (bits .and .i64 s m != 0) = false := bne_eq_false_iff_eq.mpr h
    rw [z1]
    go_enter Try.func18, Try.ntmps18
    go_wp2
    go_ret
    exact ⟨rfl, rfl⟩
  · have z1 : (bits .and .i64 s m != 0) = true := bne_iff_ne.mpr h
    have z2 : (bits .and .i64 s m == 0) = false := beq_eq_false_iff_ne.mpr h
    rw [z1]
    clear h
    go_enter Try.func18, Try.ntmps18
    go_wp2
    go_ret
    exact ⟨rfl, rfl⟩
end Go.Proofs.Ytdcdmbamloebfaa.Sig
