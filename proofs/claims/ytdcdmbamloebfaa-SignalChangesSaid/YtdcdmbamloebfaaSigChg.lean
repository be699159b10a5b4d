/- The walk of the statement SignalChanges. -/
import Derived.Test.YtdcdmbamloebfaaSigSets
import Derived.Deep.DeepCutAuto
namespace Go.Proofs.Ytdcdmbamloebfaa.Sig
open Go Go.RowKit Go.Proofs.Ytdcdmbamloebfaa.Bits
set_option linter.unusedVariables false
set_option linter.unusedSimpArgs false
theorem bits_of (k : Int) : bitsN (ofR k) 16 = ofN k := by
  rcases kinds k with rfl | rfl | rfl | rfl | rfl | rfl | rfl | rfl | rfl | rfl | rfl | h
  case inr.inr.inr.inr.inr.inr.inr.inr.inr.inr.inr =>
    rw [show ofR k = [] by unfold ofR; rw [if_neg (by omega), if_neg (by omega), if_neg (by omega), if_neg (by omega), if_neg (by omega), if_neg (by omega)], show ofN k = 0 by unfold ofN; rw [if_neg (by omega), if_neg (by omega), if_neg (by omega), if_neg (by omega), if_neg (by omega), if_neg (by omega)]]
    decide +kernel
  all_goals decide +kernel
theorem bits_mine (k : Int) : bitsN (mineR k) 16 = mineN k := by
  rcases kinds k with rfl | rfl | rfl | rfl | rfl | rfl | rfl | rfl | rfl | rfl | rfl | h
  case inr.inr.inr.inr.inr.inr.inr.inr.inr.inr.inr =>
    rw [show mineR k = [] by unfold mineR; rw [if_neg (by omega), if_neg (by omega), if_neg (by omega)], show mineN k = 0 by unfold mineN; rw [if_neg (by omega), if_neg (by omega), if_neg (by omega)]]
    decide +kernel
  all_goals decide +kernel
theorem size_of (k : Int) : (⟨(ofR k).toArray⟩ : ByteArray).size ≤ 140737488355328 := by
  show (ofR k).toArray.size ≤ _
  unfold ofR
  repeat' split
  all_goals decide
theorem size_mine (k : Int) : (⟨(mineR k).toArray⟩ : ByteArray).size ≤ 140737488355328 := by
  show (mineR k).toArray.size ≤ _
  unfold mineR
  repeat' split
  all_goals decide
theorem bits_of_any (k : Int) (w : World) : Calls Try.prog 10 #[.string ⟨(ofR k).toArray⟩] w fun e w' => e = .returned (.int .i64 (ofN k)) ∧ ∃ n, w' = w.drewN n := by
  have h := bits_any ⟨(ofR k).toArray⟩ (size_of k) w
  rw [show (⟨(ofR k).toArray⟩ : ByteArray).data.toList = ofR k by simp, bits_of k] at h
  exact h
theorem bits_mine_any (k : Int) (w : World) : Calls Try.prog 10 #[.string ⟨(mineR k).toArray⟩] w fun e w' => e = .returned (.int .i64 (mineN k)) ∧ ∃ n, w' = w.drewN n := by
  have h := bits_any ⟨(mineR k).toArray⟩ (size_mine k) w
  rw [show (⟨(mineR k).toArray⟩ : ByteArray).data.toList = mineR k by simp, bits_mine k] at h
  exact h
theorem andNot_zero (n m : Int) : bits .andNot .i64 n m = 0 ↔ ∀ i, i < 64 → tb n i = true → tb m i = true := by
  constructor
  · intro h i hi h1
    have := tb_andNot n m hi
    rw [h, tb_zero, h1] at this
    simpa using this
  · intro h
    refine tb_ext (bits_range _ _ _) (by decide) fun i hi => ?_
    rw [tb_andNot n m hi, tb_zero]
    cases h3 : tb n i <;> cases h4 : tb m i <;> try rfl
    exact absurd (h i hi h3) (by simp [h4])
theorem subN_eq (n m : Int) : subN n m 64 = (bits .andNot .i64 m n == 0) := by
  rw [Bool.eq_iff_iff, beq_iff_eq, andNot_zero]
  unfold subN
  exact decide_eq_true_iff
theorem right_sub (s k : Int) (w : World) : Calls Try.prog 14 #[.int .i64 s, .int .i64 k] w fun e w' => e = .returned (.bool (subN (ofN k) s 64)) ∧ w = w' := by
  rw [subN_eq]
  exact right_any s k w
theorem mine_of (k : Int) (i : Nat) (hi : i < 64) (h : tb (mineN k) i = true) : tb (ofN k) i = true := by
  refine (andNot_zero (mineN k) (ofN k)).1 ?_ i hi h
  rcases kinds k with rfl | rfl | rfl | rfl | rfl | rfl | rfl | rfl | rfl | rfl | rfl | h
  case inr.inr.inr.inr.inr.inr.inr.inr.inr.inr.inr =>
    rw [show ofN k = 0 by unfold ofN; rw [if_neg (by omega), if_neg (by omega), if_neg (by omega), if_neg (by omega), if_neg (by omega), if_neg (by omega)], show mineN k = 0 by unfold mineN; rw [if_neg (by omega), if_neg (by omega), if_neg (by omega)]]
    decide +kernel
  all_goals decide +kernel
/-- What Change tells, in the words of the law. -/
theorem change_yes {s k c t : Int} (hc : subN (mineN k) c 64 = true) (ht : subN (mineN k) t 64 = true) :
    changeE k c t = 0 ∧ (∀ i, i < 64 → tb (changeV s k c t) i = (tb t i || (tb s i && !tb c i))) ∧ (subN (ofN k) s 64 = true → subN (ofN k) (changeV s k c t) 64 = true) := by
  have hc' := of_decide_eq_true hc
  have ht' := of_decide_eq_true ht
  have h : bits .andNot .i64 (bits .or .i64 c t) (mineN k) = 0 := by
    rw [andNot_zero]
    intro i hi h1
    rw [tb_or c t hi, Bool.or_eq_true] at h1
    rcases h1 with h1 | h1
    · exact hc' i hi h1
    · exact ht' i hi h1
  have e : changeV s k c t = bits .or .i64 (bits .andNot .i64 s c) t := if_pos h
  have hV : ∀ i, i < 64 → tb (changeV s k c t) i = (tb t i || (tb s i && !tb c i)) := fun i hi => by
    rw [e, tb_or _ _ hi, tb_andNot _ _ hi, Bool.or_comm]
  refine ⟨if_pos h, hV, fun hs => decide_eq_true fun i hi h1 => ?_⟩
  rw [hV i hi, Bool.or_eq_true, Bool.and_eq_true] at h1
  rcases h1 with h1 | ⟨h1, _⟩
  · exact mine_of k i hi (ht' i hi h1)
  · exact of_decide_eq_true hs i hi h1
theorem change_no {s k c t : Int} (h : subN (mineN k) c 64 = false ∨ subN (mineN k) t 64 = false) : changeE k c t = -10 ∧ changeV s k c t = 0 := by
  have h2 : ¬ bits .andNot .i64 (bits .or .i64 c t) (mineN k) = 0 := by
    intro h0
    rw [andNot_zero] at h0
    rcases h with h | h
    · have h3 := of_decide_eq_false h
      exact h3 fun i hi h1 => h0 i hi (by rw [tb_or c t hi, h1]; rfl)
    · have h3 := of_decide_eq_false h
      exact h3 fun i hi h1 => h0 i hi (by rw [tb_or c t hi, h1, Bool.or_true])
  exact ⟨if_neg h2, if_neg h2⟩
/-- The law's closure: a bit. -/
theorem bit_any (x : Int) (k : Nat) (hk : k < 64) (g : Nat) (w : World) (hc : w.cell? ⟨g, 0, none⟩ = some (.int .i64 k)) : Calls Try.prog 16 #[.int .i64 x, .pointer (some ⟨g, 0, none⟩)] w fun e w' => e = .returned (.bool (tb x k)) ∧ w = w' := by
  have a1 := and_tb x k
  cases hb : tb x k
  all_goals
    rw [hb] at a1
    simp only [Bool.false_eq_true, if_true, if_false] at a1
    clear hb
    go_enter Try.func16, Try.ntmps16
    go_wp2
    go_ret
    exact ⟨rfl, rfl⟩
end Go.Proofs.Ytdcdmbamloebfaa.Sig
