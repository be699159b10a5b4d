/- The walks of RightsReduces and RightsSets. -/
import Derived.Test.YtpkmpenjnbpblaaDoorRtFns
import Derived.Deep.DeepCutAuto
namespace Go.Proofs.YtpkmpenjnbpblaaDoor.Rt
open Go Go.RowKit Go.Proofs.YtpkmpenjnbpblaaDoor.Mem Go.Proofs.YtpkmpenjnbpblaaDoor.Bits
set_option linter.unusedVariables false
set_option linter.unusedSimpArgs false
theorem has_or {r o p : Int} (ho : in64 o) (hp : in64 p) : hasN r (bits .or .i64 o p) = (hasN r o && hasN r p) := by
  have h1 := has_iff (r := r) (o := bits .or .i64 o p) (bits_range _ _ _)
  have h2 := has_iff (r := r) ho
  have h3 := has_iff (r := r) hp
  apply Bool.eq_iff_iff.2
  rw [h1, Bool.and_eq_true, h2, h3]
  constructor
  · intro h
    exact ⟨fun i hi ht => h i hi (by rw [tb_or o p hi, ht]; rfl), fun i hi ht => h i hi (by rw [tb_or o p hi, ht]; simp)⟩
  · rintro ⟨ha, hb⟩ i hi ht
    rw [tb_or o p hi] at ht
    cases h : tb o i
    · rw [h] at ht
      exact hb i hi (by simpa using ht)
    · exact ha i hi h
theorem has_trans {r o p : Int} (ho : in64 o) (hp : in64 p) (h1 : hasN r o = true) (h2 : hasN o p = true) : hasN r p = true :=
  (has_iff hp).2 fun i hi ht => (has_iff ho).1 h1 i hi ((has_iff hp).1 h2 i hi ht)
theorem meet_or (r o : Int) (hr : in64 r) : bits .or .i64 (bits .and .i64 r o) (bits .andNot .i64 r o) = r := by
  refine tb_ext (bits_range _ _ _) hr fun i hi => ?_
  rw [tb_or _ _ hi, tb_and _ _ hi, tb_andNot _ _ hi]
  cases tb r i <;> cases tb o i <;> rfl
theorem meet_and (r o : Int) : bits .and .i64 (bits .and .i64 r o) (bits .andNot .i64 r o) = 0 := by
  refine tb_ext (bits_range _ _ _) (by decide) fun i hi => ?_
  rw [tb_and _ _ hi, tb_and _ _ hi, tb_andNot _ _ hi, tb_zero]
  cases tb r i <;> cases tb o i <;> rfl
theorem meet_comm (r o : Int) : bits .and .i64 o r = bits .and .i64 r o := by
  refine tb_ext (bits_range _ _ _) (bits_range _ _ _) fun i hi => ?_
  rw [tb_and _ _ hi, tb_and _ _ hi, Bool.and_comm]
theorem has_meet (r o : Int) : hasN r (bits .and .i64 r o) = true :=
  (has_iff (bits_range _ _ _)).2 fun i hi ht => by
    rw [tb_and _ _ hi] at ht
    exact (Bool.and_eq_true _ _ ▸ ht).1
/-- What comes of reducing twice. -/
theorem twice {r o p : Int} (hr : in64 r) (ho : in64 o) (hp : in64 p) (hs : redS r o = 0) :
    redS (redV r o) p = -10 ∨ (redS (redV r o) p = 0 ∧ redS r p = 0 ∧ redV (redV r o) p = redV r p) ∨ (redS (redV r o) p = 0 ∧ redS r p = 0 ∧ p = 2147483648 ∧ redV (redV r o) p = redV r o) := by
  by_cases hp1 : p = 2147483648
  · subst hp1
    exact .inr (.inr ⟨if_pos rfl, if_pos rfl, rfl, if_pos rfl⟩)
  · have hx : redV r o = r ∨ (redV r o = o ∧ hasN r o = true) := by
      unfold redV redS at *
      by_cases ho1 : o = 2147483648
      · rw [if_pos ho1]; exact .inl rfl
      · rw [if_neg ho1] at hs ⊢
        cases hh : rightN o && hasN r o
        · rw [hh] at hs; simp at hs
        · rw [if_pos rfl]
          exact .inr ⟨rfl, by simp at hh; exact hh.2⟩
    rcases hx with hx | ⟨hx, hro⟩
    · rw [hx]
      unfold redS redV
      rw [if_neg hp1]
      cases hh : rightN p && hasN r p
      · exact .inl (by simp)
      · exact .inr (.inl ⟨by simp, by simp, rfl⟩)
    · rw [hx]
      unfold redS redV
      simp only [hp1, if_false]
      cases hh : rightN p && hasN o p
      · exact .inl (by simp)
      · simp at hh
        have := has_trans ho hp hro hh.2
        rw [hh.1, this]
        exact .inr (.inl ⟨by simp, by simp, by simp⟩)
theorem redS_two (r o : Int) : redS r o = 0 ∨ redS r o = -10 := by
  unfold redS
  split
  · exact .inl rfl
  · split
    · exact .inl rfl
    · exact .inr rfl
end Go.Proofs.YtpkmpenjnbpblaaDoor.Rt
