/- Contracts of the document's answer on signals: the texts Of and Mine. -/
import Derived.Test.YtdcdmbamloebfaaSigRef
namespace Go.Proofs.Ytdcdmbamloebfaa.Sig
open Go Go.RowKit Go.Proofs.Ytdcdmbamloebfaa.Bits
set_option linter.unusedVariables false
set_option linter.unusedSimpArgs false
def own8 : List UInt8 := [48, 49, 50, 51, 52, 53, 54, 55]
/-- The names of a type's signals. -/
def ofR (k : Int) : List UInt8 :=
  if k = 1 ∨ k = 2 ∨ k = 3 then [116, 48, 49, 50, 51, 52, 53, 54, 55] else if k = 4 ∨ k = 5 ∨ k = 6 then [114, 119, 112, 48, 49, 50, 51, 52, 53, 54, 55] else if k = 7 ∨ k = 10 then [115, 48, 49, 50, 51, 52, 53, 54, 55] else if k = 8 then [115, 112, 48, 49, 50, 51, 52, 53, 54, 55] else if k = 9 then [114, 48, 49, 50, 51, 52, 53, 54, 55] else if k = 11 then [122, 48, 49, 50, 51, 52, 53, 54, 55] else []
def mineR (k : Int) : List UInt8 :=
  if k = 7 ∨ k = 8 then [115, 48, 49, 50, 51, 52, 53, 54, 55] else if k = 9 then [] else if 1 ≤ k ∧ k ≤ 11 then [48, 49, 50, 51, 52, 53, 54, 55] else []
theorem refMine_any (k : Int) (w : World) : Calls Try.prog 11 #[.int .i64 k] w fun e w' => e = .returned (.string ⟨(mineR k).toArray⟩) ∧ w = w' := by
  rcases kinds k with rfl | rfl | rfl | rfl | rfl | rfl | rfl | rfl | rfl | rfl | rfl | h
  case inr.inr.inr.inr.inr.inr.inr.inr.inr.inr.inr =>
    rw [show mineR k = [] by unfold mineR; rw [if_neg (by omega), if_neg (by omega), if_neg (by omega)]]
    rcases h with h | h
    all_goals
      go_enter Try.func11, Try.ntmps11
      go_wp2
      go_ret
      exact ⟨rfl, rfl⟩
  all_goals
    go_enter Try.func11, Try.ntmps11
    go_wp2
    go_ret
    exact ⟨rfl, rfl⟩
set_option maxHeartbeats 2000000 in
theorem refOf_any (k : Int) (w : World) : Calls Try.prog 13 #[.int .i64 k] w fun e w' => e = .returned (.string ⟨(ofR k).toArray⟩) ∧ Below w.heap.size w w' := by
  rcases kinds k with rfl | rfl | rfl | rfl | rfl | rfl | rfl | rfl | rfl | rfl | rfl | h
  case inr.inr.inr.inr.inr.inr.inr.inr.inr.inr.inr =>
    rw [show ofR k = [] by unfold ofR; rw [if_neg (by omega), if_neg (by omega), if_neg (by omega), if_neg (by omega), if_neg (by omega), if_neg (by omega)]]
    rcases h with h | h
    all_goals
      go_enter Try.func13, Try.ntmps13
      go_wp2
      go_ret
      exact ⟨rfl, (Below.refl _ _).alloc (Nat.le_refl _) _⟩
  all_goals
    go_enter Try.func13, Try.ntmps13
    go_wp2
    go_ret
    exact ⟨rfl, (Below.refl _ _).alloc (Nat.le_refl _) _⟩
end Go.Proofs.Ytdcdmbamloebfaa.Sig
