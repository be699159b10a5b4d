/- The contract of awake; the walk of ArenaValues. -/
import Derived.Test.YtnejjaebhjgccaaArF
namespace Go.Proofs.Ytnejjaebhjgccaa.Ar
open Go Go.RowKit Go.Proofs.Ytnejjaebhjgccaa.Mem Go.Proofs.Ytnejjaebhjgccaa.Bits
set_option linter.unusedVariables false
set_option linter.unusedSimpArgs false
theorem upd_nothing {b w0 : Nat} {w w' : World} {sv fv : Value} (h : Upd (ft b sv fv) w w') (hB : w0 ≤ w.heap.size) (hF : ∀ k, ft b sv fv k → w0 ≤ k) : Below w0 w w' := h.below hB hF
set_option maxHeartbeats 1000000 in
theorem awake_any (w : World) : Calls Try.prog 10 #[] w fun e w' => e = .returned (.bool true) ∧ Below w.heap.size w w' := by
  have H1 := Lib.hid (new_some 2 (by decide) (by decide) w w.heap.size (Nat.le_refl _))
  generalize hB : w.heap.size = B at *
  go_enter Try.func10, Try.ntmps10
  go_wp2_with (first
    | (go_at_call 9; (with_reducible refine H1.out.mono ?_); rintro e w1 ⟨rfl, hA1, hb1⟩)
    | (go_at_call 11; (with_reducible refine (alloc_more hA1 (by have := hb1.size; omega) (by decide) (by decide) (by decide) 5).mono ?_); rintro e w2 ⟨rfl, sv, hA2, hU2, hN2⟩)
    | (go_at_call 13; (with_reducible refine (get_some hA2 (id := 65536) (i := 0) (s := ⟨1, true, 5⟩) (by decide) rfl).mono ?_); rintro e w3 ⟨rfl, n, rfl⟩)
    | (go_at_call 14; (with_reducible refine (count_any (hA2.drewN n)).mono ?_); rintro e w4 ⟨rfl, rfl⟩))
  go_ret
  have hs1 := hb1.size
  refine ⟨rfl, below_drewN (hb1.trans (hU2.below (by omega) (fun k hk => ?_))) n⟩
  rcases hk with rfl | hk | hk
  · omega
  · simp [Value.ownBlock] at hk
  · simp [Value.ownBlock] at hk
end Go.Proofs.Ytnejjaebhjgccaa.Ar
