/- The tree of tasks: awake. -/
import Derived.Test.YtojmhacafmpbgaaTkQ
namespace Go.Proofs.Ytojmhacafmpbgaa.Tk
open Go Go.RowKit Go.Proofs.Ytojmhacafmpbgaa.Mem
set_option linter.unusedVariables false
set_option linter.unusedSimpArgs false
def awT : Tr := addT (newT 10) 0 rootT 1
def awR : Tr × List Nat := (deadT (deadT awT 1 (newY 1 1 rootT) 9) 0 { rootT with bl := [2] } 9, [2, 1])
theorem aw_make : makeC (newT 10) 1 1 = ((2, 0), awT) := by
  have h : makeSt (newT 10) rootT 1 = 0 := by decide +kernel
  have ht : taskAt (newT 10) 1 = some rootT := rfl
  unfold makeC
  rw [ht]
  simp only
  rw [if_pos h]
  rfl
theorem aw_kill : KillM awT 1 9 awR := by
  unfold KillM
  rw [if_pos (by decide)]
  exact ⟨1, rfl, 10, by omega, rfl⟩
theorem aw_live : awR.1.live = 0 := rfl
set_option maxHeartbeats 1000000 in
theorem awake_any (w : World) : Calls Try.prog 10 #[] w fun e w' => e = .returned (.bool true) ∧ Below w.heap.size w w' := by
  have HN := Lib.hid (new_st (Star.nil w) 10 (by omega) (by omega))
  rw [show ((10 : Nat) : Int) = 10 from rfl] at HN
  have HM := Lib.hid (fun (W : World) (h : Star w W [TT (w.heap.size + 1 + 1) (newT 10)]) => make_st h 0 rfl (wf_new 10) (by simp [newT]) 1 1)
  rw [aw_make] at HM
  have HK := Lib.hid (fun (W : World) (h : Star w W [TT (w.heap.size + 1 + 1) awT]) => kill_st h 0 rfl 1 9 awR aw_kill)
  rw [show killSt awT 1 = 0 by decide, show awR.2 = [2, 1] from rfl] at HK
  have HL := Lib.hid (fun (W : World) (A : Asr) (h : Star w W [A, TT (w.heap.size + 1 + 1) awR.1]) => live_st h 1 rfl)
  rw [aw_live] at HL
  simp only [List.set_cons_zero] at HM HK
  go_enter Try.func10, Try.ntmps10
  go_wp2_with (first
    | (go_at_call 9; (with_reducible refine HN.out.mono ?_); rintro e w1 ⟨rfl, hs1⟩; have HS1 := Lib.hid hs1; clear hs1)
    | (go_at_call 11; (with_reducible refine (HM.out _ HS1.out).mono ?_); rintro e w2 ⟨rfl, hs2⟩; have HS2 := Lib.hid hs2; clear hs2)
    | (go_at_call 12; (with_reducible refine (HK.out _ HS2.out).mono ?_); rintro e w3 ⟨u, rfl, hs3⟩
       obtain ⟨g, o, c, rfl, -, -, -⟩ := (hs3.rowO 0 rfl).form (by simp)
       have d0 : w3.cell? ⟨g, o + 0, none⟩ = some (.int .i64 2) := (hs3.rowO 0 rfl).cellAt 0 (by simp)
       rw [Nat.add_zero] at d0
       have HS3 := Lib.hid hs3
       clear hs3)
    | (go_at_call 13; (with_reducible refine (HL.out _ _ HS3.out).mono ?_); rintro e w4 ⟨rfl, hs4⟩; have HS4 := Lib.hid hs4; clear hs4))
  go_ret
  exact ⟨rfl, HS4.out.below⟩
end Go.Proofs.Ytojmhacafmpbgaa.Tk
