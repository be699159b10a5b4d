/- The reference of the pool: alloc is refused. -/
import Derived.Test.YtllofdfldoaedaaPgRfE
import Derived.Deep.RegionHeld3
namespace Go.Proofs.Ytllofdfldoaedaa.Pg
open Go Go.RowKit Go.Proofs.Ytllofdfldoaedaa.Mem
set_option linter.unusedVariables false
set_option linter.unusedSimpArgs false
section
variable {w0 w : World} {b : Nat} {vD vU : Value} {vs : List Value} {fs : List Fr} {cap : Int} {S : List Asr}
set_option maxHeartbeats 2000000 in
theorem ralloc_no (h : Star w0 w (rp b vD vU vs fs cap S)) (hu : ∀ f ∈ fs, 0 ≤ f.u) (hn : fs.length ≤ 65536) (hc : (usedN fs : Int) = cap) : Calls Try.prog 21 #[.pointer (some ⟨b, 0, none⟩)] w fun e w' => e = .returned (.tuple #[.int .i64 0, .int .i64 (-4)]) ∧ Star w0 w' (rp b vD vU vs fs cap S) := by
  have HS := Lib.hid h
  obtain ⟨-, -, k2⟩ := rp_cells h
  have HU := Lib.hid (fun (W : World) (hs : Star w0 W (rp b vD vU vs fs cap S)) => rused hs hu hn)
  rw [hc] at HU
  have hk1 : w.drew.cell? ⟨b, 2, none⟩ = some (.int .i64 cap) := k2
  clear h hu hc
  go_enter Try.func21, Try.ntmps21
  go_wp2
  go_region_held3 (fun w' => w'.cell? ⟨b, 2, none⟩ = some (.int .i64 cap)) (first | exact hk1)
    (first
    | (go_at_call 27; (with_reducible refine (HU.out _ (star_dr HS.out)).mono ?_); rintro e w2 ⟨rfl, rfl⟩))
  all_goals
    go_wp2
    go_ret2
    exact ⟨rfl, star_dr HS.out⟩
end
end Go.Proofs.Ytllofdfldoaedaa.Pg
