/- The walk of ArenaPlays, as the row asks for it. -/
import Derived.Test.YtnejjaebhjgccaaArPlays
namespace Go.Proofs.Ytnejjaebhjgccaa.Ar
open Go Go.RowKit Go.Proofs.Ytnejjaebhjgccaa.Mem
set_option linter.unusedVariables false
theorem plays_row (a : Int) (ha : (Lit.int .i64 a).wf = true) (A : Option Addr) (c : Nat) (l : List (List Int)) (w : World) (hr : Reads w w.heap.size 4 A l.length (opsV l)) (hm : l.length ≤ maxLen) (hw : ∀ r ∈ l, r.length = 4 ∧ ∀ x ∈ r, (Lit.int .i64 x).wf = true) :
    Calls Try.prog 8 #[.int .i64 a, .slice A l.length c] w fun e w' => e = .returned (.bool true) ∧ Below w.heap.size w w' := plays_walk a A c l w hr hw
end Go.Proofs.Ytnejjaebhjgccaa.Ar
