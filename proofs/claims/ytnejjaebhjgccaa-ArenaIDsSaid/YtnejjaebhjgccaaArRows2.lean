/- The walk of ArenaIDs, as the row asks for it. -/
import Derived.Test.YtnejjaebhjgccaaArIDs
namespace Go.Proofs.Ytnejjaebhjgccaa.Ar
open Go Go.RowKit Go.Proofs.Ytnejjaebhjgccaa.Mem
set_option linter.unusedVariables false
theorem ids_row (a : Int) (ha : (Lit.int .i64 a).wf = true) (b : Int) (hb : (Lit.int .i64 b).wf = true) (w : World) :
    Calls Try.prog 6 #[.int .i64 a, .int .i64 b] w fun e w' => e = .returned (.bool true) ∧ Below w.heap.size w w' := ids_walk a b ha w
end Go.Proofs.Ytnejjaebhjgccaa.Ar
