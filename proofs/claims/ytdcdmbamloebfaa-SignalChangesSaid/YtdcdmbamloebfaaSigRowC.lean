/- The walk of SignalChanges, as its row asks for it. -/
import Derived.Test.YtdcdmbamloebfaaSigChgW
namespace Go.Proofs.Ytdcdmbamloebfaa.Sig
open Go Go.RowKit
set_option linter.unusedVariables false
theorem changes_row (k s c t : Int) (hk : (Lit.int .i64 k).wf = true) (hs : (Lit.int .i64 s).wf = true) (hc : (Lit.int .i64 c).wf = true) (ht : (Lit.int .i64 t).wf = true) (w : World) :
    Calls Try.prog 3 #[.agg #[.int .i64 k, .int .i64 s, .int .i64 c, .int .i64 t]] w fun e w' => e = .returned (.bool true) ∧ Below w.heap.size w w' := changes_walk k s c t w
end Go.Proofs.Ytdcdmbamloebfaa.Sig
