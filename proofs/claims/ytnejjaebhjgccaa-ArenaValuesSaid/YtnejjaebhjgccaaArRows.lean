/- The walks of layer 2, as the rows ask for them. -/
import Derived.Test.YtnejjaebhjgccaaArValues
namespace Go.Proofs.Ytnejjaebhjgccaa.Ar
open Go Go.RowKit Go.Proofs.Ytnejjaebhjgccaa.Mem
set_option linter.unusedVariables false
theorem values_row (A : Option Addr) (c : Nat) (l : List Int) (a : Int) (ha : (Lit.int .i64 a).wf = true) (v : Int) (hv : (Lit.int .i64 v).wf = true) (w : World) (hr : Reads w w.heap.size 1 A l.length (ints l)) (hm : l.length ≤ maxLen) (hw : ∀ x ∈ l, (Lit.int .i64 x).wf = true) :
    Calls Try.prog 3 #[.slice A l.length c, .int .i64 a, .int .i64 v] w fun e w' => e = .returned (.bool true) ∧ Below w.heap.size w w' := values_walk A c l a v w hr
end Go.Proofs.Ytnejjaebhjgccaa.Ar
