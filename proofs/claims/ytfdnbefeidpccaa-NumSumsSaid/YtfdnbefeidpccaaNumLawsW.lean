/- The walks, as the rows ask for them: arguments that are numbers of 64 bits. -/
import Derived.Test.YtfdnbefeidpccaaNumLaws
import Derived.Test.YtfdnbefeidpccaaNumRounds
namespace Go.Proofs.Ytfdnbefeidpccaa.Big
open Go Go.RowKit Go.Proofs.Ytfdnbefeidpccaa.Num
theorem sums_row (a : Int) (ha : (Lit.int .i64 a).wf = true) (b : Int) (hb : (Lit.int .i64 b).wf = true) (w : World) :
    Calls Try.prog 5 #[.int .i64 a, .int .i64 b] w fun e w' => e = .returned (.bool true) ∧ Below w.heap.size w w' := sums_walk a b (wf_i64 ha) (wf_i64 hb) w
theorem products_row (a : Int) (ha : (Lit.int .i64 a).wf = true) (b : Int) (hb : (Lit.int .i64 b).wf = true) (w : World) :
    Calls Try.prog 10 #[.int .i64 a, .int .i64 b] w fun e w' => e = .returned (.bool true) ∧ Below w.heap.size w w' := products_walk a b (wf_i64 ha) (wf_i64 hb) w
theorem rounds_row (a : Int) (ha : (Lit.int .i64 a).wf = true) (b : Int) (hb : (Lit.int .i64 b).wf = true) (w : World) :
    Calls Try.prog 7 #[.int .i64 a, .int .i64 b] w fun e w' => e = .returned (.bool true) ∧ Below w.heap.size w w' := rounds_walk a b (wf_i64 ha) (wf_i64 hb) w
end Go.Proofs.Ytfdnbefeidpccaa.Big
