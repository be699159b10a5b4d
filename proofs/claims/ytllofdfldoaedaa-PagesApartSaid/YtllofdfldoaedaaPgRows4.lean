/- The walk of PagesApart, as the row asks it. -/
import Derived.Test.YtllofdfldoaedaaPgApart
import Derived.Test.YtllofdfldoaedaaPgRows
namespace Go.Proofs.Ytllofdfldoaedaa.Pg
open Go Go.RowKit Go.Proofs.Ytllofdfldoaedaa.Mem
set_option linter.unusedVariables false
theorem apart_row (A : Option Addr) (c : Nat) (la : List UInt8) (A' : Option Addr) (c' : Nat) (lb : List UInt8) (a : Int) (ha : (Lit.int .i64 a).wf = true) (b : Int) (hb : (Lit.int .i64 b).wf = true) (w : World)
    (hra : Reads w w.heap.size 1 A la.length (la.map byteU)) (hma : la.length ≤ maxLen) (hrb : Reads w w.heap.size 1 A' lb.length (lb.map byteU)) (hmb : lb.length ≤ maxLen) :
    Calls Try.prog 6 #[.agg #[.slice A la.length c, .slice A' lb.length c', .int .i64 a, .int .i64 b]] w fun e w' => e = .returned (.bool true) ∧ Below w.heap.size w w' := apart_walk A c la A' c' lb a b (int_bd ha) (int_bd hb) w hra hma hrb hmb
end Go.Proofs.Ytllofdfldoaedaa.Pg
