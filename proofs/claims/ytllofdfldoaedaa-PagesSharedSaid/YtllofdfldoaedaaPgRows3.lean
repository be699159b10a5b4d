/- The walk of PagesShared, as the row asks it. -/
import Derived.Test.YtllofdfldoaedaaPgShared
import Derived.Test.YtllofdfldoaedaaPgRows
namespace Go.Proofs.Ytllofdfldoaedaa.Pg
open Go Go.RowKit Go.Proofs.Ytllofdfldoaedaa.Mem
set_option linter.unusedVariables false
theorem shared_row (A : Option Addr) (c : Nat) (la : List UInt8) (a : Int) (ha : (Lit.int .i64 a).wf = true) (w : World) (hr : Reads w w.heap.size 1 A la.length (la.map byteU)) (hm : la.length ≤ maxLen) :
    Calls Try.prog 7 #[.slice A la.length c, .int .i64 a] w fun e w' => e = .returned (.bool true) ∧ Below w.heap.size w w' := shared_walk A c la a (int_bd ha) w hr hm
end Go.Proofs.Ytllofdfldoaedaa.Pg
