/- The walk of PagesRoom, as the row asks it. -/
import Derived.Test.YtllofdfldoaedaaPgRoom
import Derived.Test.YtllofdfldoaedaaPgRows
namespace Go.Proofs.Ytllofdfldoaedaa.Pg
open Go Go.RowKit Go.Proofs.Ytllofdfldoaedaa.Mem
set_option linter.unusedVariables false
theorem room_row (a : Int) (ha : (Lit.int .i64 a).wf = true) (A : Option Addr) (c : Nat) (l : List Int) (w : World) (hr : Reads w w.heap.size 1 A l.length (l.map (.int .i64))) (hm : l.length ≤ maxLen) (hw : ∀ x ∈ l, (Lit.int .i64 x).wf = true) :
    Calls Try.prog 4 #[.int .i64 a, .slice A l.length c] w fun e w' => e = .returned (.bool true) ∧ Below w.heap.size w w' := room_walk a (int_bd ha) A c l w hr hm (fun x hx => int_bd (hw x hx))
end Go.Proofs.Ytllofdfldoaedaa.Pg
