/- The walks of package pages' statements, as the rows ask them. -/
import Derived.Test.YtllofdfldoaedaaPgOver
import Derived.Test.YtllofdfldoaedaaArgsB
namespace Go.Proofs.Ytllofdfldoaedaa.Pg
open Go Go.RowKit Go.Proofs.Ytllofdfldoaedaa.Mem
set_option linter.unusedVariables false
theorem int_bd {x : Int} (h : (Lit.int .i64 x).wf = true) : -9223372036854775808 ≤ x ∧ x ≤ 9223372036854775807 := by
  have h2 : IntKind.i64.min ≤ x ∧ x ≤ IntKind.i64.max := by simpa [Lit.wf] using h
  have h3 : IntKind.i64.min = -9223372036854775808 := by decide
  have h4 : IntKind.i64.max = 9223372036854775807 := by decide
  omega
theorem over_row (A : Option Addr) (c : Nat) (la : List UInt8) (A' : Option Addr) (c' : Nat) (lb : List UInt8) (at_ : Int) (hat : (Lit.int .i64 at_).wf = true) (w : World) (hra : Reads w w.heap.size 1 A la.length (la.map byteU)) (hma : la.length ≤ maxLen) (hrb : Reads w w.heap.size 1 A' lb.length (lb.map byteU)) (hmb : lb.length ≤ maxLen) :
    Calls Try.prog 3 #[.slice A la.length c, .slice A' lb.length c', .int .i64 at_] w fun e w' => e = .returned (.bool true) ∧ Below w.heap.size w w' :=
  over_walk A c la A' c' lb at_ w hra hrb hma hmb (int_bd hat)
end Go.Proofs.Ytllofdfldoaedaa.Pg
