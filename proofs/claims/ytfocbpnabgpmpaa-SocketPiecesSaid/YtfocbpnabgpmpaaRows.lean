/-
  No cell of these rows narrows 'for every input' (looked for: loops, veiled, ifaces, maps, wideKeys, modest, calm, conditions, laid).
  DERIVED. THE GIVEN ROWS OF THIS SEAT. 5 by the template 'for every input the law returns true; each argument reads behind the call as it read before'; 0 by the template 'total and deterministic' (their statements: YtfocbpnabgpmpaaTotals.lean).
  GIVEN WITH THE SEED: the statements are not yours to turn. If you find one false, say at which input.
  Laid BY PROGRAM, IN A SANDBOX (cutbox-rows.mjs): the forced cells as the released guide's own fill.sh prints them over the translation 7d25f1f1936aa4c5… (all of the seat's roots in one cut). By AI agents, Wed Nov 11 2026. No macro, syntax, notation, axiom, sorry.
-/
import Derived.Test.YtfocbpnabgpmpaaChecked
import GoSem.Claim
import GoSem.ClaimJoined
import GoSem.ClaimMapViews
import Derived.JoinedTies
import Derived.KernelRfl
namespace Go.Proofs.Ytfocbpnabgpmpaa
/- THE CELL 'sum', in the pinned program and in every row, IS THE sha256 OF THE DUMP (.gsa) THAT YtfocbpnabgpmpaaProg.lean LOADS. Nothing in Lean hashes anything: it is a label: what it is worth is what the hold of that sum in a sandbox is worth. -/
noncomputable def Try.pinned : Pinned := { name := "ytfocbpnabgpmpaa", sum := "7d25f1f1936aa4c5154a5d8fb51cb474486d37c1738ec6d6e2e7509136b73c13", checked := Try.checked }
namespace Rows
def none {H : Type} : Left H := { results := [], args := [] }

/-- 'jacinthlaw12.SocketStream': WHATEVER THE INPUT: true; the input reads as it did. -/
def socketStreamSpec : ChangeSpec := { name := "socketStream", fn := fun _ => fun
  | [d1, d2] => { results := [.lit (.bool true)], args := [d1, d2] }
  | _ => none }
def socketStreamRow : OpenClaim := { program := "ytfocbpnabgpmpaa", sum := "7d25f1f1936aa4c5154a5d8fb51cb474486d37c1738ec6d6e2e7509136b73c13", func := "jacinth/jacinthlaw12.SocketStream", spec := "socketStream", apart := false }
def SocketStreamSaid : Prop := socketStreamRow.holds Try.pinned (OpenSpec.ofChange socketStreamSpec)

/-- ITS FALSE NEIGHBOUR: 'it returns false'. Refute it at one input. -/
def socketStreamWrong : ChangeSpec := { name := "socketStream", fn := fun _ => fun
  | [d1, d2] => { results := [.lit (.bool false)], args := [d1, d2] }
  | _ => none }
def SocketStreamWrongFalsely : Prop := socketStreamRow.holds Try.pinned (OpenSpec.ofChange socketStreamWrong)

/-- 'jacinthlaw12.SocketRoom': WHATEVER THE INPUT: true; the input reads as it did. -/
def socketRoomSpec : ChangeSpec := { name := "socketRoom", fn := fun _ => fun
  | [d1, d2, d3] => { results := [.lit (.bool true)], args := [d1, d2, d3] }
  | _ => none }
def socketRoomRow : OpenClaim := { program := "ytfocbpnabgpmpaa", sum := "7d25f1f1936aa4c5154a5d8fb51cb474486d37c1738ec6d6e2e7509136b73c13", func := "jacinth/jacinthlaw12.SocketRoom", spec := "socketRoom", apart := false }
def SocketRoomSaid : Prop := socketRoomRow.holds Try.pinned (OpenSpec.ofChange socketRoomSpec)

/-- ITS FALSE NEIGHBOUR: 'it returns false'. Refute it at one input. -/
def socketRoomWrong : ChangeSpec := { name := "socketRoom", fn := fun _ => fun
  | [d1, d2, d3] => { results := [.lit (.bool false)], args := [d1, d2, d3] }
  | _ => none }
def SocketRoomWrongFalsely : Prop := socketRoomRow.holds Try.pinned (OpenSpec.ofChange socketRoomWrong)

/-- 'jacinthlaw12.SocketPieces': WHATEVER THE INPUT: true; the input reads as it did. -/
def socketPiecesSpec : ChangeSpec := { name := "socketPieces", fn := fun _ => fun
  | [d1, d2] => { results := [.lit (.bool true)], args := [d1, d2] }
  | _ => none }
def socketPiecesRow : OpenClaim := { program := "ytfocbpnabgpmpaa", sum := "7d25f1f1936aa4c5154a5d8fb51cb474486d37c1738ec6d6e2e7509136b73c13", func := "jacinth/jacinthlaw12.SocketPieces", spec := "socketPieces", apart := false }
def SocketPiecesSaid : Prop := socketPiecesRow.holds Try.pinned (OpenSpec.ofChange socketPiecesSpec)

/-- ITS FALSE NEIGHBOUR: 'it returns false'. Refute it at one input. -/
def socketPiecesWrong : ChangeSpec := { name := "socketPieces", fn := fun _ => fun
  | [d1, d2] => { results := [.lit (.bool false)], args := [d1, d2] }
  | _ => none }
def SocketPiecesWrongFalsely : Prop := socketPiecesRow.holds Try.pinned (OpenSpec.ofChange socketPiecesWrong)

/-- 'jacinthlaw12.SocketShuts': WHATEVER THE INPUT: true; the input reads as it did. -/
def socketShutsSpec : ChangeSpec := { name := "socketShuts", fn := fun _ => fun
  | [d1, d2, d3] => { results := [.lit (.bool true)], args := [d1, d2, d3] }
  | _ => none }
def socketShutsRow : OpenClaim := { program := "ytfocbpnabgpmpaa", sum := "7d25f1f1936aa4c5154a5d8fb51cb474486d37c1738ec6d6e2e7509136b73c13", func := "jacinth/jacinthlaw12.SocketShuts", spec := "socketShuts", apart := false }
def SocketShutsSaid : Prop := socketShutsRow.holds Try.pinned (OpenSpec.ofChange socketShutsSpec)

/-- ITS FALSE NEIGHBOUR: 'it returns false'. Refute it at one input. -/
def socketShutsWrong : ChangeSpec := { name := "socketShuts", fn := fun _ => fun
  | [d1, d2, d3] => { results := [.lit (.bool false)], args := [d1, d2, d3] }
  | _ => none }
def SocketShutsWrongFalsely : Prop := socketShutsRow.holds Try.pinned (OpenSpec.ofChange socketShutsWrong)

/-- 'jacinthlaw12.SocketPlays': WHATEVER THE INPUT: true; the input reads as it did. -/
def socketPlaysSpec : ChangeSpec := { name := "socketPlays", fn := fun _ => fun
  | [d1, d2, d3] => { results := [.lit (.bool true)], args := [d1, d2, d3] }
  | _ => none }
def socketPlaysRow : OpenClaim := { program := "ytfocbpnabgpmpaa", sum := "7d25f1f1936aa4c5154a5d8fb51cb474486d37c1738ec6d6e2e7509136b73c13", func := "jacinth/jacinthlaw12.SocketPlays", spec := "socketPlays", apart := false }
def SocketPlaysSaid : Prop := socketPlaysRow.holds Try.pinned (OpenSpec.ofChange socketPlaysSpec)

/-- ITS FALSE NEIGHBOUR: 'it returns false'. Refute it at one input. -/
def socketPlaysWrong : ChangeSpec := { name := "socketPlays", fn := fun _ => fun
  | [d1, d2, d3] => { results := [.lit (.bool false)], args := [d1, d2, d3] }
  | _ => none }
def SocketPlaysWrongFalsely : Prop := socketPlaysRow.holds Try.pinned (OpenSpec.ofChange socketPlaysWrong)

/- THE SECOND FORM. 'bulk': how many values and letters a reading holds, each counted each time it is reached (what is shared counts as often as it is met; a slice's spare places count too). A statement '..UptoSaid' is the law's where the arguments, and the package variables that the reading takes, are together of bulk at most 1048576: NARROWER than '..Said'. Prove '..Said' where nothing that the law and all that it calls make is longer than what came in: it says more and counts as full. Else prove '..UptoSaid'. A law counts once. -/
mutual
def uptoBulk {H : Type} : DataW H → Nat
  | .lit (.string bytes) => bytes.length + 1
  | .lit _ => 1
  | .nil => 1
  | .ptr d => uptoBulk d + 1
  | .slice elems spare => uptoBulkAll elems + uptoBulkAll spare + 1
  | .agg parts => uptoBulkAll parts + 1
  | .iface _ d => uptoBulk d + 1
  | .map entries => uptoBulkEntries entries + 1
  | .held _ => 1
def uptoBulkAll {H : Type} : List (DataW H) → Nat
  | [] => 0
  | d :: r => uptoBulk d + uptoBulkAll r
def uptoBulkEntries {H : Type} : List (Lit × DataW H) → Nat
  | [] => 0
  | x :: r => uptoBulkEntry x + uptoBulkEntries r
def uptoBulkEntry {H : Type} : Lit × DataW H → Nat
  | (.string bytes, d) => bytes.length + uptoBulk d + 1
  | (_, d) => uptoBulk d + 1
 end
def uptoSmall : (H : Type) → List (DataW H) → Bool := fun _ ds => decide (uptoBulkAll ds ≤ 1048576)
def OpenSpec.upto (s : _root_.Go.ChangeSpec) : _root_.Go.OpenSpec := { _root_.Go.OpenSpec.ofChange s with cond := some uptoSmall }

/-- 'jacinthlaw12.SocketStream', WHERE WHAT IT READS IS OF BULK AT MOST 1048576: true; the input reads as it did. -/
def socketStreamUptoRow : OpenClaim := { program := "ytfocbpnabgpmpaa", sum := "7d25f1f1936aa4c5154a5d8fb51cb474486d37c1738ec6d6e2e7509136b73c13", func := "jacinth/jacinthlaw12.SocketStream", spec := "socketStream", apart := false, narrowed := true }
def SocketStreamUptoSaid : Prop := socketStreamUptoRow.holds Try.pinned (OpenSpec.upto socketStreamSpec)

/-- 'jacinthlaw12.SocketRoom', WHERE WHAT IT READS IS OF BULK AT MOST 1048576: true; the input reads as it did. -/
def socketRoomUptoRow : OpenClaim := { program := "ytfocbpnabgpmpaa", sum := "7d25f1f1936aa4c5154a5d8fb51cb474486d37c1738ec6d6e2e7509136b73c13", func := "jacinth/jacinthlaw12.SocketRoom", spec := "socketRoom", apart := false, narrowed := true }
def SocketRoomUptoSaid : Prop := socketRoomUptoRow.holds Try.pinned (OpenSpec.upto socketRoomSpec)

/-- 'jacinthlaw12.SocketPieces', WHERE WHAT IT READS IS OF BULK AT MOST 1048576: true; the input reads as it did. -/
def socketPiecesUptoRow : OpenClaim := { program := "ytfocbpnabgpmpaa", sum := "7d25f1f1936aa4c5154a5d8fb51cb474486d37c1738ec6d6e2e7509136b73c13", func := "jacinth/jacinthlaw12.SocketPieces", spec := "socketPieces", apart := false, narrowed := true }
def SocketPiecesUptoSaid : Prop := socketPiecesUptoRow.holds Try.pinned (OpenSpec.upto socketPiecesSpec)

/-- 'jacinthlaw12.SocketShuts', WHERE WHAT IT READS IS OF BULK AT MOST 1048576: true; the input reads as it did. -/
def socketShutsUptoRow : OpenClaim := { program := "ytfocbpnabgpmpaa", sum := "7d25f1f1936aa4c5154a5d8fb51cb474486d37c1738ec6d6e2e7509136b73c13", func := "jacinth/jacinthlaw12.SocketShuts", spec := "socketShuts", apart := false, narrowed := true }
def SocketShutsUptoSaid : Prop := socketShutsUptoRow.holds Try.pinned (OpenSpec.upto socketShutsSpec)

/-- 'jacinthlaw12.SocketPlays', WHERE WHAT IT READS IS OF BULK AT MOST 1048576: true; the input reads as it did. -/
def socketPlaysUptoRow : OpenClaim := { program := "ytfocbpnabgpmpaa", sum := "7d25f1f1936aa4c5154a5d8fb51cb474486d37c1738ec6d6e2e7509136b73c13", func := "jacinth/jacinthlaw12.SocketPlays", spec := "socketPlays", apart := false, narrowed := true }
def SocketPlaysUptoSaid : Prop := socketPlaysUptoRow.holds Try.pinned (OpenSpec.upto socketPlaysSpec)

end Rows
end Go.Proofs.Ytfocbpnabgpmpaa
