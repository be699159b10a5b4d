/-
  No cell of these rows narrows 'for every input' (looked for: loops, veiled, ifaces, maps, wideKeys, modest, calm, conditions, laid).
  DERIVED. THE GIVEN ROWS OF THIS SEAT. 5 by the template 'for every input the law returns true; each argument reads behind the call as it read before'; 0 by the template 'total and deterministic' (their statements: YtaiggfoeobehlaaTotals.lean).
  GIVEN WITH THE SEED: the statements are not yours to turn. If you find one false, say at which input.
  Laid BY PROGRAM, IN A SANDBOX (cutbox-rows.mjs): the forced cells as the released guide's own fill.sh prints them over the translation a8c09b9a6beada3e… (all of the seat's roots in one cut). By AI agents, Wed Nov 11 2026. No macro, syntax, notation, axiom, sorry.
-/
import Derived.Test.YtaiggfoeobehlaaChecked
import GoSem.Claim
import GoSem.ClaimJoined
import GoSem.ClaimMapViews
import Derived.JoinedTies
import Derived.KernelRfl
namespace Go.Proofs.Ytaiggfoeobehlaa
/- THE CELL 'sum', in the pinned program and in every row, IS THE sha256 OF THE DUMP (.gsa) THAT YtaiggfoeobehlaaProg.lean LOADS. Nothing in Lean hashes anything: it is a label: what it is worth is what the hold of that sum in a sandbox is worth. -/
noncomputable def Try.pinned : Pinned := { name := "ytaiggfoeobehlaa", sum := "a8c09b9a6beada3eecdff870bb82b75cc585c463c2cfac8ce32beda70fe1d5cb", checked := Try.checked }
namespace Rows
def none {H : Type} : Left H := { results := [], args := [] }

/-- 'jacinthlaw13.FifoOrder': WHATEVER THE INPUT: true; the input reads as it did. -/
def fifoOrderSpec : ChangeSpec := { name := "fifoOrder", fn := fun _ => fun
  | [d1, d2, d3] => { results := [.lit (.bool true)], args := [d1, d2, d3] }
  | _ => none }
def fifoOrderRow : OpenClaim := { program := "ytaiggfoeobehlaa", sum := "a8c09b9a6beada3eecdff870bb82b75cc585c463c2cfac8ce32beda70fe1d5cb", func := "jacinth/jacinthlaw13.FifoOrder", spec := "fifoOrder", unfollowed := true, recurses := true, apart := false }
def FifoOrderSaid : Prop := fifoOrderRow.holds Try.pinned (OpenSpec.ofChange fifoOrderSpec)

/-- ITS FALSE NEIGHBOUR: 'it returns false'. Refute it at one input. -/
def fifoOrderWrong : ChangeSpec := { name := "fifoOrder", fn := fun _ => fun
  | [d1, d2, d3] => { results := [.lit (.bool false)], args := [d1, d2, d3] }
  | _ => none }
def FifoOrderWrongFalsely : Prop := fifoOrderRow.holds Try.pinned (OpenSpec.ofChange fifoOrderWrong)

/-- 'jacinthlaw13.FifoOwn': WHATEVER THE INPUT: true; the input reads as it did. -/
def fifoOwnSpec : ChangeSpec := { name := "fifoOwn", fn := fun _ => fun
  | [d1, d2] => { results := [.lit (.bool true)], args := [d1, d2] }
  | _ => none }
def fifoOwnRow : OpenClaim := { program := "ytaiggfoeobehlaa", sum := "a8c09b9a6beada3eecdff870bb82b75cc585c463c2cfac8ce32beda70fe1d5cb", func := "jacinth/jacinthlaw13.FifoOwn", spec := "fifoOwn", unfollowed := true, recurses := true, apart := false }
def FifoOwnSaid : Prop := fifoOwnRow.holds Try.pinned (OpenSpec.ofChange fifoOwnSpec)

/-- ITS FALSE NEIGHBOUR: 'it returns false'. Refute it at one input. -/
def fifoOwnWrong : ChangeSpec := { name := "fifoOwn", fn := fun _ => fun
  | [d1, d2] => { results := [.lit (.bool false)], args := [d1, d2] }
  | _ => none }
def FifoOwnWrongFalsely : Prop := fifoOwnRow.holds Try.pinned (OpenSpec.ofChange fifoOwnWrong)

/-- 'jacinthlaw13.FifoSizes': WHATEVER THE INPUT: true; the input reads as it did. -/
def fifoSizesSpec : ChangeSpec := { name := "fifoSizes", fn := fun _ => fun
  | [d1, d2] => { results := [.lit (.bool true)], args := [d1, d2] }
  | _ => none }
def fifoSizesRow : OpenClaim := { program := "ytaiggfoeobehlaa", sum := "a8c09b9a6beada3eecdff870bb82b75cc585c463c2cfac8ce32beda70fe1d5cb", func := "jacinth/jacinthlaw13.FifoSizes", spec := "fifoSizes", unfollowed := true, recurses := true, apart := false }
def FifoSizesSaid : Prop := fifoSizesRow.holds Try.pinned (OpenSpec.ofChange fifoSizesSpec)

/-- ITS FALSE NEIGHBOUR: 'it returns false'. Refute it at one input. -/
def fifoSizesWrong : ChangeSpec := { name := "fifoSizes", fn := fun _ => fun
  | [d1, d2] => { results := [.lit (.bool false)], args := [d1, d2] }
  | _ => none }
def FifoSizesWrongFalsely : Prop := fifoSizesRow.holds Try.pinned (OpenSpec.ofChange fifoSizesWrong)

/-- 'jacinthlaw13.FifoPlays': WHATEVER THE INPUT: true; the input reads as it did. -/
def fifoPlaysSpec : ChangeSpec := { name := "fifoPlays", fn := fun _ => fun
  | [d1, d2, d3] => { results := [.lit (.bool true)], args := [d1, d2, d3] }
  | _ => none }
def fifoPlaysRow : OpenClaim := { program := "ytaiggfoeobehlaa", sum := "a8c09b9a6beada3eecdff870bb82b75cc585c463c2cfac8ce32beda70fe1d5cb", func := "jacinth/jacinthlaw13.FifoPlays", spec := "fifoPlays", unfollowed := true, recurses := true, apart := false }
def FifoPlaysSaid : Prop := fifoPlaysRow.holds Try.pinned (OpenSpec.ofChange fifoPlaysSpec)

/-- ITS FALSE NEIGHBOUR: 'it returns false'. Refute it at one input. -/
def fifoPlaysWrong : ChangeSpec := { name := "fifoPlays", fn := fun _ => fun
  | [d1, d2, d3] => { results := [.lit (.bool false)], args := [d1, d2, d3] }
  | _ => none }
def FifoPlaysWrongFalsely : Prop := fifoPlaysRow.holds Try.pinned (OpenSpec.ofChange fifoPlaysWrong)

/-- 'jacinthlaw13.FifoEnds': WHATEVER THE INPUT: true; the input reads as it did. -/
def fifoEndsSpec : ChangeSpec := { name := "fifoEnds", fn := fun _ => fun
  | [d1, d2, d3] => { results := [.lit (.bool true)], args := [d1, d2, d3] }
  | _ => none }
def fifoEndsRow : OpenClaim := { program := "ytaiggfoeobehlaa", sum := "a8c09b9a6beada3eecdff870bb82b75cc585c463c2cfac8ce32beda70fe1d5cb", func := "jacinth/jacinthlaw13.FifoEnds", spec := "fifoEnds", unfollowed := true, recurses := true, apart := false }
def FifoEndsSaid : Prop := fifoEndsRow.holds Try.pinned (OpenSpec.ofChange fifoEndsSpec)

/-- ITS FALSE NEIGHBOUR: 'it returns false'. Refute it at one input. -/
def fifoEndsWrong : ChangeSpec := { name := "fifoEnds", fn := fun _ => fun
  | [d1, d2, d3] => { results := [.lit (.bool false)], args := [d1, d2, d3] }
  | _ => none }
def FifoEndsWrongFalsely : Prop := fifoEndsRow.holds Try.pinned (OpenSpec.ofChange fifoEndsWrong)

/- THE SECOND FORM. 'bulk': how many values and letters a reading holds, each counted each time it is reached (what is shared counts as often as it is met; a slice's spare places count too). A statement '..UptoSaid' is the law's where the arguments, and the package variables that the reading takes, are together of bulk at most 1048576: NARROWER than '..Said'. Prove '..Said' where nothing that the law and all that it calls make is longer than what came in: it says more and counts as full. Else prove '..UptoSaid'. A law counts once. -/
mutual
def uptoBulk {H : Type} : DataW H → Nat
  | .lit (.string bytes) => bytes.length + 1
  | .lit _ => 1
  | .nil => 1
  | .ptr d => uptoBulk d + 1
  | .slice elems spare => uptoBulkAll elems + uptoBulkAll spare + 1
  | .agg parts => uptoBulkAll parts + 1
  | .iface _ d => uptoBulk d + 1
  | .map entries => uptoBulkEntries entries + 1
  | .held _ => 1
def uptoBulkAll {H : Type} : List (DataW H) → Nat
  | [] => 0
  | d :: r => uptoBulk d + uptoBulkAll r
def uptoBulkEntries {H : Type} : List (Lit × DataW H) → Nat
  | [] => 0
  | x :: r => uptoBulkEntry x + uptoBulkEntries r
def uptoBulkEntry {H : Type} : Lit × DataW H → Nat
  | (.string bytes, d) => bytes.length + uptoBulk d + 1
  | (_, d) => uptoBulk d + 1
 end
def uptoSmall : (H : Type) → List (DataW H) → Bool := fun _ ds => decide (uptoBulkAll ds ≤ 1048576)
def OpenSpec.upto (s : _root_.Go.ChangeSpec) : _root_.Go.OpenSpec := { _root_.Go.OpenSpec.ofChange s with cond := some uptoSmall }

/-- 'jacinthlaw13.FifoOrder', WHERE WHAT IT READS IS OF BULK AT MOST 1048576: true; the input reads as it did. -/
def fifoOrderUptoRow : OpenClaim := { program := "ytaiggfoeobehlaa", sum := "a8c09b9a6beada3eecdff870bb82b75cc585c463c2cfac8ce32beda70fe1d5cb", func := "jacinth/jacinthlaw13.FifoOrder", spec := "fifoOrder", unfollowed := true, recurses := true, apart := false, narrowed := true }
def FifoOrderUptoSaid : Prop := fifoOrderUptoRow.holds Try.pinned (OpenSpec.upto fifoOrderSpec)

/-- 'jacinthlaw13.FifoOwn', WHERE WHAT IT READS IS OF BULK AT MOST 1048576: true; the input reads as it did. -/
def fifoOwnUptoRow : OpenClaim := { program := "ytaiggfoeobehlaa", sum := "a8c09b9a6beada3eecdff870bb82b75cc585c463c2cfac8ce32beda70fe1d5cb", func := "jacinth/jacinthlaw13.FifoOwn", spec := "fifoOwn", unfollowed := true, recurses := true, apart := false, narrowed := true }
def FifoOwnUptoSaid : Prop := fifoOwnUptoRow.holds Try.pinned (OpenSpec.upto fifoOwnSpec)

/-- 'jacinthlaw13.FifoSizes', WHERE WHAT IT READS IS OF BULK AT MOST 1048576: true; the input reads as it did. -/
def fifoSizesUptoRow : OpenClaim := { program := "ytaiggfoeobehlaa", sum := "a8c09b9a6beada3eecdff870bb82b75cc585c463c2cfac8ce32beda70fe1d5cb", func := "jacinth/jacinthlaw13.FifoSizes", spec := "fifoSizes", unfollowed := true, recurses := true, apart := false, narrowed := true }
def FifoSizesUptoSaid : Prop := fifoSizesUptoRow.holds Try.pinned (OpenSpec.upto fifoSizesSpec)

/-- 'jacinthlaw13.FifoPlays', WHERE WHAT IT READS IS OF BULK AT MOST 1048576: true; the input reads as it did. -/
def fifoPlaysUptoRow : OpenClaim := { program := "ytaiggfoeobehlaa", sum := "a8c09b9a6beada3eecdff870bb82b75cc585c463c2cfac8ce32beda70fe1d5cb", func := "jacinth/jacinthlaw13.FifoPlays", spec := "fifoPlays", unfollowed := true, recurses := true, apart := false, narrowed := true }
def FifoPlaysUptoSaid : Prop := fifoPlaysUptoRow.holds Try.pinned (OpenSpec.upto fifoPlaysSpec)

/-- 'jacinthlaw13.FifoEnds', WHERE WHAT IT READS IS OF BULK AT MOST 1048576: true; the input reads as it did. -/
def fifoEndsUptoRow : OpenClaim := { program := "ytaiggfoeobehlaa", sum := "a8c09b9a6beada3eecdff870bb82b75cc585c463c2cfac8ce32beda70fe1d5cb", func := "jacinth/jacinthlaw13.FifoEnds", spec := "fifoEnds", unfollowed := true, recurses := true, apart := false, narrowed := true }
def FifoEndsUptoSaid : Prop := fifoEndsUptoRow.holds Try.pinned (OpenSpec.upto fifoEndsSpec)

end Rows
end Go.Proofs.Ytaiggfoeobehlaa
