/-
  No cell of these rows narrows 'for every input' (looked for: loops, veiled, ifaces, maps, wideKeys, modest, calm, conditions, laid).
  DERIVED. THE GIVEN ROWS OF THIS SEAT. 5 by the template 'for every input the law returns true; each argument reads behind the call as it read before'; 0 by the template 'total and deterministic' (their statements: YtfahhjbbbimjfaaTotals.lean).
  GIVEN WITH THE SEED: the statements are not yours to turn. If you find one false, say at which input.
  Laid BY PROGRAM, IN A SANDBOX (cutbox-rows.mjs): the forced cells as the released guide's own fill.sh prints them over the translation aa7b3f63b06ada0d… (all of the seat's roots in one cut). By AI agents, Wed Nov 11 2026. No macro, syntax, notation, axiom, sorry.
-/
import Derived.Test.YtfahhjbbbimjfaaChecked
import GoSem.Claim
import GoSem.ClaimJoined
import GoSem.ClaimMapViews
import Derived.JoinedTies
import Derived.KernelRfl
namespace Go.Proofs.Ytfahhjbbbimjfaa
/- THE CELL 'sum', in the pinned program and in every row, IS THE sha256 OF THE DUMP (.gsa) THAT YtfahhjbbbimjfaaProg.lean LOADS. Nothing in Lean hashes anything: it is a label: what it is worth is what the hold of that sum in a sandbox is worth. -/
noncomputable def Try.pinned : Pinned := { name := "ytfahhjbbbimjfaa", sum := "aa7b3f63b06ada0d3a22f9f4576c33f2f0d5b272b59661f8410db48d6083f153", checked := Try.checked }
namespace Rows
def none {H : Type} : Left H := { results := [], args := [] }

/-- 'jacinthlaw03.ListsRefuse': WHATEVER THE INPUT: true; the input reads as it did. -/
def listsRefuseSpec : ChangeSpec := { name := "listsRefuse", fn := fun _ => fun
  | [d1, d2] => { results := [.lit (.bool true)], args := [d1, d2] }
  | _ => none }
def listsRefuseRow : OpenClaim := { program := "ytfahhjbbbimjfaa", sum := "aa7b3f63b06ada0d3a22f9f4576c33f2f0d5b272b59661f8410db48d6083f153", func := "jacinth/jacinthlaw03.ListsRefuse", spec := "listsRefuse", unfollowed := true, recurses := true, apart := false }
def ListsRefuseSaid : Prop := listsRefuseRow.holds Try.pinned (OpenSpec.ofChange listsRefuseSpec)

/-- ITS FALSE NEIGHBOUR: 'it returns false'. Refute it at one input. -/
def listsRefuseWrong : ChangeSpec := { name := "listsRefuse", fn := fun _ => fun
  | [d1, d2] => { results := [.lit (.bool false)], args := [d1, d2] }
  | _ => none }
def ListsRefuseWrongFalsely : Prop := listsRefuseRow.holds Try.pinned (OpenSpec.ofChange listsRefuseWrong)

/-- 'jacinthlaw03.ListsMove': WHATEVER THE INPUT: true; the input reads as it did. -/
def listsMoveSpec : ChangeSpec := { name := "listsMove", fn := fun _ => fun
  | [d1, d2, d3] => { results := [.lit (.bool true)], args := [d1, d2, d3] }
  | _ => none }
def listsMoveRow : OpenClaim := { program := "ytfahhjbbbimjfaa", sum := "aa7b3f63b06ada0d3a22f9f4576c33f2f0d5b272b59661f8410db48d6083f153", func := "jacinth/jacinthlaw03.ListsMove", spec := "listsMove", unfollowed := true, recurses := true, apart := false }
def ListsMoveSaid : Prop := listsMoveRow.holds Try.pinned (OpenSpec.ofChange listsMoveSpec)

/-- ITS FALSE NEIGHBOUR: 'it returns false'. Refute it at one input. -/
def listsMoveWrong : ChangeSpec := { name := "listsMove", fn := fun _ => fun
  | [d1, d2, d3] => { results := [.lit (.bool false)], args := [d1, d2, d3] }
  | _ => none }
def ListsMoveWrongFalsely : Prop := listsMoveRow.holds Try.pinned (OpenSpec.ofChange listsMoveWrong)

/-- 'jacinthlaw03.ListsPlays': WHATEVER THE INPUT: true; the input reads as it did. -/
def listsPlaysSpec : ChangeSpec := { name := "listsPlays", fn := fun _ => fun
  | [d1, d2, d3] => { results := [.lit (.bool true)], args := [d1, d2, d3] }
  | _ => none }
def listsPlaysRow : OpenClaim := { program := "ytfahhjbbbimjfaa", sum := "aa7b3f63b06ada0d3a22f9f4576c33f2f0d5b272b59661f8410db48d6083f153", func := "jacinth/jacinthlaw03.ListsPlays", spec := "listsPlays", unfollowed := true, recurses := true, apart := false }
def ListsPlaysSaid : Prop := listsPlaysRow.holds Try.pinned (OpenSpec.ofChange listsPlaysSpec)

/-- ITS FALSE NEIGHBOUR: 'it returns false'. Refute it at one input. -/
def listsPlaysWrong : ChangeSpec := { name := "listsPlays", fn := fun _ => fun
  | [d1, d2, d3] => { results := [.lit (.bool false)], args := [d1, d2, d3] }
  | _ => none }
def ListsPlaysWrongFalsely : Prop := listsPlaysRow.holds Try.pinned (OpenSpec.ofChange listsPlaysWrong)

/-- 'jacinthlaw03.ListsWhole': WHATEVER THE INPUT: true; the input reads as it did. -/
def listsWholeSpec : ChangeSpec := { name := "listsWhole", fn := fun _ => fun
  | [d] => { results := [.lit (.bool true)], args := [d] }
  | _ => none }
def listsWholeRow : OpenClaim := { program := "ytfahhjbbbimjfaa", sum := "aa7b3f63b06ada0d3a22f9f4576c33f2f0d5b272b59661f8410db48d6083f153", func := "jacinth/jacinthlaw03.ListsWhole", spec := "listsWhole", unfollowed := true, recurses := true, apart := false }
def ListsWholeSaid : Prop := listsWholeRow.holds Try.pinned (OpenSpec.ofChange listsWholeSpec)

/-- ITS FALSE NEIGHBOUR: 'it returns false'. Refute it at one input. -/
def listsWholeWrong : ChangeSpec := { name := "listsWhole", fn := fun _ => fun
  | [d] => { results := [.lit (.bool false)], args := [d] }
  | _ => none }
def ListsWholeWrongFalsely : Prop := listsWholeRow.holds Try.pinned (OpenSpec.ofChange listsWholeWrong)

/-- 'jacinthlaw03.ListsOrder': WHATEVER THE INPUT: true; the input reads as it did. -/
def listsOrderSpec : ChangeSpec := { name := "listsOrder", fn := fun _ => fun
  | [d1, d2] => { results := [.lit (.bool true)], args := [d1, d2] }
  | _ => none }
def listsOrderRow : OpenClaim := { program := "ytfahhjbbbimjfaa", sum := "aa7b3f63b06ada0d3a22f9f4576c33f2f0d5b272b59661f8410db48d6083f153", func := "jacinth/jacinthlaw03.ListsOrder", spec := "listsOrder", unfollowed := true, recurses := true, apart := false }
def ListsOrderSaid : Prop := listsOrderRow.holds Try.pinned (OpenSpec.ofChange listsOrderSpec)

/-- ITS FALSE NEIGHBOUR: 'it returns false'. Refute it at one input. -/
def listsOrderWrong : ChangeSpec := { name := "listsOrder", fn := fun _ => fun
  | [d1, d2] => { results := [.lit (.bool false)], args := [d1, d2] }
  | _ => none }
def ListsOrderWrongFalsely : Prop := listsOrderRow.holds Try.pinned (OpenSpec.ofChange listsOrderWrong)

/- THE SECOND FORM. 'bulk': how many values and letters a reading holds, each counted each time it is reached (what is shared counts as often as it is met; a slice's spare places count too). A statement '..UptoSaid' is the law's where the arguments, and the package variables that the reading takes, are together of bulk at most 1048576: NARROWER than '..Said'. Prove '..Said' where nothing that the law and all that it calls make is longer than what came in: it says more and counts as full. Else prove '..UptoSaid'. A law counts once. -/
mutual
def uptoBulk {H : Type} : DataW H → Nat
  | .lit (.string bytes) => bytes.length + 1
  | .lit _ => 1
  | .nil => 1
  | .ptr d => uptoBulk d + 1
  | .slice elems spare => uptoBulkAll elems + uptoBulkAll spare + 1
  | .agg parts => uptoBulkAll parts + 1
  | .iface _ d => uptoBulk d + 1
  | .map entries => uptoBulkEntries entries + 1
  | .held _ => 1
def uptoBulkAll {H : Type} : List (DataW H) → Nat
  | [] => 0
  | d :: r => uptoBulk d + uptoBulkAll r
def uptoBulkEntries {H : Type} : List (Lit × DataW H) → Nat
  | [] => 0
  | x :: r => uptoBulkEntry x + uptoBulkEntries r
def uptoBulkEntry {H : Type} : Lit × DataW H → Nat
  | (.string bytes, d) => bytes.length + uptoBulk d + 1
  | (_, d) => uptoBulk d + 1
 end
def uptoSmall : (H : Type) → List (DataW H) → Bool := fun _ ds => decide (uptoBulkAll ds ≤ 1048576)
def OpenSpec.upto (s : _root_.Go.ChangeSpec) : _root_.Go.OpenSpec := { _root_.Go.OpenSpec.ofChange s with cond := some uptoSmall }

/-- 'jacinthlaw03.ListsRefuse', WHERE WHAT IT READS IS OF BULK AT MOST 1048576: true; the input reads as it did. -/
def listsRefuseUptoRow : OpenClaim := { program := "ytfahhjbbbimjfaa", sum := "aa7b3f63b06ada0d3a22f9f4576c33f2f0d5b272b59661f8410db48d6083f153", func := "jacinth/jacinthlaw03.ListsRefuse", spec := "listsRefuse", unfollowed := true, recurses := true, apart := false, narrowed := true }
def ListsRefuseUptoSaid : Prop := listsRefuseUptoRow.holds Try.pinned (OpenSpec.upto listsRefuseSpec)

/-- 'jacinthlaw03.ListsMove', WHERE WHAT IT READS IS OF BULK AT MOST 1048576: true; the input reads as it did. -/
def listsMoveUptoRow : OpenClaim := { program := "ytfahhjbbbimjfaa", sum := "aa7b3f63b06ada0d3a22f9f4576c33f2f0d5b272b59661f8410db48d6083f153", func := "jacinth/jacinthlaw03.ListsMove", spec := "listsMove", unfollowed := true, recurses := true, apart := false, narrowed := true }
def ListsMoveUptoSaid : Prop := listsMoveUptoRow.holds Try.pinned (OpenSpec.upto listsMoveSpec)

/-- 'jacinthlaw03.ListsPlays', WHERE WHAT IT READS IS OF BULK AT MOST 1048576: true; the input reads as it did. -/
def listsPlaysUptoRow : OpenClaim := { program := "ytfahhjbbbimjfaa", sum := "aa7b3f63b06ada0d3a22f9f4576c33f2f0d5b272b59661f8410db48d6083f153", func := "jacinth/jacinthlaw03.ListsPlays", spec := "listsPlays", unfollowed := true, recurses := true, apart := false, narrowed := true }
def ListsPlaysUptoSaid : Prop := listsPlaysUptoRow.holds Try.pinned (OpenSpec.upto listsPlaysSpec)

/-- 'jacinthlaw03.ListsWhole', WHERE WHAT IT READS IS OF BULK AT MOST 1048576: true; the input reads as it did. -/
def listsWholeUptoRow : OpenClaim := { program := "ytfahhjbbbimjfaa", sum := "aa7b3f63b06ada0d3a22f9f4576c33f2f0d5b272b59661f8410db48d6083f153", func := "jacinth/jacinthlaw03.ListsWhole", spec := "listsWhole", unfollowed := true, recurses := true, apart := false, narrowed := true }
def ListsWholeUptoSaid : Prop := listsWholeUptoRow.holds Try.pinned (OpenSpec.upto listsWholeSpec)

/-- 'jacinthlaw03.ListsOrder', WHERE WHAT IT READS IS OF BULK AT MOST 1048576: true; the input reads as it did. -/
def listsOrderUptoRow : OpenClaim := { program := "ytfahhjbbbimjfaa", sum := "aa7b3f63b06ada0d3a22f9f4576c33f2f0d5b272b59661f8410db48d6083f153", func := "jacinth/jacinthlaw03.ListsOrder", spec := "listsOrder", unfollowed := true, recurses := true, apart := false, narrowed := true }
def ListsOrderUptoSaid : Prop := listsOrderUptoRow.holds Try.pinned (OpenSpec.upto listsOrderSpec)

end Rows
end Go.Proofs.Ytfahhjbbbimjfaa
