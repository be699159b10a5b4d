/-
  No cell of these rows narrows 'for every input' (looked for: loops, veiled, ifaces, maps, wideKeys, modest, calm, conditions, laid).
  DERIVED. THE GIVEN ROWS OF THIS SEAT. 6 by the template 'for every input the law returns true; each argument reads behind the call as it read before'; 0 by the template 'total and deterministic' (their statements: YtllofdfldoaedaaTotals.lean).
  GIVEN WITH THE SEED: the statements are not yours to turn. If you find one false, say at which input.
  Laid BY PROGRAM, IN A SANDBOX (cutbox-rows.mjs): the forced cells as the released guide's own fill.sh prints them over the translation 3937923113b47309… (all of the seat's roots in one cut). By AI agents, Wed Nov 11 2026. No macro, syntax, notation, axiom, sorry.
-/
import Derived.Test.YtllofdfldoaedaaChecked
import GoSem.Claim
import GoSem.ClaimJoined
import GoSem.ClaimMapViews
import Derived.JoinedTies
import Derived.KernelRfl
namespace Go.Proofs.Ytllofdfldoaedaa
/- THE CELL 'sum', in the pinned program and in every row, IS THE sha256 OF THE DUMP (.gsa) THAT YtllofdfldoaedaaProg.lean LOADS. Nothing in Lean hashes anything: it is a label: what it is worth is what the hold of that sum in a sandbox is worth. -/
noncomputable def Try.pinned : Pinned := { name := "ytllofdfldoaedaa", sum := "3937923113b473098f2d6c73ea29779558f54cfd45a88b73816e8baaf63377e6", checked := Try.checked }
namespace Rows
def none {H : Type} : Left H := { results := [], args := [] }

/-- 'jacinthlaw07.PagesOver': WHATEVER THE INPUT: true; the input reads as it did. -/
def pagesOverSpec : ChangeSpec := { name := "pagesOver", fn := fun _ => fun
  | [d1, d2, d3] => { results := [.lit (.bool true)], args := [d1, d2, d3] }
  | _ => none }
def pagesOverRow : OpenClaim := { program := "ytllofdfldoaedaa", sum := "3937923113b473098f2d6c73ea29779558f54cfd45a88b73816e8baaf63377e6", func := "jacinth/jacinthlaw07.PagesOver", spec := "pagesOver", unfollowed := true, recurses := true, apart := false }
def PagesOverSaid : Prop := pagesOverRow.holds Try.pinned (OpenSpec.ofChange pagesOverSpec)

/-- ITS FALSE NEIGHBOUR: 'it returns false'. Refute it at one input. -/
def pagesOverWrong : ChangeSpec := { name := "pagesOver", fn := fun _ => fun
  | [d1, d2, d3] => { results := [.lit (.bool false)], args := [d1, d2, d3] }
  | _ => none }
def PagesOverWrongFalsely : Prop := pagesOverRow.holds Try.pinned (OpenSpec.ofChange pagesOverWrong)

/-- 'jacinthlaw07.PagesRoom': WHATEVER THE INPUT: true; the input reads as it did. -/
def pagesRoomSpec : ChangeSpec := { name := "pagesRoom", fn := fun _ => fun
  | [d1, d2] => { results := [.lit (.bool true)], args := [d1, d2] }
  | _ => none }
def pagesRoomRow : OpenClaim := { program := "ytllofdfldoaedaa", sum := "3937923113b473098f2d6c73ea29779558f54cfd45a88b73816e8baaf63377e6", func := "jacinth/jacinthlaw07.PagesRoom", spec := "pagesRoom", unfollowed := true, recurses := true, apart := false }
def PagesRoomSaid : Prop := pagesRoomRow.holds Try.pinned (OpenSpec.ofChange pagesRoomSpec)

/-- ITS FALSE NEIGHBOUR: 'it returns false'. Refute it at one input. -/
def pagesRoomWrong : ChangeSpec := { name := "pagesRoom", fn := fun _ => fun
  | [d1, d2] => { results := [.lit (.bool false)], args := [d1, d2] }
  | _ => none }
def PagesRoomWrongFalsely : Prop := pagesRoomRow.holds Try.pinned (OpenSpec.ofChange pagesRoomWrong)

/-- 'jacinthlaw07.PagesCount': WHATEVER THE INPUT: true; the input reads as it did. -/
def pagesCountSpec : ChangeSpec := { name := "pagesCount", fn := fun _ => fun
  | [d1, d2] => { results := [.lit (.bool true)], args := [d1, d2] }
  | _ => none }
def pagesCountRow : OpenClaim := { program := "ytllofdfldoaedaa", sum := "3937923113b473098f2d6c73ea29779558f54cfd45a88b73816e8baaf63377e6", func := "jacinth/jacinthlaw07.PagesCount", spec := "pagesCount", unfollowed := true, recurses := true, apart := false }
def PagesCountSaid : Prop := pagesCountRow.holds Try.pinned (OpenSpec.ofChange pagesCountSpec)

/-- ITS FALSE NEIGHBOUR: 'it returns false'. Refute it at one input. -/
def pagesCountWrong : ChangeSpec := { name := "pagesCount", fn := fun _ => fun
  | [d1, d2] => { results := [.lit (.bool false)], args := [d1, d2] }
  | _ => none }
def PagesCountWrongFalsely : Prop := pagesCountRow.holds Try.pinned (OpenSpec.ofChange pagesCountWrong)

/-- 'jacinthlaw07.PagesApart': WHATEVER THE INPUT: true; the input reads as it did. -/
def pagesApartSpec : ChangeSpec := { name := "pagesApart", fn := fun _ => fun
  | [d] => { results := [.lit (.bool true)], args := [d] }
  | _ => none }
def pagesApartRow : OpenClaim := { program := "ytllofdfldoaedaa", sum := "3937923113b473098f2d6c73ea29779558f54cfd45a88b73816e8baaf63377e6", func := "jacinth/jacinthlaw07.PagesApart", spec := "pagesApart", unfollowed := true, recurses := true, apart := false }
def PagesApartSaid : Prop := pagesApartRow.holds Try.pinned (OpenSpec.ofChange pagesApartSpec)

/-- ITS FALSE NEIGHBOUR: 'it returns false'. Refute it at one input. -/
def pagesApartWrong : ChangeSpec := { name := "pagesApart", fn := fun _ => fun
  | [d] => { results := [.lit (.bool false)], args := [d] }
  | _ => none }
def PagesApartWrongFalsely : Prop := pagesApartRow.holds Try.pinned (OpenSpec.ofChange pagesApartWrong)

/-- 'jacinthlaw07.PagesShared': WHATEVER THE INPUT: true; the input reads as it did. -/
def pagesSharedSpec : ChangeSpec := { name := "pagesShared", fn := fun _ => fun
  | [d1, d2] => { results := [.lit (.bool true)], args := [d1, d2] }
  | _ => none }
def pagesSharedRow : OpenClaim := { program := "ytllofdfldoaedaa", sum := "3937923113b473098f2d6c73ea29779558f54cfd45a88b73816e8baaf63377e6", func := "jacinth/jacinthlaw07.PagesShared", spec := "pagesShared", unfollowed := true, recurses := true, apart := false }
def PagesSharedSaid : Prop := pagesSharedRow.holds Try.pinned (OpenSpec.ofChange pagesSharedSpec)

/-- ITS FALSE NEIGHBOUR: 'it returns false'. Refute it at one input. -/
def pagesSharedWrong : ChangeSpec := { name := "pagesShared", fn := fun _ => fun
  | [d1, d2] => { results := [.lit (.bool false)], args := [d1, d2] }
  | _ => none }
def PagesSharedWrongFalsely : Prop := pagesSharedRow.holds Try.pinned (OpenSpec.ofChange pagesSharedWrong)

/-- 'jacinthlaw07.PagesPlays': WHATEVER THE INPUT: true; the input reads as it did. -/
def pagesPlaysSpec : ChangeSpec := { name := "pagesPlays", fn := fun _ => fun
  | [d1, d2] => { results := [.lit (.bool true)], args := [d1, d2] }
  | _ => none }
def pagesPlaysRow : OpenClaim := { program := "ytllofdfldoaedaa", sum := "3937923113b473098f2d6c73ea29779558f54cfd45a88b73816e8baaf63377e6", func := "jacinth/jacinthlaw07.PagesPlays", spec := "pagesPlays", unfollowed := true, recurses := true, apart := false }
def PagesPlaysSaid : Prop := pagesPlaysRow.holds Try.pinned (OpenSpec.ofChange pagesPlaysSpec)

/-- ITS FALSE NEIGHBOUR: 'it returns false'. Refute it at one input. -/
def pagesPlaysWrong : ChangeSpec := { name := "pagesPlays", fn := fun _ => fun
  | [d1, d2] => { results := [.lit (.bool false)], args := [d1, d2] }
  | _ => none }
def PagesPlaysWrongFalsely : Prop := pagesPlaysRow.holds Try.pinned (OpenSpec.ofChange pagesPlaysWrong)

/- THE SECOND FORM. 'bulk': how many values and letters a reading holds, each counted each time it is reached (what is shared counts as often as it is met; a slice's spare places count too). A statement '..UptoSaid' is the law's where the arguments, and the package variables that the reading takes, are together of bulk at most 1048576: NARROWER than '..Said'. Prove '..Said' where nothing that the law and all that it calls make is longer than what came in: it says more and counts as full. Else prove '..UptoSaid'. A law counts once. -/
mutual
def uptoBulk {H : Type} : DataW H → Nat
  | .lit (.string bytes) => bytes.length + 1
  | .lit _ => 1
  | .nil => 1
  | .ptr d => uptoBulk d + 1
  | .slice elems spare => uptoBulkAll elems + uptoBulkAll spare + 1
  | .agg parts => uptoBulkAll parts + 1
  | .iface _ d => uptoBulk d + 1
  | .map entries => uptoBulkEntries entries + 1
  | .held _ => 1
def uptoBulkAll {H : Type} : List (DataW H) → Nat
  | [] => 0
  | d :: r => uptoBulk d + uptoBulkAll r
def uptoBulkEntries {H : Type} : List (Lit × DataW H) → Nat
  | [] => 0
  | x :: r => uptoBulkEntry x + uptoBulkEntries r
def uptoBulkEntry {H : Type} : Lit × DataW H → Nat
  | (.string bytes, d) => bytes.length + uptoBulk d + 1
  | (_, d) => uptoBulk d + 1
 end
def uptoSmall : (H : Type) → List (DataW H) → Bool := fun _ ds => decide (uptoBulkAll ds ≤ 1048576)
def OpenSpec.upto (s : _root_.Go.ChangeSpec) : _root_.Go.OpenSpec := { _root_.Go.OpenSpec.ofChange s with cond := some uptoSmall }

/-- 'jacinthlaw07.PagesOver', WHERE WHAT IT READS IS OF BULK AT MOST 1048576: true; the input reads as it did. -/
def pagesOverUptoRow : OpenClaim := { program := "ytllofdfldoaedaa", sum := "3937923113b473098f2d6c73ea29779558f54cfd45a88b73816e8baaf63377e6", func := "jacinth/jacinthlaw07.PagesOver", spec := "pagesOver", unfollowed := true, recurses := true, apart := false, narrowed := true }
def PagesOverUptoSaid : Prop := pagesOverUptoRow.holds Try.pinned (OpenSpec.upto pagesOverSpec)

/-- 'jacinthlaw07.PagesRoom', WHERE WHAT IT READS IS OF BULK AT MOST 1048576: true; the input reads as it did. -/
def pagesRoomUptoRow : OpenClaim := { program := "ytllofdfldoaedaa", sum := "3937923113b473098f2d6c73ea29779558f54cfd45a88b73816e8baaf63377e6", func := "jacinth/jacinthlaw07.PagesRoom", spec := "pagesRoom", unfollowed := true, recurses := true, apart := false, narrowed := true }
def PagesRoomUptoSaid : Prop := pagesRoomUptoRow.holds Try.pinned (OpenSpec.upto pagesRoomSpec)

/-- 'jacinthlaw07.PagesCount', WHERE WHAT IT READS IS OF BULK AT MOST 1048576: true; the input reads as it did. -/
def pagesCountUptoRow : OpenClaim := { program := "ytllofdfldoaedaa", sum := "3937923113b473098f2d6c73ea29779558f54cfd45a88b73816e8baaf63377e6", func := "jacinth/jacinthlaw07.PagesCount", spec := "pagesCount", unfollowed := true, recurses := true, apart := false, narrowed := true }
def PagesCountUptoSaid : Prop := pagesCountUptoRow.holds Try.pinned (OpenSpec.upto pagesCountSpec)

/-- 'jacinthlaw07.PagesApart', WHERE WHAT IT READS IS OF BULK AT MOST 1048576: true; the input reads as it did. -/
def pagesApartUptoRow : OpenClaim := { program := "ytllofdfldoaedaa", sum := "3937923113b473098f2d6c73ea29779558f54cfd45a88b73816e8baaf63377e6", func := "jacinth/jacinthlaw07.PagesApart", spec := "pagesApart", unfollowed := true, recurses := true, apart := false, narrowed := true }
def PagesApartUptoSaid : Prop := pagesApartUptoRow.holds Try.pinned (OpenSpec.upto pagesApartSpec)

/-- 'jacinthlaw07.PagesShared', WHERE WHAT IT READS IS OF BULK AT MOST 1048576: true; the input reads as it did. -/
def pagesSharedUptoRow : OpenClaim := { program := "ytllofdfldoaedaa", sum := "3937923113b473098f2d6c73ea29779558f54cfd45a88b73816e8baaf63377e6", func := "jacinth/jacinthlaw07.PagesShared", spec := "pagesShared", unfollowed := true, recurses := true, apart := false, narrowed := true }
def PagesSharedUptoSaid : Prop := pagesSharedUptoRow.holds Try.pinned (OpenSpec.upto pagesSharedSpec)

/-- 'jacinthlaw07.PagesPlays', WHERE WHAT IT READS IS OF BULK AT MOST 1048576: true; the input reads as it did. -/
def pagesPlaysUptoRow : OpenClaim := { program := "ytllofdfldoaedaa", sum := "3937923113b473098f2d6c73ea29779558f54cfd45a88b73816e8baaf63377e6", func := "jacinth/jacinthlaw07.PagesPlays", spec := "pagesPlays", unfollowed := true, recurses := true, apart := false, narrowed := true }
def PagesPlaysUptoSaid : Prop := pagesPlaysUptoRow.holds Try.pinned (OpenSpec.upto pagesPlaysSpec)

end Rows
end Go.Proofs.Ytllofdfldoaedaa
