/-
  No cell of these rows narrows 'for every input' (looked for: loops, veiled, ifaces, maps, wideKeys, modest, calm, conditions, laid).
  DERIVED. THE GIVEN ROWS OF THIS SEAT. 5 by the template 'for every input the law returns true; each argument reads behind the call as it read before'; 0 by the template 'total and deterministic' (their statements: YtjkgkoilabbdgaaTotals.lean).
  GIVEN WITH THE SEED: the statements are not yours to turn. If you find one false, say at which input.
  Laid BY PROGRAM, IN A SANDBOX (cutbox-rows.mjs): the forced cells as the released guide's own fill.sh prints them over the translation 1a91ed0aa5a67b0e… (all of the seat's roots in one cut). By AI agents, Wed Nov 11 2026. No macro, syntax, notation, axiom, sorry.
-/
import Derived.Test.YtjkgkoilabbdgaaChecked
import GoSem.Claim
import GoSem.ClaimJoined
import GoSem.ClaimMapViews
import Derived.JoinedTies
import Derived.KernelRfl
namespace Go.Proofs.Ytjkgkoilabbdgaa
/- THE CELL 'sum', in the pinned program and in every row, IS THE sha256 OF THE DUMP (.gsa) THAT YtjkgkoilabbdgaaProg.lean LOADS. Nothing in Lean hashes anything: it is a label: what it is worth is what the hold of that sum in a sandbox is worth. -/
noncomputable def Try.pinned : Pinned := { name := "ytjkgkoilabbdgaa", sum := "1a91ed0aa5a67b0e6492ec666608bcea60559015f3d1237fa8326ef38bbe5c3d", checked := Try.checked }
namespace Rows
def none {H : Type} : Left H := { results := [], args := [] }

/-- 'jacinthlaw15.PortUsers': WHATEVER THE INPUT: true; the input reads as it did. -/
def portUsersSpec : ChangeSpec := { name := "portUsers", fn := fun _ => fun
  | [d1, d2] => { results := [.lit (.bool true)], args := [d1, d2] }
  | _ => none }
def portUsersRow : OpenClaim := { program := "ytjkgkoilabbdgaa", sum := "1a91ed0aa5a67b0e6492ec666608bcea60559015f3d1237fa8326ef38bbe5c3d", func := "jacinth/jacinthlaw15.PortUsers", spec := "portUsers", unfollowed := true, recurses := true, apart := false }
def PortUsersSaid : Prop := portUsersRow.holds Try.pinned (OpenSpec.ofChange portUsersSpec)

/-- ITS FALSE NEIGHBOUR: 'it returns false'. Refute it at one input. -/
def portUsersWrong : ChangeSpec := { name := "portUsers", fn := fun _ => fun
  | [d1, d2] => { results := [.lit (.bool false)], args := [d1, d2] }
  | _ => none }
def PortUsersWrongFalsely : Prop := portUsersRow.holds Try.pinned (OpenSpec.ofChange portUsersWrong)

/-- 'jacinthlaw15.PortOnce': WHATEVER THE INPUT: true; the input reads as it did. -/
def portOnceSpec : ChangeSpec := { name := "portOnce", fn := fun _ => fun
  | [d] => { results := [.lit (.bool true)], args := [d] }
  | _ => none }
def portOnceRow : OpenClaim := { program := "ytjkgkoilabbdgaa", sum := "1a91ed0aa5a67b0e6492ec666608bcea60559015f3d1237fa8326ef38bbe5c3d", func := "jacinth/jacinthlaw15.PortOnce", spec := "portOnce", unfollowed := true, recurses := true, apart := false }
def PortOnceSaid : Prop := portOnceRow.holds Try.pinned (OpenSpec.ofChange portOnceSpec)

/-- ITS FALSE NEIGHBOUR: 'it returns false'. Refute it at one input. -/
def portOnceWrong : ChangeSpec := { name := "portOnce", fn := fun _ => fun
  | [d] => { results := [.lit (.bool false)], args := [d] }
  | _ => none }
def PortOnceWrongFalsely : Prop := portOnceRow.holds Try.pinned (OpenSpec.ofChange portOnceWrong)

/-- 'jacinthlaw15.PortTells': WHATEVER THE INPUT: true; the input reads as it did. -/
def portTellsSpec : ChangeSpec := { name := "portTells", fn := fun _ => fun
  | [d1, d2, d3] => { results := [.lit (.bool true)], args := [d1, d2, d3] }
  | _ => none }
def portTellsRow : OpenClaim := { program := "ytjkgkoilabbdgaa", sum := "1a91ed0aa5a67b0e6492ec666608bcea60559015f3d1237fa8326ef38bbe5c3d", func := "jacinth/jacinthlaw15.PortTells", spec := "portTells", unfollowed := true, recurses := true, apart := false }
def PortTellsSaid : Prop := portTellsRow.holds Try.pinned (OpenSpec.ofChange portTellsSpec)

/-- ITS FALSE NEIGHBOUR: 'it returns false'. Refute it at one input. -/
def portTellsWrong : ChangeSpec := { name := "portTells", fn := fun _ => fun
  | [d1, d2, d3] => { results := [.lit (.bool false)], args := [d1, d2, d3] }
  | _ => none }
def PortTellsWrongFalsely : Prop := portTellsRow.holds Try.pinned (OpenSpec.ofChange portTellsWrong)

/-- 'jacinthlaw15.PortCancels': WHATEVER THE INPUT: true; the input reads as it did. -/
def portCancelsSpec : ChangeSpec := { name := "portCancels", fn := fun _ => fun
  | [d1, d2] => { results := [.lit (.bool true)], args := [d1, d2] }
  | _ => none }
def portCancelsRow : OpenClaim := { program := "ytjkgkoilabbdgaa", sum := "1a91ed0aa5a67b0e6492ec666608bcea60559015f3d1237fa8326ef38bbe5c3d", func := "jacinth/jacinthlaw15.PortCancels", spec := "portCancels", unfollowed := true, recurses := true, apart := false }
def PortCancelsSaid : Prop := portCancelsRow.holds Try.pinned (OpenSpec.ofChange portCancelsSpec)

/-- ITS FALSE NEIGHBOUR: 'it returns false'. Refute it at one input. -/
def portCancelsWrong : ChangeSpec := { name := "portCancels", fn := fun _ => fun
  | [d1, d2] => { results := [.lit (.bool false)], args := [d1, d2] }
  | _ => none }
def PortCancelsWrongFalsely : Prop := portCancelsRow.holds Try.pinned (OpenSpec.ofChange portCancelsWrong)

/-- 'jacinthlaw15.PortPlays': WHATEVER THE INPUT: true; the input reads as it did. -/
def portPlaysSpec : ChangeSpec := { name := "portPlays", fn := fun _ => fun
  | [d1, d2, d3] => { results := [.lit (.bool true)], args := [d1, d2, d3] }
  | _ => none }
def portPlaysRow : OpenClaim := { program := "ytjkgkoilabbdgaa", sum := "1a91ed0aa5a67b0e6492ec666608bcea60559015f3d1237fa8326ef38bbe5c3d", func := "jacinth/jacinthlaw15.PortPlays", spec := "portPlays", unfollowed := true, recurses := true, apart := false }
def PortPlaysSaid : Prop := portPlaysRow.holds Try.pinned (OpenSpec.ofChange portPlaysSpec)

/-- ITS FALSE NEIGHBOUR: 'it returns false'. Refute it at one input. -/
def portPlaysWrong : ChangeSpec := { name := "portPlays", fn := fun _ => fun
  | [d1, d2, d3] => { results := [.lit (.bool false)], args := [d1, d2, d3] }
  | _ => none }
def PortPlaysWrongFalsely : Prop := portPlaysRow.holds Try.pinned (OpenSpec.ofChange portPlaysWrong)

/- THE SECOND FORM. 'bulk': how many values and letters a reading holds, each counted each time it is reached (what is shared counts as often as it is met; a slice's spare places count too). A statement '..UptoSaid' is the law's where the arguments, and the package variables that the reading takes, are together of bulk at most 1048576: NARROWER than '..Said'. Prove '..Said' where nothing that the law and all that it calls make is longer than what came in: it says more and counts as full. Else prove '..UptoSaid'. A law counts once. -/
mutual
def uptoBulk {H : Type} : DataW H → Nat
  | .lit (.string bytes) => bytes.length + 1
  | .lit _ => 1
  | .nil => 1
  | .ptr d => uptoBulk d + 1
  | .slice elems spare => uptoBulkAll elems + uptoBulkAll spare + 1
  | .agg parts => uptoBulkAll parts + 1
  | .iface _ d => uptoBulk d + 1
  | .map entries => uptoBulkEntries entries + 1
  | .held _ => 1
def uptoBulkAll {H : Type} : List (DataW H) → Nat
  | [] => 0
  | d :: r => uptoBulk d + uptoBulkAll r
def uptoBulkEntries {H : Type} : List (Lit × DataW H) → Nat
  | [] => 0
  | x :: r => uptoBulkEntry x + uptoBulkEntries r
def uptoBulkEntry {H : Type} : Lit × DataW H → Nat
  | (.string bytes, d) => bytes.length + uptoBulk d + 1
  | (_, d) => uptoBulk d + 1
 end
def uptoSmall : (H : Type) → List (DataW H) → Bool := fun _ ds => decide (uptoBulkAll ds ≤ 1048576)
def OpenSpec.upto (s : _root_.Go.ChangeSpec) : _root_.Go.OpenSpec := { _root_.Go.OpenSpec.ofChange s with cond := some uptoSmall }

/-- 'jacinthlaw15.PortUsers', WHERE WHAT IT READS IS OF BULK AT MOST 1048576: true; the input reads as it did. -/
def portUsersUptoRow : OpenClaim := { program := "ytjkgkoilabbdgaa", sum := "1a91ed0aa5a67b0e6492ec666608bcea60559015f3d1237fa8326ef38bbe5c3d", func := "jacinth/jacinthlaw15.PortUsers", spec := "portUsers", unfollowed := true, recurses := true, apart := false, narrowed := true }
def PortUsersUptoSaid : Prop := portUsersUptoRow.holds Try.pinned (OpenSpec.upto portUsersSpec)

/-- 'jacinthlaw15.PortOnce', WHERE WHAT IT READS IS OF BULK AT MOST 1048576: true; the input reads as it did. -/
def portOnceUptoRow : OpenClaim := { program := "ytjkgkoilabbdgaa", sum := "1a91ed0aa5a67b0e6492ec666608bcea60559015f3d1237fa8326ef38bbe5c3d", func := "jacinth/jacinthlaw15.PortOnce", spec := "portOnce", unfollowed := true, recurses := true, apart := false, narrowed := true }
def PortOnceUptoSaid : Prop := portOnceUptoRow.holds Try.pinned (OpenSpec.upto portOnceSpec)

/-- 'jacinthlaw15.PortTells', WHERE WHAT IT READS IS OF BULK AT MOST 1048576: true; the input reads as it did. -/
def portTellsUptoRow : OpenClaim := { program := "ytjkgkoilabbdgaa", sum := "1a91ed0aa5a67b0e6492ec666608bcea60559015f3d1237fa8326ef38bbe5c3d", func := "jacinth/jacinthlaw15.PortTells", spec := "portTells", unfollowed := true, recurses := true, apart := false, narrowed := true }
def PortTellsUptoSaid : Prop := portTellsUptoRow.holds Try.pinned (OpenSpec.upto portTellsSpec)

/-- 'jacinthlaw15.PortCancels', WHERE WHAT IT READS IS OF BULK AT MOST 1048576: true; the input reads as it did. -/
def portCancelsUptoRow : OpenClaim := { program := "ytjkgkoilabbdgaa", sum := "1a91ed0aa5a67b0e6492ec666608bcea60559015f3d1237fa8326ef38bbe5c3d", func := "jacinth/jacinthlaw15.PortCancels", spec := "portCancels", unfollowed := true, recurses := true, apart := false, narrowed := true }
def PortCancelsUptoSaid : Prop := portCancelsUptoRow.holds Try.pinned (OpenSpec.upto portCancelsSpec)

/-- 'jacinthlaw15.PortPlays', WHERE WHAT IT READS IS OF BULK AT MOST 1048576: true; the input reads as it did. -/
def portPlaysUptoRow : OpenClaim := { program := "ytjkgkoilabbdgaa", sum := "1a91ed0aa5a67b0e6492ec666608bcea60559015f3d1237fa8326ef38bbe5c3d", func := "jacinth/jacinthlaw15.PortPlays", spec := "portPlays", unfollowed := true, recurses := true, apart := false, narrowed := true }
def PortPlaysUptoSaid : Prop := portPlaysUptoRow.holds Try.pinned (OpenSpec.upto portPlaysSpec)

end Rows
end Go.Proofs.Ytjkgkoilabbdgaa
