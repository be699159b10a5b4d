/-
  No cell of these rows narrows 'for every input' (looked for: loops, veiled, ifaces, maps, wideKeys, modest, calm, conditions, laid).
  DERIVED. THE GIVEN ROWS OF THIS SEAT. 4 by the template 'for every input the law returns true; each argument reads behind the call as it read before'; 0 by the template 'total and deterministic' (their statements: YtpkmpenjnbpblaaTotals.lean).
  GIVEN WITH THE SEED: the statements are not yours to turn. If you find one false, say at which input.
  Laid BY PROGRAM, IN A SANDBOX (cutbox-rows.mjs): the forced cells as the released guide's own fill.sh prints them over the translation 1eaf68f333db31a3… (all of the seat's roots in one cut). By AI agents, Wed Nov 11 2026. No macro, syntax, notation, axiom, sorry.
-/
import Derived.Test.YtpkmpenjnbpblaaChecked
import GoSem.Claim
import GoSem.ClaimJoined
import GoSem.ClaimMapViews
import Derived.JoinedTies
import Derived.KernelRfl
namespace Go.Proofs.Ytpkmpenjnbpblaa
/- THE CELL 'sum', in the pinned program and in every row, IS THE sha256 OF THE DUMP (.gsa) THAT YtpkmpenjnbpblaaProg.lean LOADS. Nothing in Lean hashes anything: it is a label: what it is worth is what the hold of that sum in a sandbox is worth. -/
noncomputable def Try.pinned : Pinned := { name := "ytpkmpenjnbpblaa", sum := "1eaf68f333db31a36194b87ae9a07b5638f59c3777e9799fa9f920d27764adeb", checked := Try.checked }
namespace Rows
def none {H : Type} : Left H := { results := [], args := [] }

/-- 'jacinthlaw04.RightsReduces': WHATEVER THE INPUT: true; the input reads as it did. -/
def rightsReducesSpec : ChangeSpec := { name := "rightsReduces", fn := fun _ => fun
  | [d1, d2] => { results := [.lit (.bool true)], args := [d1, d2] }
  | _ => none }
def rightsReducesRow : OpenClaim := { program := "ytpkmpenjnbpblaa", sum := "1eaf68f333db31a36194b87ae9a07b5638f59c3777e9799fa9f920d27764adeb", func := "jacinth/jacinthlaw04.RightsReduces", spec := "rightsReduces", inPlace := ["internal/abi.NoEscape", "internal/bytealg.MakeNoZero"], unfollowed := true, recurses := true, apart := false }
def RightsReducesSaid : Prop := rightsReducesRow.holds Try.pinned (OpenSpec.ofChange rightsReducesSpec)

/-- ITS FALSE NEIGHBOUR: 'it returns false'. Refute it at one input. -/
def rightsReducesWrong : ChangeSpec := { name := "rightsReduces", fn := fun _ => fun
  | [d1, d2] => { results := [.lit (.bool false)], args := [d1, d2] }
  | _ => none }
def RightsReducesWrongFalsely : Prop := rightsReducesRow.holds Try.pinned (OpenSpec.ofChange rightsReducesWrong)

/-- 'jacinthlaw04.RightsSets': WHATEVER THE INPUT: true; the input reads as it did. -/
def rightsSetsSpec : ChangeSpec := { name := "rightsSets", fn := fun _ => fun
  | [d1, d2, d3] => { results := [.lit (.bool true)], args := [d1, d2, d3] }
  | _ => none }
def rightsSetsRow : OpenClaim := { program := "ytpkmpenjnbpblaa", sum := "1eaf68f333db31a36194b87ae9a07b5638f59c3777e9799fa9f920d27764adeb", func := "jacinth/jacinthlaw04.RightsSets", spec := "rightsSets", inPlace := ["internal/abi.NoEscape", "internal/bytealg.MakeNoZero"], unfollowed := true, recurses := true, apart := false }
def RightsSetsSaid : Prop := rightsSetsRow.holds Try.pinned (OpenSpec.ofChange rightsSetsSpec)

/-- ITS FALSE NEIGHBOUR: 'it returns false'. Refute it at one input. -/
def rightsSetsWrong : ChangeSpec := { name := "rightsSets", fn := fun _ => fun
  | [d1, d2, d3] => { results := [.lit (.bool false)], args := [d1, d2, d3] }
  | _ => none }
def RightsSetsWrongFalsely : Prop := rightsSetsRow.holds Try.pinned (OpenSpec.ofChange rightsSetsWrong)

/-- 'jacinthlaw04.RightsTexts': WHATEVER THE INPUT: true; the input reads as it did. -/
def rightsTextsSpec : ChangeSpec := { name := "rightsTexts", fn := fun _ => fun
  | [d1, d2] => { results := [.lit (.bool true)], args := [d1, d2] }
  | _ => none }
def rightsTextsRow : OpenClaim := { program := "ytpkmpenjnbpblaa", sum := "1eaf68f333db31a36194b87ae9a07b5638f59c3777e9799fa9f920d27764adeb", func := "jacinth/jacinthlaw04.RightsTexts", spec := "rightsTexts", inPlace := ["internal/abi.NoEscape", "internal/bytealg.MakeNoZero"], unfollowed := true, recurses := true, apart := false }
def RightsTextsSaid : Prop := rightsTextsRow.holds Try.pinned (OpenSpec.ofChange rightsTextsSpec)

/-- ITS FALSE NEIGHBOUR: 'it returns false'. Refute it at one input. -/
def rightsTextsWrong : ChangeSpec := { name := "rightsTexts", fn := fun _ => fun
  | [d1, d2] => { results := [.lit (.bool false)], args := [d1, d2] }
  | _ => none }
def RightsTextsWrongFalsely : Prop := rightsTextsRow.holds Try.pinned (OpenSpec.ofChange rightsTextsWrong)

/-- 'jacinthlaw04.RightsBits': WHATEVER THE INPUT: true; the input reads as it did. -/
def rightsBitsSpec : ChangeSpec := { name := "rightsBits", fn := fun _ => fun
  | [d1, d2] => { results := [.lit (.bool true)], args := [d1, d2] }
  | _ => none }
def rightsBitsRow : OpenClaim := { program := "ytpkmpenjnbpblaa", sum := "1eaf68f333db31a36194b87ae9a07b5638f59c3777e9799fa9f920d27764adeb", func := "jacinth/jacinthlaw04.RightsBits", spec := "rightsBits", inPlace := ["internal/abi.NoEscape", "internal/bytealg.MakeNoZero"], unfollowed := true, recurses := true, apart := false }
def RightsBitsSaid : Prop := rightsBitsRow.holds Try.pinned (OpenSpec.ofChange rightsBitsSpec)

/-- ITS FALSE NEIGHBOUR: 'it returns false'. Refute it at one input. -/
def rightsBitsWrong : ChangeSpec := { name := "rightsBits", fn := fun _ => fun
  | [d1, d2] => { results := [.lit (.bool false)], args := [d1, d2] }
  | _ => none }
def RightsBitsWrongFalsely : Prop := rightsBitsRow.holds Try.pinned (OpenSpec.ofChange rightsBitsWrong)

/- THE SECOND FORM. 'bulk': how many values and letters a reading holds, each counted each time it is reached (what is shared counts as often as it is met; a slice's spare places count too). A statement '..UptoSaid' is the law's where the arguments, and the package variables that the reading takes, are together of bulk at most 1048576: NARROWER than '..Said'. Prove '..Said' where nothing that the law and all that it calls make is longer than what came in: it says more and counts as full. Else prove '..UptoSaid'. A law counts once. -/
mutual
def uptoBulk {H : Type} : DataW H → Nat
  | .lit (.string bytes) => bytes.length + 1
  | .lit _ => 1
  | .nil => 1
  | .ptr d => uptoBulk d + 1
  | .slice elems spare => uptoBulkAll elems + uptoBulkAll spare + 1
  | .agg parts => uptoBulkAll parts + 1
  | .iface _ d => uptoBulk d + 1
  | .map entries => uptoBulkEntries entries + 1
  | .held _ => 1
def uptoBulkAll {H : Type} : List (DataW H) → Nat
  | [] => 0
  | d :: r => uptoBulk d + uptoBulkAll r
def uptoBulkEntries {H : Type} : List (Lit × DataW H) → Nat
  | [] => 0
  | x :: r => uptoBulkEntry x + uptoBulkEntries r
def uptoBulkEntry {H : Type} : Lit × DataW H → Nat
  | (.string bytes, d) => bytes.length + uptoBulk d + 1
  | (_, d) => uptoBulk d + 1
 end
def uptoSmall : (H : Type) → List (DataW H) → Bool := fun _ ds => decide (uptoBulkAll ds ≤ 1048576)
def OpenSpec.upto (s : _root_.Go.ChangeSpec) : _root_.Go.OpenSpec := { _root_.Go.OpenSpec.ofChange s with cond := some uptoSmall }

/-- 'jacinthlaw04.RightsReduces', WHERE WHAT IT READS IS OF BULK AT MOST 1048576: true; the input reads as it did. -/
def rightsReducesUptoRow : OpenClaim := { program := "ytpkmpenjnbpblaa", sum := "1eaf68f333db31a36194b87ae9a07b5638f59c3777e9799fa9f920d27764adeb", func := "jacinth/jacinthlaw04.RightsReduces", spec := "rightsReduces", inPlace := ["internal/abi.NoEscape", "internal/bytealg.MakeNoZero"], unfollowed := true, recurses := true, apart := false, narrowed := true }
def RightsReducesUptoSaid : Prop := rightsReducesUptoRow.holds Try.pinned (OpenSpec.upto rightsReducesSpec)

/-- 'jacinthlaw04.RightsSets', WHERE WHAT IT READS IS OF BULK AT MOST 1048576: true; the input reads as it did. -/
def rightsSetsUptoRow : OpenClaim := { program := "ytpkmpenjnbpblaa", sum := "1eaf68f333db31a36194b87ae9a07b5638f59c3777e9799fa9f920d27764adeb", func := "jacinth/jacinthlaw04.RightsSets", spec := "rightsSets", inPlace := ["internal/abi.NoEscape", "internal/bytealg.MakeNoZero"], unfollowed := true, recurses := true, apart := false, narrowed := true }
def RightsSetsUptoSaid : Prop := rightsSetsUptoRow.holds Try.pinned (OpenSpec.upto rightsSetsSpec)

/-- 'jacinthlaw04.RightsTexts', WHERE WHAT IT READS IS OF BULK AT MOST 1048576: true; the input reads as it did. -/
def rightsTextsUptoRow : OpenClaim := { program := "ytpkmpenjnbpblaa", sum := "1eaf68f333db31a36194b87ae9a07b5638f59c3777e9799fa9f920d27764adeb", func := "jacinth/jacinthlaw04.RightsTexts", spec := "rightsTexts", inPlace := ["internal/abi.NoEscape", "internal/bytealg.MakeNoZero"], unfollowed := true, recurses := true, apart := false, narrowed := true }
def RightsTextsUptoSaid : Prop := rightsTextsUptoRow.holds Try.pinned (OpenSpec.upto rightsTextsSpec)

/-- 'jacinthlaw04.RightsBits', WHERE WHAT IT READS IS OF BULK AT MOST 1048576: true; the input reads as it did. -/
def rightsBitsUptoRow : OpenClaim := { program := "ytpkmpenjnbpblaa", sum := "1eaf68f333db31a36194b87ae9a07b5638f59c3777e9799fa9f920d27764adeb", func := "jacinth/jacinthlaw04.RightsBits", spec := "rightsBits", inPlace := ["internal/abi.NoEscape", "internal/bytealg.MakeNoZero"], unfollowed := true, recurses := true, apart := false, narrowed := true }
def RightsBitsUptoSaid : Prop := rightsBitsUptoRow.holds Try.pinned (OpenSpec.upto rightsBitsSpec)

end Rows
end Go.Proofs.Ytpkmpenjnbpblaa
