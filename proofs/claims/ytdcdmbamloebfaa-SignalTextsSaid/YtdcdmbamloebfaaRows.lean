/-
  No cell of these rows narrows 'for every input' (looked for: loops, veiled, ifaces, maps, wideKeys, modest, calm, conditions, laid).
  DERIVED. THE GIVEN ROWS OF THIS SEAT. 6 by the template 'for every input the law returns true; each argument reads behind the call as it read before'; 0 by the template 'total and deterministic' (their statements: YtdcdmbamloebfaaTotals.lean).
  GIVEN WITH THE SEED: the statements are not yours to turn. If you find one false, say at which input.
  Laid BY PROGRAM, IN A SANDBOX (cutbox-rows.mjs): the forced cells as the released guide's own fill.sh prints them over the translation 7c8929fc08d4ebf9… (all of the seat's roots in one cut). By AI agents, Wed Nov 11 2026. No macro, syntax, notation, axiom, sorry.
-/
import Derived.Test.YtdcdmbamloebfaaChecked
import GoSem.Claim
import GoSem.ClaimJoined
import GoSem.ClaimMapViews
import Derived.JoinedTies
import Derived.KernelRfl
namespace Go.Proofs.Ytdcdmbamloebfaa
/- THE CELL 'sum', in the pinned program and in every row, IS THE sha256 OF THE DUMP (.gsa) THAT YtdcdmbamloebfaaProg.lean LOADS. Nothing in Lean hashes anything: it is a label: what it is worth is what the hold of that sum in a sandbox is worth. -/
noncomputable def Try.pinned : Pinned := { name := "ytdcdmbamloebfaa", sum := "7c8929fc08d4ebf98290fc4d1f62086b9e9c705e504bec229202e59b6af0456a", checked := Try.checked }
namespace Rows
def none {H : Type} : Left H := { results := [], args := [] }

/-- 'jacinthlaw05.SignalChanges': WHATEVER THE INPUT: true; the input reads as it did. -/
def signalChangesSpec : ChangeSpec := { name := "signalChanges", fn := fun _ => fun
  | [d] => { results := [.lit (.bool true)], args := [d] }
  | _ => none }
def signalChangesRow : OpenClaim := { program := "ytdcdmbamloebfaa", sum := "7c8929fc08d4ebf98290fc4d1f62086b9e9c705e504bec229202e59b6af0456a", func := "jacinth/jacinthlaw05.SignalChanges", spec := "signalChanges", inPlace := ["internal/abi.NoEscape"], unfollowed := true, recurses := true, apart := false }
def SignalChangesSaid : Prop := signalChangesRow.holds Try.pinned (OpenSpec.ofChange signalChangesSpec)

/-- ITS FALSE NEIGHBOUR: 'it returns false'. Refute it at one input. -/
def signalChangesWrong : ChangeSpec := { name := "signalChanges", fn := fun _ => fun
  | [d] => { results := [.lit (.bool false)], args := [d] }
  | _ => none }
def SignalChangesWrongFalsely : Prop := signalChangesRow.holds Try.pinned (OpenSpec.ofChange signalChangesWrong)

/-- 'jacinthlaw05.SignalSets': WHATEVER THE INPUT: true; the input reads as it did. -/
def signalSetsSpec : ChangeSpec := { name := "signalSets", fn := fun _ => fun
  | [d] => { results := [.lit (.bool true)], args := [d] }
  | _ => none }
def signalSetsRow : OpenClaim := { program := "ytdcdmbamloebfaa", sum := "7c8929fc08d4ebf98290fc4d1f62086b9e9c705e504bec229202e59b6af0456a", func := "jacinth/jacinthlaw05.SignalSets", spec := "signalSets", inPlace := ["internal/abi.NoEscape"], apart := false }
def SignalSetsSaid : Prop := signalSetsRow.holds Try.pinned (OpenSpec.ofChange signalSetsSpec)

/-- ITS FALSE NEIGHBOUR: 'it returns false'. Refute it at one input. -/
def signalSetsWrong : ChangeSpec := { name := "signalSets", fn := fun _ => fun
  | [d] => { results := [.lit (.bool false)], args := [d] }
  | _ => none }
def SignalSetsWrongFalsely : Prop := signalSetsRow.holds Try.pinned (OpenSpec.ofChange signalSetsWrong)

/-- 'jacinthlaw05.SignalFires': WHATEVER THE INPUT: true; the input reads as it did. -/
def signalFiresSpec : ChangeSpec := { name := "signalFires", fn := fun _ => fun
  | [d1, d2, d3] => { results := [.lit (.bool true)], args := [d1, d2, d3] }
  | _ => none }
def signalFiresRow : OpenClaim := { program := "ytdcdmbamloebfaa", sum := "7c8929fc08d4ebf98290fc4d1f62086b9e9c705e504bec229202e59b6af0456a", func := "jacinth/jacinthlaw05.SignalFires", spec := "signalFires", inPlace := ["internal/abi.NoEscape"], apart := false }
def SignalFiresSaid : Prop := signalFiresRow.holds Try.pinned (OpenSpec.ofChange signalFiresSpec)

/-- ITS FALSE NEIGHBOUR: 'it returns false'. Refute it at one input. -/
def signalFiresWrong : ChangeSpec := { name := "signalFires", fn := fun _ => fun
  | [d1, d2, d3] => { results := [.lit (.bool false)], args := [d1, d2, d3] }
  | _ => none }
def SignalFiresWrongFalsely : Prop := signalFiresRow.holds Try.pinned (OpenSpec.ofChange signalFiresWrong)

/-- 'jacinthlaw05.SignalKinds': WHATEVER THE INPUT: true; the input reads as it did. -/
def signalKindsSpec : ChangeSpec := { name := "signalKinds", fn := fun _ => fun
  | [d1, d2] => { results := [.lit (.bool true)], args := [d1, d2] }
  | _ => none }
def signalKindsRow : OpenClaim := { program := "ytdcdmbamloebfaa", sum := "7c8929fc08d4ebf98290fc4d1f62086b9e9c705e504bec229202e59b6af0456a", func := "jacinth/jacinthlaw05.SignalKinds", spec := "signalKinds", inPlace := ["internal/abi.NoEscape"], apart := false }
def SignalKindsSaid : Prop := signalKindsRow.holds Try.pinned (OpenSpec.ofChange signalKindsSpec)

/-- ITS FALSE NEIGHBOUR: 'it returns false'. Refute it at one input. -/
def signalKindsWrong : ChangeSpec := { name := "signalKinds", fn := fun _ => fun
  | [d1, d2] => { results := [.lit (.bool false)], args := [d1, d2] }
  | _ => none }
def SignalKindsWrongFalsely : Prop := signalKindsRow.holds Try.pinned (OpenSpec.ofChange signalKindsWrong)

/-- 'jacinthlaw05.SignalUsers': WHATEVER THE INPUT: true; the input reads as it did. -/
def signalUsersSpec : ChangeSpec := { name := "signalUsers", fn := fun _ => fun
  | [d1, d2, d3] => { results := [.lit (.bool true)], args := [d1, d2, d3] }
  | _ => none }
def signalUsersRow : OpenClaim := { program := "ytdcdmbamloebfaa", sum := "7c8929fc08d4ebf98290fc4d1f62086b9e9c705e504bec229202e59b6af0456a", func := "jacinth/jacinthlaw05.SignalUsers", spec := "signalUsers", inPlace := ["internal/abi.NoEscape"], apart := false }
def SignalUsersSaid : Prop := signalUsersRow.holds Try.pinned (OpenSpec.ofChange signalUsersSpec)

/-- ITS FALSE NEIGHBOUR: 'it returns false'. Refute it at one input. -/
def signalUsersWrong : ChangeSpec := { name := "signalUsers", fn := fun _ => fun
  | [d1, d2, d3] => { results := [.lit (.bool false)], args := [d1, d2, d3] }
  | _ => none }
def SignalUsersWrongFalsely : Prop := signalUsersRow.holds Try.pinned (OpenSpec.ofChange signalUsersWrong)

/-- 'jacinthlaw05.SignalTexts': WHATEVER THE INPUT: true; the input reads as it did. -/
def signalTextsSpec : ChangeSpec := { name := "signalTexts", fn := fun _ => fun
  | [d1, d2] => { results := [.lit (.bool true)], args := [d1, d2] }
  | _ => none }
def signalTextsRow : OpenClaim := { program := "ytdcdmbamloebfaa", sum := "7c8929fc08d4ebf98290fc4d1f62086b9e9c705e504bec229202e59b6af0456a", func := "jacinth/jacinthlaw05.SignalTexts", spec := "signalTexts", inPlace := ["internal/abi.NoEscape"], apart := false }
def SignalTextsSaid : Prop := signalTextsRow.holds Try.pinned (OpenSpec.ofChange signalTextsSpec)

/-- ITS FALSE NEIGHBOUR: 'it returns false'. Refute it at one input. -/
def signalTextsWrong : ChangeSpec := { name := "signalTexts", fn := fun _ => fun
  | [d1, d2] => { results := [.lit (.bool false)], args := [d1, d2] }
  | _ => none }
def SignalTextsWrongFalsely : Prop := signalTextsRow.holds Try.pinned (OpenSpec.ofChange signalTextsWrong)

/- THE SECOND FORM. 'bulk': how many values and letters a reading holds, each counted each time it is reached (what is shared counts as often as it is met; a slice's spare places count too). A statement '..UptoSaid' is the law's where the arguments, and the package variables that the reading takes, are together of bulk at most 1048576: NARROWER than '..Said'. Prove '..Said' where nothing that the law and all that it calls make is longer than what came in: it says more and counts as full. Else prove '..UptoSaid'. A law counts once. -/
mutual
def uptoBulk {H : Type} : DataW H → Nat
  | .lit (.string bytes) => bytes.length + 1
  | .lit _ => 1
  | .nil => 1
  | .ptr d => uptoBulk d + 1
  | .slice elems spare => uptoBulkAll elems + uptoBulkAll spare + 1
  | .agg parts => uptoBulkAll parts + 1
  | .iface _ d => uptoBulk d + 1
  | .map entries => uptoBulkEntries entries + 1
  | .held _ => 1
def uptoBulkAll {H : Type} : List (DataW H) → Nat
  | [] => 0
  | d :: r => uptoBulk d + uptoBulkAll r
def uptoBulkEntries {H : Type} : List (Lit × DataW H) → Nat
  | [] => 0
  | x :: r => uptoBulkEntry x + uptoBulkEntries r
def uptoBulkEntry {H : Type} : Lit × DataW H → Nat
  | (.string bytes, d) => bytes.length + uptoBulk d + 1
  | (_, d) => uptoBulk d + 1
 end
def uptoSmall : (H : Type) → List (DataW H) → Bool := fun _ ds => decide (uptoBulkAll ds ≤ 1048576)
def OpenSpec.upto (s : _root_.Go.ChangeSpec) : _root_.Go.OpenSpec := { _root_.Go.OpenSpec.ofChange s with cond := some uptoSmall }

/-- 'jacinthlaw05.SignalChanges', WHERE WHAT IT READS IS OF BULK AT MOST 1048576: true; the input reads as it did. -/
def signalChangesUptoRow : OpenClaim := { program := "ytdcdmbamloebfaa", sum := "7c8929fc08d4ebf98290fc4d1f62086b9e9c705e504bec229202e59b6af0456a", func := "jacinth/jacinthlaw05.SignalChanges", spec := "signalChanges", inPlace := ["internal/abi.NoEscape"], unfollowed := true, recurses := true, apart := false, narrowed := true }
def SignalChangesUptoSaid : Prop := signalChangesUptoRow.holds Try.pinned (OpenSpec.upto signalChangesSpec)

/-- 'jacinthlaw05.SignalSets', WHERE WHAT IT READS IS OF BULK AT MOST 1048576: true; the input reads as it did. -/
def signalSetsUptoRow : OpenClaim := { program := "ytdcdmbamloebfaa", sum := "7c8929fc08d4ebf98290fc4d1f62086b9e9c705e504bec229202e59b6af0456a", func := "jacinth/jacinthlaw05.SignalSets", spec := "signalSets", inPlace := ["internal/abi.NoEscape"], apart := false, narrowed := true }
def SignalSetsUptoSaid : Prop := signalSetsUptoRow.holds Try.pinned (OpenSpec.upto signalSetsSpec)

/-- 'jacinthlaw05.SignalFires', WHERE WHAT IT READS IS OF BULK AT MOST 1048576: true; the input reads as it did. -/
def signalFiresUptoRow : OpenClaim := { program := "ytdcdmbamloebfaa", sum := "7c8929fc08d4ebf98290fc4d1f62086b9e9c705e504bec229202e59b6af0456a", func := "jacinth/jacinthlaw05.SignalFires", spec := "signalFires", inPlace := ["internal/abi.NoEscape"], apart := false, narrowed := true }
def SignalFiresUptoSaid : Prop := signalFiresUptoRow.holds Try.pinned (OpenSpec.upto signalFiresSpec)

/-- 'jacinthlaw05.SignalKinds', WHERE WHAT IT READS IS OF BULK AT MOST 1048576: true; the input reads as it did. -/
def signalKindsUptoRow : OpenClaim := { program := "ytdcdmbamloebfaa", sum := "7c8929fc08d4ebf98290fc4d1f62086b9e9c705e504bec229202e59b6af0456a", func := "jacinth/jacinthlaw05.SignalKinds", spec := "signalKinds", inPlace := ["internal/abi.NoEscape"], apart := false, narrowed := true }
def SignalKindsUptoSaid : Prop := signalKindsUptoRow.holds Try.pinned (OpenSpec.upto signalKindsSpec)

/-- 'jacinthlaw05.SignalUsers', WHERE WHAT IT READS IS OF BULK AT MOST 1048576: true; the input reads as it did. -/
def signalUsersUptoRow : OpenClaim := { program := "ytdcdmbamloebfaa", sum := "7c8929fc08d4ebf98290fc4d1f62086b9e9c705e504bec229202e59b6af0456a", func := "jacinth/jacinthlaw05.SignalUsers", spec := "signalUsers", inPlace := ["internal/abi.NoEscape"], apart := false, narrowed := true }
def SignalUsersUptoSaid : Prop := signalUsersUptoRow.holds Try.pinned (OpenSpec.upto signalUsersSpec)

/-- 'jacinthlaw05.SignalTexts', WHERE WHAT IT READS IS OF BULK AT MOST 1048576: true; the input reads as it did. -/
def signalTextsUptoRow : OpenClaim := { program := "ytdcdmbamloebfaa", sum := "7c8929fc08d4ebf98290fc4d1f62086b9e9c705e504bec229202e59b6af0456a", func := "jacinth/jacinthlaw05.SignalTexts", spec := "signalTexts", inPlace := ["internal/abi.NoEscape"], apart := false, narrowed := true }
def SignalTextsUptoSaid : Prop := signalTextsUptoRow.holds Try.pinned (OpenSpec.upto signalTextsSpec)

end Rows
end Go.Proofs.Ytdcdmbamloebfaa
