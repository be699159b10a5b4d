/-
  No cell of these rows narrows 'for every input' (looked for: loops, veiled, ifaces, maps, wideKeys, modest, calm, conditions, laid).
  DERIVED. THE GIVEN ROWS OF THIS SEAT. 6 by the template 'for every input the law returns true; each argument reads behind the call as it read before'; 0 by the template 'total and deterministic' (their statements: YtnejjaebhjgccaaTotals.lean).
  GIVEN WITH THE SEED: the statements are not yours to turn. If you find one false, say at which input.
  Laid BY PROGRAM, IN A SANDBOX (cutbox-rows.mjs): the forced cells as the released guide's own fill.sh prints them over the translation d89ec3efc4a9d833… (all of the seat's roots in one cut). By AI agents, Wed Nov 11 2026. No macro, syntax, notation, axiom, sorry.
-/
import Derived.Test.YtnejjaebhjgccaaChecked
import GoSem.Claim
import GoSem.ClaimJoined
import GoSem.ClaimMapViews
import Derived.JoinedTies
import Derived.KernelRfl
namespace Go.Proofs.Ytnejjaebhjgccaa
/- THE CELL 'sum', in the pinned program and in every row, IS THE sha256 OF THE DUMP (.gsa) THAT YtnejjaebhjgccaaProg.lean LOADS. Nothing in Lean hashes anything: it is a label: what it is worth is what the hold of that sum in a sandbox is worth. -/
noncomputable def Try.pinned : Pinned := { name := "ytnejjaebhjgccaa", sum := "d89ec3efc4a9d8337eab2fc129d7b3273569f461238800f7fb0f573b8d563113", checked := Try.checked }
namespace Rows
def none {H : Type} : Left H := { results := [], args := [] }

/-- 'jacinthlaw02.ArenaValues': WHATEVER THE INPUT: true; the input reads as it did. -/
def arenaValuesSpec : ChangeSpec := { name := "arenaValues", fn := fun _ => fun
  | [d1, d2, d3] => { results := [.lit (.bool true)], args := [d1, d2, d3] }
  | _ => none }
def arenaValuesRow : OpenClaim := { program := "ytnejjaebhjgccaa", sum := "d89ec3efc4a9d8337eab2fc129d7b3273569f461238800f7fb0f573b8d563113", func := "jacinth/jacinthlaw02.ArenaValues", spec := "arenaValues", apart := false }
def ArenaValuesSaid : Prop := arenaValuesRow.holds Try.pinned (OpenSpec.ofChange arenaValuesSpec)

/-- ITS FALSE NEIGHBOUR: 'it returns false'. Refute it at one input. -/
def arenaValuesWrong : ChangeSpec := { name := "arenaValues", fn := fun _ => fun
  | [d1, d2, d3] => { results := [.lit (.bool false)], args := [d1, d2, d3] }
  | _ => none }
def ArenaValuesWrongFalsely : Prop := arenaValuesRow.holds Try.pinned (OpenSpec.ofChange arenaValuesWrong)

/-- 'jacinthlaw02.ArenaOnce': WHATEVER THE INPUT: true; the input reads as it did. -/
def arenaOnceSpec : ChangeSpec := { name := "arenaOnce", fn := fun _ => fun
  | [d1, d2] => { results := [.lit (.bool true)], args := [d1, d2] }
  | _ => none }
def arenaOnceRow : OpenClaim := { program := "ytnejjaebhjgccaa", sum := "d89ec3efc4a9d8337eab2fc129d7b3273569f461238800f7fb0f573b8d563113", func := "jacinth/jacinthlaw02.ArenaOnce", spec := "arenaOnce", apart := false }
def ArenaOnceSaid : Prop := arenaOnceRow.holds Try.pinned (OpenSpec.ofChange arenaOnceSpec)

/-- ITS FALSE NEIGHBOUR: 'it returns false'. Refute it at one input. -/
def arenaOnceWrong : ChangeSpec := { name := "arenaOnce", fn := fun _ => fun
  | [d1, d2] => { results := [.lit (.bool false)], args := [d1, d2] }
  | _ => none }
def ArenaOnceWrongFalsely : Prop := arenaOnceRow.holds Try.pinned (OpenSpec.ofChange arenaOnceWrong)

/-- 'jacinthlaw02.ArenaLast': WHATEVER THE INPUT: true; the input reads as it did. -/
def arenaLastSpec : ChangeSpec := { name := "arenaLast", fn := fun _ => fun
  | [d1, d2, d3] => { results := [.lit (.bool true)], args := [d1, d2, d3] }
  | _ => none }
def arenaLastRow : OpenClaim := { program := "ytnejjaebhjgccaa", sum := "d89ec3efc4a9d8337eab2fc129d7b3273569f461238800f7fb0f573b8d563113", func := "jacinth/jacinthlaw02.ArenaLast", spec := "arenaLast", apart := false }
def ArenaLastSaid : Prop := arenaLastRow.holds Try.pinned (OpenSpec.ofChange arenaLastSpec)

/-- ITS FALSE NEIGHBOUR: 'it returns false'. Refute it at one input. -/
def arenaLastWrong : ChangeSpec := { name := "arenaLast", fn := fun _ => fun
  | [d1, d2, d3] => { results := [.lit (.bool false)], args := [d1, d2, d3] }
  | _ => none }
def ArenaLastWrongFalsely : Prop := arenaLastRow.holds Try.pinned (OpenSpec.ofChange arenaLastWrong)

/-- 'jacinthlaw02.ArenaIDs': WHATEVER THE INPUT: true; the input reads as it did. -/
def arenaIDsSpec : ChangeSpec := { name := "arenaIDs", fn := fun _ => fun
  | [d1, d2] => { results := [.lit (.bool true)], args := [d1, d2] }
  | _ => none }
def arenaIDsRow : OpenClaim := { program := "ytnejjaebhjgccaa", sum := "d89ec3efc4a9d8337eab2fc129d7b3273569f461238800f7fb0f573b8d563113", func := "jacinth/jacinthlaw02.ArenaIDs", spec := "arenaIDs", apart := false }
def ArenaIDsSaid : Prop := arenaIDsRow.holds Try.pinned (OpenSpec.ofChange arenaIDsSpec)

/-- ITS FALSE NEIGHBOUR: 'it returns false'. Refute it at one input. -/
def arenaIDsWrong : ChangeSpec := { name := "arenaIDs", fn := fun _ => fun
  | [d1, d2] => { results := [.lit (.bool false)], args := [d1, d2] }
  | _ => none }
def ArenaIDsWrongFalsely : Prop := arenaIDsRow.holds Try.pinned (OpenSpec.ofChange arenaIDsWrong)

/-- 'jacinthlaw02.ArenaTwins': WHATEVER THE INPUT: true; the input reads as it did. -/
def arenaTwinsSpec : ChangeSpec := { name := "arenaTwins", fn := fun _ => fun
  | [d1, d2] => { results := [.lit (.bool true)], args := [d1, d2] }
  | _ => none }
def arenaTwinsRow : OpenClaim := { program := "ytnejjaebhjgccaa", sum := "d89ec3efc4a9d8337eab2fc129d7b3273569f461238800f7fb0f573b8d563113", func := "jacinth/jacinthlaw02.ArenaTwins", spec := "arenaTwins", unfollowed := true, recurses := true, apart := false }
def ArenaTwinsSaid : Prop := arenaTwinsRow.holds Try.pinned (OpenSpec.ofChange arenaTwinsSpec)

/-- ITS FALSE NEIGHBOUR: 'it returns false'. Refute it at one input. -/
def arenaTwinsWrong : ChangeSpec := { name := "arenaTwins", fn := fun _ => fun
  | [d1, d2] => { results := [.lit (.bool false)], args := [d1, d2] }
  | _ => none }
def ArenaTwinsWrongFalsely : Prop := arenaTwinsRow.holds Try.pinned (OpenSpec.ofChange arenaTwinsWrong)

/-- 'jacinthlaw02.ArenaPlays': WHATEVER THE INPUT: true; the input reads as it did. -/
def arenaPlaysSpec : ChangeSpec := { name := "arenaPlays", fn := fun _ => fun
  | [d1, d2] => { results := [.lit (.bool true)], args := [d1, d2] }
  | _ => none }
def arenaPlaysRow : OpenClaim := { program := "ytnejjaebhjgccaa", sum := "d89ec3efc4a9d8337eab2fc129d7b3273569f461238800f7fb0f573b8d563113", func := "jacinth/jacinthlaw02.ArenaPlays", spec := "arenaPlays", unfollowed := true, recurses := true, apart := false }
def ArenaPlaysSaid : Prop := arenaPlaysRow.holds Try.pinned (OpenSpec.ofChange arenaPlaysSpec)

/-- ITS FALSE NEIGHBOUR: 'it returns false'. Refute it at one input. -/
def arenaPlaysWrong : ChangeSpec := { name := "arenaPlays", fn := fun _ => fun
  | [d1, d2] => { results := [.lit (.bool false)], args := [d1, d2] }
  | _ => none }
def ArenaPlaysWrongFalsely : Prop := arenaPlaysRow.holds Try.pinned (OpenSpec.ofChange arenaPlaysWrong)

/- THE SECOND FORM. 'bulk': how many values and letters a reading holds, each counted each time it is reached (what is shared counts as often as it is met; a slice's spare places count too). A statement '..UptoSaid' is the law's where the arguments, and the package variables that the reading takes, are together of bulk at most 1048576: NARROWER than '..Said'. Prove '..Said' where nothing that the law and all that it calls make is longer than what came in: it says more and counts as full. Else prove '..UptoSaid'. A law counts once. -/
mutual
def uptoBulk {H : Type} : DataW H → Nat
  | .lit (.string bytes) => bytes.length + 1
  | .lit _ => 1
  | .nil => 1
  | .ptr d => uptoBulk d + 1
  | .slice elems spare => uptoBulkAll elems + uptoBulkAll spare + 1
  | .agg parts => uptoBulkAll parts + 1
  | .iface _ d => uptoBulk d + 1
  | .map entries => uptoBulkEntries entries + 1
  | .held _ => 1
def uptoBulkAll {H : Type} : List (DataW H) → Nat
  | [] => 0
  | d :: r => uptoBulk d + uptoBulkAll r
def uptoBulkEntries {H : Type} : List (Lit × DataW H) → Nat
  | [] => 0
  | x :: r => uptoBulkEntry x + uptoBulkEntries r
def uptoBulkEntry {H : Type} : Lit × DataW H → Nat
  | (.string bytes, d) => bytes.length + uptoBulk d + 1
  | (_, d) => uptoBulk d + 1
 end
def uptoSmall : (H : Type) → List (DataW H) → Bool := fun _ ds => decide (uptoBulkAll ds ≤ 1048576)
def OpenSpec.upto (s : _root_.Go.ChangeSpec) : _root_.Go.OpenSpec := { _root_.Go.OpenSpec.ofChange s with cond := some uptoSmall }

/-- 'jacinthlaw02.ArenaValues', WHERE WHAT IT READS IS OF BULK AT MOST 1048576: true; the input reads as it did. -/
def arenaValuesUptoRow : OpenClaim := { program := "ytnejjaebhjgccaa", sum := "d89ec3efc4a9d8337eab2fc129d7b3273569f461238800f7fb0f573b8d563113", func := "jacinth/jacinthlaw02.ArenaValues", spec := "arenaValues", apart := false, narrowed := true }
def ArenaValuesUptoSaid : Prop := arenaValuesUptoRow.holds Try.pinned (OpenSpec.upto arenaValuesSpec)

/-- 'jacinthlaw02.ArenaOnce', WHERE WHAT IT READS IS OF BULK AT MOST 1048576: true; the input reads as it did. -/
def arenaOnceUptoRow : OpenClaim := { program := "ytnejjaebhjgccaa", sum := "d89ec3efc4a9d8337eab2fc129d7b3273569f461238800f7fb0f573b8d563113", func := "jacinth/jacinthlaw02.ArenaOnce", spec := "arenaOnce", apart := false, narrowed := true }
def ArenaOnceUptoSaid : Prop := arenaOnceUptoRow.holds Try.pinned (OpenSpec.upto arenaOnceSpec)

/-- 'jacinthlaw02.ArenaLast', WHERE WHAT IT READS IS OF BULK AT MOST 1048576: true; the input reads as it did. -/
def arenaLastUptoRow : OpenClaim := { program := "ytnejjaebhjgccaa", sum := "d89ec3efc4a9d8337eab2fc129d7b3273569f461238800f7fb0f573b8d563113", func := "jacinth/jacinthlaw02.ArenaLast", spec := "arenaLast", apart := false, narrowed := true }
def ArenaLastUptoSaid : Prop := arenaLastUptoRow.holds Try.pinned (OpenSpec.upto arenaLastSpec)

/-- 'jacinthlaw02.ArenaIDs', WHERE WHAT IT READS IS OF BULK AT MOST 1048576: true; the input reads as it did. -/
def arenaIDsUptoRow : OpenClaim := { program := "ytnejjaebhjgccaa", sum := "d89ec3efc4a9d8337eab2fc129d7b3273569f461238800f7fb0f573b8d563113", func := "jacinth/jacinthlaw02.ArenaIDs", spec := "arenaIDs", apart := false, narrowed := true }
def ArenaIDsUptoSaid : Prop := arenaIDsUptoRow.holds Try.pinned (OpenSpec.upto arenaIDsSpec)

/-- 'jacinthlaw02.ArenaTwins', WHERE WHAT IT READS IS OF BULK AT MOST 1048576: true; the input reads as it did. -/
def arenaTwinsUptoRow : OpenClaim := { program := "ytnejjaebhjgccaa", sum := "d89ec3efc4a9d8337eab2fc129d7b3273569f461238800f7fb0f573b8d563113", func := "jacinth/jacinthlaw02.ArenaTwins", spec := "arenaTwins", unfollowed := true, recurses := true, apart := false, narrowed := true }
def ArenaTwinsUptoSaid : Prop := arenaTwinsUptoRow.holds Try.pinned (OpenSpec.upto arenaTwinsSpec)

/-- 'jacinthlaw02.ArenaPlays', WHERE WHAT IT READS IS OF BULK AT MOST 1048576: true; the input reads as it did. -/
def arenaPlaysUptoRow : OpenClaim := { program := "ytnejjaebhjgccaa", sum := "d89ec3efc4a9d8337eab2fc129d7b3273569f461238800f7fb0f573b8d563113", func := "jacinth/jacinthlaw02.ArenaPlays", spec := "arenaPlays", unfollowed := true, recurses := true, apart := false, narrowed := true }
def ArenaPlaysUptoSaid : Prop := arenaPlaysUptoRow.holds Try.pinned (OpenSpec.upto arenaPlaysSpec)

end Rows
end Go.Proofs.Ytnejjaebhjgccaa
