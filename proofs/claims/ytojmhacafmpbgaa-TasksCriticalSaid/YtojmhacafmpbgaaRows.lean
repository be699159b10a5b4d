/-
  No cell of these rows narrows 'for every input' (looked for: loops, veiled, ifaces, maps, wideKeys, modest, calm, conditions, laid).
  DERIVED. THE GIVEN ROWS OF THIS SEAT. 6 by the template 'for every input the law returns true; each argument reads behind the call as it read before'; 0 by the template 'total and deterministic' (their statements: YtojmhacafmpbgaaTotals.lean).
  GIVEN WITH THE SEED: the statements are not yours to turn. If you find one false, say at which input.
  Laid BY PROGRAM, IN A SANDBOX (cutbox-rows.mjs): the forced cells as the released guide's own fill.sh prints them over the translation e7b74b2cef87722b… (all of the seat's roots in one cut). By AI agents, Wed Nov 11 2026. No macro, syntax, notation, axiom, sorry.
-/
import Derived.Test.YtojmhacafmpbgaaChecked
import GoSem.Claim
import GoSem.ClaimJoined
import GoSem.ClaimMapViews
import Derived.JoinedTies
import Derived.KernelRfl
namespace Go.Proofs.Ytojmhacafmpbgaa
/- THE CELL 'sum', in the pinned program and in every row, IS THE sha256 OF THE DUMP (.gsa) THAT YtojmhacafmpbgaaProg.lean LOADS. Nothing in Lean hashes anything: it is a label: what it is worth is what the hold of that sum in a sandbox is worth. -/
noncomputable def Try.pinned : Pinned := { name := "ytojmhacafmpbgaa", sum := "e7b74b2cef87722b2d18d4bed80f0d0d2f5a1d8105567f470b36a056350d57b0", checked := Try.checked }
namespace Rows
def none {H : Type} : Left H := { results := [], args := [] }

/-- 'jacinthlaw17.TasksRoom': WHATEVER THE INPUT: true; the input reads as it did. -/
def tasksRoomSpec : ChangeSpec := { name := "tasksRoom", fn := fun _ => fun
  | [d1, d2] => { results := [.lit (.bool true)], args := [d1, d2] }
  | _ => none }
def tasksRoomRow : OpenClaim := { program := "ytojmhacafmpbgaa", sum := "e7b74b2cef87722b2d18d4bed80f0d0d2f5a1d8105567f470b36a056350d57b0", func := "jacinth/jacinthlaw17.TasksRoom", spec := "tasksRoom", unfollowed := true, recurses := true, apart := false }
def TasksRoomSaid : Prop := tasksRoomRow.holds Try.pinned (OpenSpec.ofChange tasksRoomSpec)

/-- ITS FALSE NEIGHBOUR: 'it returns false'. Refute it at one input. -/
def tasksRoomWrong : ChangeSpec := { name := "tasksRoom", fn := fun _ => fun
  | [d1, d2] => { results := [.lit (.bool false)], args := [d1, d2] }
  | _ => none }
def TasksRoomWrongFalsely : Prop := tasksRoomRow.holds Try.pinned (OpenSpec.ofChange tasksRoomWrong)

/-- 'jacinthlaw17.TasksCritical': WHATEVER THE INPUT: true; the input reads as it did. -/
def tasksCriticalSpec : ChangeSpec := { name := "tasksCritical", fn := fun _ => fun
  | [d] => { results := [.lit (.bool true)], args := [d] }
  | _ => none }
def tasksCriticalRow : OpenClaim := { program := "ytojmhacafmpbgaa", sum := "e7b74b2cef87722b2d18d4bed80f0d0d2f5a1d8105567f470b36a056350d57b0", func := "jacinth/jacinthlaw17.TasksCritical", spec := "tasksCritical", unfollowed := true, recurses := true, apart := false }
def TasksCriticalSaid : Prop := tasksCriticalRow.holds Try.pinned (OpenSpec.ofChange tasksCriticalSpec)

/-- ITS FALSE NEIGHBOUR: 'it returns false'. Refute it at one input. -/
def tasksCriticalWrong : ChangeSpec := { name := "tasksCritical", fn := fun _ => fun
  | [d] => { results := [.lit (.bool false)], args := [d] }
  | _ => none }
def TasksCriticalWrongFalsely : Prop := tasksCriticalRow.holds Try.pinned (OpenSpec.ofChange tasksCriticalWrong)

/-- 'jacinthlaw17.TasksExits': WHATEVER THE INPUT: true; the input reads as it did. -/
def tasksExitsSpec : ChangeSpec := { name := "tasksExits", fn := fun _ => fun
  | [d1, d2, d3] => { results := [.lit (.bool true)], args := [d1, d2, d3] }
  | _ => none }
def tasksExitsRow : OpenClaim := { program := "ytojmhacafmpbgaa", sum := "e7b74b2cef87722b2d18d4bed80f0d0d2f5a1d8105567f470b36a056350d57b0", func := "jacinth/jacinthlaw17.TasksExits", spec := "tasksExits", unfollowed := true, recurses := true, apart := false }
def TasksExitsSaid : Prop := tasksExitsRow.holds Try.pinned (OpenSpec.ofChange tasksExitsSpec)

/-- ITS FALSE NEIGHBOUR: 'it returns false'. Refute it at one input. -/
def tasksExitsWrong : ChangeSpec := { name := "tasksExits", fn := fun _ => fun
  | [d1, d2, d3] => { results := [.lit (.bool false)], args := [d1, d2, d3] }
  | _ => none }
def TasksExitsWrongFalsely : Prop := tasksExitsRow.holds Try.pinned (OpenSpec.ofChange tasksExitsWrong)

/-- 'jacinthlaw17.TasksPolicy': WHATEVER THE INPUT: true; the input reads as it did. -/
def tasksPolicySpec : ChangeSpec := { name := "tasksPolicy", fn := fun _ => fun
  | [d1, d2] => { results := [.lit (.bool true)], args := [d1, d2] }
  | _ => none }
def tasksPolicyRow : OpenClaim := { program := "ytojmhacafmpbgaa", sum := "e7b74b2cef87722b2d18d4bed80f0d0d2f5a1d8105567f470b36a056350d57b0", func := "jacinth/jacinthlaw17.TasksPolicy", spec := "tasksPolicy", unfollowed := true, recurses := true, apart := false }
def TasksPolicySaid : Prop := tasksPolicyRow.holds Try.pinned (OpenSpec.ofChange tasksPolicySpec)

/-- ITS FALSE NEIGHBOUR: 'it returns false'. Refute it at one input. -/
def tasksPolicyWrong : ChangeSpec := { name := "tasksPolicy", fn := fun _ => fun
  | [d1, d2] => { results := [.lit (.bool false)], args := [d1, d2] }
  | _ => none }
def TasksPolicyWrongFalsely : Prop := tasksPolicyRow.holds Try.pinned (OpenSpec.ofChange tasksPolicyWrong)

/-- 'jacinthlaw17.TasksKill': WHATEVER THE INPUT: true; the input reads as it did. -/
def tasksKillSpec : ChangeSpec := { name := "tasksKill", fn := fun _ => fun
  | [d1, d2, d3] => { results := [.lit (.bool true)], args := [d1, d2, d3] }
  | _ => none }
def tasksKillRow : OpenClaim := { program := "ytojmhacafmpbgaa", sum := "e7b74b2cef87722b2d18d4bed80f0d0d2f5a1d8105567f470b36a056350d57b0", func := "jacinth/jacinthlaw17.TasksKill", spec := "tasksKill", unfollowed := true, recurses := true, apart := false }
def TasksKillSaid : Prop := tasksKillRow.holds Try.pinned (OpenSpec.ofChange tasksKillSpec)

/-- ITS FALSE NEIGHBOUR: 'it returns false'. Refute it at one input. -/
def tasksKillWrong : ChangeSpec := { name := "tasksKill", fn := fun _ => fun
  | [d1, d2, d3] => { results := [.lit (.bool false)], args := [d1, d2, d3] }
  | _ => none }
def TasksKillWrongFalsely : Prop := tasksKillRow.holds Try.pinned (OpenSpec.ofChange tasksKillWrong)

/-- 'jacinthlaw17.TasksPlays': WHATEVER THE INPUT: true; the input reads as it did. -/
def tasksPlaysSpec : ChangeSpec := { name := "tasksPlays", fn := fun _ => fun
  | [d1, d2] => { results := [.lit (.bool true)], args := [d1, d2] }
  | _ => none }
def tasksPlaysRow : OpenClaim := { program := "ytojmhacafmpbgaa", sum := "e7b74b2cef87722b2d18d4bed80f0d0d2f5a1d8105567f470b36a056350d57b0", func := "jacinth/jacinthlaw17.TasksPlays", spec := "tasksPlays", unfollowed := true, recurses := true, apart := false }
def TasksPlaysSaid : Prop := tasksPlaysRow.holds Try.pinned (OpenSpec.ofChange tasksPlaysSpec)

/-- ITS FALSE NEIGHBOUR: 'it returns false'. Refute it at one input. -/
def tasksPlaysWrong : ChangeSpec := { name := "tasksPlays", fn := fun _ => fun
  | [d1, d2] => { results := [.lit (.bool false)], args := [d1, d2] }
  | _ => none }
def TasksPlaysWrongFalsely : Prop := tasksPlaysRow.holds Try.pinned (OpenSpec.ofChange tasksPlaysWrong)

/- THE SECOND FORM. 'bulk': how many values and letters a reading holds, each counted each time it is reached (what is shared counts as often as it is met; a slice's spare places count too). A statement '..UptoSaid' is the law's where the arguments, and the package variables that the reading takes, are together of bulk at most 1048576: NARROWER than '..Said'. Prove '..Said' where nothing that the law and all that it calls make is longer than what came in: it says more and counts as full. Else prove '..UptoSaid'. A law counts once. -/
mutual
def uptoBulk {H : Type} : DataW H → Nat
  | .lit (.string bytes) => bytes.length + 1
  | .lit _ => 1
  | .nil => 1
  | .ptr d => uptoBulk d + 1
  | .slice elems spare => uptoBulkAll elems + uptoBulkAll spare + 1
  | .agg parts => uptoBulkAll parts + 1
  | .iface _ d => uptoBulk d + 1
  | .map entries => uptoBulkEntries entries + 1
  | .held _ => 1
def uptoBulkAll {H : Type} : List (DataW H) → Nat
  | [] => 0
  | d :: r => uptoBulk d + uptoBulkAll r
def uptoBulkEntries {H : Type} : List (Lit × DataW H) → Nat
  | [] => 0
  | x :: r => uptoBulkEntry x + uptoBulkEntries r
def uptoBulkEntry {H : Type} : Lit × DataW H → Nat
  | (.string bytes, d) => bytes.length + uptoBulk d + 1
  | (_, d) => uptoBulk d + 1
 end
def uptoSmall : (H : Type) → List (DataW H) → Bool := fun _ ds => decide (uptoBulkAll ds ≤ 1048576)
def OpenSpec.upto (s : _root_.Go.ChangeSpec) : _root_.Go.OpenSpec := { _root_.Go.OpenSpec.ofChange s with cond := some uptoSmall }

/-- 'jacinthlaw17.TasksRoom', WHERE WHAT IT READS IS OF BULK AT MOST 1048576: true; the input reads as it did. -/
def tasksRoomUptoRow : OpenClaim := { program := "ytojmhacafmpbgaa", sum := "e7b74b2cef87722b2d18d4bed80f0d0d2f5a1d8105567f470b36a056350d57b0", func := "jacinth/jacinthlaw17.TasksRoom", spec := "tasksRoom", unfollowed := true, recurses := true, apart := false, narrowed := true }
def TasksRoomUptoSaid : Prop := tasksRoomUptoRow.holds Try.pinned (OpenSpec.upto tasksRoomSpec)

/-- 'jacinthlaw17.TasksCritical', WHERE WHAT IT READS IS OF BULK AT MOST 1048576: true; the input reads as it did. -/
def tasksCriticalUptoRow : OpenClaim := { program := "ytojmhacafmpbgaa", sum := "e7b74b2cef87722b2d18d4bed80f0d0d2f5a1d8105567f470b36a056350d57b0", func := "jacinth/jacinthlaw17.TasksCritical", spec := "tasksCritical", unfollowed := true, recurses := true, apart := false, narrowed := true }
def TasksCriticalUptoSaid : Prop := tasksCriticalUptoRow.holds Try.pinned (OpenSpec.upto tasksCriticalSpec)

/-- 'jacinthlaw17.TasksExits', WHERE WHAT IT READS IS OF BULK AT MOST 1048576: true; the input reads as it did. -/
def tasksExitsUptoRow : OpenClaim := { program := "ytojmhacafmpbgaa", sum := "e7b74b2cef87722b2d18d4bed80f0d0d2f5a1d8105567f470b36a056350d57b0", func := "jacinth/jacinthlaw17.TasksExits", spec := "tasksExits", unfollowed := true, recurses := true, apart := false, narrowed := true }
def TasksExitsUptoSaid : Prop := tasksExitsUptoRow.holds Try.pinned (OpenSpec.upto tasksExitsSpec)

/-- 'jacinthlaw17.TasksPolicy', WHERE WHAT IT READS IS OF BULK AT MOST 1048576: true; the input reads as it did. -/
def tasksPolicyUptoRow : OpenClaim := { program := "ytojmhacafmpbgaa", sum := "e7b74b2cef87722b2d18d4bed80f0d0d2f5a1d8105567f470b36a056350d57b0", func := "jacinth/jacinthlaw17.TasksPolicy", spec := "tasksPolicy", unfollowed := true, recurses := true, apart := false, narrowed := true }
def TasksPolicyUptoSaid : Prop := tasksPolicyUptoRow.holds Try.pinned (OpenSpec.upto tasksPolicySpec)

/-- 'jacinthlaw17.TasksKill', WHERE WHAT IT READS IS OF BULK AT MOST 1048576: true; the input reads as it did. -/
def tasksKillUptoRow : OpenClaim := { program := "ytojmhacafmpbgaa", sum := "e7b74b2cef87722b2d18d4bed80f0d0d2f5a1d8105567f470b36a056350d57b0", func := "jacinth/jacinthlaw17.TasksKill", spec := "tasksKill", unfollowed := true, recurses := true, apart := false, narrowed := true }
def TasksKillUptoSaid : Prop := tasksKillUptoRow.holds Try.pinned (OpenSpec.upto tasksKillSpec)

/-- 'jacinthlaw17.TasksPlays', WHERE WHAT IT READS IS OF BULK AT MOST 1048576: true; the input reads as it did. -/
def tasksPlaysUptoRow : OpenClaim := { program := "ytojmhacafmpbgaa", sum := "e7b74b2cef87722b2d18d4bed80f0d0d2f5a1d8105567f470b36a056350d57b0", func := "jacinth/jacinthlaw17.TasksPlays", spec := "tasksPlays", unfollowed := true, recurses := true, apart := false, narrowed := true }
def TasksPlaysUptoSaid : Prop := tasksPlaysUptoRow.holds Try.pinned (OpenSpec.upto tasksPlaysSpec)

end Rows
end Go.Proofs.Ytojmhacafmpbgaa
