/-
  NARROWER THAN 'FOR EVERY INPUT', by the rows' own cells (each row's printed sentence says how): RightsDefaults: laid · RightsKinds: laid.
  DERIVED. THE GIVEN ROWS OF THIS SEAT. 2 by the template 'for every input the law returns true; each argument reads behind the call as it read before'; 0 by the template 'total and deterministic' (their statements: YtpkmpenjnbpblaaDoorTotals.lean).
  GIVEN WITH THE SEED: the statements are not yours to turn. If you find one false, say at which input.
  Laid BY PROGRAM, IN A SANDBOX (cutbox-rows.mjs): the forced cells as the released guide's own fill.sh prints them over the translation 2498fed9ec94d0a7… (all of the seat's roots in one cut). By AI agents, Wed Nov 11 2026. No macro, syntax, notation, axiom, sorry.
-/
import Derived.Test.YtpkmpenjnbpblaaDoorChecked
import GoSem.Claim
import GoSem.ClaimJoined
import GoSem.ClaimMapViews
import Derived.JoinedTies
import Derived.KernelRfl
namespace Go.Proofs.YtpkmpenjnbpblaaDoor
/- THE CELL 'sum', in the pinned program and in every row, IS THE sha256 OF THE DUMP (.gsa) THAT YtpkmpenjnbpblaaDoorProg.lean LOADS. Nothing in Lean hashes anything: it is a label: what it is worth is what the hold of that sum in a sandbox is worth. -/
noncomputable def Tryd.pinned : Pinned := { name := "ytpkmpenjnbpblaadoor", sum := "2498fed9ec94d0a72dde3f2ead8ac36ae05d49d4b84ff47d5f7bad70fb136134", checked := Tryd.checked }
namespace Rows
def none {H : Type} : Left H := { results := [], args := [] }

/- WHAT THE LISTED PACKAGE-LEVEL VARIABLES READ AS WHEN THE CALL BEGINS. Each datum BY PROGRAM (the guide's laid-datum.mjs) off the statement by which the dump's own 'gosem.cut.vars' lays the variable. In a bare row this is a premise. The card (YtpkmpenjnbpblaaDoorCards.lean) ties it to the program's text. -/
def laid_jacinth_rights_names {H : Type} : DataW H := .agg [.lit (.string []), .lit (.string [106, 111, 98]), .lit (.string [112, 114, 111, 99, 101, 115, 115]), .lit (.string [116, 104, 114, 101, 97, 100]), .lit (.string [99, 104, 97, 110, 110, 101, 108]), .lit (.string [115, 111, 99, 107, 101, 116]), .lit (.string [102, 105, 102, 111]), .lit (.string [101, 118, 101, 110, 116]), .lit (.string [101, 118, 101, 110, 116, 112, 97, 105, 114]), .lit (.string [112, 111, 114, 116]), .lit (.string [116, 105, 109, 101, 114]), .lit (.string [118, 109, 111])]

/-- 'jacinthlaw04.RightsDefaults': WHATEVER THE INPUT: true; the input reads as it did. -/
def rightsDefaultsSpec : ChangeSpec := { name := "rightsDefaults", fn := fun _ => fun
  | [d] => { results := [.lit (.bool true)], args := [d] }
  | _ => none }
def rightsDefaultsRow : OpenClaim := { program := "ytpkmpenjnbpblaadoor", sum := "2498fed9ec94d0a72dde3f2ead8ac36ae05d49d4b84ff47d5f7bad70fb136134", func := "jacinth/jacinthlaw04.RightsDefaults", spec := "rightsDefaults", inPlace := ["internal/abi.NoEscape", "internal/bytealg.MakeNoZero"], unfollowed := true, recurses := true, named := ["jacinth/rights.names"], apart := false, laid := [("jacinth/rights.names", laid_jacinth_rights_names)] }
def RightsDefaultsSaid : Prop := rightsDefaultsRow.holds Tryd.pinned (OpenSpec.ofChange rightsDefaultsSpec)

/-- ITS FALSE NEIGHBOUR: 'it returns false'. Refute it at one input. -/
def rightsDefaultsWrong : ChangeSpec := { name := "rightsDefaults", fn := fun _ => fun
  | [d] => { results := [.lit (.bool false)], args := [d] }
  | _ => none }
def RightsDefaultsWrongFalsely : Prop := rightsDefaultsRow.holds Tryd.pinned (OpenSpec.ofChange rightsDefaultsWrong)

/-- 'jacinthlaw04.RightsKinds': WHATEVER THE INPUT: true; the input reads as it did. -/
def rightsKindsSpec : ChangeSpec := { name := "rightsKinds", fn := fun _ => fun
  | [d] => { results := [.lit (.bool true)], args := [d] }
  | _ => none }
def rightsKindsRow : OpenClaim := { program := "ytpkmpenjnbpblaadoor", sum := "2498fed9ec94d0a72dde3f2ead8ac36ae05d49d4b84ff47d5f7bad70fb136134", func := "jacinth/jacinthlaw04.RightsKinds", spec := "rightsKinds", inPlace := ["internal/abi.NoEscape", "internal/bytealg.MakeNoZero"], unfollowed := true, recurses := true, named := ["jacinth/rights.names"], apart := false, laid := [("jacinth/rights.names", laid_jacinth_rights_names)] }
def RightsKindsSaid : Prop := rightsKindsRow.holds Tryd.pinned (OpenSpec.ofChange rightsKindsSpec)

/-- ITS FALSE NEIGHBOUR: 'it returns false'. Refute it at one input. -/
def rightsKindsWrong : ChangeSpec := { name := "rightsKinds", fn := fun _ => fun
  | [d] => { results := [.lit (.bool false)], args := [d] }
  | _ => none }
def RightsKindsWrongFalsely : Prop := rightsKindsRow.holds Tryd.pinned (OpenSpec.ofChange rightsKindsWrong)

/- THE SECOND FORM. 'bulk': how many values and letters a reading holds, each counted each time it is reached (what is shared counts as often as it is met; a slice's spare places count too). A statement '..UptoSaid' is the law's where the arguments, and the package variables that the reading takes, are together of bulk at most 1048576: NARROWER than '..Said'. Prove '..Said' where nothing that the law and all that it calls make is longer than what came in: it says more and counts as full. Else prove '..UptoSaid'. A law counts once. -/
mutual
def uptoBulk {H : Type} : DataW H → Nat
  | .lit (.string bytes) => bytes.length + 1
  | .lit _ => 1
  | .nil => 1
  | .ptr d => uptoBulk d + 1
  | .slice elems spare => uptoBulkAll elems + uptoBulkAll spare + 1
  | .agg parts => uptoBulkAll parts + 1
  | .iface _ d => uptoBulk d + 1
  | .map entries => uptoBulkEntries entries + 1
  | .held _ => 1
def uptoBulkAll {H : Type} : List (DataW H) → Nat
  | [] => 0
  | d :: r => uptoBulk d + uptoBulkAll r
def uptoBulkEntries {H : Type} : List (Lit × DataW H) → Nat
  | [] => 0
  | x :: r => uptoBulkEntry x + uptoBulkEntries r
def uptoBulkEntry {H : Type} : Lit × DataW H → Nat
  | (.string bytes, d) => bytes.length + uptoBulk d + 1
  | (_, d) => uptoBulk d + 1
 end
def uptoSmall : (H : Type) → List (DataW H) → Bool := fun _ ds => decide (uptoBulkAll ds ≤ 1048576)
def OpenSpec.upto (s : _root_.Go.ChangeSpec) : _root_.Go.OpenSpec := { _root_.Go.OpenSpec.ofChange s with cond := some uptoSmall }

/-- 'jacinthlaw04.RightsDefaults', WHERE WHAT IT READS IS OF BULK AT MOST 1048576: true; the input reads as it did. -/
def rightsDefaultsUptoRow : OpenClaim := { program := "ytpkmpenjnbpblaadoor", sum := "2498fed9ec94d0a72dde3f2ead8ac36ae05d49d4b84ff47d5f7bad70fb136134", func := "jacinth/jacinthlaw04.RightsDefaults", spec := "rightsDefaults", inPlace := ["internal/abi.NoEscape", "internal/bytealg.MakeNoZero"], unfollowed := true, recurses := true, named := ["jacinth/rights.names"], apart := false, laid := [("jacinth/rights.names", laid_jacinth_rights_names)], narrowed := true }
def RightsDefaultsUptoSaid : Prop := rightsDefaultsUptoRow.holds Tryd.pinned (OpenSpec.upto rightsDefaultsSpec)

/-- 'jacinthlaw04.RightsKinds', WHERE WHAT IT READS IS OF BULK AT MOST 1048576: true; the input reads as it did. -/
def rightsKindsUptoRow : OpenClaim := { program := "ytpkmpenjnbpblaadoor", sum := "2498fed9ec94d0a72dde3f2ead8ac36ae05d49d4b84ff47d5f7bad70fb136134", func := "jacinth/jacinthlaw04.RightsKinds", spec := "rightsKinds", inPlace := ["internal/abi.NoEscape", "internal/bytealg.MakeNoZero"], unfollowed := true, recurses := true, named := ["jacinth/rights.names"], apart := false, laid := [("jacinth/rights.names", laid_jacinth_rights_names)], narrowed := true }
def RightsKindsUptoSaid : Prop := rightsKindsUptoRow.holds Tryd.pinned (OpenSpec.upto rightsKindsSpec)

end Rows
end Go.Proofs.YtpkmpenjnbpblaaDoor
