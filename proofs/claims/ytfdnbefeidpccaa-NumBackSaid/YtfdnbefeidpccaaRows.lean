/-
  No cell of these rows narrows 'for every input' (looked for: loops, veiled, ifaces, maps, wideKeys, modest, calm, conditions, laid).
  DERIVED. THE GIVEN ROWS OF THIS SEAT. 10 by the template 'for every input the law returns true; each argument reads behind the call as it read before'; 0 by the template 'total and deterministic' (their statements: YtfdnbefeidpccaaTotals.lean).
  GIVEN WITH THE SEED: the statements are not yours to turn. If you find one false, say at which input.
  Laid BY PROGRAM, IN A SANDBOX (cutbox-rows.mjs): the forced cells as the released guide's own fill.sh prints them over the translation 7606e6f717ff3379… (all of the seat's roots in one cut). By AI agents, Wed Nov 11 2026. No macro, syntax, notation, axiom, sorry.
-/
import Derived.Test.YtfdnbefeidpccaaChecked
import GoSem.Claim
import GoSem.ClaimJoined
import GoSem.ClaimMapViews
import Derived.JoinedTies
import Derived.KernelRfl
namespace Go.Proofs.Ytfdnbefeidpccaa
/- THE CELL 'sum', in the pinned program and in every row, IS THE sha256 OF THE DUMP (.gsa) THAT YtfdnbefeidpccaaProg.lean LOADS. Nothing in Lean hashes anything: it is a label: what it is worth is what the hold of that sum in a sandbox is worth. -/
noncomputable def Try.pinned : Pinned := { name := "ytfdnbefeidpccaa", sum := "7606e6f717ff3379742b0916c7bfb320777111382000d9fbd57f6ee328dfe5bd", checked := Try.checked }
namespace Rows
def none {H : Type} : Left H := { results := [], args := [] }

/-- 'jacinthlaw01.NumMixes': WHATEVER THE INPUT: true; the input reads as it did. -/
def numMixesSpec : ChangeSpec := { name := "numMixes", fn := fun _ => fun
  | [d] => { results := [.lit (.bool true)], args := [d] }
  | _ => none }
def numMixesRow : OpenClaim := { program := "ytfdnbefeidpccaa", sum := "7606e6f717ff3379742b0916c7bfb320777111382000d9fbd57f6ee328dfe5bd", func := "jacinth/jacinthlaw01.NumMixes", spec := "numMixes", apart := false }
def NumMixesSaid : Prop := numMixesRow.holds Try.pinned (OpenSpec.ofChange numMixesSpec)

/-- ITS FALSE NEIGHBOUR: 'it returns false'. Refute it at one input. -/
def numMixesWrong : ChangeSpec := { name := "numMixes", fn := fun _ => fun
  | [d] => { results := [.lit (.bool false)], args := [d] }
  | _ => none }
def NumMixesWrongFalsely : Prop := numMixesRow.holds Try.pinned (OpenSpec.ofChange numMixesWrong)

/-- 'jacinthlaw01.NumMixed': WHATEVER THE INPUT: true; the input reads as it did. -/
def numMixedSpec : ChangeSpec := { name := "numMixed", fn := fun _ => fun
  | [d1, d2] => { results := [.lit (.bool true)], args := [d1, d2] }
  | _ => none }
def numMixedRow : OpenClaim := { program := "ytfdnbefeidpccaa", sum := "7606e6f717ff3379742b0916c7bfb320777111382000d9fbd57f6ee328dfe5bd", func := "jacinth/jacinthlaw01.NumMixed", spec := "numMixed", apart := false }
def NumMixedSaid : Prop := numMixedRow.holds Try.pinned (OpenSpec.ofChange numMixedSpec)

/-- ITS FALSE NEIGHBOUR: 'it returns false'. Refute it at one input. -/
def numMixedWrong : ChangeSpec := { name := "numMixed", fn := fun _ => fun
  | [d1, d2] => { results := [.lit (.bool false)], args := [d1, d2] }
  | _ => none }
def NumMixedWrongFalsely : Prop := numMixedRow.holds Try.pinned (OpenSpec.ofChange numMixedWrong)

/-- 'jacinthlaw01.NumSums': WHATEVER THE INPUT: true; the input reads as it did. -/
def numSumsSpec : ChangeSpec := { name := "numSums", fn := fun _ => fun
  | [d1, d2] => { results := [.lit (.bool true)], args := [d1, d2] }
  | _ => none }
def numSumsRow : OpenClaim := { program := "ytfdnbefeidpccaa", sum := "7606e6f717ff3379742b0916c7bfb320777111382000d9fbd57f6ee328dfe5bd", func := "jacinth/jacinthlaw01.NumSums", spec := "numSums", apart := false }
def NumSumsSaid : Prop := numSumsRow.holds Try.pinned (OpenSpec.ofChange numSumsSpec)

/-- ITS FALSE NEIGHBOUR: 'it returns false'. Refute it at one input. -/
def numSumsWrong : ChangeSpec := { name := "numSums", fn := fun _ => fun
  | [d1, d2] => { results := [.lit (.bool false)], args := [d1, d2] }
  | _ => none }
def NumSumsWrongFalsely : Prop := numSumsRow.holds Try.pinned (OpenSpec.ofChange numSumsWrong)

/-- 'jacinthlaw01.NumPages': WHATEVER THE INPUT: true; the input reads as it did. -/
def numPagesSpec : ChangeSpec := { name := "numPages", fn := fun _ => fun
  | [d1, d2, d3] => { results := [.lit (.bool true)], args := [d1, d2, d3] }
  | _ => none }
def numPagesRow : OpenClaim := { program := "ytfdnbefeidpccaa", sum := "7606e6f717ff3379742b0916c7bfb320777111382000d9fbd57f6ee328dfe5bd", func := "jacinth/jacinthlaw01.NumPages", spec := "numPages", apart := false }
def NumPagesSaid : Prop := numPagesRow.holds Try.pinned (OpenSpec.ofChange numPagesSpec)

/-- ITS FALSE NEIGHBOUR: 'it returns false'. Refute it at one input. -/
def numPagesWrong : ChangeSpec := { name := "numPages", fn := fun _ => fun
  | [d1, d2, d3] => { results := [.lit (.bool false)], args := [d1, d2, d3] }
  | _ => none }
def NumPagesWrongFalsely : Prop := numPagesRow.holds Try.pinned (OpenSpec.ofChange numPagesWrong)

/-- 'jacinthlaw01.NumRounds': WHATEVER THE INPUT: true; the input reads as it did. -/
def numRoundsSpec : ChangeSpec := { name := "numRounds", fn := fun _ => fun
  | [d1, d2] => { results := [.lit (.bool true)], args := [d1, d2] }
  | _ => none }
def numRoundsRow : OpenClaim := { program := "ytfdnbefeidpccaa", sum := "7606e6f717ff3379742b0916c7bfb320777111382000d9fbd57f6ee328dfe5bd", func := "jacinth/jacinthlaw01.NumRounds", spec := "numRounds", apart := false }
def NumRoundsSaid : Prop := numRoundsRow.holds Try.pinned (OpenSpec.ofChange numRoundsSpec)

/-- ITS FALSE NEIGHBOUR: 'it returns false'. Refute it at one input. -/
def numRoundsWrong : ChangeSpec := { name := "numRounds", fn := fun _ => fun
  | [d1, d2] => { results := [.lit (.bool false)], args := [d1, d2] }
  | _ => none }
def NumRoundsWrongFalsely : Prop := numRoundsRow.holds Try.pinned (OpenSpec.ofChange numRoundsWrong)

/-- 'jacinthlaw01.NumUp': WHATEVER THE INPUT: true; the input reads as it did. -/
def numUpSpec : ChangeSpec := { name := "numUp", fn := fun _ => fun
  | [d1, d2] => { results := [.lit (.bool true)], args := [d1, d2] }
  | _ => none }
def numUpRow : OpenClaim := { program := "ytfdnbefeidpccaa", sum := "7606e6f717ff3379742b0916c7bfb320777111382000d9fbd57f6ee328dfe5bd", func := "jacinth/jacinthlaw01.NumUp", spec := "numUp", apart := false }
def NumUpSaid : Prop := numUpRow.holds Try.pinned (OpenSpec.ofChange numUpSpec)

/-- ITS FALSE NEIGHBOUR: 'it returns false'. Refute it at one input. -/
def numUpWrong : ChangeSpec := { name := "numUp", fn := fun _ => fun
  | [d1, d2] => { results := [.lit (.bool false)], args := [d1, d2] }
  | _ => none }
def NumUpWrongFalsely : Prop := numUpRow.holds Try.pinned (OpenSpec.ofChange numUpWrong)

/-- 'jacinthlaw01.NumRanges': WHATEVER THE INPUT: true; the input reads as it did. -/
def numRangesSpec : ChangeSpec := { name := "numRanges", fn := fun _ => fun
  | [d] => { results := [.lit (.bool true)], args := [d] }
  | _ => none }
def numRangesRow : OpenClaim := { program := "ytfdnbefeidpccaa", sum := "7606e6f717ff3379742b0916c7bfb320777111382000d9fbd57f6ee328dfe5bd", func := "jacinth/jacinthlaw01.NumRanges", spec := "numRanges", apart := false }
def NumRangesSaid : Prop := numRangesRow.holds Try.pinned (OpenSpec.ofChange numRangesSpec)

/-- ITS FALSE NEIGHBOUR: 'it returns false'. Refute it at one input. -/
def numRangesWrong : ChangeSpec := { name := "numRanges", fn := fun _ => fun
  | [d] => { results := [.lit (.bool false)], args := [d] }
  | _ => none }
def NumRangesWrongFalsely : Prop := numRangesRow.holds Try.pinned (OpenSpec.ofChange numRangesWrong)

/-- 'jacinthlaw01.NumProducts': WHATEVER THE INPUT: true; the input reads as it did. -/
def numProductsSpec : ChangeSpec := { name := "numProducts", fn := fun _ => fun
  | [d1, d2] => { results := [.lit (.bool true)], args := [d1, d2] }
  | _ => none }
def numProductsRow : OpenClaim := { program := "ytfdnbefeidpccaa", sum := "7606e6f717ff3379742b0916c7bfb320777111382000d9fbd57f6ee328dfe5bd", func := "jacinth/jacinthlaw01.NumProducts", spec := "numProducts", apart := false }
def NumProductsSaid : Prop := numProductsRow.holds Try.pinned (OpenSpec.ofChange numProductsSpec)

/-- ITS FALSE NEIGHBOUR: 'it returns false'. Refute it at one input. -/
def numProductsWrong : ChangeSpec := { name := "numProducts", fn := fun _ => fun
  | [d1, d2] => { results := [.lit (.bool false)], args := [d1, d2] }
  | _ => none }
def NumProductsWrongFalsely : Prop := numProductsRow.holds Try.pinned (OpenSpec.ofChange numProductsWrong)

/-- 'jacinthlaw01.NumSigns': WHATEVER THE INPUT: true; the input reads as it did. -/
def numSignsSpec : ChangeSpec := { name := "numSigns", fn := fun _ => fun
  | [d1, d2] => { results := [.lit (.bool true)], args := [d1, d2] }
  | _ => none }
def numSignsRow : OpenClaim := { program := "ytfdnbefeidpccaa", sum := "7606e6f717ff3379742b0916c7bfb320777111382000d9fbd57f6ee328dfe5bd", func := "jacinth/jacinthlaw01.NumSigns", spec := "numSigns", apart := false }
def NumSignsSaid : Prop := numSignsRow.holds Try.pinned (OpenSpec.ofChange numSignsSpec)

/-- ITS FALSE NEIGHBOUR: 'it returns false'. Refute it at one input. -/
def numSignsWrong : ChangeSpec := { name := "numSigns", fn := fun _ => fun
  | [d1, d2] => { results := [.lit (.bool false)], args := [d1, d2] }
  | _ => none }
def NumSignsWrongFalsely : Prop := numSignsRow.holds Try.pinned (OpenSpec.ofChange numSignsWrong)

/-- 'jacinthlaw01.NumBack': WHATEVER THE INPUT: true; the input reads as it did. -/
def numBackSpec : ChangeSpec := { name := "numBack", fn := fun _ => fun
  | [d1, d2, d3] => { results := [.lit (.bool true)], args := [d1, d2, d3] }
  | _ => none }
def numBackRow : OpenClaim := { program := "ytfdnbefeidpccaa", sum := "7606e6f717ff3379742b0916c7bfb320777111382000d9fbd57f6ee328dfe5bd", func := "jacinth/jacinthlaw01.NumBack", spec := "numBack", apart := false }
def NumBackSaid : Prop := numBackRow.holds Try.pinned (OpenSpec.ofChange numBackSpec)

/-- ITS FALSE NEIGHBOUR: 'it returns false'. Refute it at one input. -/
def numBackWrong : ChangeSpec := { name := "numBack", fn := fun _ => fun
  | [d1, d2, d3] => { results := [.lit (.bool false)], args := [d1, d2, d3] }
  | _ => none }
def NumBackWrongFalsely : Prop := numBackRow.holds Try.pinned (OpenSpec.ofChange numBackWrong)

/- THE SECOND FORM. 'bulk': how many values and letters a reading holds, each counted each time it is reached (what is shared counts as often as it is met; a slice's spare places count too). A statement '..UptoSaid' is the law's where the arguments, and the package variables that the reading takes, are together of bulk at most 1048576: NARROWER than '..Said'. Prove '..Said' where nothing that the law and all that it calls make is longer than what came in: it says more and counts as full. Else prove '..UptoSaid'. A law counts once. -/
mutual
def uptoBulk {H : Type} : DataW H → Nat
  | .lit (.string bytes) => bytes.length + 1
  | .lit _ => 1
  | .nil => 1
  | .ptr d => uptoBulk d + 1
  | .slice elems spare => uptoBulkAll elems + uptoBulkAll spare + 1
  | .agg parts => uptoBulkAll parts + 1
  | .iface _ d => uptoBulk d + 1
  | .map entries => uptoBulkEntries entries + 1
  | .held _ => 1
def uptoBulkAll {H : Type} : List (DataW H) → Nat
  | [] => 0
  | d :: r => uptoBulk d + uptoBulkAll r
def uptoBulkEntries {H : Type} : List (Lit × DataW H) → Nat
  | [] => 0
  | x :: r => uptoBulkEntry x + uptoBulkEntries r
def uptoBulkEntry {H : Type} : Lit × DataW H → Nat
  | (.string bytes, d) => bytes.length + uptoBulk d + 1
  | (_, d) => uptoBulk d + 1
 end
def uptoSmall : (H : Type) → List (DataW H) → Bool := fun _ ds => decide (uptoBulkAll ds ≤ 1048576)
def OpenSpec.upto (s : _root_.Go.ChangeSpec) : _root_.Go.OpenSpec := { _root_.Go.OpenSpec.ofChange s with cond := some uptoSmall }

/-- 'jacinthlaw01.NumMixes', WHERE WHAT IT READS IS OF BULK AT MOST 1048576: true; the input reads as it did. -/
def numMixesUptoRow : OpenClaim := { program := "ytfdnbefeidpccaa", sum := "7606e6f717ff3379742b0916c7bfb320777111382000d9fbd57f6ee328dfe5bd", func := "jacinth/jacinthlaw01.NumMixes", spec := "numMixes", apart := false, narrowed := true }
def NumMixesUptoSaid : Prop := numMixesUptoRow.holds Try.pinned (OpenSpec.upto numMixesSpec)

/-- 'jacinthlaw01.NumMixed', WHERE WHAT IT READS IS OF BULK AT MOST 1048576: true; the input reads as it did. -/
def numMixedUptoRow : OpenClaim := { program := "ytfdnbefeidpccaa", sum := "7606e6f717ff3379742b0916c7bfb320777111382000d9fbd57f6ee328dfe5bd", func := "jacinth/jacinthlaw01.NumMixed", spec := "numMixed", apart := false, narrowed := true }
def NumMixedUptoSaid : Prop := numMixedUptoRow.holds Try.pinned (OpenSpec.upto numMixedSpec)

/-- 'jacinthlaw01.NumSums', WHERE WHAT IT READS IS OF BULK AT MOST 1048576: true; the input reads as it did. -/
def numSumsUptoRow : OpenClaim := { program := "ytfdnbefeidpccaa", sum := "7606e6f717ff3379742b0916c7bfb320777111382000d9fbd57f6ee328dfe5bd", func := "jacinth/jacinthlaw01.NumSums", spec := "numSums", apart := false, narrowed := true }
def NumSumsUptoSaid : Prop := numSumsUptoRow.holds Try.pinned (OpenSpec.upto numSumsSpec)

/-- 'jacinthlaw01.NumPages', WHERE WHAT IT READS IS OF BULK AT MOST 1048576: true; the input reads as it did. -/
def numPagesUptoRow : OpenClaim := { program := "ytfdnbefeidpccaa", sum := "7606e6f717ff3379742b0916c7bfb320777111382000d9fbd57f6ee328dfe5bd", func := "jacinth/jacinthlaw01.NumPages", spec := "numPages", apart := false, narrowed := true }
def NumPagesUptoSaid : Prop := numPagesUptoRow.holds Try.pinned (OpenSpec.upto numPagesSpec)

/-- 'jacinthlaw01.NumRounds', WHERE WHAT IT READS IS OF BULK AT MOST 1048576: true; the input reads as it did. -/
def numRoundsUptoRow : OpenClaim := { program := "ytfdnbefeidpccaa", sum := "7606e6f717ff3379742b0916c7bfb320777111382000d9fbd57f6ee328dfe5bd", func := "jacinth/jacinthlaw01.NumRounds", spec := "numRounds", apart := false, narrowed := true }
def NumRoundsUptoSaid : Prop := numRoundsUptoRow.holds Try.pinned (OpenSpec.upto numRoundsSpec)

/-- 'jacinthlaw01.NumUp', WHERE WHAT IT READS IS OF BULK AT MOST 1048576: true; the input reads as it did. -/
def numUpUptoRow : OpenClaim := { program := "ytfdnbefeidpccaa", sum := "7606e6f717ff3379742b0916c7bfb320777111382000d9fbd57f6ee328dfe5bd", func := "jacinth/jacinthlaw01.NumUp", spec := "numUp", apart := false, narrowed := true }
def NumUpUptoSaid : Prop := numUpUptoRow.holds Try.pinned (OpenSpec.upto numUpSpec)

/-- 'jacinthlaw01.NumRanges', WHERE WHAT IT READS IS OF BULK AT MOST 1048576: true; the input reads as it did. -/
def numRangesUptoRow : OpenClaim := { program := "ytfdnbefeidpccaa", sum := "7606e6f717ff3379742b0916c7bfb320777111382000d9fbd57f6ee328dfe5bd", func := "jacinth/jacinthlaw01.NumRanges", spec := "numRanges", apart := false, narrowed := true }
def NumRangesUptoSaid : Prop := numRangesUptoRow.holds Try.pinned (OpenSpec.upto numRangesSpec)

/-- 'jacinthlaw01.NumProducts', WHERE WHAT IT READS IS OF BULK AT MOST 1048576: true; the input reads as it did. -/
def numProductsUptoRow : OpenClaim := { program := "ytfdnbefeidpccaa", sum := "7606e6f717ff3379742b0916c7bfb320777111382000d9fbd57f6ee328dfe5bd", func := "jacinth/jacinthlaw01.NumProducts", spec := "numProducts", apart := false, narrowed := true }
def NumProductsUptoSaid : Prop := numProductsUptoRow.holds Try.pinned (OpenSpec.upto numProductsSpec)

/-- 'jacinthlaw01.NumSigns', WHERE WHAT IT READS IS OF BULK AT MOST 1048576: true; the input reads as it did. -/
def numSignsUptoRow : OpenClaim := { program := "ytfdnbefeidpccaa", sum := "7606e6f717ff3379742b0916c7bfb320777111382000d9fbd57f6ee328dfe5bd", func := "jacinth/jacinthlaw01.NumSigns", spec := "numSigns", apart := false, narrowed := true }
def NumSignsUptoSaid : Prop := numSignsUptoRow.holds Try.pinned (OpenSpec.upto numSignsSpec)

/-- 'jacinthlaw01.NumBack', WHERE WHAT IT READS IS OF BULK AT MOST 1048576: true; the input reads as it did. -/
def numBackUptoRow : OpenClaim := { program := "ytfdnbefeidpccaa", sum := "7606e6f717ff3379742b0916c7bfb320777111382000d9fbd57f6ee328dfe5bd", func := "jacinth/jacinthlaw01.NumBack", spec := "numBack", apart := false, narrowed := true }
def NumBackUptoSaid : Prop := numBackUptoRow.holds Try.pinned (OpenSpec.upto numBackSpec)

end Rows
end Go.Proofs.Ytfdnbefeidpccaa
