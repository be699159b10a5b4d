/-
  DERIVED. GIVEN WITH THE SEED: THE CARDS: each row of YtpkmpenjnbpblaaDoorRows.lean that lists a variable, with what it lists TIED to the program's text (the seventh form; the later family's looks); each row that meets fmt, with fmt's text TOLD by the authors' own Lean function (tested against real Go, not proved from fmt's source: count such statements apart). THE CARD IS WHAT COUNTS. Prove the row's statement (the work); the ties are given (YtpkmpenjnbpblaaDoorTie.lean); close each card by the builder's one call (the guide's Derived/Test/ToyasCard.lean, 'card_holds'). Laid BY PROGRAM, IN A SANDBOX (cutbox-door.mjs). By AI agents, Wed Nov 11 2026. No macro, syntax, notation, axiom, sorry.
-/
import Derived.Test.YtpkmpenjnbpblaaDoorRows
import GoSem.ClaimSeven
namespace Go.Proofs.YtpkmpenjnbpblaaDoor
namespace Rows

/-- THE TIED CARD OF 'jacinthlaw04.RightsDefaults'. -/
def rightsDefaultsCard : Claim7 := { stood := { row := rightsDefaultsRow, standIns := [], harness := (true, "97399101c0aaa4a67666c0657423e1cbb9dbdee86662169a1f7356e9c3a98e8a"), looks := false }, kinds := [], alts := [], laidByText := true, laidKinds := [.data], laidTests := true, laidLooks := .later }
def RightsDefaultsCardSaid : Prop := Claim7.holds Tryd.pinned (.plain (OpenSpec.ofChange rightsDefaultsSpec)) rightsDefaultsCard

/-- THE TIED CARD OF 'jacinthlaw04.RightsKinds'. -/
def rightsKindsCard : Claim7 := { stood := { row := rightsKindsRow, standIns := [], harness := (true, "97399101c0aaa4a67666c0657423e1cbb9dbdee86662169a1f7356e9c3a98e8a"), looks := false }, kinds := [], alts := [], laidByText := true, laidKinds := [.data], laidTests := true, laidLooks := .later }
def RightsKindsCardSaid : Prop := Claim7.holds Tryd.pinned (.plain (OpenSpec.ofChange rightsKindsSpec)) rightsKindsCard

/-- THE SECOND FORM's CARD OF 'jacinthlaw04.RightsDefaults'. -/
def rightsDefaultsUptoCard : Claim7 := { stood := { row := rightsDefaultsUptoRow, standIns := [], harness := (true, "97399101c0aaa4a67666c0657423e1cbb9dbdee86662169a1f7356e9c3a98e8a"), looks := false }, kinds := [], alts := [], laidByText := true, laidKinds := [.data], laidTests := true, laidLooks := .later }
def RightsDefaultsUptoCardSaid : Prop := Claim7.holds Tryd.pinned (.plain (OpenSpec.upto rightsDefaultsSpec)) rightsDefaultsUptoCard

/-- THE SECOND FORM's CARD OF 'jacinthlaw04.RightsKinds'. -/
def rightsKindsUptoCard : Claim7 := { stood := { row := rightsKindsUptoRow, standIns := [], harness := (true, "97399101c0aaa4a67666c0657423e1cbb9dbdee86662169a1f7356e9c3a98e8a"), looks := false }, kinds := [], alts := [], laidByText := true, laidKinds := [.data], laidTests := true, laidLooks := .later }
def RightsKindsUptoCardSaid : Prop := Claim7.holds Tryd.pinned (.plain (OpenSpec.upto rightsKindsSpec)) rightsKindsUptoCard
end Rows
end Go.Proofs.YtpkmpenjnbpblaaDoor
