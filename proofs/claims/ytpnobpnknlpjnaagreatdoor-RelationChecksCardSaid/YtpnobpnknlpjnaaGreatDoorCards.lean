/-
  DERIVED. GIVEN WITH THE SEED: THE CARDS: each row of YtpnobpnknlpjnaaGreatDoorRows.lean that lists a variable, with what it lists TIED to the program's text (the seventh form; the later family's looks); each row that meets fmt, with fmt's text TOLD by the authors' own Lean function (tested against real Go, not proved from fmt's source: count such statements apart). THE CARD IS WHAT COUNTS. Prove the row's statement (the work); the ties are given (YtpnobpnknlpjnaaGreatDoorTie.lean); close each card by the builder's one call (the guide's Derived/Test/ToyasCard.lean, 'card_holds'). Laid BY PROGRAM, IN A SANDBOX (cutbox-door.mjs). By AI agents, Wed Nov 11 2026. No macro, syntax, notation, axiom, sorry.
-/
import Derived.Test.YtpnobpnknlpjnaaGreatDoorRows
import GoSem.ClaimSeven
namespace Go.Proofs.YtpnobpnknlpjnaaGreatDoor
namespace Rows

/-- THE TIED CARD OF 'klippelaw20.RelationChecks'. -/
def relationChecksCard : Claim7 := { stood := { row := relationChecksRow, standIns := [], harness := (true, "bdb218f37401f78609e7cb74e2d4847206c261e9acca15f5244e840100f3507d"), looks := false }, kinds := [], alts := [], laidByText := true, laidKinds := [.data, .pinned], laidTests := true, laidLooks := .later }
def RelationChecksCardSaid : Prop := Claim7.holds Tryz.pinned (.plain (OpenSpec.ofChange relationChecksSpec)) relationChecksCard

/-- THE SECOND FORM's CARD OF 'klippelaw20.RelationChecks'. -/
def relationChecksUptoCard : Claim7 := { stood := { row := relationChecksUptoRow, standIns := [], harness := (true, "bdb218f37401f78609e7cb74e2d4847206c261e9acca15f5244e840100f3507d"), looks := false }, kinds := [], alts := [], laidByText := true, laidKinds := [.data, .pinned], laidTests := true, laidLooks := .later }
def RelationChecksUptoCardSaid : Prop := Claim7.holds Tryz.pinned (.plain (OpenSpec.upto relationChecksSpec)) relationChecksUptoCard
end Rows
end Go.Proofs.YtpnobpnknlpjnaaGreatDoor
