/-
  DERIVED. GIVEN WITH THE SEED: THE CARDS: each row of YtpnobpnknlpjnaaDoorRows.lean that lists a variable, with what it lists TIED to the program's text (the seventh form; the later family's looks); each row that meets fmt, with fmt's text TOLD by the authors' own Lean function (tested against real Go, not proved from fmt's source: count such statements apart). THE CARD IS WHAT COUNTS. Prove the row's statement (the work); the ties are given (YtpnobpnknlpjnaaDoorTie.lean); close each card by the builder's one call (the guide's Derived/Test/ToyasCard.lean, 'card_holds'). Laid BY PROGRAM, IN A SANDBOX (cutbox-door.mjs). By AI agents, Wed Nov 11 2026. No macro, syntax, notation, axiom, sorry.
-/
import Derived.Test.YtpnobpnknlpjnaaDoorRows
import GoSem.ClaimSeven
namespace Go.Proofs.YtpnobpnknlpjnaaDoor
namespace Rows

/-- THE TIED CARD OF 'klippelaw20.RelationNormals'. -/
def relationNormalsCard : Claim7 := { stood := { row := relationNormalsRow, standIns := [], harness := (true, "f8c745e0a81fe574723576d6facbcac71a0bb87eb585220d052f8a92074e6662"), looks := false }, kinds := [], alts := [], laidByText := true, laidKinds := [.data, .pinned], laidTests := true, laidLooks := .later }
def RelationNormalsCardSaid : Prop := Claim7.holds Tryd.pinned (.plain (OpenSpec.ofChange relationNormalsSpec)) relationNormalsCard

/-- THE TIED CARD OF 'klippelaw20.RelationParses'. -/
def relationParsesCard : Claim7 := { stood := { row := relationParsesRow, standIns := [], harness := (true, "f8c745e0a81fe574723576d6facbcac71a0bb87eb585220d052f8a92074e6662"), looks := false }, kinds := [], alts := [], laidByText := true, laidKinds := [.data, .pinned], laidTests := true, laidLooks := .later }
def RelationParsesCardSaid : Prop := Claim7.holds Tryd.pinned (.plain (OpenSpec.ofChange relationParsesSpec)) relationParsesCard

/-- THE TIED CARD OF 'klippelaw20.RelationTexts'. -/
def relationTextsCard : Claim7 := { stood := { row := relationTextsRow, standIns := [], harness := (true, "f8c745e0a81fe574723576d6facbcac71a0bb87eb585220d052f8a92074e6662"), looks := false }, kinds := [], alts := [], laidByText := true, laidKinds := [.data, .pinned], laidTests := true, laidLooks := .later }
def RelationTextsCardSaid : Prop := Claim7.holds Tryd.pinned (.plain (OpenSpec.ofChange relationTextsSpec)) relationTextsCard

/-- THE TIED CARD OF 'klippelaw20.RelationPairs'. -/
def relationPairsCard : Claim7 := { stood := { row := relationPairsRow, standIns := [], harness := (true, "f8c745e0a81fe574723576d6facbcac71a0bb87eb585220d052f8a92074e6662"), looks := false }, kinds := [], alts := [], laidByText := true, laidKinds := [.data, .pinned], laidTests := true, laidLooks := .later }
def RelationPairsCardSaid : Prop := Claim7.holds Tryd.pinned (.plain (OpenSpec.ofChange relationPairsSpec)) relationPairsCard

/-- THE TIED CARD OF 'klippelaw20.RelationRenames'. -/
def relationRenamesCard : Claim7 := { stood := { row := relationRenamesRow, standIns := [], harness := (true, "f8c745e0a81fe574723576d6facbcac71a0bb87eb585220d052f8a92074e6662"), looks := false }, kinds := [], alts := [], laidByText := true, laidKinds := [.data, .pinned], laidTests := true, laidLooks := .later }
def RelationRenamesCardSaid : Prop := Claim7.holds Tryd.pinned (.plain (OpenSpec.ofChange relationRenamesSpec)) relationRenamesCard

/-- THE TIED CARD OF 'klippelaw20.RelationNames'. -/
def relationNamesCard : Claim7 := { stood := { row := relationNamesRow, standIns := [], harness := (true, "f8c745e0a81fe574723576d6facbcac71a0bb87eb585220d052f8a92074e6662"), looks := false }, kinds := [], alts := [], laidByText := true, laidKinds := [.data, .pinned], laidTests := true, laidLooks := .later }
def RelationNamesCardSaid : Prop := Claim7.holds Tryd.pinned (.plain (OpenSpec.ofChange relationNamesSpec)) relationNamesCard

/-- THE TIED CARD OF 'klippelaw20.RelationLists'. -/
def relationListsCard : Claim7 := { stood := { row := relationListsRow, standIns := [], harness := (true, "f8c745e0a81fe574723576d6facbcac71a0bb87eb585220d052f8a92074e6662"), looks := false }, kinds := [], alts := [], laidByText := true, laidKinds := [.data, .pinned], laidTests := true, laidLooks := .later }
def RelationListsCardSaid : Prop := Claim7.holds Tryd.pinned (.plain (OpenSpec.ofChange relationListsSpec)) relationListsCard

/-- THE TIED CARD OF 'klippelaw20.RelationKeeps'. -/
def relationKeepsCard : Claim7 := { stood := { row := relationKeepsRow, standIns := [], harness := (true, "f8c745e0a81fe574723576d6facbcac71a0bb87eb585220d052f8a92074e6662"), looks := false }, kinds := [], alts := [], laidByText := true, laidKinds := [.data, .pinned], laidTests := true, laidLooks := .later }
def RelationKeepsCardSaid : Prop := Claim7.holds Tryd.pinned (.plain (OpenSpec.ofChange relationKeepsSpec)) relationKeepsCard

/-- THE SECOND FORM's CARD OF 'klippelaw20.RelationNormals'. -/
def relationNormalsUptoCard : Claim7 := { stood := { row := relationNormalsUptoRow, standIns := [], harness := (true, "f8c745e0a81fe574723576d6facbcac71a0bb87eb585220d052f8a92074e6662"), looks := false }, kinds := [], alts := [], laidByText := true, laidKinds := [.data, .pinned], laidTests := true, laidLooks := .later }
def RelationNormalsUptoCardSaid : Prop := Claim7.holds Tryd.pinned (.plain (OpenSpec.upto relationNormalsSpec)) relationNormalsUptoCard

/-- THE SECOND FORM's CARD OF 'klippelaw20.RelationParses'. -/
def relationParsesUptoCard : Claim7 := { stood := { row := relationParsesUptoRow, standIns := [], harness := (true, "f8c745e0a81fe574723576d6facbcac71a0bb87eb585220d052f8a92074e6662"), looks := false }, kinds := [], alts := [], laidByText := true, laidKinds := [.data, .pinned], laidTests := true, laidLooks := .later }
def RelationParsesUptoCardSaid : Prop := Claim7.holds Tryd.pinned (.plain (OpenSpec.upto relationParsesSpec)) relationParsesUptoCard

/-- THE SECOND FORM's CARD OF 'klippelaw20.RelationTexts'. -/
def relationTextsUptoCard : Claim7 := { stood := { row := relationTextsUptoRow, standIns := [], harness := (true, "f8c745e0a81fe574723576d6facbcac71a0bb87eb585220d052f8a92074e6662"), looks := false }, kinds := [], alts := [], laidByText := true, laidKinds := [.data, .pinned], laidTests := true, laidLooks := .later }
def RelationTextsUptoCardSaid : Prop := Claim7.holds Tryd.pinned (.plain (OpenSpec.upto relationTextsSpec)) relationTextsUptoCard

/-- THE SECOND FORM's CARD OF 'klippelaw20.RelationPairs'. -/
def relationPairsUptoCard : Claim7 := { stood := { row := relationPairsUptoRow, standIns := [], harness := (true, "f8c745e0a81fe574723576d6facbcac71a0bb87eb585220d052f8a92074e6662"), looks := false }, kinds := [], alts := [], laidByText := true, laidKinds := [.data, .pinned], laidTests := true, laidLooks := .later }
def RelationPairsUptoCardSaid : Prop := Claim7.holds Tryd.pinned (.plain (OpenSpec.upto relationPairsSpec)) relationPairsUptoCard

/-- THE SECOND FORM's CARD OF 'klippelaw20.RelationRenames'. -/
def relationRenamesUptoCard : Claim7 := { stood := { row := relationRenamesUptoRow, standIns := [], harness := (true, "f8c745e0a81fe574723576d6facbcac71a0bb87eb585220d052f8a92074e6662"), looks := false }, kinds := [], alts := [], laidByText := true, laidKinds := [.data, .pinned], laidTests := true, laidLooks := .later }
def RelationRenamesUptoCardSaid : Prop := Claim7.holds Tryd.pinned (.plain (OpenSpec.upto relationRenamesSpec)) relationRenamesUptoCard

/-- THE SECOND FORM's CARD OF 'klippelaw20.RelationNames'. -/
def relationNamesUptoCard : Claim7 := { stood := { row := relationNamesUptoRow, standIns := [], harness := (true, "f8c745e0a81fe574723576d6facbcac71a0bb87eb585220d052f8a92074e6662"), looks := false }, kinds := [], alts := [], laidByText := true, laidKinds := [.data, .pinned], laidTests := true, laidLooks := .later }
def RelationNamesUptoCardSaid : Prop := Claim7.holds Tryd.pinned (.plain (OpenSpec.upto relationNamesSpec)) relationNamesUptoCard

/-- THE SECOND FORM's CARD OF 'klippelaw20.RelationLists'. -/
def relationListsUptoCard : Claim7 := { stood := { row := relationListsUptoRow, standIns := [], harness := (true, "f8c745e0a81fe574723576d6facbcac71a0bb87eb585220d052f8a92074e6662"), looks := false }, kinds := [], alts := [], laidByText := true, laidKinds := [.data, .pinned], laidTests := true, laidLooks := .later }
def RelationListsUptoCardSaid : Prop := Claim7.holds Tryd.pinned (.plain (OpenSpec.upto relationListsSpec)) relationListsUptoCard

/-- THE SECOND FORM's CARD OF 'klippelaw20.RelationKeeps'. -/
def relationKeepsUptoCard : Claim7 := { stood := { row := relationKeepsUptoRow, standIns := [], harness := (true, "f8c745e0a81fe574723576d6facbcac71a0bb87eb585220d052f8a92074e6662"), looks := false }, kinds := [], alts := [], laidByText := true, laidKinds := [.data, .pinned], laidTests := true, laidLooks := .later }
def RelationKeepsUptoCardSaid : Prop := Claim7.holds Tryd.pinned (.plain (OpenSpec.upto relationKeepsSpec)) relationKeepsUptoCard
end Rows
end Go.Proofs.YtpnobpnknlpjnaaDoor
