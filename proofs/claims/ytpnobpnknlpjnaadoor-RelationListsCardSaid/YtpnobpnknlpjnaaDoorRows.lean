/-
  NARROWER THAN 'FOR EVERY INPUT', by the rows' own cells (each row's printed sentence says how): RelationNormals: laid · RelationParses: laid · RelationTexts: laid · RelationPairs: laid · RelationRenames: laid · RelationNames: laid · RelationLists: laid · RelationKeeps: laid.
  DERIVED. THE GIVEN ROWS OF THIS SEAT. 8 by the template 'for every input the law returns true; each argument reads behind the call as it read before'; 0 by the template 'total and deterministic' (their statements: YtpnobpnknlpjnaaDoorTotals.lean).
  GIVEN WITH THE SEED: the statements are not yours to turn. If you find one false, say at which input.
  Laid BY PROGRAM, IN A SANDBOX (cutbox-rows.mjs): the forced cells as the released guide's own fill.sh prints them over the translation a17a891a3c240433… (all of the seat's roots in one cut). By AI agents, Wed Nov 11 2026. No macro, syntax, notation, axiom, sorry.
-/
import Derived.Test.YtpnobpnknlpjnaaDoorChecked
import GoSem.PinnedTables
import GoSem.Claim
import GoSem.ClaimJoined
import GoSem.ClaimMapViews
import Derived.JoinedTies
import Derived.KernelRfl
namespace Go.Proofs.YtpnobpnknlpjnaaDoor
/- THE CELL 'sum', in the pinned program and in every row, IS THE sha256 OF THE DUMP (.gsa) THAT YtpnobpnknlpjnaaDoorProg.lean LOADS. Nothing in Lean hashes anything: it is a label: what it is worth is what the hold of that sum in a sandbox is worth. -/
noncomputable def Tryd.pinned : Pinned := { name := "ytpnobpnknlpjnaadoor", sum := "a17a891a3c240433ff484b592a7caa37e1eec0b651e70114e3f066ca122a1a9c", checked := Tryd.checked }
namespace Rows
def none {H : Type} : Left H := { results := [], args := [] }

/- WHAT THE LISTED PACKAGE-LEVEL VARIABLES READ AS WHEN THE CALL BEGINS. Each datum BY PROGRAM (the guide's laid-datum.mjs) off the statement by which the dump's own 'gosem.cut.vars' lays the variable. In a bare row this is a premise. The card (YtpnobpnknlpjnaaDoorCards.lean) ties it to the program's text. -/
def laid_unicode_utf8_acceptRanges {H : Type} : DataW H := .agg [.agg [.lit (.int .u8 128), .lit (.int .u8 191)], .agg [.lit (.int .u8 160), .lit (.int .u8 191)], .agg [.lit (.int .u8 128), .lit (.int .u8 159)], .agg [.lit (.int .u8 144), .lit (.int .u8 191)], .agg [.lit (.int .u8 128), .lit (.int .u8 143)], .agg [.lit (.int .u8 0), .lit (.int .u8 0)], .agg [.lit (.int .u8 0), .lit (.int .u8 0)], .agg [.lit (.int .u8 0), .lit (.int .u8 0)], .agg [.lit (.int .u8 0), .lit (.int .u8 0)], .agg [.lit (.int .u8 0), .lit (.int .u8 0)], .agg [.lit (.int .u8 0), .lit (.int .u8 0)], .agg [.lit (.int .u8 0), .lit (.int .u8 0)], .agg [.lit (.int .u8 0), .lit (.int .u8 0)], .agg [.lit (.int .u8 0), .lit (.int .u8 0)], .agg [.lit (.int .u8 0), .lit (.int .u8 0)], .agg [.lit (.int .u8 0), .lit (.int .u8 0)]]
/-- One of Go's own tables, pinned by name: the form's constant. -/
def laid_unicode_utf8_first : DataW Unit := Go.Pinned.utf8First

/-- 'klippelaw20.RelationNormals': WHATEVER THE INPUT: true; the input reads as it did. -/
def relationNormalsSpec : ChangeSpec := { name := "relationNormals", fn := fun _ => fun
  | [d] => { results := [.lit (.bool true)], args := [d] }
  | _ => none }
def relationNormalsRow : OpenClaim := { program := "ytpnobpnknlpjnaadoor", sum := "a17a891a3c240433ff484b592a7caa37e1eec0b651e70114e3f066ca122a1a9c", func := "klippe/klippelaw20.RelationNormals", spec := "relationNormals", inPlace := ["internal/bytealg.CountString", "internal/bytealg.IndexByteString", "internal/bytealg.IndexString"], unfollowed := true, recurses := true, named := ["unicode/utf8.first", "unicode/utf8.acceptRanges", "internal/bytealg.MaxLen"], apart := false, laid := [("unicode/utf8.acceptRanges", laid_unicode_utf8_acceptRanges), ("unicode/utf8.first", laid_unicode_utf8_first)] }
def RelationNormalsSaid : Prop := relationNormalsRow.holds Tryd.pinned (OpenSpec.ofChange relationNormalsSpec)

/-- ITS FALSE NEIGHBOUR: 'it returns false'. Refute it at one input. -/
def relationNormalsWrong : ChangeSpec := { name := "relationNormals", fn := fun _ => fun
  | [d] => { results := [.lit (.bool false)], args := [d] }
  | _ => none }
def RelationNormalsWrongFalsely : Prop := relationNormalsRow.holds Tryd.pinned (OpenSpec.ofChange relationNormalsWrong)

/-- 'klippelaw20.RelationParses': WHATEVER THE INPUT: true; the input reads as it did. -/
def relationParsesSpec : ChangeSpec := { name := "relationParses", fn := fun _ => fun
  | [d] => { results := [.lit (.bool true)], args := [d] }
  | _ => none }
def relationParsesRow : OpenClaim := { program := "ytpnobpnknlpjnaadoor", sum := "a17a891a3c240433ff484b592a7caa37e1eec0b651e70114e3f066ca122a1a9c", func := "klippe/klippelaw20.RelationParses", spec := "relationParses", inPlace := ["internal/bytealg.CountString", "internal/bytealg.IndexByteString", "internal/bytealg.IndexString"], unfollowed := true, recurses := true, named := ["unicode/utf8.first", "unicode/utf8.acceptRanges", "internal/bytealg.MaxLen"], apart := false, laid := [("unicode/utf8.acceptRanges", laid_unicode_utf8_acceptRanges), ("unicode/utf8.first", laid_unicode_utf8_first)] }
def RelationParsesSaid : Prop := relationParsesRow.holds Tryd.pinned (OpenSpec.ofChange relationParsesSpec)

/-- ITS FALSE NEIGHBOUR: 'it returns false'. Refute it at one input. -/
def relationParsesWrong : ChangeSpec := { name := "relationParses", fn := fun _ => fun
  | [d] => { results := [.lit (.bool false)], args := [d] }
  | _ => none }
def RelationParsesWrongFalsely : Prop := relationParsesRow.holds Tryd.pinned (OpenSpec.ofChange relationParsesWrong)

/-- 'klippelaw20.RelationTexts': WHATEVER THE INPUT: true; the input reads as it did. -/
def relationTextsSpec : ChangeSpec := { name := "relationTexts", fn := fun _ => fun
  | [d] => { results := [.lit (.bool true)], args := [d] }
  | _ => none }
def relationTextsRow : OpenClaim := { program := "ytpnobpnknlpjnaadoor", sum := "a17a891a3c240433ff484b592a7caa37e1eec0b651e70114e3f066ca122a1a9c", func := "klippe/klippelaw20.RelationTexts", spec := "relationTexts", inPlace := ["internal/bytealg.CountString", "internal/bytealg.IndexByteString", "internal/bytealg.IndexString"], unfollowed := true, recurses := true, named := ["unicode/utf8.first", "unicode/utf8.acceptRanges", "internal/bytealg.MaxLen"], apart := false, laid := [("unicode/utf8.acceptRanges", laid_unicode_utf8_acceptRanges), ("unicode/utf8.first", laid_unicode_utf8_first)] }
def RelationTextsSaid : Prop := relationTextsRow.holds Tryd.pinned (OpenSpec.ofChange relationTextsSpec)

/-- ITS FALSE NEIGHBOUR: 'it returns false'. Refute it at one input. -/
def relationTextsWrong : ChangeSpec := { name := "relationTexts", fn := fun _ => fun
  | [d] => { results := [.lit (.bool false)], args := [d] }
  | _ => none }
def RelationTextsWrongFalsely : Prop := relationTextsRow.holds Tryd.pinned (OpenSpec.ofChange relationTextsWrong)

/-- 'klippelaw20.RelationPairs': WHATEVER THE INPUT: true; the input reads as it did. -/
def relationPairsSpec : ChangeSpec := { name := "relationPairs", fn := fun _ => fun
  | [d1, d2, d3] => { results := [.lit (.bool true)], args := [d1, d2, d3] }
  | _ => none }
def relationPairsRow : OpenClaim := { program := "ytpnobpnknlpjnaadoor", sum := "a17a891a3c240433ff484b592a7caa37e1eec0b651e70114e3f066ca122a1a9c", func := "klippe/klippelaw20.RelationPairs", spec := "relationPairs", inPlace := ["internal/bytealg.CountString", "internal/bytealg.IndexByteString", "internal/bytealg.IndexString"], unfollowed := true, recurses := true, named := ["unicode/utf8.first", "unicode/utf8.acceptRanges", "internal/bytealg.MaxLen"], apart := false, laid := [("unicode/utf8.acceptRanges", laid_unicode_utf8_acceptRanges), ("unicode/utf8.first", laid_unicode_utf8_first)] }
def RelationPairsSaid : Prop := relationPairsRow.holds Tryd.pinned (OpenSpec.ofChange relationPairsSpec)

/-- ITS FALSE NEIGHBOUR: 'it returns false'. Refute it at one input. -/
def relationPairsWrong : ChangeSpec := { name := "relationPairs", fn := fun _ => fun
  | [d1, d2, d3] => { results := [.lit (.bool false)], args := [d1, d2, d3] }
  | _ => none }
def RelationPairsWrongFalsely : Prop := relationPairsRow.holds Tryd.pinned (OpenSpec.ofChange relationPairsWrong)

/-- 'klippelaw20.RelationRenames': WHATEVER THE INPUT: true; the input reads as it did. -/
def relationRenamesSpec : ChangeSpec := { name := "relationRenames", fn := fun _ => fun
  | [d1, d2, d3] => { results := [.lit (.bool true)], args := [d1, d2, d3] }
  | _ => none }
def relationRenamesRow : OpenClaim := { program := "ytpnobpnknlpjnaadoor", sum := "a17a891a3c240433ff484b592a7caa37e1eec0b651e70114e3f066ca122a1a9c", func := "klippe/klippelaw20.RelationRenames", spec := "relationRenames", inPlace := ["internal/bytealg.CountString", "internal/bytealg.IndexByteString", "internal/bytealg.IndexString"], unfollowed := true, recurses := true, named := ["unicode/utf8.first", "unicode/utf8.acceptRanges", "internal/bytealg.MaxLen"], apart := false, laid := [("unicode/utf8.acceptRanges", laid_unicode_utf8_acceptRanges), ("unicode/utf8.first", laid_unicode_utf8_first)] }
def RelationRenamesSaid : Prop := relationRenamesRow.holds Tryd.pinned (OpenSpec.ofChange relationRenamesSpec)

/-- ITS FALSE NEIGHBOUR: 'it returns false'. Refute it at one input. -/
def relationRenamesWrong : ChangeSpec := { name := "relationRenames", fn := fun _ => fun
  | [d1, d2, d3] => { results := [.lit (.bool false)], args := [d1, d2, d3] }
  | _ => none }
def RelationRenamesWrongFalsely : Prop := relationRenamesRow.holds Tryd.pinned (OpenSpec.ofChange relationRenamesWrong)

/-- 'klippelaw20.RelationNames': WHATEVER THE INPUT: true; the input reads as it did. -/
def relationNamesSpec : ChangeSpec := { name := "relationNames", fn := fun _ => fun
  | [d] => { results := [.lit (.bool true)], args := [d] }
  | _ => none }
def relationNamesRow : OpenClaim := { program := "ytpnobpnknlpjnaadoor", sum := "a17a891a3c240433ff484b592a7caa37e1eec0b651e70114e3f066ca122a1a9c", func := "klippe/klippelaw20.RelationNames", spec := "relationNames", inPlace := ["internal/bytealg.CountString", "internal/bytealg.IndexByteString", "internal/bytealg.IndexString"], unfollowed := true, recurses := true, named := ["unicode/utf8.first", "unicode/utf8.acceptRanges", "internal/bytealg.MaxLen"], apart := false, laid := [("unicode/utf8.acceptRanges", laid_unicode_utf8_acceptRanges), ("unicode/utf8.first", laid_unicode_utf8_first)] }
def RelationNamesSaid : Prop := relationNamesRow.holds Tryd.pinned (OpenSpec.ofChange relationNamesSpec)

/-- ITS FALSE NEIGHBOUR: 'it returns false'. Refute it at one input. -/
def relationNamesWrong : ChangeSpec := { name := "relationNames", fn := fun _ => fun
  | [d] => { results := [.lit (.bool false)], args := [d] }
  | _ => none }
def RelationNamesWrongFalsely : Prop := relationNamesRow.holds Tryd.pinned (OpenSpec.ofChange relationNamesWrong)

/-- 'klippelaw20.RelationLists': WHATEVER THE INPUT: true; the input reads as it did. -/
def relationListsSpec : ChangeSpec := { name := "relationLists", fn := fun _ => fun
  | [d] => { results := [.lit (.bool true)], args := [d] }
  | _ => none }
def relationListsRow : OpenClaim := { program := "ytpnobpnknlpjnaadoor", sum := "a17a891a3c240433ff484b592a7caa37e1eec0b651e70114e3f066ca122a1a9c", func := "klippe/klippelaw20.RelationLists", spec := "relationLists", inPlace := ["internal/bytealg.CountString", "internal/bytealg.IndexByteString", "internal/bytealg.IndexString"], unfollowed := true, recurses := true, named := ["unicode/utf8.first", "unicode/utf8.acceptRanges", "internal/bytealg.MaxLen"], apart := false, laid := [("unicode/utf8.acceptRanges", laid_unicode_utf8_acceptRanges), ("unicode/utf8.first", laid_unicode_utf8_first)] }
def RelationListsSaid : Prop := relationListsRow.holds Tryd.pinned (OpenSpec.ofChange relationListsSpec)

/-- ITS FALSE NEIGHBOUR: 'it returns false'. Refute it at one input. -/
def relationListsWrong : ChangeSpec := { name := "relationLists", fn := fun _ => fun
  | [d] => { results := [.lit (.bool false)], args := [d] }
  | _ => none }
def RelationListsWrongFalsely : Prop := relationListsRow.holds Tryd.pinned (OpenSpec.ofChange relationListsWrong)

/-- 'klippelaw20.RelationKeeps': WHATEVER THE INPUT: true; the input reads as it did. -/
def relationKeepsSpec : ChangeSpec := { name := "relationKeeps", fn := fun _ => fun
  | [d1, d2] => { results := [.lit (.bool true)], args := [d1, d2] }
  | _ => none }
def relationKeepsRow : OpenClaim := { program := "ytpnobpnknlpjnaadoor", sum := "a17a891a3c240433ff484b592a7caa37e1eec0b651e70114e3f066ca122a1a9c", func := "klippe/klippelaw20.RelationKeeps", spec := "relationKeeps", inPlace := ["internal/bytealg.CountString", "internal/bytealg.IndexByteString", "internal/bytealg.IndexString"], unfollowed := true, recurses := true, named := ["unicode/utf8.first", "unicode/utf8.acceptRanges", "internal/bytealg.MaxLen"], apart := false, laid := [("unicode/utf8.acceptRanges", laid_unicode_utf8_acceptRanges), ("unicode/utf8.first", laid_unicode_utf8_first)] }
def RelationKeepsSaid : Prop := relationKeepsRow.holds Tryd.pinned (OpenSpec.ofChange relationKeepsSpec)

/-- ITS FALSE NEIGHBOUR: 'it returns false'. Refute it at one input. -/
def relationKeepsWrong : ChangeSpec := { name := "relationKeeps", fn := fun _ => fun
  | [d1, d2] => { results := [.lit (.bool false)], args := [d1, d2] }
  | _ => none }
def RelationKeepsWrongFalsely : Prop := relationKeepsRow.holds Tryd.pinned (OpenSpec.ofChange relationKeepsWrong)

/- THE SECOND FORM. 'bulk': how many values and letters a reading holds, each counted each time it is reached (what is shared counts as often as it is met; a slice's spare places count too). A statement '..UptoSaid' is the law's where the arguments, and the package variables that the reading takes, are together of bulk at most 1048576: NARROWER than '..Said'. Prove '..Said' where nothing that the law and all that it calls make is longer than what came in: it says more and counts as full. Else prove '..UptoSaid'. A law counts once. -/
mutual
def uptoBulk {H : Type} : DataW H → Nat
  | .lit (.string bytes) => bytes.length + 1
  | .lit _ => 1
  | .nil => 1
  | .ptr d => uptoBulk d + 1
  | .slice elems spare => uptoBulkAll elems + uptoBulkAll spare + 1
  | .agg parts => uptoBulkAll parts + 1
  | .iface _ d => uptoBulk d + 1
  | .map entries => uptoBulkEntries entries + 1
  | .held _ => 1
def uptoBulkAll {H : Type} : List (DataW H) → Nat
  | [] => 0
  | d :: r => uptoBulk d + uptoBulkAll r
def uptoBulkEntries {H : Type} : List (Lit × DataW H) → Nat
  | [] => 0
  | x :: r => uptoBulkEntry x + uptoBulkEntries r
def uptoBulkEntry {H : Type} : Lit × DataW H → Nat
  | (.string bytes, d) => bytes.length + uptoBulk d + 1
  | (_, d) => uptoBulk d + 1
 end
def uptoSmall : (H : Type) → List (DataW H) → Bool := fun _ ds => decide (uptoBulkAll ds ≤ 1048576)
def OpenSpec.upto (s : _root_.Go.ChangeSpec) : _root_.Go.OpenSpec := { _root_.Go.OpenSpec.ofChange s with cond := some uptoSmall }

/-- 'klippelaw20.RelationNormals', WHERE WHAT IT READS IS OF BULK AT MOST 1048576: true; the input reads as it did. -/
def relationNormalsUptoRow : OpenClaim := { program := "ytpnobpnknlpjnaadoor", sum := "a17a891a3c240433ff484b592a7caa37e1eec0b651e70114e3f066ca122a1a9c", func := "klippe/klippelaw20.RelationNormals", spec := "relationNormals", inPlace := ["internal/bytealg.CountString", "internal/bytealg.IndexByteString", "internal/bytealg.IndexString"], unfollowed := true, recurses := true, named := ["unicode/utf8.first", "unicode/utf8.acceptRanges", "internal/bytealg.MaxLen"], apart := false, laid := [("unicode/utf8.acceptRanges", laid_unicode_utf8_acceptRanges), ("unicode/utf8.first", laid_unicode_utf8_first)], narrowed := true }
def RelationNormalsUptoSaid : Prop := relationNormalsUptoRow.holds Tryd.pinned (OpenSpec.upto relationNormalsSpec)

/-- 'klippelaw20.RelationParses', WHERE WHAT IT READS IS OF BULK AT MOST 1048576: true; the input reads as it did. -/
def relationParsesUptoRow : OpenClaim := { program := "ytpnobpnknlpjnaadoor", sum := "a17a891a3c240433ff484b592a7caa37e1eec0b651e70114e3f066ca122a1a9c", func := "klippe/klippelaw20.RelationParses", spec := "relationParses", inPlace := ["internal/bytealg.CountString", "internal/bytealg.IndexByteString", "internal/bytealg.IndexString"], unfollowed := true, recurses := true, named := ["unicode/utf8.first", "unicode/utf8.acceptRanges", "internal/bytealg.MaxLen"], apart := false, laid := [("unicode/utf8.acceptRanges", laid_unicode_utf8_acceptRanges), ("unicode/utf8.first", laid_unicode_utf8_first)], narrowed := true }
def RelationParsesUptoSaid : Prop := relationParsesUptoRow.holds Tryd.pinned (OpenSpec.upto relationParsesSpec)

/-- 'klippelaw20.RelationTexts', WHERE WHAT IT READS IS OF BULK AT MOST 1048576: true; the input reads as it did. -/
def relationTextsUptoRow : OpenClaim := { program := "ytpnobpnknlpjnaadoor", sum := "a17a891a3c240433ff484b592a7caa37e1eec0b651e70114e3f066ca122a1a9c", func := "klippe/klippelaw20.RelationTexts", spec := "relationTexts", inPlace := ["internal/bytealg.CountString", "internal/bytealg.IndexByteString", "internal/bytealg.IndexString"], unfollowed := true, recurses := true, named := ["unicode/utf8.first", "unicode/utf8.acceptRanges", "internal/bytealg.MaxLen"], apart := false, laid := [("unicode/utf8.acceptRanges", laid_unicode_utf8_acceptRanges), ("unicode/utf8.first", laid_unicode_utf8_first)], narrowed := true }
def RelationTextsUptoSaid : Prop := relationTextsUptoRow.holds Tryd.pinned (OpenSpec.upto relationTextsSpec)

/-- 'klippelaw20.RelationPairs', WHERE WHAT IT READS IS OF BULK AT MOST 1048576: true; the input reads as it did. -/
def relationPairsUptoRow : OpenClaim := { program := "ytpnobpnknlpjnaadoor", sum := "a17a891a3c240433ff484b592a7caa37e1eec0b651e70114e3f066ca122a1a9c", func := "klippe/klippelaw20.RelationPairs", spec := "relationPairs", inPlace := ["internal/bytealg.CountString", "internal/bytealg.IndexByteString", "internal/bytealg.IndexString"], unfollowed := true, recurses := true, named := ["unicode/utf8.first", "unicode/utf8.acceptRanges", "internal/bytealg.MaxLen"], apart := false, laid := [("unicode/utf8.acceptRanges", laid_unicode_utf8_acceptRanges), ("unicode/utf8.first", laid_unicode_utf8_first)], narrowed := true }
def RelationPairsUptoSaid : Prop := relationPairsUptoRow.holds Tryd.pinned (OpenSpec.upto relationPairsSpec)

/-- 'klippelaw20.RelationRenames', WHERE WHAT IT READS IS OF BULK AT MOST 1048576: true; the input reads as it did. -/
def relationRenamesUptoRow : OpenClaim := { program := "ytpnobpnknlpjnaadoor", sum := "a17a891a3c240433ff484b592a7caa37e1eec0b651e70114e3f066ca122a1a9c", func := "klippe/klippelaw20.RelationRenames", spec := "relationRenames", inPlace := ["internal/bytealg.CountString", "internal/bytealg.IndexByteString", "internal/bytealg.IndexString"], unfollowed := true, recurses := true, named := ["unicode/utf8.first", "unicode/utf8.acceptRanges", "internal/bytealg.MaxLen"], apart := false, laid := [("unicode/utf8.acceptRanges", laid_unicode_utf8_acceptRanges), ("unicode/utf8.first", laid_unicode_utf8_first)], narrowed := true }
def RelationRenamesUptoSaid : Prop := relationRenamesUptoRow.holds Tryd.pinned (OpenSpec.upto relationRenamesSpec)

/-- 'klippelaw20.RelationNames', WHERE WHAT IT READS IS OF BULK AT MOST 1048576: true; the input reads as it did. -/
def relationNamesUptoRow : OpenClaim := { program := "ytpnobpnknlpjnaadoor", sum := "a17a891a3c240433ff484b592a7caa37e1eec0b651e70114e3f066ca122a1a9c", func := "klippe/klippelaw20.RelationNames", spec := "relationNames", inPlace := ["internal/bytealg.CountString", "internal/bytealg.IndexByteString", "internal/bytealg.IndexString"], unfollowed := true, recurses := true, named := ["unicode/utf8.first", "unicode/utf8.acceptRanges", "internal/bytealg.MaxLen"], apart := false, laid := [("unicode/utf8.acceptRanges", laid_unicode_utf8_acceptRanges), ("unicode/utf8.first", laid_unicode_utf8_first)], narrowed := true }
def RelationNamesUptoSaid : Prop := relationNamesUptoRow.holds Tryd.pinned (OpenSpec.upto relationNamesSpec)

/-- 'klippelaw20.RelationLists', WHERE WHAT IT READS IS OF BULK AT MOST 1048576: true; the input reads as it did. -/
def relationListsUptoRow : OpenClaim := { program := "ytpnobpnknlpjnaadoor", sum := "a17a891a3c240433ff484b592a7caa37e1eec0b651e70114e3f066ca122a1a9c", func := "klippe/klippelaw20.RelationLists", spec := "relationLists", inPlace := ["internal/bytealg.CountString", "internal/bytealg.IndexByteString", "internal/bytealg.IndexString"], unfollowed := true, recurses := true, named := ["unicode/utf8.first", "unicode/utf8.acceptRanges", "internal/bytealg.MaxLen"], apart := false, laid := [("unicode/utf8.acceptRanges", laid_unicode_utf8_acceptRanges), ("unicode/utf8.first", laid_unicode_utf8_first)], narrowed := true }
def RelationListsUptoSaid : Prop := relationListsUptoRow.holds Tryd.pinned (OpenSpec.upto relationListsSpec)

/-- 'klippelaw20.RelationKeeps', WHERE WHAT IT READS IS OF BULK AT MOST 1048576: true; the input reads as it did. -/
def relationKeepsUptoRow : OpenClaim := { program := "ytpnobpnknlpjnaadoor", sum := "a17a891a3c240433ff484b592a7caa37e1eec0b651e70114e3f066ca122a1a9c", func := "klippe/klippelaw20.RelationKeeps", spec := "relationKeeps", inPlace := ["internal/bytealg.CountString", "internal/bytealg.IndexByteString", "internal/bytealg.IndexString"], unfollowed := true, recurses := true, named := ["unicode/utf8.first", "unicode/utf8.acceptRanges", "internal/bytealg.MaxLen"], apart := false, laid := [("unicode/utf8.acceptRanges", laid_unicode_utf8_acceptRanges), ("unicode/utf8.first", laid_unicode_utf8_first)], narrowed := true }
def RelationKeepsUptoSaid : Prop := relationKeepsUptoRow.holds Tryd.pinned (OpenSpec.upto relationKeepsSpec)

end Rows
end Go.Proofs.YtpnobpnknlpjnaaDoor
