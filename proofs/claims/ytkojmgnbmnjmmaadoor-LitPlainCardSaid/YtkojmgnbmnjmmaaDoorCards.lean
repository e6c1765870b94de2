/-
  DERIVED. GIVEN WITH THE SEED: THE CARDS: each row of YtkojmgnbmnjmmaaDoorRows.lean that lists a variable, with what it lists TIED to the program's text (the seventh form; the later family's looks); each row that meets fmt, with fmt's text TOLD by the authors' own Lean function (tested against real Go, not proved from fmt's source: count such statements apart). THE CARD IS WHAT COUNTS. Prove the row's statement (the work); the ties are given (YtkojmgnbmnjmmaaDoorTie.lean); close each card by the builder's one call (the guide's Derived/Test/ToyasCard.lean, 'card_holds'). Laid BY PROGRAM, IN A SANDBOX (cutbox-door.mjs). By AI agents, Wed Nov 11 2026. No macro, syntax, notation, axiom, sorry.
-/
import Derived.Test.YtkojmgnbmnjmmaaDoorRows
import GoSem.ClaimSeven
namespace Go.Proofs.YtkojmgnbmnjmmaaDoor
namespace Rows

/-- THE TIED CARD OF 'garnerlaw21.LitJoins'. -/
def litJoinsCard : Claim7 := { stood := { row := litJoinsRow, standIns := [], harness := (true, "57e005903fbd9229054d69f9a88db97fab02cca4f3f5df11ab617c63215c5a02"), looks := true }, kinds := [], alts := [], laidByText := true, laidKinds := [.data, .pinned], laidTests := true, laidLooks := .later }
def LitJoinsCardSaid : Prop := Claim7.holds Tryd.pinned (.plain (OpenSpec.ofChange litJoinsSpec)) litJoinsCard

/-- THE TIED CARD OF 'garnerlaw19.NfaClasses'. -/
def nfaClassesCard : Claim7 := { stood := { row := nfaClassesRow, standIns := [], harness := (true, "57e005903fbd9229054d69f9a88db97fab02cca4f3f5df11ab617c63215c5a02"), looks := true }, kinds := [], alts := [], laidByText := true, laidKinds := [.data, .pinned], laidTests := true, laidLooks := .later }
def NfaClassesCardSaid : Prop := Claim7.holds Tryd.pinned (.plain (OpenSpec.ofChange nfaClassesSpec)) nfaClassesCard

/-- THE TIED CARD OF 'garnerlaw21.LitPlain'. -/
def litPlainCard : Claim7 := { stood := { row := litPlainRow, standIns := [], harness := (true, "57e005903fbd9229054d69f9a88db97fab02cca4f3f5df11ab617c63215c5a02"), looks := true }, kinds := [], alts := [], laidByText := true, laidKinds := [.data, .pinned], laidTests := true, laidLooks := .later }
def LitPlainCardSaid : Prop := Claim7.holds Tryd.pinned (.plain (OpenSpec.ofChange litPlainSpec)) litPlainCard

/-- THE TIED CARD OF 'garnerlaw19.NfaPlain'. -/
def nfaPlainCard : Claim7 := { stood := { row := nfaPlainRow, standIns := [], harness := (true, "57e005903fbd9229054d69f9a88db97fab02cca4f3f5df11ab617c63215c5a02"), looks := true }, kinds := [], alts := [], laidByText := true, laidKinds := [.data, .pinned], laidTests := true, laidLooks := .later }
def NfaPlainCardSaid : Prop := Claim7.holds Tryd.pinned (.plain (OpenSpec.ofChange nfaPlainSpec)) nfaPlainCard

/-- THE TIED CARD OF 'garnerlaw19.NfaAlgebra'. -/
def nfaAlgebraCard : Claim7 := { stood := { row := nfaAlgebraRow, standIns := [], harness := (true, "57e005903fbd9229054d69f9a88db97fab02cca4f3f5df11ab617c63215c5a02"), looks := true }, kinds := [], alts := [], laidByText := true, laidKinds := [.data, .pinned], laidTests := true, laidLooks := .later }
def NfaAlgebraCardSaid : Prop := Claim7.holds Tryd.pinned (.plain (OpenSpec.ofChange nfaAlgebraSpec)) nfaAlgebraCard

/-- THE TIED CARD OF 'garnerlaw19.NfaRepeats'. -/
def nfaRepeatsCard : Claim7 := { stood := { row := nfaRepeatsRow, standIns := [], harness := (true, "57e005903fbd9229054d69f9a88db97fab02cca4f3f5df11ab617c63215c5a02"), looks := true }, kinds := [], alts := [], laidByText := true, laidKinds := [.data, .pinned], laidTests := true, laidLooks := .later }
def NfaRepeatsCardSaid : Prop := Claim7.holds Tryd.pinned (.plain (OpenSpec.ofChange nfaRepeatsSpec)) nfaRepeatsCard

/-- THE TIED CARD OF 'garnerlaw19.NfaDots'. -/
def nfaDotsCard : Claim7 := { stood := { row := nfaDotsRow, standIns := [], harness := (true, "57e005903fbd9229054d69f9a88db97fab02cca4f3f5df11ab617c63215c5a02"), looks := true }, kinds := [], alts := [], laidByText := true, laidKinds := [.data, .pinned], laidTests := true, laidLooks := .later }
def NfaDotsCardSaid : Prop := Claim7.holds Tryd.pinned (.plain (OpenSpec.ofChange nfaDotsSpec)) nfaDotsCard

/-- THE SECOND FORM's CARD OF 'garnerlaw21.LitJoins'. -/
def litJoinsUptoCard : Claim7 := { stood := { row := litJoinsUptoRow, standIns := [], harness := (true, "57e005903fbd9229054d69f9a88db97fab02cca4f3f5df11ab617c63215c5a02"), looks := true }, kinds := [], alts := [], laidByText := true, laidKinds := [.data, .pinned], laidTests := true, laidLooks := .later }
def LitJoinsUptoCardSaid : Prop := Claim7.holds Tryd.pinned (.plain (OpenSpec.upto litJoinsSpec)) litJoinsUptoCard

/-- THE SECOND FORM's CARD OF 'garnerlaw19.NfaClasses'. -/
def nfaClassesUptoCard : Claim7 := { stood := { row := nfaClassesUptoRow, standIns := [], harness := (true, "57e005903fbd9229054d69f9a88db97fab02cca4f3f5df11ab617c63215c5a02"), looks := true }, kinds := [], alts := [], laidByText := true, laidKinds := [.data, .pinned], laidTests := true, laidLooks := .later }
def NfaClassesUptoCardSaid : Prop := Claim7.holds Tryd.pinned (.plain (OpenSpec.upto nfaClassesSpec)) nfaClassesUptoCard

/-- THE SECOND FORM's CARD OF 'garnerlaw21.LitPlain'. -/
def litPlainUptoCard : Claim7 := { stood := { row := litPlainUptoRow, standIns := [], harness := (true, "57e005903fbd9229054d69f9a88db97fab02cca4f3f5df11ab617c63215c5a02"), looks := true }, kinds := [], alts := [], laidByText := true, laidKinds := [.data, .pinned], laidTests := true, laidLooks := .later }
def LitPlainUptoCardSaid : Prop := Claim7.holds Tryd.pinned (.plain (OpenSpec.upto litPlainSpec)) litPlainUptoCard

/-- THE SECOND FORM's CARD OF 'garnerlaw19.NfaPlain'. -/
def nfaPlainUptoCard : Claim7 := { stood := { row := nfaPlainUptoRow, standIns := [], harness := (true, "57e005903fbd9229054d69f9a88db97fab02cca4f3f5df11ab617c63215c5a02"), looks := true }, kinds := [], alts := [], laidByText := true, laidKinds := [.data, .pinned], laidTests := true, laidLooks := .later }
def NfaPlainUptoCardSaid : Prop := Claim7.holds Tryd.pinned (.plain (OpenSpec.upto nfaPlainSpec)) nfaPlainUptoCard

/-- THE SECOND FORM's CARD OF 'garnerlaw19.NfaAlgebra'. -/
def nfaAlgebraUptoCard : Claim7 := { stood := { row := nfaAlgebraUptoRow, standIns := [], harness := (true, "57e005903fbd9229054d69f9a88db97fab02cca4f3f5df11ab617c63215c5a02"), looks := true }, kinds := [], alts := [], laidByText := true, laidKinds := [.data, .pinned], laidTests := true, laidLooks := .later }
def NfaAlgebraUptoCardSaid : Prop := Claim7.holds Tryd.pinned (.plain (OpenSpec.upto nfaAlgebraSpec)) nfaAlgebraUptoCard

/-- THE SECOND FORM's CARD OF 'garnerlaw19.NfaRepeats'. -/
def nfaRepeatsUptoCard : Claim7 := { stood := { row := nfaRepeatsUptoRow, standIns := [], harness := (true, "57e005903fbd9229054d69f9a88db97fab02cca4f3f5df11ab617c63215c5a02"), looks := true }, kinds := [], alts := [], laidByText := true, laidKinds := [.data, .pinned], laidTests := true, laidLooks := .later }
def NfaRepeatsUptoCardSaid : Prop := Claim7.holds Tryd.pinned (.plain (OpenSpec.upto nfaRepeatsSpec)) nfaRepeatsUptoCard

/-- THE SECOND FORM's CARD OF 'garnerlaw19.NfaDots'. -/
def nfaDotsUptoCard : Claim7 := { stood := { row := nfaDotsUptoRow, standIns := [], harness := (true, "57e005903fbd9229054d69f9a88db97fab02cca4f3f5df11ab617c63215c5a02"), looks := true }, kinds := [], alts := [], laidByText := true, laidKinds := [.data, .pinned], laidTests := true, laidLooks := .later }
def NfaDotsUptoCardSaid : Prop := Claim7.holds Tryd.pinned (.plain (OpenSpec.upto nfaDotsSpec)) nfaDotsUptoCard
end Rows
end Go.Proofs.YtkojmgnbmnjmmaaDoor
