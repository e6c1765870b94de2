/-
  DERIVED. GIVEN WITH THE SEED: THE CARDS: each row of YtmcacicopgckmaaGreatDoorRows.lean that lists a variable, with what it lists TIED to the program's text (the seventh form; the later family's looks); each row that meets fmt, with fmt's text TOLD by the authors' own Lean function (tested against real Go, not proved from fmt's source: count such statements apart). THE CARD IS WHAT COUNTS. Prove the row's statement (the work); the ties are given (YtmcacicopgckmaaGreatDoorTie.lean); close each card by the builder's one call (the guide's Derived/Test/ToyasCard.lean, 'card_holds'). Laid BY PROGRAM, IN A SANDBOX (cutbox-door.mjs). By AI agents, Wed Nov 11 2026. No macro, syntax, notation, axiom, sorry.
-/
import Derived.Test.YtmcacicopgckmaaGreatDoorRows
import GoSem.ClaimSeven
namespace Go.Proofs.YtmcacicopgckmaaGreatDoor
namespace Rows

/-- THE TIED CARD OF 'garnerlaw21.LitNeeds'. -/
def litNeedsCard : Claim7 := { stood := { row := litNeedsRow, standIns := [], harness := (true, "8a22c159d39329ce4211167a4e61adc868a0167662699379c8091b74d0cb0d7f"), looks := true }, kinds := [], alts := [], laidByText := true, laidKinds := [.data, .pinned], laidTests := true, laidLooks := .later }
def LitNeedsCardSaid : Prop := Claim7.holds Tryz.pinned (.plain (OpenSpec.ofChange litNeedsSpec)) litNeedsCard

/-- THE TIED CARD OF 'garnerlaw19.NfaMeans'. -/
def nfaMeansCard : Claim7 := { stood := { row := nfaMeansRow, standIns := [], harness := (true, "8a22c159d39329ce4211167a4e61adc868a0167662699379c8091b74d0cb0d7f"), looks := true }, kinds := [], alts := [], laidByText := true, laidKinds := [.data, .pinned], laidTests := true, laidLooks := .later }
def NfaMeansCardSaid : Prop := Claim7.holds Tryz.pinned (.plain (OpenSpec.ofChange nfaMeansSpec)) nfaMeansCard

/-- THE TIED CARD OF 'garnerlaw20.DfaSame'. -/
def dfaSameCard : Claim7 := { stood := { row := dfaSameRow, standIns := [], harness := (true, "8a22c159d39329ce4211167a4e61adc868a0167662699379c8091b74d0cb0d7f"), looks := true }, kinds := [], alts := [], laidByText := true, laidKinds := [.data, .data, .data, .data, .pinned], laidTests := true, laidLooks := .later }
def DfaSameCardSaid : Prop := Claim7.holds Tryz.pinned (.plain (OpenSpec.ofChange dfaSameSpec)) dfaSameCard

/-- THE TIED CARD OF 'garnerlaw21.LitStands'. -/
def litStandsCard : Claim7 := { stood := { row := litStandsRow, standIns := [], harness := (true, "8a22c159d39329ce4211167a4e61adc868a0167662699379c8091b74d0cb0d7f"), looks := true }, kinds := [], alts := [], laidByText := true, laidKinds := [.data, .pinned], laidTests := true, laidLooks := .later }
def LitStandsCardSaid : Prop := Claim7.holds Tryz.pinned (.plain (OpenSpec.ofChange litStandsSpec)) litStandsCard

/-- THE TIED CARD OF 'garnerlaw20.DfaResets'. -/
def dfaResetsCard : Claim7 := { stood := { row := dfaResetsRow, standIns := [], harness := (true, "8a22c159d39329ce4211167a4e61adc868a0167662699379c8091b74d0cb0d7f"), looks := true }, kinds := [], alts := [], laidByText := true, laidKinds := [.data, .data, .data, .data, .pinned], laidTests := true, laidLooks := .later }
def DfaResetsCardSaid : Prop := Claim7.holds Tryz.pinned (.plain (OpenSpec.ofChange dfaResetsSpec)) dfaResetsCard

/-- THE SECOND FORM's CARD OF 'garnerlaw21.LitNeeds'. -/
def litNeedsUptoCard : Claim7 := { stood := { row := litNeedsUptoRow, standIns := [], harness := (true, "8a22c159d39329ce4211167a4e61adc868a0167662699379c8091b74d0cb0d7f"), looks := true }, kinds := [], alts := [], laidByText := true, laidKinds := [.data, .pinned], laidTests := true, laidLooks := .later }
def LitNeedsUptoCardSaid : Prop := Claim7.holds Tryz.pinned (.plain (OpenSpec.upto litNeedsSpec)) litNeedsUptoCard

/-- THE SECOND FORM's CARD OF 'garnerlaw19.NfaMeans'. -/
def nfaMeansUptoCard : Claim7 := { stood := { row := nfaMeansUptoRow, standIns := [], harness := (true, "8a22c159d39329ce4211167a4e61adc868a0167662699379c8091b74d0cb0d7f"), looks := true }, kinds := [], alts := [], laidByText := true, laidKinds := [.data, .pinned], laidTests := true, laidLooks := .later }
def NfaMeansUptoCardSaid : Prop := Claim7.holds Tryz.pinned (.plain (OpenSpec.upto nfaMeansSpec)) nfaMeansUptoCard

/-- THE SECOND FORM's CARD OF 'garnerlaw20.DfaSame'. -/
def dfaSameUptoCard : Claim7 := { stood := { row := dfaSameUptoRow, standIns := [], harness := (true, "8a22c159d39329ce4211167a4e61adc868a0167662699379c8091b74d0cb0d7f"), looks := true }, kinds := [], alts := [], laidByText := true, laidKinds := [.data, .data, .data, .data, .pinned], laidTests := true, laidLooks := .later }
def DfaSameUptoCardSaid : Prop := Claim7.holds Tryz.pinned (.plain (OpenSpec.upto dfaSameSpec)) dfaSameUptoCard

/-- THE SECOND FORM's CARD OF 'garnerlaw21.LitStands'. -/
def litStandsUptoCard : Claim7 := { stood := { row := litStandsUptoRow, standIns := [], harness := (true, "8a22c159d39329ce4211167a4e61adc868a0167662699379c8091b74d0cb0d7f"), looks := true }, kinds := [], alts := [], laidByText := true, laidKinds := [.data, .pinned], laidTests := true, laidLooks := .later }
def LitStandsUptoCardSaid : Prop := Claim7.holds Tryz.pinned (.plain (OpenSpec.upto litStandsSpec)) litStandsUptoCard

/-- THE SECOND FORM's CARD OF 'garnerlaw20.DfaResets'. -/
def dfaResetsUptoCard : Claim7 := { stood := { row := dfaResetsUptoRow, standIns := [], harness := (true, "8a22c159d39329ce4211167a4e61adc868a0167662699379c8091b74d0cb0d7f"), looks := true }, kinds := [], alts := [], laidByText := true, laidKinds := [.data, .data, .data, .data, .pinned], laidTests := true, laidLooks := .later }
def DfaResetsUptoCardSaid : Prop := Claim7.holds Tryz.pinned (.plain (OpenSpec.upto dfaResetsSpec)) dfaResetsUptoCard
end Rows
end Go.Proofs.YtmcacicopgckmaaGreatDoor
