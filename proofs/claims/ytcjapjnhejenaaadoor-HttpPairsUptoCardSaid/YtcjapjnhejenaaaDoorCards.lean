/-
  DERIVED. GIVEN WITH THE SEED: THE CARDS: each row of YtcjapjnhejenaaaDoorRows.lean that lists a variable, with what it lists TIED to the program's text (the seventh form; the later family's looks); each row that meets fmt, with fmt's text TOLD by the authors' own Lean function (tested against real Go, not proved from fmt's source: count such statements apart). THE CARD IS WHAT COUNTS. Prove the row's statement (the work); the ties are given (YtcjapjnhejenaaaDoorTie.lean); close each card by the builder's one call (the guide's Derived/Test/ToyasCard.lean, 'card_holds'). Laid BY PROGRAM, IN A SANDBOX (cutbox-door.mjs). By AI agents, Wed Nov 11 2026. No macro, syntax, notation, axiom, sorry.
-/
import Derived.Test.YtcjapjnhejenaaaDoorRows
import GoSem.ClaimSeven
namespace Go.Proofs.YtcjapjnhejenaaaDoor
namespace Rows

/-- THE TIED CARD OF 'garnerlaw26.HttpPrefix'. -/
def httpPrefixCard : Claim7 := { stood := { row := httpPrefixRow, standIns := [], harness := (true, "dea1705c3b2a0874a5d54d4410336c057fcd6d1103b2a98220f49979d4bf6c4c"), looks := false }, kinds := [], alts := [], laidByText := true, laidKinds := [.data, .pinned], laidTests := true, laidLooks := .later }
def HttpPrefixCardSaid : Prop := Claim7.holds Tryd.pinned (.plain (OpenSpec.ofChange httpPrefixSpec)) httpPrefixCard

/-- THE TIED CARD OF 'garnerlaw26.HttpBodies'. -/
def httpBodiesCard : Claim7 := { stood := { row := httpBodiesRow, standIns := [], harness := (true, "dea1705c3b2a0874a5d54d4410336c057fcd6d1103b2a98220f49979d4bf6c4c"), looks := false }, kinds := [], alts := [], laidByText := true, laidKinds := [.data, .pinned], laidTests := true, laidLooks := .later }
def HttpBodiesCardSaid : Prop := Claim7.holds Tryd.pinned (.plain (OpenSpec.ofChange httpBodiesSpec)) httpBodiesCard

/-- THE TIED CARD OF 'garnerlaw26.HttpLimits'. -/
def httpLimitsCard : Claim7 := { stood := { row := httpLimitsRow, standIns := [], harness := (true, "dea1705c3b2a0874a5d54d4410336c057fcd6d1103b2a98220f49979d4bf6c4c"), looks := false }, kinds := [], alts := [], laidByText := true, laidKinds := [.data, .pinned], laidTests := true, laidLooks := .later }
def HttpLimitsCardSaid : Prop := Claim7.holds Tryd.pinned (.plain (OpenSpec.ofChange httpLimitsSpec)) httpLimitsCard

/-- THE TIED CARD OF 'garnerlaw26.HttpKeeps'. -/
def httpKeepsCard : Claim7 := { stood := { row := httpKeepsRow, standIns := [], harness := (true, "dea1705c3b2a0874a5d54d4410336c057fcd6d1103b2a98220f49979d4bf6c4c"), looks := false }, kinds := [], alts := [], laidByText := true, laidKinds := [.data, .pinned], laidTests := true, laidLooks := .later }
def HttpKeepsCardSaid : Prop := Claim7.holds Tryd.pinned (.plain (OpenSpec.ofChange httpKeepsSpec)) httpKeepsCard

/-- THE TIED CARD OF 'garnerlaw26.HttpPairs'. -/
def httpPairsCard : Claim7 := { stood := { row := httpPairsRow, standIns := [], harness := (true, "dea1705c3b2a0874a5d54d4410336c057fcd6d1103b2a98220f49979d4bf6c4c"), looks := false }, kinds := [], alts := [], laidByText := true, laidKinds := [.data, .pinned], laidTests := true, laidLooks := .later }
def HttpPairsCardSaid : Prop := Claim7.holds Tryd.pinned (.plain (OpenSpec.ofChange httpPairsSpec)) httpPairsCard

/-- THE SECOND FORM's CARD OF 'garnerlaw26.HttpPrefix'. -/
def httpPrefixUptoCard : Claim7 := { stood := { row := httpPrefixUptoRow, standIns := [], harness := (true, "dea1705c3b2a0874a5d54d4410336c057fcd6d1103b2a98220f49979d4bf6c4c"), looks := false }, kinds := [], alts := [], laidByText := true, laidKinds := [.data, .pinned], laidTests := true, laidLooks := .later }
def HttpPrefixUptoCardSaid : Prop := Claim7.holds Tryd.pinned (.plain (OpenSpec.upto httpPrefixSpec)) httpPrefixUptoCard

/-- THE SECOND FORM's CARD OF 'garnerlaw26.HttpBodies'. -/
def httpBodiesUptoCard : Claim7 := { stood := { row := httpBodiesUptoRow, standIns := [], harness := (true, "dea1705c3b2a0874a5d54d4410336c057fcd6d1103b2a98220f49979d4bf6c4c"), looks := false }, kinds := [], alts := [], laidByText := true, laidKinds := [.data, .pinned], laidTests := true, laidLooks := .later }
def HttpBodiesUptoCardSaid : Prop := Claim7.holds Tryd.pinned (.plain (OpenSpec.upto httpBodiesSpec)) httpBodiesUptoCard

/-- THE SECOND FORM's CARD OF 'garnerlaw26.HttpLimits'. -/
def httpLimitsUptoCard : Claim7 := { stood := { row := httpLimitsUptoRow, standIns := [], harness := (true, "dea1705c3b2a0874a5d54d4410336c057fcd6d1103b2a98220f49979d4bf6c4c"), looks := false }, kinds := [], alts := [], laidByText := true, laidKinds := [.data, .pinned], laidTests := true, laidLooks := .later }
def HttpLimitsUptoCardSaid : Prop := Claim7.holds Tryd.pinned (.plain (OpenSpec.upto httpLimitsSpec)) httpLimitsUptoCard

/-- THE SECOND FORM's CARD OF 'garnerlaw26.HttpKeeps'. -/
def httpKeepsUptoCard : Claim7 := { stood := { row := httpKeepsUptoRow, standIns := [], harness := (true, "dea1705c3b2a0874a5d54d4410336c057fcd6d1103b2a98220f49979d4bf6c4c"), looks := false }, kinds := [], alts := [], laidByText := true, laidKinds := [.data, .pinned], laidTests := true, laidLooks := .later }
def HttpKeepsUptoCardSaid : Prop := Claim7.holds Tryd.pinned (.plain (OpenSpec.upto httpKeepsSpec)) httpKeepsUptoCard

/-- THE SECOND FORM's CARD OF 'garnerlaw26.HttpPairs'. -/
def httpPairsUptoCard : Claim7 := { stood := { row := httpPairsUptoRow, standIns := [], harness := (true, "dea1705c3b2a0874a5d54d4410336c057fcd6d1103b2a98220f49979d4bf6c4c"), looks := false }, kinds := [], alts := [], laidByText := true, laidKinds := [.data, .pinned], laidTests := true, laidLooks := .later }
def HttpPairsUptoCardSaid : Prop := Claim7.holds Tryd.pinned (.plain (OpenSpec.upto httpPairsSpec)) httpPairsUptoCard
end Rows
end Go.Proofs.YtcjapjnhejenaaaDoor
