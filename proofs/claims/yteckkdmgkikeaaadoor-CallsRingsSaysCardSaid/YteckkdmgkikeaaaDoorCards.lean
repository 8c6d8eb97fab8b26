/-
  DERIVED. GIVEN WITH THE SEED: THE CARDS: each row of YteckkdmgkikeaaaDoorRows.lean that lists a variable, with what it lists TIED to the program's text (the seventh form; the later family's looks); each row that meets fmt, with fmt's text TOLD by the authors' own Lean function (tested against real Go, not proved from fmt's source: count such statements apart). THE CARD IS WHAT COUNTS. Prove the row's statement (the work); the ties are given (YteckkdmgkikeaaaDoorTie.lean); close each card by the builder's one call (the guide's Derived/Test/ToyasCard.lean, 'card_holds'). Laid BY PROGRAM, IN A SANDBOX (cutbox-door.mjs). By AI agents, Wed Nov 11 2026. No macro, syntax, notation, axiom, sorry.
-/
import Derived.Test.YteckkdmgkikeaaaDoorRows
import GoSem.ClaimSeven
namespace Go.Proofs.YteckkdmgkikeaaaDoor
namespace Rows

/-- THE TIED CARD OF 'turnerylaw5.PureEndsSays'. -/
def pureEndsSaysCard : Claim7 := { stood := { row := pureEndsSaysRow, standIns := [], harness := (true, "a9b01ab6d4b0da0c677a72c251c2c5edb20d357bfcea164281f864f0876c57cc"), looks := false }, kinds := [], alts := [], laidByText := true, laidKinds := [.data], laidTests := true, laidLooks := .later }
def PureEndsSaysCardSaid : Prop := Claim7.holds Tryd.pinned (.plain (OpenSpec.ofChange pureEndsSaysSpec)) pureEndsSaysCard

/-- THE TIED CARD OF 'turnerylaw5.SimpleOneMean'. -/
def simpleOneMeanCard : Claim7 := { stood := { row := simpleOneMeanRow, standIns := [], harness := (true, "a9b01ab6d4b0da0c677a72c251c2c5edb20d357bfcea164281f864f0876c57cc"), looks := false }, kinds := [], alts := [], laidByText := true, laidKinds := [.data], laidTests := true, laidLooks := .later }
def SimpleOneMeanCardSaid : Prop := Claim7.holds Tryd.pinned (.plain (OpenSpec.ofChange simpleOneMeanSpec)) simpleOneMeanCard

/-- THE TIED CARD OF 'turnerylaw5.CallsGraphSays'. -/
def callsGraphSaysCard : Claim7 := { stood := { row := callsGraphSaysRow, standIns := [], harness := (true, "a9b01ab6d4b0da0c677a72c251c2c5edb20d357bfcea164281f864f0876c57cc"), looks := false }, kinds := [], alts := [], laidByText := true, laidKinds := [.data], laidTests := true, laidLooks := .later }
def CallsGraphSaysCardSaid : Prop := Claim7.holds Tryd.pinned (.plain (OpenSpec.ofChange callsGraphSaysSpec)) callsGraphSaysCard

/-- THE TIED CARD OF 'turnerylaw5.CallsRound'. -/
def callsRoundCard : Claim7 := { stood := { row := callsRoundRow, standIns := [], harness := (true, "a9b01ab6d4b0da0c677a72c251c2c5edb20d357bfcea164281f864f0876c57cc"), looks := false }, kinds := [], alts := [], laidByText := true, laidKinds := [.data], laidTests := true, laidLooks := .later }
def CallsRoundCardSaid : Prop := Claim7.holds Tryd.pinned (.plain (OpenSpec.ofChange callsRoundSpec)) callsRoundCard

/-- THE TIED CARD OF 'turnerylaw5.CallsRingsSays'. -/
def callsRingsSaysCard : Claim7 := { stood := { row := callsRingsSaysRow, standIns := [], harness := (true, "a9b01ab6d4b0da0c677a72c251c2c5edb20d357bfcea164281f864f0876c57cc"), looks := false }, kinds := [], alts := [], laidByText := true, laidKinds := [.data], laidTests := true, laidLooks := .later }
def CallsRingsSaysCardSaid : Prop := Claim7.holds Tryd.pinned (.plain (OpenSpec.ofChange callsRingsSaysSpec)) callsRingsSaysCard

/-- THE TIED CARD OF 'turnerylaw5.CallsAhead'. -/
def callsAheadCard : Claim7 := { stood := { row := callsAheadRow, standIns := [], harness := (true, "a9b01ab6d4b0da0c677a72c251c2c5edb20d357bfcea164281f864f0876c57cc"), looks := false }, kinds := [], alts := [], laidByText := true, laidKinds := [.data], laidTests := true, laidLooks := .later }
def CallsAheadCardSaid : Prop := Claim7.holds Tryd.pinned (.plain (OpenSpec.ofChange callsAheadSpec)) callsAheadCard

/-- THE TIED CARD OF 'turnerylaw5.SpanOfSays'. -/
def spanOfSaysCard : Claim7 := { stood := { row := spanOfSaysRow, standIns := [], harness := (true, "a9b01ab6d4b0da0c677a72c251c2c5edb20d357bfcea164281f864f0876c57cc"), looks := false }, kinds := [], alts := [], laidByText := true, laidKinds := [.data, .data], laidTests := true, laidLooks := .later }
def SpanOfSaysCardSaid : Prop := Claim7.holds Tryd.pinned (.plain (OpenSpec.ofChange spanOfSaysSpec)) spanOfSaysCard

/-- THE TIED CARD OF 'turnerylaw5.SpanParams'. -/
def spanParamsCard : Claim7 := { stood := { row := spanParamsRow, standIns := [], harness := (true, "a9b01ab6d4b0da0c677a72c251c2c5edb20d357bfcea164281f864f0876c57cc"), looks := false }, kinds := [], alts := [], laidByText := true, laidKinds := [.data, .data], laidTests := true, laidLooks := .later }
def SpanParamsCardSaid : Prop := Claim7.holds Tryd.pinned (.plain (OpenSpec.ofChange spanParamsSpec)) spanParamsCard

/-- THE TIED CARD OF 'turnerylaw5.CallsDoSays'. -/
def callsDoSaysCard : Claim7 := { stood := { row := callsDoSaysRow, standIns := [], harness := (true, "a9b01ab6d4b0da0c677a72c251c2c5edb20d357bfcea164281f864f0876c57cc"), looks := false }, kinds := [], alts := [], laidByText := true, laidKinds := [.data], laidTests := true, laidLooks := .later }
def CallsDoSaysCardSaid : Prop := Claim7.holds Tryd.pinned (.plain (OpenSpec.ofChange callsDoSaysSpec)) callsDoSaysCard

/-- THE TIED CARD OF 'turnerylaw5.CallsRest'. -/
def callsRestCard : Claim7 := { stood := { row := callsRestRow, standIns := [], harness := (true, "a9b01ab6d4b0da0c677a72c251c2c5edb20d357bfcea164281f864f0876c57cc"), looks := false }, kinds := [], alts := [], laidByText := true, laidKinds := [.data], laidTests := true, laidLooks := .later }
def CallsRestCardSaid : Prop := Claim7.holds Tryd.pinned (.plain (OpenSpec.ofChange callsRestSpec)) callsRestCard

/-- THE SECOND FORM's CARD OF 'turnerylaw5.PureEndsSays'. -/
def pureEndsSaysUptoCard : Claim7 := { stood := { row := pureEndsSaysUptoRow, standIns := [], harness := (true, "a9b01ab6d4b0da0c677a72c251c2c5edb20d357bfcea164281f864f0876c57cc"), looks := false }, kinds := [], alts := [], laidByText := true, laidKinds := [.data], laidTests := true, laidLooks := .later }
def PureEndsSaysUptoCardSaid : Prop := Claim7.holds Tryd.pinned (.plain (OpenSpec.upto pureEndsSaysSpec)) pureEndsSaysUptoCard

/-- THE SECOND FORM's CARD OF 'turnerylaw5.SimpleOneMean'. -/
def simpleOneMeanUptoCard : Claim7 := { stood := { row := simpleOneMeanUptoRow, standIns := [], harness := (true, "a9b01ab6d4b0da0c677a72c251c2c5edb20d357bfcea164281f864f0876c57cc"), looks := false }, kinds := [], alts := [], laidByText := true, laidKinds := [.data], laidTests := true, laidLooks := .later }
def SimpleOneMeanUptoCardSaid : Prop := Claim7.holds Tryd.pinned (.plain (OpenSpec.upto simpleOneMeanSpec)) simpleOneMeanUptoCard

/-- THE SECOND FORM's CARD OF 'turnerylaw5.CallsGraphSays'. -/
def callsGraphSaysUptoCard : Claim7 := { stood := { row := callsGraphSaysUptoRow, standIns := [], harness := (true, "a9b01ab6d4b0da0c677a72c251c2c5edb20d357bfcea164281f864f0876c57cc"), looks := false }, kinds := [], alts := [], laidByText := true, laidKinds := [.data], laidTests := true, laidLooks := .later }
def CallsGraphSaysUptoCardSaid : Prop := Claim7.holds Tryd.pinned (.plain (OpenSpec.upto callsGraphSaysSpec)) callsGraphSaysUptoCard

/-- THE SECOND FORM's CARD OF 'turnerylaw5.CallsRound'. -/
def callsRoundUptoCard : Claim7 := { stood := { row := callsRoundUptoRow, standIns := [], harness := (true, "a9b01ab6d4b0da0c677a72c251c2c5edb20d357bfcea164281f864f0876c57cc"), looks := false }, kinds := [], alts := [], laidByText := true, laidKinds := [.data], laidTests := true, laidLooks := .later }
def CallsRoundUptoCardSaid : Prop := Claim7.holds Tryd.pinned (.plain (OpenSpec.upto callsRoundSpec)) callsRoundUptoCard

/-- THE SECOND FORM's CARD OF 'turnerylaw5.CallsRingsSays'. -/
def callsRingsSaysUptoCard : Claim7 := { stood := { row := callsRingsSaysUptoRow, standIns := [], harness := (true, "a9b01ab6d4b0da0c677a72c251c2c5edb20d357bfcea164281f864f0876c57cc"), looks := false }, kinds := [], alts := [], laidByText := true, laidKinds := [.data], laidTests := true, laidLooks := .later }
def CallsRingsSaysUptoCardSaid : Prop := Claim7.holds Tryd.pinned (.plain (OpenSpec.upto callsRingsSaysSpec)) callsRingsSaysUptoCard

/-- THE SECOND FORM's CARD OF 'turnerylaw5.CallsAhead'. -/
def callsAheadUptoCard : Claim7 := { stood := { row := callsAheadUptoRow, standIns := [], harness := (true, "a9b01ab6d4b0da0c677a72c251c2c5edb20d357bfcea164281f864f0876c57cc"), looks := false }, kinds := [], alts := [], laidByText := true, laidKinds := [.data], laidTests := true, laidLooks := .later }
def CallsAheadUptoCardSaid : Prop := Claim7.holds Tryd.pinned (.plain (OpenSpec.upto callsAheadSpec)) callsAheadUptoCard

/-- THE SECOND FORM's CARD OF 'turnerylaw5.SpanOfSays'. -/
def spanOfSaysUptoCard : Claim7 := { stood := { row := spanOfSaysUptoRow, standIns := [], harness := (true, "a9b01ab6d4b0da0c677a72c251c2c5edb20d357bfcea164281f864f0876c57cc"), looks := false }, kinds := [], alts := [], laidByText := true, laidKinds := [.data, .data], laidTests := true, laidLooks := .later }
def SpanOfSaysUptoCardSaid : Prop := Claim7.holds Tryd.pinned (.plain (OpenSpec.upto spanOfSaysSpec)) spanOfSaysUptoCard

/-- THE SECOND FORM's CARD OF 'turnerylaw5.SpanParams'. -/
def spanParamsUptoCard : Claim7 := { stood := { row := spanParamsUptoRow, standIns := [], harness := (true, "a9b01ab6d4b0da0c677a72c251c2c5edb20d357bfcea164281f864f0876c57cc"), looks := false }, kinds := [], alts := [], laidByText := true, laidKinds := [.data, .data], laidTests := true, laidLooks := .later }
def SpanParamsUptoCardSaid : Prop := Claim7.holds Tryd.pinned (.plain (OpenSpec.upto spanParamsSpec)) spanParamsUptoCard

/-- THE SECOND FORM's CARD OF 'turnerylaw5.CallsDoSays'. -/
def callsDoSaysUptoCard : Claim7 := { stood := { row := callsDoSaysUptoRow, standIns := [], harness := (true, "a9b01ab6d4b0da0c677a72c251c2c5edb20d357bfcea164281f864f0876c57cc"), looks := false }, kinds := [], alts := [], laidByText := true, laidKinds := [.data], laidTests := true, laidLooks := .later }
def CallsDoSaysUptoCardSaid : Prop := Claim7.holds Tryd.pinned (.plain (OpenSpec.upto callsDoSaysSpec)) callsDoSaysUptoCard

/-- THE SECOND FORM's CARD OF 'turnerylaw5.CallsRest'. -/
def callsRestUptoCard : Claim7 := { stood := { row := callsRestUptoRow, standIns := [], harness := (true, "a9b01ab6d4b0da0c677a72c251c2c5edb20d357bfcea164281f864f0876c57cc"), looks := false }, kinds := [], alts := [], laidByText := true, laidKinds := [.data], laidTests := true, laidLooks := .later }
def CallsRestUptoCardSaid : Prop := Claim7.holds Tryd.pinned (.plain (OpenSpec.upto callsRestSpec)) callsRestUptoCard
end Rows
end Go.Proofs.YteckkdmgkikeaaaDoor
