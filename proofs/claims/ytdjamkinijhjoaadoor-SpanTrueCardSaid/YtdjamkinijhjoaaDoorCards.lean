/-
  DERIVED. GIVEN WITH THE SEED: THE CARDS: each row of YtdjamkinijhjoaaDoorRows.lean that lists a variable, with what it lists TIED to the program's text (the seventh form; the later family's looks); each row that meets fmt, with fmt's text TOLD by the authors' own Lean function (tested against real Go, not proved from fmt's source: count such statements apart). THE CARD IS WHAT COUNTS. Prove the row's statement (the work); the ties are given (YtdjamkinijhjoaaDoorTie.lean); close each card by the builder's one call (the guide's Derived/Test/ToyasCard.lean, 'card_holds'). Laid BY PROGRAM, IN A SANDBOX (cutbox-door.mjs). By AI agents, Wed Nov 11 2026. No macro, syntax, notation, axiom, sorry.
-/
import Derived.Test.YtdjamkinijhjoaaDoorRows
import GoSem.ClaimSeven
namespace Go.Proofs.YtdjamkinijhjoaaDoor
namespace Rows

/-- THE TIED CARD OF 'turnerylaw5.SpanOfSays'. -/
def spanOfSaysCard : Claim7 := { stood := { row := spanOfSaysRow, standIns := [], harness := (true, "674f220f86cc49c356146492b9204541da26c86c4a56c33181e66a3219c83f08"), looks := false }, kinds := [], alts := [], laidByText := true, laidKinds := [.data, .data], laidTests := true, laidLooks := .later }
def SpanOfSaysCardSaid : Prop := Claim7.holds Tryd.pinned (.plain (OpenSpec.ofChange spanOfSaysSpec)) spanOfSaysCard

/-- THE TIED CARD OF 'turnerylaw5.SpanParams'. -/
def spanParamsCard : Claim7 := { stood := { row := spanParamsRow, standIns := [], harness := (true, "674f220f86cc49c356146492b9204541da26c86c4a56c33181e66a3219c83f08"), looks := false }, kinds := [], alts := [], laidByText := true, laidKinds := [.data, .data], laidTests := true, laidLooks := .later }
def SpanParamsCardSaid : Prop := Claim7.holds Tryd.pinned (.plain (OpenSpec.ofChange spanParamsSpec)) spanParamsCard

/-- THE TIED CARD OF 'turnerylaw5.CallsDoSays'. -/
def callsDoSaysCard : Claim7 := { stood := { row := callsDoSaysRow, standIns := [], harness := (true, "674f220f86cc49c356146492b9204541da26c86c4a56c33181e66a3219c83f08"), looks := false }, kinds := [], alts := [], laidByText := true, laidKinds := [.data], laidTests := true, laidLooks := .later }
def CallsDoSaysCardSaid : Prop := Claim7.holds Tryd.pinned (.plain (OpenSpec.ofChange callsDoSaysSpec)) callsDoSaysCard

/-- THE TIED CARD OF 'turnerylaw5.CallsRest'. -/
def callsRestCard : Claim7 := { stood := { row := callsRestRow, standIns := [], harness := (true, "674f220f86cc49c356146492b9204541da26c86c4a56c33181e66a3219c83f08"), looks := false }, kinds := [], alts := [], laidByText := true, laidKinds := [.data], laidTests := true, laidLooks := .later }
def CallsRestCardSaid : Prop := Claim7.holds Tryd.pinned (.plain (OpenSpec.ofChange callsRestSpec)) callsRestCard

/-- THE TIED CARD OF 'turnerylaw5.SpanTrue'. -/
def spanTrueCard : Claim7 := { stood := { row := spanTrueRow, standIns := [], harness := (true, "674f220f86cc49c356146492b9204541da26c86c4a56c33181e66a3219c83f08"), looks := false }, kinds := [], alts := [], laidByText := true, laidKinds := [.data, .data], laidTests := true, laidLooks := .later }
def SpanTrueCardSaid : Prop := Claim7.holds Tryd.pinned (.plain (OpenSpec.ofChange spanTrueSpec)) spanTrueCard

/-- THE TIED CARD OF 'turnerylaw5.CallsMean'. -/
def callsMeanCard : Claim7 := { stood := { row := callsMeanRow, standIns := [], harness := (true, "674f220f86cc49c356146492b9204541da26c86c4a56c33181e66a3219c83f08"), looks := false }, kinds := [], alts := [], laidByText := true, laidKinds := [.data], laidTests := true, laidLooks := .later }
def CallsMeanCardSaid : Prop := Claim7.holds Tryd.pinned (.plain (OpenSpec.ofChange callsMeanSpec)) callsMeanCard

/-- THE SECOND FORM's CARD OF 'turnerylaw5.SpanOfSays'. -/
def spanOfSaysUptoCard : Claim7 := { stood := { row := spanOfSaysUptoRow, standIns := [], harness := (true, "674f220f86cc49c356146492b9204541da26c86c4a56c33181e66a3219c83f08"), looks := false }, kinds := [], alts := [], laidByText := true, laidKinds := [.data, .data], laidTests := true, laidLooks := .later }
def SpanOfSaysUptoCardSaid : Prop := Claim7.holds Tryd.pinned (.plain (OpenSpec.upto spanOfSaysSpec)) spanOfSaysUptoCard

/-- THE SECOND FORM's CARD OF 'turnerylaw5.SpanParams'. -/
def spanParamsUptoCard : Claim7 := { stood := { row := spanParamsUptoRow, standIns := [], harness := (true, "674f220f86cc49c356146492b9204541da26c86c4a56c33181e66a3219c83f08"), looks := false }, kinds := [], alts := [], laidByText := true, laidKinds := [.data, .data], laidTests := true, laidLooks := .later }
def SpanParamsUptoCardSaid : Prop := Claim7.holds Tryd.pinned (.plain (OpenSpec.upto spanParamsSpec)) spanParamsUptoCard

/-- THE SECOND FORM's CARD OF 'turnerylaw5.CallsDoSays'. -/
def callsDoSaysUptoCard : Claim7 := { stood := { row := callsDoSaysUptoRow, standIns := [], harness := (true, "674f220f86cc49c356146492b9204541da26c86c4a56c33181e66a3219c83f08"), looks := false }, kinds := [], alts := [], laidByText := true, laidKinds := [.data], laidTests := true, laidLooks := .later }
def CallsDoSaysUptoCardSaid : Prop := Claim7.holds Tryd.pinned (.plain (OpenSpec.upto callsDoSaysSpec)) callsDoSaysUptoCard

/-- THE SECOND FORM's CARD OF 'turnerylaw5.CallsRest'. -/
def callsRestUptoCard : Claim7 := { stood := { row := callsRestUptoRow, standIns := [], harness := (true, "674f220f86cc49c356146492b9204541da26c86c4a56c33181e66a3219c83f08"), looks := false }, kinds := [], alts := [], laidByText := true, laidKinds := [.data], laidTests := true, laidLooks := .later }
def CallsRestUptoCardSaid : Prop := Claim7.holds Tryd.pinned (.plain (OpenSpec.upto callsRestSpec)) callsRestUptoCard

/-- THE SECOND FORM's CARD OF 'turnerylaw5.SpanTrue'. -/
def spanTrueUptoCard : Claim7 := { stood := { row := spanTrueUptoRow, standIns := [], harness := (true, "674f220f86cc49c356146492b9204541da26c86c4a56c33181e66a3219c83f08"), looks := false }, kinds := [], alts := [], laidByText := true, laidKinds := [.data, .data], laidTests := true, laidLooks := .later }
def SpanTrueUptoCardSaid : Prop := Claim7.holds Tryd.pinned (.plain (OpenSpec.upto spanTrueSpec)) spanTrueUptoCard

/-- THE SECOND FORM's CARD OF 'turnerylaw5.CallsMean'. -/
def callsMeanUptoCard : Claim7 := { stood := { row := callsMeanUptoRow, standIns := [], harness := (true, "674f220f86cc49c356146492b9204541da26c86c4a56c33181e66a3219c83f08"), looks := false }, kinds := [], alts := [], laidByText := true, laidKinds := [.data], laidTests := true, laidLooks := .later }
def CallsMeanUptoCardSaid : Prop := Claim7.holds Tryd.pinned (.plain (OpenSpec.upto callsMeanSpec)) callsMeanUptoCard
end Rows
end Go.Proofs.YtdjamkinijhjoaaDoor
