/-
  DERIVED. GIVEN WITH THE SEED: THE CARDS: each row of YtecdphhdmjmmnaaGreatDoorRows.lean that lists a variable, with what it lists TIED to the program's text (the seventh form; the later family's looks); each row that meets fmt, with fmt's text TOLD by the authors' own Lean function (tested against real Go, not proved from fmt's source: count such statements apart). THE CARD IS WHAT COUNTS. Prove the row's statement (the work); the ties are given (YtecdphhdmjmmnaaGreatDoorTie.lean); close each card by the builder's one call (the guide's Derived/Test/ToyasCard.lean, 'card_holds'). Laid BY PROGRAM, IN A SANDBOX (cutbox-door.mjs). By AI agents, Wed Nov 11 2026. No macro, syntax, notation, axiom, sorry.
-/
import Derived.Test.YtecdphhdmjmmnaaGreatDoorRows
import GoSem.ClaimSeven
namespace Go.Proofs.YtecdphhdmjmmnaaGreatDoor
namespace Rows

/-- THE TIED CARD OF 'turnerylaw5.TailSays'. -/
def tailSaysCard : Claim7 := { stood := { row := tailSaysRow, standIns := [], harness := (true, "b4b36826774519e80dceb4ad9dc4a14e8299add255db34e95651957dd4b71f8c"), looks := false }, kinds := [], alts := [], laidByText := true, laidKinds := [.data], laidTests := true, laidLooks := .later }
def TailSaysCardSaid : Prop := Claim7.holds Tryz.pinned (.plain (OpenSpec.ofChange tailSaysSpec)) tailSaysCard

/-- THE TIED CARD OF 'turnerylaw5.TailGone'. -/
def tailGoneCard : Claim7 := { stood := { row := tailGoneRow, standIns := [], harness := (true, "b4b36826774519e80dceb4ad9dc4a14e8299add255db34e95651957dd4b71f8c"), looks := false }, kinds := [], alts := [], laidByText := true, laidKinds := [.data], laidTests := true, laidLooks := .later }
def TailGoneCardSaid : Prop := Claim7.holds Tryz.pinned (.plain (OpenSpec.ofChange tailGoneSpec)) tailGoneCard

/-- THE TIED CARD OF 'turnerylaw5.TailRest'. -/
def tailRestCard : Claim7 := { stood := { row := tailRestRow, standIns := [], harness := (true, "b4b36826774519e80dceb4ad9dc4a14e8299add255db34e95651957dd4b71f8c"), looks := false }, kinds := [], alts := [], laidByText := true, laidKinds := [.data], laidTests := true, laidLooks := .later }
def TailRestCardSaid : Prop := Claim7.holds Tryz.pinned (.plain (OpenSpec.ofChange tailRestSpec)) tailRestCard

/-- THE TIED CARD OF 'turnerylaw5.TailMean'. -/
def tailMeanCard : Claim7 := { stood := { row := tailMeanRow, standIns := [], harness := (true, "b4b36826774519e80dceb4ad9dc4a14e8299add255db34e95651957dd4b71f8c"), looks := false }, kinds := [], alts := [], laidByText := true, laidKinds := [.data], laidTests := true, laidLooks := .later }
def TailMeanCardSaid : Prop := Claim7.holds Tryz.pinned (.plain (OpenSpec.ofChange tailMeanSpec)) tailMeanCard

/-- THE TIED CARD OF 'turnerylaw5.TailFar'. -/
def tailFarCard : Claim7 := { stood := { row := tailFarRow, standIns := [], harness := (true, "b4b36826774519e80dceb4ad9dc4a14e8299add255db34e95651957dd4b71f8c"), looks := false }, kinds := [], alts := [], laidByText := true, laidKinds := [.data], laidTests := true, laidLooks := .later }
def TailFarCardSaid : Prop := Claim7.holds Tryz.pinned (.plain (OpenSpec.ofChange tailFarSpec)) tailFarCard

/-- THE TIED CARD OF 'turnerylaw5.TailCalls'. -/
def tailCallsCard : Claim7 := { stood := { row := tailCallsRow, standIns := [], harness := (true, "b4b36826774519e80dceb4ad9dc4a14e8299add255db34e95651957dd4b71f8c"), looks := false }, kinds := [], alts := [], laidByText := true, laidKinds := [.data], laidTests := true, laidLooks := .later }
def TailCallsCardSaid : Prop := Claim7.holds Tryz.pinned (.plain (OpenSpec.ofChange tailCallsSpec)) tailCallsCard

/-- THE SECOND FORM's CARD OF 'turnerylaw5.TailSays'. -/
def tailSaysUptoCard : Claim7 := { stood := { row := tailSaysUptoRow, standIns := [], harness := (true, "b4b36826774519e80dceb4ad9dc4a14e8299add255db34e95651957dd4b71f8c"), looks := false }, kinds := [], alts := [], laidByText := true, laidKinds := [.data], laidTests := true, laidLooks := .later }
def TailSaysUptoCardSaid : Prop := Claim7.holds Tryz.pinned (.plain (OpenSpec.upto tailSaysSpec)) tailSaysUptoCard

/-- THE SECOND FORM's CARD OF 'turnerylaw5.TailGone'. -/
def tailGoneUptoCard : Claim7 := { stood := { row := tailGoneUptoRow, standIns := [], harness := (true, "b4b36826774519e80dceb4ad9dc4a14e8299add255db34e95651957dd4b71f8c"), looks := false }, kinds := [], alts := [], laidByText := true, laidKinds := [.data], laidTests := true, laidLooks := .later }
def TailGoneUptoCardSaid : Prop := Claim7.holds Tryz.pinned (.plain (OpenSpec.upto tailGoneSpec)) tailGoneUptoCard

/-- THE SECOND FORM's CARD OF 'turnerylaw5.TailRest'. -/
def tailRestUptoCard : Claim7 := { stood := { row := tailRestUptoRow, standIns := [], harness := (true, "b4b36826774519e80dceb4ad9dc4a14e8299add255db34e95651957dd4b71f8c"), looks := false }, kinds := [], alts := [], laidByText := true, laidKinds := [.data], laidTests := true, laidLooks := .later }
def TailRestUptoCardSaid : Prop := Claim7.holds Tryz.pinned (.plain (OpenSpec.upto tailRestSpec)) tailRestUptoCard

/-- THE SECOND FORM's CARD OF 'turnerylaw5.TailMean'. -/
def tailMeanUptoCard : Claim7 := { stood := { row := tailMeanUptoRow, standIns := [], harness := (true, "b4b36826774519e80dceb4ad9dc4a14e8299add255db34e95651957dd4b71f8c"), looks := false }, kinds := [], alts := [], laidByText := true, laidKinds := [.data], laidTests := true, laidLooks := .later }
def TailMeanUptoCardSaid : Prop := Claim7.holds Tryz.pinned (.plain (OpenSpec.upto tailMeanSpec)) tailMeanUptoCard

/-- THE SECOND FORM's CARD OF 'turnerylaw5.TailFar'. -/
def tailFarUptoCard : Claim7 := { stood := { row := tailFarUptoRow, standIns := [], harness := (true, "b4b36826774519e80dceb4ad9dc4a14e8299add255db34e95651957dd4b71f8c"), looks := false }, kinds := [], alts := [], laidByText := true, laidKinds := [.data], laidTests := true, laidLooks := .later }
def TailFarUptoCardSaid : Prop := Claim7.holds Tryz.pinned (.plain (OpenSpec.upto tailFarSpec)) tailFarUptoCard

/-- THE SECOND FORM's CARD OF 'turnerylaw5.TailCalls'. -/
def tailCallsUptoCard : Claim7 := { stood := { row := tailCallsUptoRow, standIns := [], harness := (true, "b4b36826774519e80dceb4ad9dc4a14e8299add255db34e95651957dd4b71f8c"), looks := false }, kinds := [], alts := [], laidByText := true, laidKinds := [.data], laidTests := true, laidLooks := .later }
def TailCallsUptoCardSaid : Prop := Claim7.holds Tryz.pinned (.plain (OpenSpec.upto tailCallsSpec)) tailCallsUptoCard
end Rows
end Go.Proofs.YtecdphhdmjmmnaaGreatDoor
