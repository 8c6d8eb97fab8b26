/-
  DERIVED. GIVEN WITH THE SEED: THE CARDS: each row of YtgjjhadbjmcnpaaGreatDoorRows.lean that lists a variable, with what it lists TIED to the program's text (the seventh form; the later family's looks); each row that meets fmt, with fmt's text TOLD by the authors' own Lean function (tested against real Go, not proved from fmt's source: count such statements apart). THE CARD IS WHAT COUNTS. Prove the row's statement (the work); the ties are given (YtgjjhadbjmcnpaaGreatDoorTie.lean); close each card by the builder's one call (the guide's Derived/Test/ToyasCard.lean, 'card_holds'). Laid BY PROGRAM, IN A SANDBOX (cutbox-door.mjs). By AI agents, Wed Nov 11 2026. No macro, syntax, notation, axiom, sorry.
-/
import Derived.Test.YtgjjhadbjmcnpaaGreatDoorRows
import GoSem.ClaimSeven
namespace Go.Proofs.YtgjjhadbjmcnpaaGreatDoor
namespace Rows

/-- THE TIED CARD OF 'turnerylaw5.ArgsSays'. -/
def argsSaysCard : Claim7 := { stood := { row := argsSaysRow, standIns := [], harness := (true, "a216cf94dfc4e9a61a80458b8ca6f5aa2f4fa06fccde8bf886f27b55879139c2"), looks := false }, kinds := [], alts := [], laidByText := true, laidKinds := [.data], laidTests := true, laidLooks := .later }
def ArgsSaysCardSaid : Prop := Claim7.holds Tryz.pinned (.plain (OpenSpec.ofChange argsSaysSpec)) argsSaysCard

/-- THE TIED CARD OF 'turnerylaw5.ArgsTaken'. -/
def argsTakenCard : Claim7 := { stood := { row := argsTakenRow, standIns := [], harness := (true, "a216cf94dfc4e9a61a80458b8ca6f5aa2f4fa06fccde8bf886f27b55879139c2"), looks := false }, kinds := [], alts := [], laidByText := true, laidKinds := [.data], laidTests := true, laidLooks := .later }
def ArgsTakenCardSaid : Prop := Claim7.holds Tryz.pinned (.plain (OpenSpec.ofChange argsTakenSpec)) argsTakenCard

/-- THE TIED CARD OF 'turnerylaw5.ArgsUnlike'. -/
def argsUnlikeCard : Claim7 := { stood := { row := argsUnlikeRow, standIns := [], harness := (true, "a216cf94dfc4e9a61a80458b8ca6f5aa2f4fa06fccde8bf886f27b55879139c2"), looks := false }, kinds := [], alts := [], laidByText := true, laidKinds := [.data], laidTests := true, laidLooks := .later }
def ArgsUnlikeCardSaid : Prop := Claim7.holds Tryz.pinned (.plain (OpenSpec.ofChange argsUnlikeSpec)) argsUnlikeCard

/-- THE TIED CARD OF 'turnerylaw5.ArgsRest'. -/
def argsRestCard : Claim7 := { stood := { row := argsRestRow, standIns := [], harness := (true, "a216cf94dfc4e9a61a80458b8ca6f5aa2f4fa06fccde8bf886f27b55879139c2"), looks := false }, kinds := [], alts := [], laidByText := true, laidKinds := [.data], laidTests := true, laidLooks := .later }
def ArgsRestCardSaid : Prop := Claim7.holds Tryz.pinned (.plain (OpenSpec.ofChange argsRestSpec)) argsRestCard

/-- THE TIED CARD OF 'turnerylaw5.ArgsNone'. -/
def argsNoneCard : Claim7 := { stood := { row := argsNoneRow, standIns := [], harness := (true, "a216cf94dfc4e9a61a80458b8ca6f5aa2f4fa06fccde8bf886f27b55879139c2"), looks := false }, kinds := [], alts := [], laidByText := true, laidKinds := [.data], laidTests := true, laidLooks := .later }
def ArgsNoneCardSaid : Prop := Claim7.holds Tryz.pinned (.plain (OpenSpec.ofChange argsNoneSpec)) argsNoneCard

/-- THE SECOND FORM's CARD OF 'turnerylaw5.ArgsSays'. -/
def argsSaysUptoCard : Claim7 := { stood := { row := argsSaysUptoRow, standIns := [], harness := (true, "a216cf94dfc4e9a61a80458b8ca6f5aa2f4fa06fccde8bf886f27b55879139c2"), looks := false }, kinds := [], alts := [], laidByText := true, laidKinds := [.data], laidTests := true, laidLooks := .later }
def ArgsSaysUptoCardSaid : Prop := Claim7.holds Tryz.pinned (.plain (OpenSpec.upto argsSaysSpec)) argsSaysUptoCard

/-- THE SECOND FORM's CARD OF 'turnerylaw5.ArgsTaken'. -/
def argsTakenUptoCard : Claim7 := { stood := { row := argsTakenUptoRow, standIns := [], harness := (true, "a216cf94dfc4e9a61a80458b8ca6f5aa2f4fa06fccde8bf886f27b55879139c2"), looks := false }, kinds := [], alts := [], laidByText := true, laidKinds := [.data], laidTests := true, laidLooks := .later }
def ArgsTakenUptoCardSaid : Prop := Claim7.holds Tryz.pinned (.plain (OpenSpec.upto argsTakenSpec)) argsTakenUptoCard

/-- THE SECOND FORM's CARD OF 'turnerylaw5.ArgsUnlike'. -/
def argsUnlikeUptoCard : Claim7 := { stood := { row := argsUnlikeUptoRow, standIns := [], harness := (true, "a216cf94dfc4e9a61a80458b8ca6f5aa2f4fa06fccde8bf886f27b55879139c2"), looks := false }, kinds := [], alts := [], laidByText := true, laidKinds := [.data], laidTests := true, laidLooks := .later }
def ArgsUnlikeUptoCardSaid : Prop := Claim7.holds Tryz.pinned (.plain (OpenSpec.upto argsUnlikeSpec)) argsUnlikeUptoCard

/-- THE SECOND FORM's CARD OF 'turnerylaw5.ArgsRest'. -/
def argsRestUptoCard : Claim7 := { stood := { row := argsRestUptoRow, standIns := [], harness := (true, "a216cf94dfc4e9a61a80458b8ca6f5aa2f4fa06fccde8bf886f27b55879139c2"), looks := false }, kinds := [], alts := [], laidByText := true, laidKinds := [.data], laidTests := true, laidLooks := .later }
def ArgsRestUptoCardSaid : Prop := Claim7.holds Tryz.pinned (.plain (OpenSpec.upto argsRestSpec)) argsRestUptoCard

/-- THE SECOND FORM's CARD OF 'turnerylaw5.ArgsNone'. -/
def argsNoneUptoCard : Claim7 := { stood := { row := argsNoneUptoRow, standIns := [], harness := (true, "a216cf94dfc4e9a61a80458b8ca6f5aa2f4fa06fccde8bf886f27b55879139c2"), looks := false }, kinds := [], alts := [], laidByText := true, laidKinds := [.data], laidTests := true, laidLooks := .later }
def ArgsNoneUptoCardSaid : Prop := Claim7.holds Tryz.pinned (.plain (OpenSpec.upto argsNoneSpec)) argsNoneUptoCard
end Rows
end Go.Proofs.YtgjjhadbjmcnpaaGreatDoor
