/-
  DERIVED. GIVEN WITH THE SEED: THE CARDS: each row of YtlalmbklhmpngaaDoorRows.lean that lists a variable, with what it lists TIED to the program's text (the seventh form; the later family's looks); each row that meets fmt, with fmt's text TOLD by the authors' own Lean function (tested against real Go, not proved from fmt's source: count such statements apart). THE CARD IS WHAT COUNTS. Prove the row's statement (the work); the ties are given (YtlalmbklhmpngaaDoorTie.lean); close each card by the builder's one call (the guide's Derived/Test/ToyasCard.lean, 'card_holds'). Laid BY PROGRAM, IN A SANDBOX (cutbox-door.mjs). By AI agents, Wed Nov 11 2026. No macro, syntax, notation, axiom, sorry.
-/
import Derived.Test.YtlalmbklhmpngaaDoorRows
import GoSem.ClaimSeven
namespace Go.Proofs.YtlalmbklhmpngaaDoor
namespace Rows

/-- THE TIED CARD OF 'turnerylaw5.SimpleOneMean'. -/
def simpleOneMeanCard : Claim7 := { stood := { row := simpleOneMeanRow, standIns := [], harness := (true, "91359c8d6a6da0f75ad769e4fda238a289af99d797cecbe74f304250deb9a838"), looks := false }, kinds := [], alts := [], laidByText := true, laidKinds := [.data], laidTests := true, laidLooks := .later }
def SimpleOneMeanCardSaid : Prop := Claim7.holds Tryd.pinned (.plain (OpenSpec.ofChange simpleOneMeanSpec)) simpleOneMeanCard

/-- THE TIED CARD OF 'turnerylaw5.CallsDoSays'. -/
def callsDoSaysCard : Claim7 := { stood := { row := callsDoSaysRow, standIns := [], harness := (true, "91359c8d6a6da0f75ad769e4fda238a289af99d797cecbe74f304250deb9a838"), looks := false }, kinds := [], alts := [], laidByText := true, laidKinds := [.data], laidTests := true, laidLooks := .later }
def CallsDoSaysCardSaid : Prop := Claim7.holds Tryd.pinned (.plain (OpenSpec.ofChange callsDoSaysSpec)) callsDoSaysCard

/-- THE TIED CARD OF 'turnerylaw5.CallsRest'. -/
def callsRestCard : Claim7 := { stood := { row := callsRestRow, standIns := [], harness := (true, "91359c8d6a6da0f75ad769e4fda238a289af99d797cecbe74f304250deb9a838"), looks := false }, kinds := [], alts := [], laidByText := true, laidKinds := [.data], laidTests := true, laidLooks := .later }
def CallsRestCardSaid : Prop := Claim7.holds Tryd.pinned (.plain (OpenSpec.ofChange callsRestSpec)) callsRestCard

/-- THE TIED CARD OF 'turnerylaw5.PureSays'. -/
def pureSaysCard : Claim7 := { stood := { row := pureSaysRow, standIns := [], harness := (true, "91359c8d6a6da0f75ad769e4fda238a289af99d797cecbe74f304250deb9a838"), looks := false }, kinds := [], alts := [], laidByText := true, laidKinds := [.data], laidTests := true, laidLooks := .later }
def PureSaysCardSaid : Prop := Claim7.holds Tryd.pinned (.plain (OpenSpec.ofChange pureSaysSpec)) pureSaysCard

/-- THE TIED CARD OF 'turnerylaw5.PureUp'. -/
def pureUpCard : Claim7 := { stood := { row := pureUpRow, standIns := [], harness := (true, "91359c8d6a6da0f75ad769e4fda238a289af99d797cecbe74f304250deb9a838"), looks := false }, kinds := [], alts := [], laidByText := true, laidKinds := [.data], laidTests := true, laidLooks := .later }
def PureUpCardSaid : Prop := Claim7.holds Tryd.pinned (.plain (OpenSpec.ofChange pureUpSpec)) pureUpCard

/-- THE TIED CARD OF 'turnerylaw5.CallsNever'. -/
def callsNeverCard : Claim7 := { stood := { row := callsNeverRow, standIns := [], harness := (true, "91359c8d6a6da0f75ad769e4fda238a289af99d797cecbe74f304250deb9a838"), looks := false }, kinds := [], alts := [], laidByText := true, laidKinds := [.data], laidTests := true, laidLooks := .later }
def CallsNeverCardSaid : Prop := Claim7.holds Tryd.pinned (.plain (OpenSpec.ofChange callsNeverSpec)) callsNeverCard

/-- THE TIED CARD OF 'turnerylaw5.CallsMean'. -/
def callsMeanCard : Claim7 := { stood := { row := callsMeanRow, standIns := [], harness := (true, "91359c8d6a6da0f75ad769e4fda238a289af99d797cecbe74f304250deb9a838"), looks := false }, kinds := [], alts := [], laidByText := true, laidKinds := [.data], laidTests := true, laidLooks := .later }
def CallsMeanCardSaid : Prop := Claim7.holds Tryd.pinned (.plain (OpenSpec.ofChange callsMeanSpec)) callsMeanCard

/-- THE TIED CARD OF 'turnerylaw5.PureSilent'. -/
def pureSilentCard : Claim7 := { stood := { row := pureSilentRow, standIns := [], harness := (true, "91359c8d6a6da0f75ad769e4fda238a289af99d797cecbe74f304250deb9a838"), looks := false }, kinds := [], alts := [], laidByText := true, laidKinds := [.data], laidTests := true, laidLooks := .later }
def PureSilentCardSaid : Prop := Claim7.holds Tryd.pinned (.plain (OpenSpec.ofChange pureSilentSpec)) pureSilentCard

/-- THE TIED CARD OF 'turnerylaw5.PureDeaf'. -/
def pureDeafCard : Claim7 := { stood := { row := pureDeafRow, standIns := [], harness := (true, "91359c8d6a6da0f75ad769e4fda238a289af99d797cecbe74f304250deb9a838"), looks := false }, kinds := [], alts := [], laidByText := true, laidKinds := [.data], laidTests := true, laidLooks := .later }
def PureDeafCardSaid : Prop := Claim7.holds Tryd.pinned (.plain (OpenSpec.ofChange pureDeafSpec)) pureDeafCard

/-- THE TIED CARD OF 'turnerylaw5.PureSafe'. -/
def pureSafeCard : Claim7 := { stood := { row := pureSafeRow, standIns := [], harness := (true, "91359c8d6a6da0f75ad769e4fda238a289af99d797cecbe74f304250deb9a838"), looks := false }, kinds := [], alts := [], laidByText := true, laidKinds := [.data], laidTests := true, laidLooks := .later }
def PureSafeCardSaid : Prop := Claim7.holds Tryd.pinned (.plain (OpenSpec.ofChange pureSafeSpec)) pureSafeCard

/-- THE TIED CARD OF 'turnerylaw5.PureFlat'. -/
def pureFlatCard : Claim7 := { stood := { row := pureFlatRow, standIns := [], harness := (true, "91359c8d6a6da0f75ad769e4fda238a289af99d797cecbe74f304250deb9a838"), looks := false }, kinds := [], alts := [], laidByText := true, laidKinds := [.data], laidTests := true, laidLooks := .later }
def PureFlatCardSaid : Prop := Claim7.holds Tryd.pinned (.plain (OpenSpec.ofChange pureFlatSpec)) pureFlatCard

/-- THE TIED CARD OF 'turnerylaw5.PureShort'. -/
def pureShortCard : Claim7 := { stood := { row := pureShortRow, standIns := [], harness := (true, "91359c8d6a6da0f75ad769e4fda238a289af99d797cecbe74f304250deb9a838"), looks := false }, kinds := [], alts := [], laidByText := true, laidKinds := [.data], laidTests := true, laidLooks := .later }
def PureShortCardSaid : Prop := Claim7.holds Tryd.pinned (.plain (OpenSpec.ofChange pureShortSpec)) pureShortCard

/-- THE SECOND FORM's CARD OF 'turnerylaw5.SimpleOneMean'. -/
def simpleOneMeanUptoCard : Claim7 := { stood := { row := simpleOneMeanUptoRow, standIns := [], harness := (true, "91359c8d6a6da0f75ad769e4fda238a289af99d797cecbe74f304250deb9a838"), looks := false }, kinds := [], alts := [], laidByText := true, laidKinds := [.data], laidTests := true, laidLooks := .later }
def SimpleOneMeanUptoCardSaid : Prop := Claim7.holds Tryd.pinned (.plain (OpenSpec.upto simpleOneMeanSpec)) simpleOneMeanUptoCard

/-- THE SECOND FORM's CARD OF 'turnerylaw5.CallsDoSays'. -/
def callsDoSaysUptoCard : Claim7 := { stood := { row := callsDoSaysUptoRow, standIns := [], harness := (true, "91359c8d6a6da0f75ad769e4fda238a289af99d797cecbe74f304250deb9a838"), looks := false }, kinds := [], alts := [], laidByText := true, laidKinds := [.data], laidTests := true, laidLooks := .later }
def CallsDoSaysUptoCardSaid : Prop := Claim7.holds Tryd.pinned (.plain (OpenSpec.upto callsDoSaysSpec)) callsDoSaysUptoCard

/-- THE SECOND FORM's CARD OF 'turnerylaw5.CallsRest'. -/
def callsRestUptoCard : Claim7 := { stood := { row := callsRestUptoRow, standIns := [], harness := (true, "91359c8d6a6da0f75ad769e4fda238a289af99d797cecbe74f304250deb9a838"), looks := false }, kinds := [], alts := [], laidByText := true, laidKinds := [.data], laidTests := true, laidLooks := .later }
def CallsRestUptoCardSaid : Prop := Claim7.holds Tryd.pinned (.plain (OpenSpec.upto callsRestSpec)) callsRestUptoCard

/-- THE SECOND FORM's CARD OF 'turnerylaw5.PureSays'. -/
def pureSaysUptoCard : Claim7 := { stood := { row := pureSaysUptoRow, standIns := [], harness := (true, "91359c8d6a6da0f75ad769e4fda238a289af99d797cecbe74f304250deb9a838"), looks := false }, kinds := [], alts := [], laidByText := true, laidKinds := [.data], laidTests := true, laidLooks := .later }
def PureSaysUptoCardSaid : Prop := Claim7.holds Tryd.pinned (.plain (OpenSpec.upto pureSaysSpec)) pureSaysUptoCard

/-- THE SECOND FORM's CARD OF 'turnerylaw5.PureUp'. -/
def pureUpUptoCard : Claim7 := { stood := { row := pureUpUptoRow, standIns := [], harness := (true, "91359c8d6a6da0f75ad769e4fda238a289af99d797cecbe74f304250deb9a838"), looks := false }, kinds := [], alts := [], laidByText := true, laidKinds := [.data], laidTests := true, laidLooks := .later }
def PureUpUptoCardSaid : Prop := Claim7.holds Tryd.pinned (.plain (OpenSpec.upto pureUpSpec)) pureUpUptoCard

/-- THE SECOND FORM's CARD OF 'turnerylaw5.CallsNever'. -/
def callsNeverUptoCard : Claim7 := { stood := { row := callsNeverUptoRow, standIns := [], harness := (true, "91359c8d6a6da0f75ad769e4fda238a289af99d797cecbe74f304250deb9a838"), looks := false }, kinds := [], alts := [], laidByText := true, laidKinds := [.data], laidTests := true, laidLooks := .later }
def CallsNeverUptoCardSaid : Prop := Claim7.holds Tryd.pinned (.plain (OpenSpec.upto callsNeverSpec)) callsNeverUptoCard

/-- THE SECOND FORM's CARD OF 'turnerylaw5.CallsMean'. -/
def callsMeanUptoCard : Claim7 := { stood := { row := callsMeanUptoRow, standIns := [], harness := (true, "91359c8d6a6da0f75ad769e4fda238a289af99d797cecbe74f304250deb9a838"), looks := false }, kinds := [], alts := [], laidByText := true, laidKinds := [.data], laidTests := true, laidLooks := .later }
def CallsMeanUptoCardSaid : Prop := Claim7.holds Tryd.pinned (.plain (OpenSpec.upto callsMeanSpec)) callsMeanUptoCard

/-- THE SECOND FORM's CARD OF 'turnerylaw5.PureSilent'. -/
def pureSilentUptoCard : Claim7 := { stood := { row := pureSilentUptoRow, standIns := [], harness := (true, "91359c8d6a6da0f75ad769e4fda238a289af99d797cecbe74f304250deb9a838"), looks := false }, kinds := [], alts := [], laidByText := true, laidKinds := [.data], laidTests := true, laidLooks := .later }
def PureSilentUptoCardSaid : Prop := Claim7.holds Tryd.pinned (.plain (OpenSpec.upto pureSilentSpec)) pureSilentUptoCard

/-- THE SECOND FORM's CARD OF 'turnerylaw5.PureDeaf'. -/
def pureDeafUptoCard : Claim7 := { stood := { row := pureDeafUptoRow, standIns := [], harness := (true, "91359c8d6a6da0f75ad769e4fda238a289af99d797cecbe74f304250deb9a838"), looks := false }, kinds := [], alts := [], laidByText := true, laidKinds := [.data], laidTests := true, laidLooks := .later }
def PureDeafUptoCardSaid : Prop := Claim7.holds Tryd.pinned (.plain (OpenSpec.upto pureDeafSpec)) pureDeafUptoCard

/-- THE SECOND FORM's CARD OF 'turnerylaw5.PureSafe'. -/
def pureSafeUptoCard : Claim7 := { stood := { row := pureSafeUptoRow, standIns := [], harness := (true, "91359c8d6a6da0f75ad769e4fda238a289af99d797cecbe74f304250deb9a838"), looks := false }, kinds := [], alts := [], laidByText := true, laidKinds := [.data], laidTests := true, laidLooks := .later }
def PureSafeUptoCardSaid : Prop := Claim7.holds Tryd.pinned (.plain (OpenSpec.upto pureSafeSpec)) pureSafeUptoCard

/-- THE SECOND FORM's CARD OF 'turnerylaw5.PureFlat'. -/
def pureFlatUptoCard : Claim7 := { stood := { row := pureFlatUptoRow, standIns := [], harness := (true, "91359c8d6a6da0f75ad769e4fda238a289af99d797cecbe74f304250deb9a838"), looks := false }, kinds := [], alts := [], laidByText := true, laidKinds := [.data], laidTests := true, laidLooks := .later }
def PureFlatUptoCardSaid : Prop := Claim7.holds Tryd.pinned (.plain (OpenSpec.upto pureFlatSpec)) pureFlatUptoCard

/-- THE SECOND FORM's CARD OF 'turnerylaw5.PureShort'. -/
def pureShortUptoCard : Claim7 := { stood := { row := pureShortUptoRow, standIns := [], harness := (true, "91359c8d6a6da0f75ad769e4fda238a289af99d797cecbe74f304250deb9a838"), looks := false }, kinds := [], alts := [], laidByText := true, laidKinds := [.data], laidTests := true, laidLooks := .later }
def PureShortUptoCardSaid : Prop := Claim7.holds Tryd.pinned (.plain (OpenSpec.upto pureShortSpec)) pureShortUptoCard
end Rows
end Go.Proofs.YtlalmbklhmpngaaDoor
