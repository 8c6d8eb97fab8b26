/-
  DERIVED. GIVEN WITH THE SEED: THE CARDS: each row of YtbnnhmcloecijaaGreatDoorRows.lean that lists a variable, with what it lists TIED to the program's text (the seventh form; the later family's looks); each row that meets fmt, with fmt's text TOLD by the authors' own Lean function (tested against real Go, not proved from fmt's source: count such statements apart). THE CARD IS WHAT COUNTS. Prove the row's statement (the work); the ties are given (YtbnnhmcloecijaaGreatDoorTie.lean); close each card by the builder's one call (the guide's Derived/Test/ToyasCard.lean, 'card_holds'). Laid BY PROGRAM, IN A SANDBOX (cutbox-door.mjs). By AI agents, Wed Nov 11 2026. No macro, syntax, notation, axiom, sorry.
-/
import Derived.Test.YtbnnhmcloecijaaGreatDoorRows
import GoSem.ClaimSeven
namespace Go.Proofs.YtbnnhmcloecijaaGreatDoor
namespace Rows

/-- THE TIED CARD OF 'turnerylaw5.SpanSays'. -/
def spanSaysCard : Claim7 := { stood := { row := spanSaysRow, standIns := [], harness := (true, "75edf606eb7c9194b7d2c94855a00494f9fb89c24fa652d58b7aff6a472fdec1"), looks := false }, kinds := [], alts := [], laidByText := true, laidKinds := [.data, .data], laidTests := true, laidLooks := .later }
def SpanSaysCardSaid : Prop := Claim7.holds Tryz.pinned (.plain (OpenSpec.ofChange spanSaysSpec)) spanSaysCard

/-- THE TIED CARD OF 'turnerylaw5.SpanSure'. -/
def spanSureCard : Claim7 := { stood := { row := spanSureRow, standIns := [], harness := (true, "75edf606eb7c9194b7d2c94855a00494f9fb89c24fa652d58b7aff6a472fdec1"), looks := false }, kinds := [], alts := [], laidByText := true, laidKinds := [.data, .data], laidTests := true, laidLooks := .later }
def SpanSureCardSaid : Prop := Claim7.holds Tryz.pinned (.plain (OpenSpec.ofChange spanSureSpec)) spanSureCard

/-- THE TIED CARD OF 'turnerylaw5.SpanSsa'. -/
def spanSsaCard : Claim7 := { stood := { row := spanSsaRow, standIns := [], harness := (true, "75edf606eb7c9194b7d2c94855a00494f9fb89c24fa652d58b7aff6a472fdec1"), looks := false }, kinds := [], alts := [], laidByText := true, laidKinds := [.data, .data], laidTests := true, laidLooks := .later }
def SpanSsaCardSaid : Prop := Claim7.holds Tryz.pinned (.plain (OpenSpec.ofChange spanSsaSpec)) spanSsaCard

/-- THE TIED CARD OF 'turnerylaw5.SpanMean'. -/
def spanMeanCard : Claim7 := { stood := { row := spanMeanRow, standIns := [], harness := (true, "75edf606eb7c9194b7d2c94855a00494f9fb89c24fa652d58b7aff6a472fdec1"), looks := false }, kinds := [], alts := [], laidByText := true, laidKinds := [.data, .data], laidTests := true, laidLooks := .later }
def SpanMeanCardSaid : Prop := Claim7.holds Tryz.pinned (.plain (OpenSpec.ofChange spanMeanSpec)) spanMeanCard

/-- THE SECOND FORM's CARD OF 'turnerylaw5.SpanSays'. -/
def spanSaysUptoCard : Claim7 := { stood := { row := spanSaysUptoRow, standIns := [], harness := (true, "75edf606eb7c9194b7d2c94855a00494f9fb89c24fa652d58b7aff6a472fdec1"), looks := false }, kinds := [], alts := [], laidByText := true, laidKinds := [.data, .data], laidTests := true, laidLooks := .later }
def SpanSaysUptoCardSaid : Prop := Claim7.holds Tryz.pinned (.plain (OpenSpec.upto spanSaysSpec)) spanSaysUptoCard

/-- THE SECOND FORM's CARD OF 'turnerylaw5.SpanSure'. -/
def spanSureUptoCard : Claim7 := { stood := { row := spanSureUptoRow, standIns := [], harness := (true, "75edf606eb7c9194b7d2c94855a00494f9fb89c24fa652d58b7aff6a472fdec1"), looks := false }, kinds := [], alts := [], laidByText := true, laidKinds := [.data, .data], laidTests := true, laidLooks := .later }
def SpanSureUptoCardSaid : Prop := Claim7.holds Tryz.pinned (.plain (OpenSpec.upto spanSureSpec)) spanSureUptoCard

/-- THE SECOND FORM's CARD OF 'turnerylaw5.SpanSsa'. -/
def spanSsaUptoCard : Claim7 := { stood := { row := spanSsaUptoRow, standIns := [], harness := (true, "75edf606eb7c9194b7d2c94855a00494f9fb89c24fa652d58b7aff6a472fdec1"), looks := false }, kinds := [], alts := [], laidByText := true, laidKinds := [.data, .data], laidTests := true, laidLooks := .later }
def SpanSsaUptoCardSaid : Prop := Claim7.holds Tryz.pinned (.plain (OpenSpec.upto spanSsaSpec)) spanSsaUptoCard

/-- THE SECOND FORM's CARD OF 'turnerylaw5.SpanMean'. -/
def spanMeanUptoCard : Claim7 := { stood := { row := spanMeanUptoRow, standIns := [], harness := (true, "75edf606eb7c9194b7d2c94855a00494f9fb89c24fa652d58b7aff6a472fdec1"), looks := false }, kinds := [], alts := [], laidByText := true, laidKinds := [.data, .data], laidTests := true, laidLooks := .later }
def SpanMeanUptoCardSaid : Prop := Claim7.holds Tryz.pinned (.plain (OpenSpec.upto spanMeanSpec)) spanMeanUptoCard
end Rows
end Go.Proofs.YtbnnhmcloecijaaGreatDoor
