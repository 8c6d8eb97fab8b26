/-
  NARROWER THAN 'FOR EVERY INPUT', by the rows' own cells (each row's printed sentence says how): SpanSays: laid · SpanSure: laid · SpanSsa: laid · SpanMean: laid.
  DERIVED. THE GIVEN ROWS OF THIS SEAT. 4 by the template 'for every input the law returns true; each argument reads behind the call as it read before'; 0 by the template 'total and deterministic' (their statements: YtbnnhmcloecijaaGreatDoorTotals.lean).
  GIVEN WITH THE SEED: the statements are not yours to turn. If you find one false, say at which input.
  Laid BY PROGRAM, IN A SANDBOX (cutbox-rows.mjs): the forced cells as the released guide's own fill.sh prints them over the translation ca30164b537159f1… (all of the seat's roots in one cut). By AI agents, Wed Nov 11 2026. No macro, syntax, notation, axiom, sorry.
-/
import Derived.Test.YtbnnhmcloecijaaGreatDoorChecked
import GoSem.Claim
import GoSem.ClaimJoined
import GoSem.ClaimMapViews
import Derived.JoinedTies
import Derived.KernelRfl
namespace Go.Proofs.YtbnnhmcloecijaaGreatDoor
/- THE CELL 'sum', in the pinned program and in every row, IS THE sha256 OF THE DUMP (.gsa) THAT YtbnnhmcloecijaaGreatDoorProg.lean LOADS. Nothing in Lean hashes anything: it is a label: what it is worth is what the hold of that sum in a sandbox is worth. -/
noncomputable def Tryz.pinned : Pinned := { name := "ytbnnhmcloecijaagreatdoor", sum := "ca30164b537159f1394de6a2f59b40ad2180f8fda9c4de0b64933e5eb2717a58", checked := Tryz.checked }
namespace Rows
def none {H : Type} : Left H := { results := [], args := [] }

/- WHAT THE LISTED PACKAGE-LEVEL VARIABLES READ AS WHEN THE CALL BEGINS. Each datum BY PROGRAM (the guide's laid-datum.mjs) off the statement by which the dump's own 'gosem.cut.vars' lays the variable. In a bare row this is a premise. The card (YtbnnhmcloecijaaGreatDoorCards.lean) ties it to the program's text. -/
def laid_turnery_code_ways {H : Type} : DataW H := .agg [.lit (.int .i64 0), .lit (.int .i64 0), .lit (.int .i64 1), .lit (.int .i64 2)]
def laid_turnery_span_all {H : Type} : DataW H := .agg [.lit (.int .i64 (-9223372036854775808)), .lit (.int .i64 9223372036854775807), .lit (.bool true)]

/-- 'turnerylaw5.SpanSays': WHATEVER THE INPUT: true; the input reads as it did. -/
def spanSaysSpec : ChangeSpec := { name := "spanSays", fn := fun _ => fun
  | [d] => { results := [.lit (.bool true)], args := [d] }
  | _ => none }
def spanSaysRow : OpenClaim := { program := "ytbnnhmcloecijaagreatdoor", sum := "ca30164b537159f1394de6a2f59b40ad2180f8fda9c4de0b64933e5eb2717a58", func := "turnery/turnerylaw5.SpanSays", spec := "spanSays", inPlace := ["slices.overlaps[turnery/api.Val]"], unfollowed := true, recurses := true, named := ["turnery/code.ways", "turnery/span.all"], apart := false, laid := [("turnery/code.ways", laid_turnery_code_ways), ("turnery/span.all", laid_turnery_span_all)] }
def SpanSaysSaid : Prop := spanSaysRow.holds Tryz.pinned (OpenSpec.ofChange spanSaysSpec)

/-- ITS FALSE NEIGHBOUR: 'it returns false'. Refute it at one input. -/
def spanSaysWrong : ChangeSpec := { name := "spanSays", fn := fun _ => fun
  | [d] => { results := [.lit (.bool false)], args := [d] }
  | _ => none }
def SpanSaysWrongFalsely : Prop := spanSaysRow.holds Tryz.pinned (OpenSpec.ofChange spanSaysWrong)

/-- 'turnerylaw5.SpanSure': WHATEVER THE INPUT: true; the input reads as it did. -/
def spanSureSpec : ChangeSpec := { name := "spanSure", fn := fun _ => fun
  | [d] => { results := [.lit (.bool true)], args := [d] }
  | _ => none }
def spanSureRow : OpenClaim := { program := "ytbnnhmcloecijaagreatdoor", sum := "ca30164b537159f1394de6a2f59b40ad2180f8fda9c4de0b64933e5eb2717a58", func := "turnery/turnerylaw5.SpanSure", spec := "spanSure", inPlace := ["slices.overlaps[turnery/api.Val]"], unfollowed := true, recurses := true, named := ["turnery/code.ways", "turnery/span.all"], apart := false, laid := [("turnery/code.ways", laid_turnery_code_ways), ("turnery/span.all", laid_turnery_span_all)] }
def SpanSureSaid : Prop := spanSureRow.holds Tryz.pinned (OpenSpec.ofChange spanSureSpec)

/-- ITS FALSE NEIGHBOUR: 'it returns false'. Refute it at one input. -/
def spanSureWrong : ChangeSpec := { name := "spanSure", fn := fun _ => fun
  | [d] => { results := [.lit (.bool false)], args := [d] }
  | _ => none }
def SpanSureWrongFalsely : Prop := spanSureRow.holds Tryz.pinned (OpenSpec.ofChange spanSureWrong)

/-- 'turnerylaw5.SpanSsa': WHATEVER THE INPUT: true; the input reads as it did. -/
def spanSsaSpec : ChangeSpec := { name := "spanSsa", fn := fun _ => fun
  | [d] => { results := [.lit (.bool true)], args := [d] }
  | _ => none }
def spanSsaRow : OpenClaim := { program := "ytbnnhmcloecijaagreatdoor", sum := "ca30164b537159f1394de6a2f59b40ad2180f8fda9c4de0b64933e5eb2717a58", func := "turnery/turnerylaw5.SpanSsa", spec := "spanSsa", inPlace := ["slices.overlaps[turnery/api.Val]"], unfollowed := true, recurses := true, named := ["turnery/code.ways", "turnery/span.all"], apart := false, laid := [("turnery/code.ways", laid_turnery_code_ways), ("turnery/span.all", laid_turnery_span_all)] }
def SpanSsaSaid : Prop := spanSsaRow.holds Tryz.pinned (OpenSpec.ofChange spanSsaSpec)

/-- ITS FALSE NEIGHBOUR: 'it returns false'. Refute it at one input. -/
def spanSsaWrong : ChangeSpec := { name := "spanSsa", fn := fun _ => fun
  | [d] => { results := [.lit (.bool false)], args := [d] }
  | _ => none }
def SpanSsaWrongFalsely : Prop := spanSsaRow.holds Tryz.pinned (OpenSpec.ofChange spanSsaWrong)

/-- 'turnerylaw5.SpanMean': WHATEVER THE INPUT: true; the input reads as it did. -/
def spanMeanSpec : ChangeSpec := { name := "spanMean", fn := fun _ => fun
  | [d1, d2, d3] => { results := [.lit (.bool true)], args := [d1, d2, d3] }
  | _ => none }
def spanMeanRow : OpenClaim := { program := "ytbnnhmcloecijaagreatdoor", sum := "ca30164b537159f1394de6a2f59b40ad2180f8fda9c4de0b64933e5eb2717a58", func := "turnery/turnerylaw5.SpanMean", spec := "spanMean", inPlace := ["slices.overlaps[turnery/api.Val]"], unfollowed := true, recurses := true, named := ["turnery/code.ways", "turnery/span.all"], apart := false, laid := [("turnery/code.ways", laid_turnery_code_ways), ("turnery/span.all", laid_turnery_span_all)] }
def SpanMeanSaid : Prop := spanMeanRow.holds Tryz.pinned (OpenSpec.ofChange spanMeanSpec)

/-- ITS FALSE NEIGHBOUR: 'it returns false'. Refute it at one input. -/
def spanMeanWrong : ChangeSpec := { name := "spanMean", fn := fun _ => fun
  | [d1, d2, d3] => { results := [.lit (.bool false)], args := [d1, d2, d3] }
  | _ => none }
def SpanMeanWrongFalsely : Prop := spanMeanRow.holds Tryz.pinned (OpenSpec.ofChange spanMeanWrong)

/- THE SECOND FORM. 'bulk': how many values and letters a reading holds, each counted each time it is reached (what is shared counts as often as it is met; a slice's spare places count too). A statement '..UptoSaid' is the law's where the arguments, and the package variables that the reading takes, are together of bulk at most 1048576: NARROWER than '..Said'. Prove '..Said' where nothing that the law and all that it calls make is longer than what came in: it says more and counts as full. Else prove '..UptoSaid'. A law counts once. -/
mutual
def uptoBulk {H : Type} : DataW H → Nat
  | .lit (.string bytes) => bytes.length + 1
  | .lit _ => 1
  | .nil => 1
  | .ptr d => uptoBulk d + 1
  | .slice elems spare => uptoBulkAll elems + uptoBulkAll spare + 1
  | .agg parts => uptoBulkAll parts + 1
  | .iface _ d => uptoBulk d + 1
  | .map entries => uptoBulkEntries entries + 1
  | .held _ => 1
def uptoBulkAll {H : Type} : List (DataW H) → Nat
  | [] => 0
  | d :: r => uptoBulk d + uptoBulkAll r
def uptoBulkEntries {H : Type} : List (Lit × DataW H) → Nat
  | [] => 0
  | x :: r => uptoBulkEntry x + uptoBulkEntries r
def uptoBulkEntry {H : Type} : Lit × DataW H → Nat
  | (.string bytes, d) => bytes.length + uptoBulk d + 1
  | (_, d) => uptoBulk d + 1
 end
def uptoSmall : (H : Type) → List (DataW H) → Bool := fun _ ds => decide (uptoBulkAll ds ≤ 1048576)
def OpenSpec.upto (s : _root_.Go.ChangeSpec) : _root_.Go.OpenSpec := { _root_.Go.OpenSpec.ofChange s with cond := some uptoSmall }

/-- 'turnerylaw5.SpanSays', WHERE WHAT IT READS IS OF BULK AT MOST 1048576: true; the input reads as it did. -/
def spanSaysUptoRow : OpenClaim := { program := "ytbnnhmcloecijaagreatdoor", sum := "ca30164b537159f1394de6a2f59b40ad2180f8fda9c4de0b64933e5eb2717a58", func := "turnery/turnerylaw5.SpanSays", spec := "spanSays", inPlace := ["slices.overlaps[turnery/api.Val]"], unfollowed := true, recurses := true, named := ["turnery/code.ways", "turnery/span.all"], apart := false, laid := [("turnery/code.ways", laid_turnery_code_ways), ("turnery/span.all", laid_turnery_span_all)], narrowed := true }
def SpanSaysUptoSaid : Prop := spanSaysUptoRow.holds Tryz.pinned (OpenSpec.upto spanSaysSpec)

/-- 'turnerylaw5.SpanSure', WHERE WHAT IT READS IS OF BULK AT MOST 1048576: true; the input reads as it did. -/
def spanSureUptoRow : OpenClaim := { program := "ytbnnhmcloecijaagreatdoor", sum := "ca30164b537159f1394de6a2f59b40ad2180f8fda9c4de0b64933e5eb2717a58", func := "turnery/turnerylaw5.SpanSure", spec := "spanSure", inPlace := ["slices.overlaps[turnery/api.Val]"], unfollowed := true, recurses := true, named := ["turnery/code.ways", "turnery/span.all"], apart := false, laid := [("turnery/code.ways", laid_turnery_code_ways), ("turnery/span.all", laid_turnery_span_all)], narrowed := true }
def SpanSureUptoSaid : Prop := spanSureUptoRow.holds Tryz.pinned (OpenSpec.upto spanSureSpec)

/-- 'turnerylaw5.SpanSsa', WHERE WHAT IT READS IS OF BULK AT MOST 1048576: true; the input reads as it did. -/
def spanSsaUptoRow : OpenClaim := { program := "ytbnnhmcloecijaagreatdoor", sum := "ca30164b537159f1394de6a2f59b40ad2180f8fda9c4de0b64933e5eb2717a58", func := "turnery/turnerylaw5.SpanSsa", spec := "spanSsa", inPlace := ["slices.overlaps[turnery/api.Val]"], unfollowed := true, recurses := true, named := ["turnery/code.ways", "turnery/span.all"], apart := false, laid := [("turnery/code.ways", laid_turnery_code_ways), ("turnery/span.all", laid_turnery_span_all)], narrowed := true }
def SpanSsaUptoSaid : Prop := spanSsaUptoRow.holds Tryz.pinned (OpenSpec.upto spanSsaSpec)

/-- 'turnerylaw5.SpanMean', WHERE WHAT IT READS IS OF BULK AT MOST 1048576: true; the input reads as it did. -/
def spanMeanUptoRow : OpenClaim := { program := "ytbnnhmcloecijaagreatdoor", sum := "ca30164b537159f1394de6a2f59b40ad2180f8fda9c4de0b64933e5eb2717a58", func := "turnery/turnerylaw5.SpanMean", spec := "spanMean", inPlace := ["slices.overlaps[turnery/api.Val]"], unfollowed := true, recurses := true, named := ["turnery/code.ways", "turnery/span.all"], apart := false, laid := [("turnery/code.ways", laid_turnery_code_ways), ("turnery/span.all", laid_turnery_span_all)], narrowed := true }
def SpanMeanUptoSaid : Prop := spanMeanUptoRow.holds Tryz.pinned (OpenSpec.upto spanMeanSpec)

end Rows
end Go.Proofs.YtbnnhmcloecijaaGreatDoor
