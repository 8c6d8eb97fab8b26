/-
  NARROWER THAN 'FOR EVERY INPUT', by the rows' own cells (each row's printed sentence says how): SpanOfSays: laid · SpanParams: laid · CallsDoSays: laid · CallsRest: laid · SpanTrue: laid · CallsMean: laid.
  DERIVED. THE GIVEN ROWS OF THIS SEAT. 6 by the template 'for every input the law returns true; each argument reads behind the call as it read before'; 0 by the template 'total and deterministic' (their statements: YtdjamkinijhjoaaDoorTotals.lean).
  GIVEN WITH THE SEED: the statements are not yours to turn. If you find one false, say at which input.
  Laid BY PROGRAM, IN A SANDBOX (cutbox-rows.mjs): the forced cells as the released guide's own fill.sh prints them over the translation da85ee754182e663… (all of the seat's roots in one cut). By AI agents, Wed Nov 11 2026. No macro, syntax, notation, axiom, sorry.
-/
import Derived.Test.YtdjamkinijhjoaaDoorChecked
import GoSem.Claim
import GoSem.ClaimJoined
import GoSem.ClaimMapViews
import Derived.JoinedTies
import Derived.KernelRfl
namespace Go.Proofs.YtdjamkinijhjoaaDoor
/- THE CELL 'sum', in the pinned program and in every row, IS THE sha256 OF THE DUMP (.gsa) THAT YtdjamkinijhjoaaDoorProg.lean LOADS. Nothing in Lean hashes anything: it is a label: what it is worth is what the hold of that sum in a sandbox is worth. -/
noncomputable def Tryd.pinned : Pinned := { name := "ytdjamkinijhjoaadoor", sum := "da85ee754182e663a2c945a8ab982d3eb06ce194548bc7696f28e8805971276a", checked := Tryd.checked }
namespace Rows
def none {H : Type} : Left H := { results := [], args := [] }

/- WHAT THE LISTED PACKAGE-LEVEL VARIABLES READ AS WHEN THE CALL BEGINS. Each datum BY PROGRAM (the guide's laid-datum.mjs) off the statement by which the dump's own 'gosem.cut.vars' lays the variable. In a bare row this is a premise. The card (YtdjamkinijhjoaaDoorCards.lean) ties it to the program's text. -/
def laid_turnery_code_ways {H : Type} : DataW H := .agg [.lit (.int .i64 0), .lit (.int .i64 0), .lit (.int .i64 1), .lit (.int .i64 2)]
def laid_turnery_span_all {H : Type} : DataW H := .agg [.lit (.int .i64 (-9223372036854775808)), .lit (.int .i64 9223372036854775807), .lit (.bool true)]

/-- 'turnerylaw5.SpanOfSays': WHATEVER THE INPUT: true; the input reads as it did. -/
def spanOfSaysSpec : ChangeSpec := { name := "spanOfSays", fn := fun _ => fun
  | [d1, d2] => { results := [.lit (.bool true)], args := [d1, d2] }
  | _ => none }
def spanOfSaysRow : OpenClaim := { program := "ytdjamkinijhjoaadoor", sum := "da85ee754182e663a2c945a8ab982d3eb06ce194548bc7696f28e8805971276a", func := "turnery/turnerylaw5.SpanOfSays", spec := "spanOfSays", unfollowed := true, recurses := true, named := ["turnery/code.ways", "turnery/span.all"], apart := false, laid := [("turnery/code.ways", laid_turnery_code_ways), ("turnery/span.all", laid_turnery_span_all)] }
def SpanOfSaysSaid : Prop := spanOfSaysRow.holds Tryd.pinned (OpenSpec.ofChange spanOfSaysSpec)

/-- ITS FALSE NEIGHBOUR: 'it returns false'. Refute it at one input. -/
def spanOfSaysWrong : ChangeSpec := { name := "spanOfSays", fn := fun _ => fun
  | [d1, d2] => { results := [.lit (.bool false)], args := [d1, d2] }
  | _ => none }
def SpanOfSaysWrongFalsely : Prop := spanOfSaysRow.holds Tryd.pinned (OpenSpec.ofChange spanOfSaysWrong)

/-- 'turnerylaw5.SpanParams': WHATEVER THE INPUT: true; the input reads as it did. -/
def spanParamsSpec : ChangeSpec := { name := "spanParams", fn := fun _ => fun
  | [d1, d2] => { results := [.lit (.bool true)], args := [d1, d2] }
  | _ => none }
def spanParamsRow : OpenClaim := { program := "ytdjamkinijhjoaadoor", sum := "da85ee754182e663a2c945a8ab982d3eb06ce194548bc7696f28e8805971276a", func := "turnery/turnerylaw5.SpanParams", spec := "spanParams", unfollowed := true, recurses := true, named := ["turnery/code.ways", "turnery/span.all"], apart := false, laid := [("turnery/code.ways", laid_turnery_code_ways), ("turnery/span.all", laid_turnery_span_all)] }
def SpanParamsSaid : Prop := spanParamsRow.holds Tryd.pinned (OpenSpec.ofChange spanParamsSpec)

/-- ITS FALSE NEIGHBOUR: 'it returns false'. Refute it at one input. -/
def spanParamsWrong : ChangeSpec := { name := "spanParams", fn := fun _ => fun
  | [d1, d2] => { results := [.lit (.bool false)], args := [d1, d2] }
  | _ => none }
def SpanParamsWrongFalsely : Prop := spanParamsRow.holds Tryd.pinned (OpenSpec.ofChange spanParamsWrong)

/-- 'turnerylaw5.CallsDoSays': WHATEVER THE INPUT: true; the input reads as it did. -/
def callsDoSaysSpec : ChangeSpec := { name := "callsDoSays", fn := fun _ => fun
  | [d] => { results := [.lit (.bool true)], args := [d] }
  | _ => none }
def callsDoSaysRow : OpenClaim := { program := "ytdjamkinijhjoaadoor", sum := "da85ee754182e663a2c945a8ab982d3eb06ce194548bc7696f28e8805971276a", func := "turnery/turnerylaw5.CallsDoSays", spec := "callsDoSays", unfollowed := true, recurses := true, named := ["turnery/code.ways"], apart := false, laid := [("turnery/code.ways", laid_turnery_code_ways)] }
def CallsDoSaysSaid : Prop := callsDoSaysRow.holds Tryd.pinned (OpenSpec.ofChange callsDoSaysSpec)

/-- ITS FALSE NEIGHBOUR: 'it returns false'. Refute it at one input. -/
def callsDoSaysWrong : ChangeSpec := { name := "callsDoSays", fn := fun _ => fun
  | [d] => { results := [.lit (.bool false)], args := [d] }
  | _ => none }
def CallsDoSaysWrongFalsely : Prop := callsDoSaysRow.holds Tryd.pinned (OpenSpec.ofChange callsDoSaysWrong)

/-- 'turnerylaw5.CallsRest': WHATEVER THE INPUT: true; the input reads as it did. -/
def callsRestSpec : ChangeSpec := { name := "callsRest", fn := fun _ => fun
  | [d] => { results := [.lit (.bool true)], args := [d] }
  | _ => none }
def callsRestRow : OpenClaim := { program := "ytdjamkinijhjoaadoor", sum := "da85ee754182e663a2c945a8ab982d3eb06ce194548bc7696f28e8805971276a", func := "turnery/turnerylaw5.CallsRest", spec := "callsRest", unfollowed := true, recurses := true, named := ["turnery/code.ways"], apart := false, laid := [("turnery/code.ways", laid_turnery_code_ways)] }
def CallsRestSaid : Prop := callsRestRow.holds Tryd.pinned (OpenSpec.ofChange callsRestSpec)

/-- ITS FALSE NEIGHBOUR: 'it returns false'. Refute it at one input. -/
def callsRestWrong : ChangeSpec := { name := "callsRest", fn := fun _ => fun
  | [d] => { results := [.lit (.bool false)], args := [d] }
  | _ => none }
def CallsRestWrongFalsely : Prop := callsRestRow.holds Tryd.pinned (OpenSpec.ofChange callsRestWrong)

/-- 'turnerylaw5.SpanTrue': WHATEVER THE INPUT: true; the input reads as it did. -/
def spanTrueSpec : ChangeSpec := { name := "spanTrue", fn := fun _ => fun
  | [d1, d2, d3, d4, d5] => { results := [.lit (.bool true)], args := [d1, d2, d3, d4, d5] }
  | _ => none }
def spanTrueRow : OpenClaim := { program := "ytdjamkinijhjoaadoor", sum := "da85ee754182e663a2c945a8ab982d3eb06ce194548bc7696f28e8805971276a", func := "turnery/turnerylaw5.SpanTrue", spec := "spanTrue", unfollowed := true, recurses := true, named := ["turnery/code.ways", "turnery/span.all"], apart := false, laid := [("turnery/code.ways", laid_turnery_code_ways), ("turnery/span.all", laid_turnery_span_all)] }
def SpanTrueSaid : Prop := spanTrueRow.holds Tryd.pinned (OpenSpec.ofChange spanTrueSpec)

/-- ITS FALSE NEIGHBOUR: 'it returns false'. Refute it at one input. -/
def spanTrueWrong : ChangeSpec := { name := "spanTrue", fn := fun _ => fun
  | [d1, d2, d3, d4, d5] => { results := [.lit (.bool false)], args := [d1, d2, d3, d4, d5] }
  | _ => none }
def SpanTrueWrongFalsely : Prop := spanTrueRow.holds Tryd.pinned (OpenSpec.ofChange spanTrueWrong)

/-- 'turnerylaw5.CallsMean': WHATEVER THE INPUT: true; the input reads as it did. -/
def callsMeanSpec : ChangeSpec := { name := "callsMean", fn := fun _ => fun
  | [d1, d2, d3] => { results := [.lit (.bool true)], args := [d1, d2, d3] }
  | _ => none }
def callsMeanRow : OpenClaim := { program := "ytdjamkinijhjoaadoor", sum := "da85ee754182e663a2c945a8ab982d3eb06ce194548bc7696f28e8805971276a", func := "turnery/turnerylaw5.CallsMean", spec := "callsMean", unfollowed := true, recurses := true, named := ["turnery/code.ways"], apart := false, laid := [("turnery/code.ways", laid_turnery_code_ways)] }
def CallsMeanSaid : Prop := callsMeanRow.holds Tryd.pinned (OpenSpec.ofChange callsMeanSpec)

/-- ITS FALSE NEIGHBOUR: 'it returns false'. Refute it at one input. -/
def callsMeanWrong : ChangeSpec := { name := "callsMean", fn := fun _ => fun
  | [d1, d2, d3] => { results := [.lit (.bool false)], args := [d1, d2, d3] }
  | _ => none }
def CallsMeanWrongFalsely : Prop := callsMeanRow.holds Tryd.pinned (OpenSpec.ofChange callsMeanWrong)

/- THE SECOND FORM. 'bulk': how many values and letters a reading holds, each counted each time it is reached (what is shared counts as often as it is met; a slice's spare places count too). A statement '..UptoSaid' is the law's where the arguments, and the package variables that the reading takes, are together of bulk at most 1048576: NARROWER than '..Said'. Prove '..Said' where nothing that the law and all that it calls make is longer than what came in: it says more and counts as full. Else prove '..UptoSaid'. A law counts once. -/
mutual
def uptoBulk {H : Type} : DataW H → Nat
  | .lit (.string bytes) => bytes.length + 1
  | .lit _ => 1
  | .nil => 1
  | .ptr d => uptoBulk d + 1
  | .slice elems spare => uptoBulkAll elems + uptoBulkAll spare + 1
  | .agg parts => uptoBulkAll parts + 1
  | .iface _ d => uptoBulk d + 1
  | .map entries => uptoBulkEntries entries + 1
  | .held _ => 1
def uptoBulkAll {H : Type} : List (DataW H) → Nat
  | [] => 0
  | d :: r => uptoBulk d + uptoBulkAll r
def uptoBulkEntries {H : Type} : List (Lit × DataW H) → Nat
  | [] => 0
  | x :: r => uptoBulkEntry x + uptoBulkEntries r
def uptoBulkEntry {H : Type} : Lit × DataW H → Nat
  | (.string bytes, d) => bytes.length + uptoBulk d + 1
  | (_, d) => uptoBulk d + 1
 end
def uptoSmall : (H : Type) → List (DataW H) → Bool := fun _ ds => decide (uptoBulkAll ds ≤ 1048576)
def OpenSpec.upto (s : _root_.Go.ChangeSpec) : _root_.Go.OpenSpec := { _root_.Go.OpenSpec.ofChange s with cond := some uptoSmall }

/-- 'turnerylaw5.SpanOfSays', WHERE WHAT IT READS IS OF BULK AT MOST 1048576: true; the input reads as it did. -/
def spanOfSaysUptoRow : OpenClaim := { program := "ytdjamkinijhjoaadoor", sum := "da85ee754182e663a2c945a8ab982d3eb06ce194548bc7696f28e8805971276a", func := "turnery/turnerylaw5.SpanOfSays", spec := "spanOfSays", unfollowed := true, recurses := true, named := ["turnery/code.ways", "turnery/span.all"], apart := false, laid := [("turnery/code.ways", laid_turnery_code_ways), ("turnery/span.all", laid_turnery_span_all)], narrowed := true }
def SpanOfSaysUptoSaid : Prop := spanOfSaysUptoRow.holds Tryd.pinned (OpenSpec.upto spanOfSaysSpec)

/-- 'turnerylaw5.SpanParams', WHERE WHAT IT READS IS OF BULK AT MOST 1048576: true; the input reads as it did. -/
def spanParamsUptoRow : OpenClaim := { program := "ytdjamkinijhjoaadoor", sum := "da85ee754182e663a2c945a8ab982d3eb06ce194548bc7696f28e8805971276a", func := "turnery/turnerylaw5.SpanParams", spec := "spanParams", unfollowed := true, recurses := true, named := ["turnery/code.ways", "turnery/span.all"], apart := false, laid := [("turnery/code.ways", laid_turnery_code_ways), ("turnery/span.all", laid_turnery_span_all)], narrowed := true }
def SpanParamsUptoSaid : Prop := spanParamsUptoRow.holds Tryd.pinned (OpenSpec.upto spanParamsSpec)

/-- 'turnerylaw5.CallsDoSays', WHERE WHAT IT READS IS OF BULK AT MOST 1048576: true; the input reads as it did. -/
def callsDoSaysUptoRow : OpenClaim := { program := "ytdjamkinijhjoaadoor", sum := "da85ee754182e663a2c945a8ab982d3eb06ce194548bc7696f28e8805971276a", func := "turnery/turnerylaw5.CallsDoSays", spec := "callsDoSays", unfollowed := true, recurses := true, named := ["turnery/code.ways"], apart := false, laid := [("turnery/code.ways", laid_turnery_code_ways)], narrowed := true }
def CallsDoSaysUptoSaid : Prop := callsDoSaysUptoRow.holds Tryd.pinned (OpenSpec.upto callsDoSaysSpec)

/-- 'turnerylaw5.CallsRest', WHERE WHAT IT READS IS OF BULK AT MOST 1048576: true; the input reads as it did. -/
def callsRestUptoRow : OpenClaim := { program := "ytdjamkinijhjoaadoor", sum := "da85ee754182e663a2c945a8ab982d3eb06ce194548bc7696f28e8805971276a", func := "turnery/turnerylaw5.CallsRest", spec := "callsRest", unfollowed := true, recurses := true, named := ["turnery/code.ways"], apart := false, laid := [("turnery/code.ways", laid_turnery_code_ways)], narrowed := true }
def CallsRestUptoSaid : Prop := callsRestUptoRow.holds Tryd.pinned (OpenSpec.upto callsRestSpec)

/-- 'turnerylaw5.SpanTrue', WHERE WHAT IT READS IS OF BULK AT MOST 1048576: true; the input reads as it did. -/
def spanTrueUptoRow : OpenClaim := { program := "ytdjamkinijhjoaadoor", sum := "da85ee754182e663a2c945a8ab982d3eb06ce194548bc7696f28e8805971276a", func := "turnery/turnerylaw5.SpanTrue", spec := "spanTrue", unfollowed := true, recurses := true, named := ["turnery/code.ways", "turnery/span.all"], apart := false, laid := [("turnery/code.ways", laid_turnery_code_ways), ("turnery/span.all", laid_turnery_span_all)], narrowed := true }
def SpanTrueUptoSaid : Prop := spanTrueUptoRow.holds Tryd.pinned (OpenSpec.upto spanTrueSpec)

/-- 'turnerylaw5.CallsMean', WHERE WHAT IT READS IS OF BULK AT MOST 1048576: true; the input reads as it did. -/
def callsMeanUptoRow : OpenClaim := { program := "ytdjamkinijhjoaadoor", sum := "da85ee754182e663a2c945a8ab982d3eb06ce194548bc7696f28e8805971276a", func := "turnery/turnerylaw5.CallsMean", spec := "callsMean", unfollowed := true, recurses := true, named := ["turnery/code.ways"], apart := false, laid := [("turnery/code.ways", laid_turnery_code_ways)], narrowed := true }
def CallsMeanUptoSaid : Prop := callsMeanUptoRow.holds Tryd.pinned (OpenSpec.upto callsMeanSpec)

end Rows
end Go.Proofs.YtdjamkinijhjoaaDoor
