/-
  NARROWER THAN 'FOR EVERY INPUT', by the rows' own cells (each row's printed sentence says how): PureEndsSays: laid · SimpleOneMean: laid · CallsGraphSays: laid · CallsRound: laid · CallsRingsSays: laid · CallsAhead: laid · SpanOfSays: laid · SpanParams: laid · CallsDoSays: laid · CallsRest: laid.
  DERIVED. THE GIVEN ROWS OF THIS SEAT. 10 by the template 'for every input the law returns true; each argument reads behind the call as it read before'; 0 by the template 'total and deterministic' (their statements: YteckkdmgkikeaaaDoorTotals.lean).
  GIVEN WITH THE SEED: the statements are not yours to turn. If you find one false, say at which input.
  Laid BY PROGRAM, IN A SANDBOX (cutbox-rows.mjs): the forced cells as the released guide's own fill.sh prints them over the translation 13fc8ee03644465b… (all of the seat's roots in one cut). By AI agents, Wed Nov 11 2026. No macro, syntax, notation, axiom, sorry.
-/
import Derived.Test.YteckkdmgkikeaaaDoorChecked
import GoSem.Claim
import GoSem.ClaimJoined
import GoSem.ClaimMapViews
import Derived.JoinedTies
import Derived.KernelRfl
namespace Go.Proofs.YteckkdmgkikeaaaDoor
/- THE CELL 'sum', in the pinned program and in every row, IS THE sha256 OF THE DUMP (.gsa) THAT YteckkdmgkikeaaaDoorProg.lean LOADS. Nothing in Lean hashes anything: it is a label: what it is worth is what the hold of that sum in a sandbox is worth. -/
noncomputable def Tryd.pinned : Pinned := { name := "yteckkdmgkikeaaadoor", sum := "13fc8ee03644465bc3909402ce955d8d75694a8ddb6d6a52c153c84f8cb0cfba", checked := Tryd.checked }
namespace Rows
def none {H : Type} : Left H := { results := [], args := [] }

/- WHAT THE LISTED PACKAGE-LEVEL VARIABLES READ AS WHEN THE CALL BEGINS. Each datum BY PROGRAM (the guide's laid-datum.mjs) off the statement by which the dump's own 'gosem.cut.vars' lays the variable. In a bare row this is a premise. The card (YteckkdmgkikeaaaDoorCards.lean) ties it to the program's text. -/
def laid_turnery_code_ways {H : Type} : DataW H := .agg [.lit (.int .i64 0), .lit (.int .i64 0), .lit (.int .i64 1), .lit (.int .i64 2)]
def laid_turnery_span_all {H : Type} : DataW H := .agg [.lit (.int .i64 (-9223372036854775808)), .lit (.int .i64 9223372036854775807), .lit (.bool true)]

/-- 'turnerylaw5.PureEndsSays': WHATEVER THE INPUT: true; the input reads as it did. -/
def pureEndsSaysSpec : ChangeSpec := { name := "pureEndsSays", fn := fun _ => fun
  | [d1, d2, d3, d4] => { results := [.lit (.bool true)], args := [d1, d2, d3, d4] }
  | _ => none }
def pureEndsSaysRow : OpenClaim := { program := "yteckkdmgkikeaaadoor", sum := "13fc8ee03644465bc3909402ce955d8d75694a8ddb6d6a52c153c84f8cb0cfba", func := "turnery/turnerylaw5.PureEndsSays", spec := "pureEndsSays", unfollowed := true, recurses := true, named := ["turnery/code.ways"], apart := false, laid := [("turnery/code.ways", laid_turnery_code_ways)] }
def PureEndsSaysSaid : Prop := pureEndsSaysRow.holds Tryd.pinned (OpenSpec.ofChange pureEndsSaysSpec)

/-- ITS FALSE NEIGHBOUR: 'it returns false'. Refute it at one input. -/
def pureEndsSaysWrong : ChangeSpec := { name := "pureEndsSays", fn := fun _ => fun
  | [d1, d2, d3, d4] => { results := [.lit (.bool false)], args := [d1, d2, d3, d4] }
  | _ => none }
def PureEndsSaysWrongFalsely : Prop := pureEndsSaysRow.holds Tryd.pinned (OpenSpec.ofChange pureEndsSaysWrong)

/-- 'turnerylaw5.SimpleOneMean': WHATEVER THE INPUT: true; the input reads as it did. -/
def simpleOneMeanSpec : ChangeSpec := { name := "simpleOneMean", fn := fun _ => fun
  | [d1, d2, d3] => { results := [.lit (.bool true)], args := [d1, d2, d3] }
  | _ => none }
def simpleOneMeanRow : OpenClaim := { program := "yteckkdmgkikeaaadoor", sum := "13fc8ee03644465bc3909402ce955d8d75694a8ddb6d6a52c153c84f8cb0cfba", func := "turnery/turnerylaw5.SimpleOneMean", spec := "simpleOneMean", unfollowed := true, recurses := true, named := ["turnery/code.ways"], apart := false, laid := [("turnery/code.ways", laid_turnery_code_ways)] }
def SimpleOneMeanSaid : Prop := simpleOneMeanRow.holds Tryd.pinned (OpenSpec.ofChange simpleOneMeanSpec)

/-- ITS FALSE NEIGHBOUR: 'it returns false'. Refute it at one input. -/
def simpleOneMeanWrong : ChangeSpec := { name := "simpleOneMean", fn := fun _ => fun
  | [d1, d2, d3] => { results := [.lit (.bool false)], args := [d1, d2, d3] }
  | _ => none }
def SimpleOneMeanWrongFalsely : Prop := simpleOneMeanRow.holds Tryd.pinned (OpenSpec.ofChange simpleOneMeanWrong)

/-- 'turnerylaw5.CallsGraphSays': WHATEVER THE INPUT: true; the input reads as it did. -/
def callsGraphSaysSpec : ChangeSpec := { name := "callsGraphSays", fn := fun _ => fun
  | [d] => { results := [.lit (.bool true)], args := [d] }
  | _ => none }
def callsGraphSaysRow : OpenClaim := { program := "yteckkdmgkikeaaadoor", sum := "13fc8ee03644465bc3909402ce955d8d75694a8ddb6d6a52c153c84f8cb0cfba", func := "turnery/turnerylaw5.CallsGraphSays", spec := "callsGraphSays", unfollowed := true, recurses := true, named := ["turnery/code.ways"], apart := false, laid := [("turnery/code.ways", laid_turnery_code_ways)] }
def CallsGraphSaysSaid : Prop := callsGraphSaysRow.holds Tryd.pinned (OpenSpec.ofChange callsGraphSaysSpec)

/-- ITS FALSE NEIGHBOUR: 'it returns false'. Refute it at one input. -/
def callsGraphSaysWrong : ChangeSpec := { name := "callsGraphSays", fn := fun _ => fun
  | [d] => { results := [.lit (.bool false)], args := [d] }
  | _ => none }
def CallsGraphSaysWrongFalsely : Prop := callsGraphSaysRow.holds Tryd.pinned (OpenSpec.ofChange callsGraphSaysWrong)

/-- 'turnerylaw5.CallsRound': WHATEVER THE INPUT: true; the input reads as it did. -/
def callsRoundSpec : ChangeSpec := { name := "callsRound", fn := fun _ => fun
  | [d1, d2, d3] => { results := [.lit (.bool true)], args := [d1, d2, d3] }
  | _ => none }
def callsRoundRow : OpenClaim := { program := "yteckkdmgkikeaaadoor", sum := "13fc8ee03644465bc3909402ce955d8d75694a8ddb6d6a52c153c84f8cb0cfba", func := "turnery/turnerylaw5.CallsRound", spec := "callsRound", unfollowed := true, recurses := true, named := ["turnery/code.ways"], apart := false, laid := [("turnery/code.ways", laid_turnery_code_ways)] }
def CallsRoundSaid : Prop := callsRoundRow.holds Tryd.pinned (OpenSpec.ofChange callsRoundSpec)

/-- ITS FALSE NEIGHBOUR: 'it returns false'. Refute it at one input. -/
def callsRoundWrong : ChangeSpec := { name := "callsRound", fn := fun _ => fun
  | [d1, d2, d3] => { results := [.lit (.bool false)], args := [d1, d2, d3] }
  | _ => none }
def CallsRoundWrongFalsely : Prop := callsRoundRow.holds Tryd.pinned (OpenSpec.ofChange callsRoundWrong)

/-- 'turnerylaw5.CallsRingsSays': WHATEVER THE INPUT: true; the input reads as it did. -/
def callsRingsSaysSpec : ChangeSpec := { name := "callsRingsSays", fn := fun _ => fun
  | [d] => { results := [.lit (.bool true)], args := [d] }
  | _ => none }
def callsRingsSaysRow : OpenClaim := { program := "yteckkdmgkikeaaadoor", sum := "13fc8ee03644465bc3909402ce955d8d75694a8ddb6d6a52c153c84f8cb0cfba", func := "turnery/turnerylaw5.CallsRingsSays", spec := "callsRingsSays", unfollowed := true, recurses := true, named := ["turnery/code.ways"], apart := false, laid := [("turnery/code.ways", laid_turnery_code_ways)] }
def CallsRingsSaysSaid : Prop := callsRingsSaysRow.holds Tryd.pinned (OpenSpec.ofChange callsRingsSaysSpec)

/-- ITS FALSE NEIGHBOUR: 'it returns false'. Refute it at one input. -/
def callsRingsSaysWrong : ChangeSpec := { name := "callsRingsSays", fn := fun _ => fun
  | [d] => { results := [.lit (.bool false)], args := [d] }
  | _ => none }
def CallsRingsSaysWrongFalsely : Prop := callsRingsSaysRow.holds Tryd.pinned (OpenSpec.ofChange callsRingsSaysWrong)

/-- 'turnerylaw5.CallsAhead': WHATEVER THE INPUT: true; the input reads as it did. -/
def callsAheadSpec : ChangeSpec := { name := "callsAhead", fn := fun _ => fun
  | [d] => { results := [.lit (.bool true)], args := [d] }
  | _ => none }
def callsAheadRow : OpenClaim := { program := "yteckkdmgkikeaaadoor", sum := "13fc8ee03644465bc3909402ce955d8d75694a8ddb6d6a52c153c84f8cb0cfba", func := "turnery/turnerylaw5.CallsAhead", spec := "callsAhead", unfollowed := true, recurses := true, named := ["turnery/code.ways"], apart := false, laid := [("turnery/code.ways", laid_turnery_code_ways)] }
def CallsAheadSaid : Prop := callsAheadRow.holds Tryd.pinned (OpenSpec.ofChange callsAheadSpec)

/-- ITS FALSE NEIGHBOUR: 'it returns false'. Refute it at one input. -/
def callsAheadWrong : ChangeSpec := { name := "callsAhead", fn := fun _ => fun
  | [d] => { results := [.lit (.bool false)], args := [d] }
  | _ => none }
def CallsAheadWrongFalsely : Prop := callsAheadRow.holds Tryd.pinned (OpenSpec.ofChange callsAheadWrong)

/-- 'turnerylaw5.SpanOfSays': WHATEVER THE INPUT: true; the input reads as it did. -/
def spanOfSaysSpec : ChangeSpec := { name := "spanOfSays", fn := fun _ => fun
  | [d1, d2] => { results := [.lit (.bool true)], args := [d1, d2] }
  | _ => none }
def spanOfSaysRow : OpenClaim := { program := "yteckkdmgkikeaaadoor", sum := "13fc8ee03644465bc3909402ce955d8d75694a8ddb6d6a52c153c84f8cb0cfba", func := "turnery/turnerylaw5.SpanOfSays", spec := "spanOfSays", unfollowed := true, recurses := true, named := ["turnery/code.ways", "turnery/span.all"], apart := false, laid := [("turnery/code.ways", laid_turnery_code_ways), ("turnery/span.all", laid_turnery_span_all)] }
def SpanOfSaysSaid : Prop := spanOfSaysRow.holds Tryd.pinned (OpenSpec.ofChange spanOfSaysSpec)

/-- ITS FALSE NEIGHBOUR: 'it returns false'. Refute it at one input. -/
def spanOfSaysWrong : ChangeSpec := { name := "spanOfSays", fn := fun _ => fun
  | [d1, d2] => { results := [.lit (.bool false)], args := [d1, d2] }
  | _ => none }
def SpanOfSaysWrongFalsely : Prop := spanOfSaysRow.holds Tryd.pinned (OpenSpec.ofChange spanOfSaysWrong)

/-- 'turnerylaw5.SpanParams': WHATEVER THE INPUT: true; the input reads as it did. -/
def spanParamsSpec : ChangeSpec := { name := "spanParams", fn := fun _ => fun
  | [d1, d2] => { results := [.lit (.bool true)], args := [d1, d2] }
  | _ => none }
def spanParamsRow : OpenClaim := { program := "yteckkdmgkikeaaadoor", sum := "13fc8ee03644465bc3909402ce955d8d75694a8ddb6d6a52c153c84f8cb0cfba", func := "turnery/turnerylaw5.SpanParams", spec := "spanParams", unfollowed := true, recurses := true, named := ["turnery/code.ways", "turnery/span.all"], apart := false, laid := [("turnery/code.ways", laid_turnery_code_ways), ("turnery/span.all", laid_turnery_span_all)] }
def SpanParamsSaid : Prop := spanParamsRow.holds Tryd.pinned (OpenSpec.ofChange spanParamsSpec)

/-- ITS FALSE NEIGHBOUR: 'it returns false'. Refute it at one input. -/
def spanParamsWrong : ChangeSpec := { name := "spanParams", fn := fun _ => fun
  | [d1, d2] => { results := [.lit (.bool false)], args := [d1, d2] }
  | _ => none }
def SpanParamsWrongFalsely : Prop := spanParamsRow.holds Tryd.pinned (OpenSpec.ofChange spanParamsWrong)

/-- 'turnerylaw5.CallsDoSays': WHATEVER THE INPUT: true; the input reads as it did. -/
def callsDoSaysSpec : ChangeSpec := { name := "callsDoSays", fn := fun _ => fun
  | [d] => { results := [.lit (.bool true)], args := [d] }
  | _ => none }
def callsDoSaysRow : OpenClaim := { program := "yteckkdmgkikeaaadoor", sum := "13fc8ee03644465bc3909402ce955d8d75694a8ddb6d6a52c153c84f8cb0cfba", func := "turnery/turnerylaw5.CallsDoSays", spec := "callsDoSays", unfollowed := true, recurses := true, named := ["turnery/code.ways"], apart := false, laid := [("turnery/code.ways", laid_turnery_code_ways)] }
def CallsDoSaysSaid : Prop := callsDoSaysRow.holds Tryd.pinned (OpenSpec.ofChange callsDoSaysSpec)

/-- ITS FALSE NEIGHBOUR: 'it returns false'. Refute it at one input. -/
def callsDoSaysWrong : ChangeSpec := { name := "callsDoSays", fn := fun _ => fun
  | [d] => { results := [.lit (.bool false)], args := [d] }
  | _ => none }
def CallsDoSaysWrongFalsely : Prop := callsDoSaysRow.holds Tryd.pinned (OpenSpec.ofChange callsDoSaysWrong)

/-- 'turnerylaw5.CallsRest': WHATEVER THE INPUT: true; the input reads as it did. -/
def callsRestSpec : ChangeSpec := { name := "callsRest", fn := fun _ => fun
  | [d] => { results := [.lit (.bool true)], args := [d] }
  | _ => none }
def callsRestRow : OpenClaim := { program := "yteckkdmgkikeaaadoor", sum := "13fc8ee03644465bc3909402ce955d8d75694a8ddb6d6a52c153c84f8cb0cfba", func := "turnery/turnerylaw5.CallsRest", spec := "callsRest", unfollowed := true, recurses := true, named := ["turnery/code.ways"], apart := false, laid := [("turnery/code.ways", laid_turnery_code_ways)] }
def CallsRestSaid : Prop := callsRestRow.holds Tryd.pinned (OpenSpec.ofChange callsRestSpec)

/-- ITS FALSE NEIGHBOUR: 'it returns false'. Refute it at one input. -/
def callsRestWrong : ChangeSpec := { name := "callsRest", fn := fun _ => fun
  | [d] => { results := [.lit (.bool false)], args := [d] }
  | _ => none }
def CallsRestWrongFalsely : Prop := callsRestRow.holds Tryd.pinned (OpenSpec.ofChange callsRestWrong)

/- THE SECOND FORM. 'bulk': how many values and letters a reading holds, each counted each time it is reached (what is shared counts as often as it is met; a slice's spare places count too). A statement '..UptoSaid' is the law's where the arguments, and the package variables that the reading takes, are together of bulk at most 1048576: NARROWER than '..Said'. Prove '..Said' where nothing that the law and all that it calls make is longer than what came in: it says more and counts as full. Else prove '..UptoSaid'. A law counts once. -/
mutual
def uptoBulk {H : Type} : DataW H → Nat
  | .lit (.string bytes) => bytes.length + 1
  | .lit _ => 1
  | .nil => 1
  | .ptr d => uptoBulk d + 1
  | .slice elems spare => uptoBulkAll elems + uptoBulkAll spare + 1
  | .agg parts => uptoBulkAll parts + 1
  | .iface _ d => uptoBulk d + 1
  | .map entries => uptoBulkEntries entries + 1
  | .held _ => 1
def uptoBulkAll {H : Type} : List (DataW H) → Nat
  | [] => 0
  | d :: r => uptoBulk d + uptoBulkAll r
def uptoBulkEntries {H : Type} : List (Lit × DataW H) → Nat
  | [] => 0
  | x :: r => uptoBulkEntry x + uptoBulkEntries r
def uptoBulkEntry {H : Type} : Lit × DataW H → Nat
  | (.string bytes, d) => bytes.length + uptoBulk d + 1
  | (_, d) => uptoBulk d + 1
 end
def uptoSmall : (H : Type) → List (DataW H) → Bool := fun _ ds => decide (uptoBulkAll ds ≤ 1048576)
def OpenSpec.upto (s : _root_.Go.ChangeSpec) : _root_.Go.OpenSpec := { _root_.Go.OpenSpec.ofChange s with cond := some uptoSmall }

/-- 'turnerylaw5.PureEndsSays', WHERE WHAT IT READS IS OF BULK AT MOST 1048576: true; the input reads as it did. -/
def pureEndsSaysUptoRow : OpenClaim := { program := "yteckkdmgkikeaaadoor", sum := "13fc8ee03644465bc3909402ce955d8d75694a8ddb6d6a52c153c84f8cb0cfba", func := "turnery/turnerylaw5.PureEndsSays", spec := "pureEndsSays", unfollowed := true, recurses := true, named := ["turnery/code.ways"], apart := false, laid := [("turnery/code.ways", laid_turnery_code_ways)], narrowed := true }
def PureEndsSaysUptoSaid : Prop := pureEndsSaysUptoRow.holds Tryd.pinned (OpenSpec.upto pureEndsSaysSpec)

/-- 'turnerylaw5.SimpleOneMean', WHERE WHAT IT READS IS OF BULK AT MOST 1048576: true; the input reads as it did. -/
def simpleOneMeanUptoRow : OpenClaim := { program := "yteckkdmgkikeaaadoor", sum := "13fc8ee03644465bc3909402ce955d8d75694a8ddb6d6a52c153c84f8cb0cfba", func := "turnery/turnerylaw5.SimpleOneMean", spec := "simpleOneMean", unfollowed := true, recurses := true, named := ["turnery/code.ways"], apart := false, laid := [("turnery/code.ways", laid_turnery_code_ways)], narrowed := true }
def SimpleOneMeanUptoSaid : Prop := simpleOneMeanUptoRow.holds Tryd.pinned (OpenSpec.upto simpleOneMeanSpec)

/-- 'turnerylaw5.CallsGraphSays', WHERE WHAT IT READS IS OF BULK AT MOST 1048576: true; the input reads as it did. -/
def callsGraphSaysUptoRow : OpenClaim := { program := "yteckkdmgkikeaaadoor", sum := "13fc8ee03644465bc3909402ce955d8d75694a8ddb6d6a52c153c84f8cb0cfba", func := "turnery/turnerylaw5.CallsGraphSays", spec := "callsGraphSays", unfollowed := true, recurses := true, named := ["turnery/code.ways"], apart := false, laid := [("turnery/code.ways", laid_turnery_code_ways)], narrowed := true }
def CallsGraphSaysUptoSaid : Prop := callsGraphSaysUptoRow.holds Tryd.pinned (OpenSpec.upto callsGraphSaysSpec)

/-- 'turnerylaw5.CallsRound', WHERE WHAT IT READS IS OF BULK AT MOST 1048576: true; the input reads as it did. -/
def callsRoundUptoRow : OpenClaim := { program := "yteckkdmgkikeaaadoor", sum := "13fc8ee03644465bc3909402ce955d8d75694a8ddb6d6a52c153c84f8cb0cfba", func := "turnery/turnerylaw5.CallsRound", spec := "callsRound", unfollowed := true, recurses := true, named := ["turnery/code.ways"], apart := false, laid := [("turnery/code.ways", laid_turnery_code_ways)], narrowed := true }
def CallsRoundUptoSaid : Prop := callsRoundUptoRow.holds Tryd.pinned (OpenSpec.upto callsRoundSpec)

/-- 'turnerylaw5.CallsRingsSays', WHERE WHAT IT READS IS OF BULK AT MOST 1048576: true; the input reads as it did. -/
def callsRingsSaysUptoRow : OpenClaim := { program := "yteckkdmgkikeaaadoor", sum := "13fc8ee03644465bc3909402ce955d8d75694a8ddb6d6a52c153c84f8cb0cfba", func := "turnery/turnerylaw5.CallsRingsSays", spec := "callsRingsSays", unfollowed := true, recurses := true, named := ["turnery/code.ways"], apart := false, laid := [("turnery/code.ways", laid_turnery_code_ways)], narrowed := true }
def CallsRingsSaysUptoSaid : Prop := callsRingsSaysUptoRow.holds Tryd.pinned (OpenSpec.upto callsRingsSaysSpec)

/-- 'turnerylaw5.CallsAhead', WHERE WHAT IT READS IS OF BULK AT MOST 1048576: true; the input reads as it did. -/
def callsAheadUptoRow : OpenClaim := { program := "yteckkdmgkikeaaadoor", sum := "13fc8ee03644465bc3909402ce955d8d75694a8ddb6d6a52c153c84f8cb0cfba", func := "turnery/turnerylaw5.CallsAhead", spec := "callsAhead", unfollowed := true, recurses := true, named := ["turnery/code.ways"], apart := false, laid := [("turnery/code.ways", laid_turnery_code_ways)], narrowed := true }
def CallsAheadUptoSaid : Prop := callsAheadUptoRow.holds Tryd.pinned (OpenSpec.upto callsAheadSpec)

/-- 'turnerylaw5.SpanOfSays', WHERE WHAT IT READS IS OF BULK AT MOST 1048576: true; the input reads as it did. -/
def spanOfSaysUptoRow : OpenClaim := { program := "yteckkdmgkikeaaadoor", sum := "13fc8ee03644465bc3909402ce955d8d75694a8ddb6d6a52c153c84f8cb0cfba", func := "turnery/turnerylaw5.SpanOfSays", spec := "spanOfSays", unfollowed := true, recurses := true, named := ["turnery/code.ways", "turnery/span.all"], apart := false, laid := [("turnery/code.ways", laid_turnery_code_ways), ("turnery/span.all", laid_turnery_span_all)], narrowed := true }
def SpanOfSaysUptoSaid : Prop := spanOfSaysUptoRow.holds Tryd.pinned (OpenSpec.upto spanOfSaysSpec)

/-- 'turnerylaw5.SpanParams', WHERE WHAT IT READS IS OF BULK AT MOST 1048576: true; the input reads as it did. -/
def spanParamsUptoRow : OpenClaim := { program := "yteckkdmgkikeaaadoor", sum := "13fc8ee03644465bc3909402ce955d8d75694a8ddb6d6a52c153c84f8cb0cfba", func := "turnery/turnerylaw5.SpanParams", spec := "spanParams", unfollowed := true, recurses := true, named := ["turnery/code.ways", "turnery/span.all"], apart := false, laid := [("turnery/code.ways", laid_turnery_code_ways), ("turnery/span.all", laid_turnery_span_all)], narrowed := true }
def SpanParamsUptoSaid : Prop := spanParamsUptoRow.holds Tryd.pinned (OpenSpec.upto spanParamsSpec)

/-- 'turnerylaw5.CallsDoSays', WHERE WHAT IT READS IS OF BULK AT MOST 1048576: true; the input reads as it did. -/
def callsDoSaysUptoRow : OpenClaim := { program := "yteckkdmgkikeaaadoor", sum := "13fc8ee03644465bc3909402ce955d8d75694a8ddb6d6a52c153c84f8cb0cfba", func := "turnery/turnerylaw5.CallsDoSays", spec := "callsDoSays", unfollowed := true, recurses := true, named := ["turnery/code.ways"], apart := false, laid := [("turnery/code.ways", laid_turnery_code_ways)], narrowed := true }
def CallsDoSaysUptoSaid : Prop := callsDoSaysUptoRow.holds Tryd.pinned (OpenSpec.upto callsDoSaysSpec)

/-- 'turnerylaw5.CallsRest', WHERE WHAT IT READS IS OF BULK AT MOST 1048576: true; the input reads as it did. -/
def callsRestUptoRow : OpenClaim := { program := "yteckkdmgkikeaaadoor", sum := "13fc8ee03644465bc3909402ce955d8d75694a8ddb6d6a52c153c84f8cb0cfba", func := "turnery/turnerylaw5.CallsRest", spec := "callsRest", unfollowed := true, recurses := true, named := ["turnery/code.ways"], apart := false, laid := [("turnery/code.ways", laid_turnery_code_ways)], narrowed := true }
def CallsRestUptoSaid : Prop := callsRestUptoRow.holds Tryd.pinned (OpenSpec.upto callsRestSpec)

end Rows
end Go.Proofs.YteckkdmgkikeaaaDoor
