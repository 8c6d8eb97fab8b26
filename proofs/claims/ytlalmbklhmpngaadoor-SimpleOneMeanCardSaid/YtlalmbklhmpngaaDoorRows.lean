/-
  NARROWER THAN 'FOR EVERY INPUT', by the rows' own cells (each row's printed sentence says how): SimpleOneMean: laid · CallsDoSays: laid · CallsRest: laid · PureSays: laid · PureUp: laid · CallsNever: laid · CallsMean: laid · PureSilent: laid · PureDeaf: laid · PureSafe: laid · PureFlat: laid · PureShort: laid.
  DERIVED. THE GIVEN ROWS OF THIS SEAT. 12 by the template 'for every input the law returns true; each argument reads behind the call as it read before'; 0 by the template 'total and deterministic' (their statements: YtlalmbklhmpngaaDoorTotals.lean).
  GIVEN WITH THE SEED: the statements are not yours to turn. If you find one false, say at which input.
  Laid BY PROGRAM, IN A SANDBOX (cutbox-rows.mjs): the forced cells as the released guide's own fill.sh prints them over the translation 9dbaa4a61a2d1af5… (all of the seat's roots in one cut). By AI agents, Wed Nov 11 2026. No macro, syntax, notation, axiom, sorry.
-/
import Derived.Test.YtlalmbklhmpngaaDoorChecked
import GoSem.Claim
import GoSem.ClaimJoined
import GoSem.ClaimMapViews
import Derived.JoinedTies
import Derived.KernelRfl
namespace Go.Proofs.YtlalmbklhmpngaaDoor
/- THE CELL 'sum', in the pinned program and in every row, IS THE sha256 OF THE DUMP (.gsa) THAT YtlalmbklhmpngaaDoorProg.lean LOADS. Nothing in Lean hashes anything: it is a label: what it is worth is what the hold of that sum in a sandbox is worth. -/
noncomputable def Tryd.pinned : Pinned := { name := "ytlalmbklhmpngaadoor", sum := "9dbaa4a61a2d1af56d01f5950145565dc0da9055a8da613855e77b8efd0d1fde", checked := Tryd.checked }
namespace Rows
def none {H : Type} : Left H := { results := [], args := [] }

/- WHAT THE LISTED PACKAGE-LEVEL VARIABLES READ AS WHEN THE CALL BEGINS. Each datum BY PROGRAM (the guide's laid-datum.mjs) off the statement by which the dump's own 'gosem.cut.vars' lays the variable. In a bare row this is a premise. The card (YtlalmbklhmpngaaDoorCards.lean) ties it to the program's text. -/
def laid_turnery_code_ways {H : Type} : DataW H := .agg [.lit (.int .i64 0), .lit (.int .i64 0), .lit (.int .i64 1), .lit (.int .i64 2)]

/-- 'turnerylaw5.SimpleOneMean': WHATEVER THE INPUT: true; the input reads as it did. -/
def simpleOneMeanSpec : ChangeSpec := { name := "simpleOneMean", fn := fun _ => fun
  | [d1, d2, d3] => { results := [.lit (.bool true)], args := [d1, d2, d3] }
  | _ => none }
def simpleOneMeanRow : OpenClaim := { program := "ytlalmbklhmpngaadoor", sum := "9dbaa4a61a2d1af56d01f5950145565dc0da9055a8da613855e77b8efd0d1fde", func := "turnery/turnerylaw5.SimpleOneMean", spec := "simpleOneMean", unfollowed := true, recurses := true, named := ["turnery/code.ways"], apart := false, laid := [("turnery/code.ways", laid_turnery_code_ways)] }
def SimpleOneMeanSaid : Prop := simpleOneMeanRow.holds Tryd.pinned (OpenSpec.ofChange simpleOneMeanSpec)

/-- ITS FALSE NEIGHBOUR: 'it returns false'. Refute it at one input. -/
def simpleOneMeanWrong : ChangeSpec := { name := "simpleOneMean", fn := fun _ => fun
  | [d1, d2, d3] => { results := [.lit (.bool false)], args := [d1, d2, d3] }
  | _ => none }
def SimpleOneMeanWrongFalsely : Prop := simpleOneMeanRow.holds Tryd.pinned (OpenSpec.ofChange simpleOneMeanWrong)

/-- 'turnerylaw5.CallsDoSays': WHATEVER THE INPUT: true; the input reads as it did. -/
def callsDoSaysSpec : ChangeSpec := { name := "callsDoSays", fn := fun _ => fun
  | [d] => { results := [.lit (.bool true)], args := [d] }
  | _ => none }
def callsDoSaysRow : OpenClaim := { program := "ytlalmbklhmpngaadoor", sum := "9dbaa4a61a2d1af56d01f5950145565dc0da9055a8da613855e77b8efd0d1fde", func := "turnery/turnerylaw5.CallsDoSays", spec := "callsDoSays", unfollowed := true, recurses := true, named := ["turnery/code.ways"], apart := false, laid := [("turnery/code.ways", laid_turnery_code_ways)] }
def CallsDoSaysSaid : Prop := callsDoSaysRow.holds Tryd.pinned (OpenSpec.ofChange callsDoSaysSpec)

/-- ITS FALSE NEIGHBOUR: 'it returns false'. Refute it at one input. -/
def callsDoSaysWrong : ChangeSpec := { name := "callsDoSays", fn := fun _ => fun
  | [d] => { results := [.lit (.bool false)], args := [d] }
  | _ => none }
def CallsDoSaysWrongFalsely : Prop := callsDoSaysRow.holds Tryd.pinned (OpenSpec.ofChange callsDoSaysWrong)

/-- 'turnerylaw5.CallsRest': WHATEVER THE INPUT: true; the input reads as it did. -/
def callsRestSpec : ChangeSpec := { name := "callsRest", fn := fun _ => fun
  | [d] => { results := [.lit (.bool true)], args := [d] }
  | _ => none }
def callsRestRow : OpenClaim := { program := "ytlalmbklhmpngaadoor", sum := "9dbaa4a61a2d1af56d01f5950145565dc0da9055a8da613855e77b8efd0d1fde", func := "turnery/turnerylaw5.CallsRest", spec := "callsRest", unfollowed := true, recurses := true, named := ["turnery/code.ways"], apart := false, laid := [("turnery/code.ways", laid_turnery_code_ways)] }
def CallsRestSaid : Prop := callsRestRow.holds Tryd.pinned (OpenSpec.ofChange callsRestSpec)

/-- ITS FALSE NEIGHBOUR: 'it returns false'. Refute it at one input. -/
def callsRestWrong : ChangeSpec := { name := "callsRest", fn := fun _ => fun
  | [d] => { results := [.lit (.bool false)], args := [d] }
  | _ => none }
def CallsRestWrongFalsely : Prop := callsRestRow.holds Tryd.pinned (OpenSpec.ofChange callsRestWrong)

/-- 'turnerylaw5.PureSays': WHATEVER THE INPUT: true; the input reads as it did. -/
def pureSaysSpec : ChangeSpec := { name := "pureSays", fn := fun _ => fun
  | [d] => { results := [.lit (.bool true)], args := [d] }
  | _ => none }
def pureSaysRow : OpenClaim := { program := "ytlalmbklhmpngaadoor", sum := "9dbaa4a61a2d1af56d01f5950145565dc0da9055a8da613855e77b8efd0d1fde", func := "turnery/turnerylaw5.PureSays", spec := "pureSays", unfollowed := true, recurses := true, named := ["turnery/code.ways"], apart := false, laid := [("turnery/code.ways", laid_turnery_code_ways)] }
def PureSaysSaid : Prop := pureSaysRow.holds Tryd.pinned (OpenSpec.ofChange pureSaysSpec)

/-- ITS FALSE NEIGHBOUR: 'it returns false'. Refute it at one input. -/
def pureSaysWrong : ChangeSpec := { name := "pureSays", fn := fun _ => fun
  | [d] => { results := [.lit (.bool false)], args := [d] }
  | _ => none }
def PureSaysWrongFalsely : Prop := pureSaysRow.holds Tryd.pinned (OpenSpec.ofChange pureSaysWrong)

/-- 'turnerylaw5.PureUp': WHATEVER THE INPUT: true; the input reads as it did. -/
def pureUpSpec : ChangeSpec := { name := "pureUp", fn := fun _ => fun
  | [d] => { results := [.lit (.bool true)], args := [d] }
  | _ => none }
def pureUpRow : OpenClaim := { program := "ytlalmbklhmpngaadoor", sum := "9dbaa4a61a2d1af56d01f5950145565dc0da9055a8da613855e77b8efd0d1fde", func := "turnery/turnerylaw5.PureUp", spec := "pureUp", unfollowed := true, recurses := true, named := ["turnery/code.ways"], apart := false, laid := [("turnery/code.ways", laid_turnery_code_ways)] }
def PureUpSaid : Prop := pureUpRow.holds Tryd.pinned (OpenSpec.ofChange pureUpSpec)

/-- ITS FALSE NEIGHBOUR: 'it returns false'. Refute it at one input. -/
def pureUpWrong : ChangeSpec := { name := "pureUp", fn := fun _ => fun
  | [d] => { results := [.lit (.bool false)], args := [d] }
  | _ => none }
def PureUpWrongFalsely : Prop := pureUpRow.holds Tryd.pinned (OpenSpec.ofChange pureUpWrong)

/-- 'turnerylaw5.CallsNever': WHATEVER THE INPUT: true; the input reads as it did. -/
def callsNeverSpec : ChangeSpec := { name := "callsNever", fn := fun _ => fun
  | [d1, d2, d3] => { results := [.lit (.bool true)], args := [d1, d2, d3] }
  | _ => none }
def callsNeverRow : OpenClaim := { program := "ytlalmbklhmpngaadoor", sum := "9dbaa4a61a2d1af56d01f5950145565dc0da9055a8da613855e77b8efd0d1fde", func := "turnery/turnerylaw5.CallsNever", spec := "callsNever", unfollowed := true, recurses := true, named := ["turnery/code.ways"], apart := false, laid := [("turnery/code.ways", laid_turnery_code_ways)] }
def CallsNeverSaid : Prop := callsNeverRow.holds Tryd.pinned (OpenSpec.ofChange callsNeverSpec)

/-- ITS FALSE NEIGHBOUR: 'it returns false'. Refute it at one input. -/
def callsNeverWrong : ChangeSpec := { name := "callsNever", fn := fun _ => fun
  | [d1, d2, d3] => { results := [.lit (.bool false)], args := [d1, d2, d3] }
  | _ => none }
def CallsNeverWrongFalsely : Prop := callsNeverRow.holds Tryd.pinned (OpenSpec.ofChange callsNeverWrong)

/-- 'turnerylaw5.CallsMean': WHATEVER THE INPUT: true; the input reads as it did. -/
def callsMeanSpec : ChangeSpec := { name := "callsMean", fn := fun _ => fun
  | [d1, d2, d3] => { results := [.lit (.bool true)], args := [d1, d2, d3] }
  | _ => none }
def callsMeanRow : OpenClaim := { program := "ytlalmbklhmpngaadoor", sum := "9dbaa4a61a2d1af56d01f5950145565dc0da9055a8da613855e77b8efd0d1fde", func := "turnery/turnerylaw5.CallsMean", spec := "callsMean", unfollowed := true, recurses := true, named := ["turnery/code.ways"], apart := false, laid := [("turnery/code.ways", laid_turnery_code_ways)] }
def CallsMeanSaid : Prop := callsMeanRow.holds Tryd.pinned (OpenSpec.ofChange callsMeanSpec)

/-- ITS FALSE NEIGHBOUR: 'it returns false'. Refute it at one input. -/
def callsMeanWrong : ChangeSpec := { name := "callsMean", fn := fun _ => fun
  | [d1, d2, d3] => { results := [.lit (.bool false)], args := [d1, d2, d3] }
  | _ => none }
def CallsMeanWrongFalsely : Prop := callsMeanRow.holds Tryd.pinned (OpenSpec.ofChange callsMeanWrong)

/-- 'turnerylaw5.PureSilent': WHATEVER THE INPUT: true; the input reads as it did. -/
def pureSilentSpec : ChangeSpec := { name := "pureSilent", fn := fun _ => fun
  | [d1, d2, d3] => { results := [.lit (.bool true)], args := [d1, d2, d3] }
  | _ => none }
def pureSilentRow : OpenClaim := { program := "ytlalmbklhmpngaadoor", sum := "9dbaa4a61a2d1af56d01f5950145565dc0da9055a8da613855e77b8efd0d1fde", func := "turnery/turnerylaw5.PureSilent", spec := "pureSilent", unfollowed := true, recurses := true, named := ["turnery/code.ways"], apart := false, laid := [("turnery/code.ways", laid_turnery_code_ways)] }
def PureSilentSaid : Prop := pureSilentRow.holds Tryd.pinned (OpenSpec.ofChange pureSilentSpec)

/-- ITS FALSE NEIGHBOUR: 'it returns false'. Refute it at one input. -/
def pureSilentWrong : ChangeSpec := { name := "pureSilent", fn := fun _ => fun
  | [d1, d2, d3] => { results := [.lit (.bool false)], args := [d1, d2, d3] }
  | _ => none }
def PureSilentWrongFalsely : Prop := pureSilentRow.holds Tryd.pinned (OpenSpec.ofChange pureSilentWrong)

/-- 'turnerylaw5.PureDeaf': WHATEVER THE INPUT: true; the input reads as it did. -/
def pureDeafSpec : ChangeSpec := { name := "pureDeaf", fn := fun _ => fun
  | [d1, d2, d3, d4] => { results := [.lit (.bool true)], args := [d1, d2, d3, d4] }
  | _ => none }
def pureDeafRow : OpenClaim := { program := "ytlalmbklhmpngaadoor", sum := "9dbaa4a61a2d1af56d01f5950145565dc0da9055a8da613855e77b8efd0d1fde", func := "turnery/turnerylaw5.PureDeaf", spec := "pureDeaf", unfollowed := true, recurses := true, named := ["turnery/code.ways"], apart := false, laid := [("turnery/code.ways", laid_turnery_code_ways)] }
def PureDeafSaid : Prop := pureDeafRow.holds Tryd.pinned (OpenSpec.ofChange pureDeafSpec)

/-- ITS FALSE NEIGHBOUR: 'it returns false'. Refute it at one input. -/
def pureDeafWrong : ChangeSpec := { name := "pureDeaf", fn := fun _ => fun
  | [d1, d2, d3, d4] => { results := [.lit (.bool false)], args := [d1, d2, d3, d4] }
  | _ => none }
def PureDeafWrongFalsely : Prop := pureDeafRow.holds Tryd.pinned (OpenSpec.ofChange pureDeafWrong)

/-- 'turnerylaw5.PureSafe': WHATEVER THE INPUT: true; the input reads as it did. -/
def pureSafeSpec : ChangeSpec := { name := "pureSafe", fn := fun _ => fun
  | [d1, d2, d3] => { results := [.lit (.bool true)], args := [d1, d2, d3] }
  | _ => none }
def pureSafeRow : OpenClaim := { program := "ytlalmbklhmpngaadoor", sum := "9dbaa4a61a2d1af56d01f5950145565dc0da9055a8da613855e77b8efd0d1fde", func := "turnery/turnerylaw5.PureSafe", spec := "pureSafe", unfollowed := true, recurses := true, named := ["turnery/code.ways"], apart := false, laid := [("turnery/code.ways", laid_turnery_code_ways)] }
def PureSafeSaid : Prop := pureSafeRow.holds Tryd.pinned (OpenSpec.ofChange pureSafeSpec)

/-- ITS FALSE NEIGHBOUR: 'it returns false'. Refute it at one input. -/
def pureSafeWrong : ChangeSpec := { name := "pureSafe", fn := fun _ => fun
  | [d1, d2, d3] => { results := [.lit (.bool false)], args := [d1, d2, d3] }
  | _ => none }
def PureSafeWrongFalsely : Prop := pureSafeRow.holds Tryd.pinned (OpenSpec.ofChange pureSafeWrong)

/-- 'turnerylaw5.PureFlat': WHATEVER THE INPUT: true; the input reads as it did. -/
def pureFlatSpec : ChangeSpec := { name := "pureFlat", fn := fun _ => fun
  | [d1, d2, d3] => { results := [.lit (.bool true)], args := [d1, d2, d3] }
  | _ => none }
def pureFlatRow : OpenClaim := { program := "ytlalmbklhmpngaadoor", sum := "9dbaa4a61a2d1af56d01f5950145565dc0da9055a8da613855e77b8efd0d1fde", func := "turnery/turnerylaw5.PureFlat", spec := "pureFlat", unfollowed := true, recurses := true, named := ["turnery/code.ways"], apart := false, laid := [("turnery/code.ways", laid_turnery_code_ways)] }
def PureFlatSaid : Prop := pureFlatRow.holds Tryd.pinned (OpenSpec.ofChange pureFlatSpec)

/-- ITS FALSE NEIGHBOUR: 'it returns false'. Refute it at one input. -/
def pureFlatWrong : ChangeSpec := { name := "pureFlat", fn := fun _ => fun
  | [d1, d2, d3] => { results := [.lit (.bool false)], args := [d1, d2, d3] }
  | _ => none }
def PureFlatWrongFalsely : Prop := pureFlatRow.holds Tryd.pinned (OpenSpec.ofChange pureFlatWrong)

/-- 'turnerylaw5.PureShort': WHATEVER THE INPUT: true; the input reads as it did. -/
def pureShortSpec : ChangeSpec := { name := "pureShort", fn := fun _ => fun
  | [d1, d2] => { results := [.lit (.bool true)], args := [d1, d2] }
  | _ => none }
def pureShortRow : OpenClaim := { program := "ytlalmbklhmpngaadoor", sum := "9dbaa4a61a2d1af56d01f5950145565dc0da9055a8da613855e77b8efd0d1fde", func := "turnery/turnerylaw5.PureShort", spec := "pureShort", unfollowed := true, recurses := true, named := ["turnery/code.ways"], apart := false, laid := [("turnery/code.ways", laid_turnery_code_ways)] }
def PureShortSaid : Prop := pureShortRow.holds Tryd.pinned (OpenSpec.ofChange pureShortSpec)

/-- ITS FALSE NEIGHBOUR: 'it returns false'. Refute it at one input. -/
def pureShortWrong : ChangeSpec := { name := "pureShort", fn := fun _ => fun
  | [d1, d2] => { results := [.lit (.bool false)], args := [d1, d2] }
  | _ => none }
def PureShortWrongFalsely : Prop := pureShortRow.holds Tryd.pinned (OpenSpec.ofChange pureShortWrong)

/- THE SECOND FORM. 'bulk': how many values and letters a reading holds, each counted each time it is reached (what is shared counts as often as it is met; a slice's spare places count too). A statement '..UptoSaid' is the law's where the arguments, and the package variables that the reading takes, are together of bulk at most 1048576: NARROWER than '..Said'. Prove '..Said' where nothing that the law and all that it calls make is longer than what came in: it says more and counts as full. Else prove '..UptoSaid'. A law counts once. -/
mutual
def uptoBulk {H : Type} : DataW H → Nat
  | .lit (.string bytes) => bytes.length + 1
  | .lit _ => 1
  | .nil => 1
  | .ptr d => uptoBulk d + 1
  | .slice elems spare => uptoBulkAll elems + uptoBulkAll spare + 1
  | .agg parts => uptoBulkAll parts + 1
  | .iface _ d => uptoBulk d + 1
  | .map entries => uptoBulkEntries entries + 1
  | .held _ => 1
def uptoBulkAll {H : Type} : List (DataW H) → Nat
  | [] => 0
  | d :: r => uptoBulk d + uptoBulkAll r
def uptoBulkEntries {H : Type} : List (Lit × DataW H) → Nat
  | [] => 0
  | x :: r => uptoBulkEntry x + uptoBulkEntries r
def uptoBulkEntry {H : Type} : Lit × DataW H → Nat
  | (.string bytes, d) => bytes.length + uptoBulk d + 1
  | (_, d) => uptoBulk d + 1
 end
def uptoSmall : (H : Type) → List (DataW H) → Bool := fun _ ds => decide (uptoBulkAll ds ≤ 1048576)
def OpenSpec.upto (s : _root_.Go.ChangeSpec) : _root_.Go.OpenSpec := { _root_.Go.OpenSpec.ofChange s with cond := some uptoSmall }

/-- 'turnerylaw5.SimpleOneMean', WHERE WHAT IT READS IS OF BULK AT MOST 1048576: true; the input reads as it did. -/
def simpleOneMeanUptoRow : OpenClaim := { program := "ytlalmbklhmpngaadoor", sum := "9dbaa4a61a2d1af56d01f5950145565dc0da9055a8da613855e77b8efd0d1fde", func := "turnery/turnerylaw5.SimpleOneMean", spec := "simpleOneMean", unfollowed := true, recurses := true, named := ["turnery/code.ways"], apart := false, laid := [("turnery/code.ways", laid_turnery_code_ways)], narrowed := true }
def SimpleOneMeanUptoSaid : Prop := simpleOneMeanUptoRow.holds Tryd.pinned (OpenSpec.upto simpleOneMeanSpec)

/-- 'turnerylaw5.CallsDoSays', WHERE WHAT IT READS IS OF BULK AT MOST 1048576: true; the input reads as it did. -/
def callsDoSaysUptoRow : OpenClaim := { program := "ytlalmbklhmpngaadoor", sum := "9dbaa4a61a2d1af56d01f5950145565dc0da9055a8da613855e77b8efd0d1fde", func := "turnery/turnerylaw5.CallsDoSays", spec := "callsDoSays", unfollowed := true, recurses := true, named := ["turnery/code.ways"], apart := false, laid := [("turnery/code.ways", laid_turnery_code_ways)], narrowed := true }
def CallsDoSaysUptoSaid : Prop := callsDoSaysUptoRow.holds Tryd.pinned (OpenSpec.upto callsDoSaysSpec)

/-- 'turnerylaw5.CallsRest', WHERE WHAT IT READS IS OF BULK AT MOST 1048576: true; the input reads as it did. -/
def callsRestUptoRow : OpenClaim := { program := "ytlalmbklhmpngaadoor", sum := "9dbaa4a61a2d1af56d01f5950145565dc0da9055a8da613855e77b8efd0d1fde", func := "turnery/turnerylaw5.CallsRest", spec := "callsRest", unfollowed := true, recurses := true, named := ["turnery/code.ways"], apart := false, laid := [("turnery/code.ways", laid_turnery_code_ways)], narrowed := true }
def CallsRestUptoSaid : Prop := callsRestUptoRow.holds Tryd.pinned (OpenSpec.upto callsRestSpec)

/-- 'turnerylaw5.PureSays', WHERE WHAT IT READS IS OF BULK AT MOST 1048576: true; the input reads as it did. -/
def pureSaysUptoRow : OpenClaim := { program := "ytlalmbklhmpngaadoor", sum := "9dbaa4a61a2d1af56d01f5950145565dc0da9055a8da613855e77b8efd0d1fde", func := "turnery/turnerylaw5.PureSays", spec := "pureSays", unfollowed := true, recurses := true, named := ["turnery/code.ways"], apart := false, laid := [("turnery/code.ways", laid_turnery_code_ways)], narrowed := true }
def PureSaysUptoSaid : Prop := pureSaysUptoRow.holds Tryd.pinned (OpenSpec.upto pureSaysSpec)

/-- 'turnerylaw5.PureUp', WHERE WHAT IT READS IS OF BULK AT MOST 1048576: true; the input reads as it did. -/
def pureUpUptoRow : OpenClaim := { program := "ytlalmbklhmpngaadoor", sum := "9dbaa4a61a2d1af56d01f5950145565dc0da9055a8da613855e77b8efd0d1fde", func := "turnery/turnerylaw5.PureUp", spec := "pureUp", unfollowed := true, recurses := true, named := ["turnery/code.ways"], apart := false, laid := [("turnery/code.ways", laid_turnery_code_ways)], narrowed := true }
def PureUpUptoSaid : Prop := pureUpUptoRow.holds Tryd.pinned (OpenSpec.upto pureUpSpec)

/-- 'turnerylaw5.CallsNever', WHERE WHAT IT READS IS OF BULK AT MOST 1048576: true; the input reads as it did. -/
def callsNeverUptoRow : OpenClaim := { program := "ytlalmbklhmpngaadoor", sum := "9dbaa4a61a2d1af56d01f5950145565dc0da9055a8da613855e77b8efd0d1fde", func := "turnery/turnerylaw5.CallsNever", spec := "callsNever", unfollowed := true, recurses := true, named := ["turnery/code.ways"], apart := false, laid := [("turnery/code.ways", laid_turnery_code_ways)], narrowed := true }
def CallsNeverUptoSaid : Prop := callsNeverUptoRow.holds Tryd.pinned (OpenSpec.upto callsNeverSpec)

/-- 'turnerylaw5.CallsMean', WHERE WHAT IT READS IS OF BULK AT MOST 1048576: true; the input reads as it did. -/
def callsMeanUptoRow : OpenClaim := { program := "ytlalmbklhmpngaadoor", sum := "9dbaa4a61a2d1af56d01f5950145565dc0da9055a8da613855e77b8efd0d1fde", func := "turnery/turnerylaw5.CallsMean", spec := "callsMean", unfollowed := true, recurses := true, named := ["turnery/code.ways"], apart := false, laid := [("turnery/code.ways", laid_turnery_code_ways)], narrowed := true }
def CallsMeanUptoSaid : Prop := callsMeanUptoRow.holds Tryd.pinned (OpenSpec.upto callsMeanSpec)

/-- 'turnerylaw5.PureSilent', WHERE WHAT IT READS IS OF BULK AT MOST 1048576: true; the input reads as it did. -/
def pureSilentUptoRow : OpenClaim := { program := "ytlalmbklhmpngaadoor", sum := "9dbaa4a61a2d1af56d01f5950145565dc0da9055a8da613855e77b8efd0d1fde", func := "turnery/turnerylaw5.PureSilent", spec := "pureSilent", unfollowed := true, recurses := true, named := ["turnery/code.ways"], apart := false, laid := [("turnery/code.ways", laid_turnery_code_ways)], narrowed := true }
def PureSilentUptoSaid : Prop := pureSilentUptoRow.holds Tryd.pinned (OpenSpec.upto pureSilentSpec)

/-- 'turnerylaw5.PureDeaf', WHERE WHAT IT READS IS OF BULK AT MOST 1048576: true; the input reads as it did. -/
def pureDeafUptoRow : OpenClaim := { program := "ytlalmbklhmpngaadoor", sum := "9dbaa4a61a2d1af56d01f5950145565dc0da9055a8da613855e77b8efd0d1fde", func := "turnery/turnerylaw5.PureDeaf", spec := "pureDeaf", unfollowed := true, recurses := true, named := ["turnery/code.ways"], apart := false, laid := [("turnery/code.ways", laid_turnery_code_ways)], narrowed := true }
def PureDeafUptoSaid : Prop := pureDeafUptoRow.holds Tryd.pinned (OpenSpec.upto pureDeafSpec)

/-- 'turnerylaw5.PureSafe', WHERE WHAT IT READS IS OF BULK AT MOST 1048576: true; the input reads as it did. -/
def pureSafeUptoRow : OpenClaim := { program := "ytlalmbklhmpngaadoor", sum := "9dbaa4a61a2d1af56d01f5950145565dc0da9055a8da613855e77b8efd0d1fde", func := "turnery/turnerylaw5.PureSafe", spec := "pureSafe", unfollowed := true, recurses := true, named := ["turnery/code.ways"], apart := false, laid := [("turnery/code.ways", laid_turnery_code_ways)], narrowed := true }
def PureSafeUptoSaid : Prop := pureSafeUptoRow.holds Tryd.pinned (OpenSpec.upto pureSafeSpec)

/-- 'turnerylaw5.PureFlat', WHERE WHAT IT READS IS OF BULK AT MOST 1048576: true; the input reads as it did. -/
def pureFlatUptoRow : OpenClaim := { program := "ytlalmbklhmpngaadoor", sum := "9dbaa4a61a2d1af56d01f5950145565dc0da9055a8da613855e77b8efd0d1fde", func := "turnery/turnerylaw5.PureFlat", spec := "pureFlat", unfollowed := true, recurses := true, named := ["turnery/code.ways"], apart := false, laid := [("turnery/code.ways", laid_turnery_code_ways)], narrowed := true }
def PureFlatUptoSaid : Prop := pureFlatUptoRow.holds Tryd.pinned (OpenSpec.upto pureFlatSpec)

/-- 'turnerylaw5.PureShort', WHERE WHAT IT READS IS OF BULK AT MOST 1048576: true; the input reads as it did. -/
def pureShortUptoRow : OpenClaim := { program := "ytlalmbklhmpngaadoor", sum := "9dbaa4a61a2d1af56d01f5950145565dc0da9055a8da613855e77b8efd0d1fde", func := "turnery/turnerylaw5.PureShort", spec := "pureShort", unfollowed := true, recurses := true, named := ["turnery/code.ways"], apart := false, laid := [("turnery/code.ways", laid_turnery_code_ways)], narrowed := true }
def PureShortUptoSaid : Prop := pureShortUptoRow.holds Tryd.pinned (OpenSpec.upto pureShortSpec)

end Rows
end Go.Proofs.YtlalmbklhmpngaaDoor
