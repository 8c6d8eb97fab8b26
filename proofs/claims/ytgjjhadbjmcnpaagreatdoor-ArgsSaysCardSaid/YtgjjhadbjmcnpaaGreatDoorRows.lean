/-
  NARROWER THAN 'FOR EVERY INPUT', by the rows' own cells (each row's printed sentence says how): ArgsSays: laid · ArgsTaken: laid · ArgsUnlike: laid · ArgsRest: laid · ArgsNone: laid.
  DERIVED. THE GIVEN ROWS OF THIS SEAT. 5 by the template 'for every input the law returns true; each argument reads behind the call as it read before'; 0 by the template 'total and deterministic' (their statements: YtgjjhadbjmcnpaaGreatDoorTotals.lean).
  GIVEN WITH THE SEED: the statements are not yours to turn. If you find one false, say at which input.
  Laid BY PROGRAM, IN A SANDBOX (cutbox-rows.mjs): the forced cells as the released guide's own fill.sh prints them over the translation e556f89f51444f58… (all of the seat's roots in one cut). By AI agents, Wed Nov 11 2026. No macro, syntax, notation, axiom, sorry.
-/
import Derived.Test.YtgjjhadbjmcnpaaGreatDoorChecked
import GoSem.Claim
import GoSem.ClaimJoined
import GoSem.ClaimMapViews
import Derived.JoinedTies
import Derived.KernelRfl
namespace Go.Proofs.YtgjjhadbjmcnpaaGreatDoor
/- THE CELL 'sum', in the pinned program and in every row, IS THE sha256 OF THE DUMP (.gsa) THAT YtgjjhadbjmcnpaaGreatDoorProg.lean LOADS. Nothing in Lean hashes anything: it is a label: what it is worth is what the hold of that sum in a sandbox is worth. -/
noncomputable def Tryz.pinned : Pinned := { name := "ytgjjhadbjmcnpaagreatdoor", sum := "e556f89f51444f5807dc0b0ffb7a211fd2410d9a3a733dd30148a17acb44ac77", checked := Tryz.checked }
namespace Rows
def none {H : Type} : Left H := { results := [], args := [] }

/- WHAT THE LISTED PACKAGE-LEVEL VARIABLES READ AS WHEN THE CALL BEGINS. Each datum BY PROGRAM (the guide's laid-datum.mjs) off the statement by which the dump's own 'gosem.cut.vars' lays the variable. In a bare row this is a premise. The card (YtgjjhadbjmcnpaaGreatDoorCards.lean) ties it to the program's text. -/
def laid_turnery_code_ways {H : Type} : DataW H := .agg [.lit (.int .i64 0), .lit (.int .i64 0), .lit (.int .i64 1), .lit (.int .i64 2)]

/-- 'turnerylaw5.ArgsSays': WHATEVER THE INPUT: true; the input reads as it did. -/
def argsSaysSpec : ChangeSpec := { name := "argsSays", fn := fun _ => fun
  | [d] => { results := [.lit (.bool true)], args := [d] }
  | _ => none }
def argsSaysRow : OpenClaim := { program := "ytgjjhadbjmcnpaagreatdoor", sum := "e556f89f51444f5807dc0b0ffb7a211fd2410d9a3a733dd30148a17acb44ac77", func := "turnery/turnerylaw5.ArgsSays", spec := "argsSays", inPlace := ["slices.overlaps[turnery/api.Val]"], unfollowed := true, recurses := true, named := ["turnery/code.ways"], apart := false, laid := [("turnery/code.ways", laid_turnery_code_ways)] }
def ArgsSaysSaid : Prop := argsSaysRow.holds Tryz.pinned (OpenSpec.ofChange argsSaysSpec)

/-- ITS FALSE NEIGHBOUR: 'it returns false'. Refute it at one input. -/
def argsSaysWrong : ChangeSpec := { name := "argsSays", fn := fun _ => fun
  | [d] => { results := [.lit (.bool false)], args := [d] }
  | _ => none }
def ArgsSaysWrongFalsely : Prop := argsSaysRow.holds Tryz.pinned (OpenSpec.ofChange argsSaysWrong)

/-- 'turnerylaw5.ArgsTaken': WHATEVER THE INPUT: true; the input reads as it did. -/
def argsTakenSpec : ChangeSpec := { name := "argsTaken", fn := fun _ => fun
  | [d] => { results := [.lit (.bool true)], args := [d] }
  | _ => none }
def argsTakenRow : OpenClaim := { program := "ytgjjhadbjmcnpaagreatdoor", sum := "e556f89f51444f5807dc0b0ffb7a211fd2410d9a3a733dd30148a17acb44ac77", func := "turnery/turnerylaw5.ArgsTaken", spec := "argsTaken", inPlace := ["slices.overlaps[turnery/api.Val]"], unfollowed := true, recurses := true, named := ["turnery/code.ways"], apart := false, laid := [("turnery/code.ways", laid_turnery_code_ways)] }
def ArgsTakenSaid : Prop := argsTakenRow.holds Tryz.pinned (OpenSpec.ofChange argsTakenSpec)

/-- ITS FALSE NEIGHBOUR: 'it returns false'. Refute it at one input. -/
def argsTakenWrong : ChangeSpec := { name := "argsTaken", fn := fun _ => fun
  | [d] => { results := [.lit (.bool false)], args := [d] }
  | _ => none }
def ArgsTakenWrongFalsely : Prop := argsTakenRow.holds Tryz.pinned (OpenSpec.ofChange argsTakenWrong)

/-- 'turnerylaw5.ArgsUnlike': WHATEVER THE INPUT: true; the input reads as it did. -/
def argsUnlikeSpec : ChangeSpec := { name := "argsUnlike", fn := fun _ => fun
  | [d] => { results := [.lit (.bool true)], args := [d] }
  | _ => none }
def argsUnlikeRow : OpenClaim := { program := "ytgjjhadbjmcnpaagreatdoor", sum := "e556f89f51444f5807dc0b0ffb7a211fd2410d9a3a733dd30148a17acb44ac77", func := "turnery/turnerylaw5.ArgsUnlike", spec := "argsUnlike", inPlace := ["slices.overlaps[turnery/api.Val]"], unfollowed := true, recurses := true, named := ["turnery/code.ways"], apart := false, laid := [("turnery/code.ways", laid_turnery_code_ways)] }
def ArgsUnlikeSaid : Prop := argsUnlikeRow.holds Tryz.pinned (OpenSpec.ofChange argsUnlikeSpec)

/-- ITS FALSE NEIGHBOUR: 'it returns false'. Refute it at one input. -/
def argsUnlikeWrong : ChangeSpec := { name := "argsUnlike", fn := fun _ => fun
  | [d] => { results := [.lit (.bool false)], args := [d] }
  | _ => none }
def ArgsUnlikeWrongFalsely : Prop := argsUnlikeRow.holds Tryz.pinned (OpenSpec.ofChange argsUnlikeWrong)

/-- 'turnerylaw5.ArgsRest': WHATEVER THE INPUT: true; the input reads as it did. -/
def argsRestSpec : ChangeSpec := { name := "argsRest", fn := fun _ => fun
  | [d] => { results := [.lit (.bool true)], args := [d] }
  | _ => none }
def argsRestRow : OpenClaim := { program := "ytgjjhadbjmcnpaagreatdoor", sum := "e556f89f51444f5807dc0b0ffb7a211fd2410d9a3a733dd30148a17acb44ac77", func := "turnery/turnerylaw5.ArgsRest", spec := "argsRest", inPlace := ["slices.overlaps[turnery/api.Val]"], unfollowed := true, recurses := true, named := ["turnery/code.ways"], apart := false, laid := [("turnery/code.ways", laid_turnery_code_ways)] }
def ArgsRestSaid : Prop := argsRestRow.holds Tryz.pinned (OpenSpec.ofChange argsRestSpec)

/-- ITS FALSE NEIGHBOUR: 'it returns false'. Refute it at one input. -/
def argsRestWrong : ChangeSpec := { name := "argsRest", fn := fun _ => fun
  | [d] => { results := [.lit (.bool false)], args := [d] }
  | _ => none }
def ArgsRestWrongFalsely : Prop := argsRestRow.holds Tryz.pinned (OpenSpec.ofChange argsRestWrong)

/-- 'turnerylaw5.ArgsNone': WHATEVER THE INPUT: true; the input reads as it did. -/
def argsNoneSpec : ChangeSpec := { name := "argsNone", fn := fun _ => fun
  | [d] => { results := [.lit (.bool true)], args := [d] }
  | _ => none }
def argsNoneRow : OpenClaim := { program := "ytgjjhadbjmcnpaagreatdoor", sum := "e556f89f51444f5807dc0b0ffb7a211fd2410d9a3a733dd30148a17acb44ac77", func := "turnery/turnerylaw5.ArgsNone", spec := "argsNone", inPlace := ["slices.overlaps[turnery/api.Val]"], unfollowed := true, recurses := true, named := ["turnery/code.ways"], apart := false, laid := [("turnery/code.ways", laid_turnery_code_ways)] }
def ArgsNoneSaid : Prop := argsNoneRow.holds Tryz.pinned (OpenSpec.ofChange argsNoneSpec)

/-- ITS FALSE NEIGHBOUR: 'it returns false'. Refute it at one input. -/
def argsNoneWrong : ChangeSpec := { name := "argsNone", fn := fun _ => fun
  | [d] => { results := [.lit (.bool false)], args := [d] }
  | _ => none }
def ArgsNoneWrongFalsely : Prop := argsNoneRow.holds Tryz.pinned (OpenSpec.ofChange argsNoneWrong)

/- THE SECOND FORM. 'bulk': how many values and letters a reading holds, each counted each time it is reached (what is shared counts as often as it is met; a slice's spare places count too). A statement '..UptoSaid' is the law's where the arguments, and the package variables that the reading takes, are together of bulk at most 1048576: NARROWER than '..Said'. Prove '..Said' where nothing that the law and all that it calls make is longer than what came in: it says more and counts as full. Else prove '..UptoSaid'. A law counts once. -/
mutual
def uptoBulk {H : Type} : DataW H → Nat
  | .lit (.string bytes) => bytes.length + 1
  | .lit _ => 1
  | .nil => 1
  | .ptr d => uptoBulk d + 1
  | .slice elems spare => uptoBulkAll elems + uptoBulkAll spare + 1
  | .agg parts => uptoBulkAll parts + 1
  | .iface _ d => uptoBulk d + 1
  | .map entries => uptoBulkEntries entries + 1
  | .held _ => 1
def uptoBulkAll {H : Type} : List (DataW H) → Nat
  | [] => 0
  | d :: r => uptoBulk d + uptoBulkAll r
def uptoBulkEntries {H : Type} : List (Lit × DataW H) → Nat
  | [] => 0
  | x :: r => uptoBulkEntry x + uptoBulkEntries r
def uptoBulkEntry {H : Type} : Lit × DataW H → Nat
  | (.string bytes, d) => bytes.length + uptoBulk d + 1
  | (_, d) => uptoBulk d + 1
 end
def uptoSmall : (H : Type) → List (DataW H) → Bool := fun _ ds => decide (uptoBulkAll ds ≤ 1048576)
def OpenSpec.upto (s : _root_.Go.ChangeSpec) : _root_.Go.OpenSpec := { _root_.Go.OpenSpec.ofChange s with cond := some uptoSmall }

/-- 'turnerylaw5.ArgsSays', WHERE WHAT IT READS IS OF BULK AT MOST 1048576: true; the input reads as it did. -/
def argsSaysUptoRow : OpenClaim := { program := "ytgjjhadbjmcnpaagreatdoor", sum := "e556f89f51444f5807dc0b0ffb7a211fd2410d9a3a733dd30148a17acb44ac77", func := "turnery/turnerylaw5.ArgsSays", spec := "argsSays", inPlace := ["slices.overlaps[turnery/api.Val]"], unfollowed := true, recurses := true, named := ["turnery/code.ways"], apart := false, laid := [("turnery/code.ways", laid_turnery_code_ways)], narrowed := true }
def ArgsSaysUptoSaid : Prop := argsSaysUptoRow.holds Tryz.pinned (OpenSpec.upto argsSaysSpec)

/-- 'turnerylaw5.ArgsTaken', WHERE WHAT IT READS IS OF BULK AT MOST 1048576: true; the input reads as it did. -/
def argsTakenUptoRow : OpenClaim := { program := "ytgjjhadbjmcnpaagreatdoor", sum := "e556f89f51444f5807dc0b0ffb7a211fd2410d9a3a733dd30148a17acb44ac77", func := "turnery/turnerylaw5.ArgsTaken", spec := "argsTaken", inPlace := ["slices.overlaps[turnery/api.Val]"], unfollowed := true, recurses := true, named := ["turnery/code.ways"], apart := false, laid := [("turnery/code.ways", laid_turnery_code_ways)], narrowed := true }
def ArgsTakenUptoSaid : Prop := argsTakenUptoRow.holds Tryz.pinned (OpenSpec.upto argsTakenSpec)

/-- 'turnerylaw5.ArgsUnlike', WHERE WHAT IT READS IS OF BULK AT MOST 1048576: true; the input reads as it did. -/
def argsUnlikeUptoRow : OpenClaim := { program := "ytgjjhadbjmcnpaagreatdoor", sum := "e556f89f51444f5807dc0b0ffb7a211fd2410d9a3a733dd30148a17acb44ac77", func := "turnery/turnerylaw5.ArgsUnlike", spec := "argsUnlike", inPlace := ["slices.overlaps[turnery/api.Val]"], unfollowed := true, recurses := true, named := ["turnery/code.ways"], apart := false, laid := [("turnery/code.ways", laid_turnery_code_ways)], narrowed := true }
def ArgsUnlikeUptoSaid : Prop := argsUnlikeUptoRow.holds Tryz.pinned (OpenSpec.upto argsUnlikeSpec)

/-- 'turnerylaw5.ArgsRest', WHERE WHAT IT READS IS OF BULK AT MOST 1048576: true; the input reads as it did. -/
def argsRestUptoRow : OpenClaim := { program := "ytgjjhadbjmcnpaagreatdoor", sum := "e556f89f51444f5807dc0b0ffb7a211fd2410d9a3a733dd30148a17acb44ac77", func := "turnery/turnerylaw5.ArgsRest", spec := "argsRest", inPlace := ["slices.overlaps[turnery/api.Val]"], unfollowed := true, recurses := true, named := ["turnery/code.ways"], apart := false, laid := [("turnery/code.ways", laid_turnery_code_ways)], narrowed := true }
def ArgsRestUptoSaid : Prop := argsRestUptoRow.holds Tryz.pinned (OpenSpec.upto argsRestSpec)

/-- 'turnerylaw5.ArgsNone', WHERE WHAT IT READS IS OF BULK AT MOST 1048576: true; the input reads as it did. -/
def argsNoneUptoRow : OpenClaim := { program := "ytgjjhadbjmcnpaagreatdoor", sum := "e556f89f51444f5807dc0b0ffb7a211fd2410d9a3a733dd30148a17acb44ac77", func := "turnery/turnerylaw5.ArgsNone", spec := "argsNone", inPlace := ["slices.overlaps[turnery/api.Val]"], unfollowed := true, recurses := true, named := ["turnery/code.ways"], apart := false, laid := [("turnery/code.ways", laid_turnery_code_ways)], narrowed := true }
def ArgsNoneUptoSaid : Prop := argsNoneUptoRow.holds Tryz.pinned (OpenSpec.upto argsNoneSpec)

end Rows
end Go.Proofs.YtgjjhadbjmcnpaaGreatDoor
