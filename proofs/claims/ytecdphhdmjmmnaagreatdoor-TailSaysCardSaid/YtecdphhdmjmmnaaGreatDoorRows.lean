/-
  NARROWER THAN 'FOR EVERY INPUT', by the rows' own cells (each row's printed sentence says how): TailSays: laid · TailGone: laid · TailRest: laid · TailMean: laid · TailFar: laid · TailCalls: laid.
  DERIVED. THE GIVEN ROWS OF THIS SEAT. 6 by the template 'for every input the law returns true; each argument reads behind the call as it read before'; 0 by the template 'total and deterministic' (their statements: YtecdphhdmjmmnaaGreatDoorTotals.lean).
  GIVEN WITH THE SEED: the statements are not yours to turn. If you find one false, say at which input.
  Laid BY PROGRAM, IN A SANDBOX (cutbox-rows.mjs): the forced cells as the released guide's own fill.sh prints them over the translation a4082a5161a972ed… (all of the seat's roots in one cut). By AI agents, Wed Nov 11 2026. No macro, syntax, notation, axiom, sorry.
-/
import Derived.Test.YtecdphhdmjmmnaaGreatDoorChecked
import GoSem.Claim
import GoSem.ClaimJoined
import GoSem.ClaimMapViews
import Derived.JoinedTies
import Derived.KernelRfl
namespace Go.Proofs.YtecdphhdmjmmnaaGreatDoor
/- THE CELL 'sum', in the pinned program and in every row, IS THE sha256 OF THE DUMP (.gsa) THAT YtecdphhdmjmmnaaGreatDoorProg.lean LOADS. Nothing in Lean hashes anything: it is a label: what it is worth is what the hold of that sum in a sandbox is worth. -/
noncomputable def Tryz.pinned : Pinned := { name := "ytecdphhdmjmmnaagreatdoor", sum := "a4082a5161a972edbd1db8d9372d9d0cf36c8bffc2bd9f52feb0ba3333f6a839", checked := Tryz.checked }
namespace Rows
def none {H : Type} : Left H := { results := [], args := [] }

/- WHAT THE LISTED PACKAGE-LEVEL VARIABLES READ AS WHEN THE CALL BEGINS. Each datum BY PROGRAM (the guide's laid-datum.mjs) off the statement by which the dump's own 'gosem.cut.vars' lays the variable. In a bare row this is a premise. The card (YtecdphhdmjmmnaaGreatDoorCards.lean) ties it to the program's text. -/
def laid_turnery_code_ways {H : Type} : DataW H := .agg [.lit (.int .i64 0), .lit (.int .i64 0), .lit (.int .i64 1), .lit (.int .i64 2)]

/-- 'turnerylaw5.TailSays': WHATEVER THE INPUT: true; the input reads as it did. -/
def tailSaysSpec : ChangeSpec := { name := "tailSays", fn := fun _ => fun
  | [d] => { results := [.lit (.bool true)], args := [d] }
  | _ => none }
def tailSaysRow : OpenClaim := { program := "ytecdphhdmjmmnaagreatdoor", sum := "a4082a5161a972edbd1db8d9372d9d0cf36c8bffc2bd9f52feb0ba3333f6a839", func := "turnery/turnerylaw5.TailSays", spec := "tailSays", inPlace := ["slices.overlaps[turnery/api.Val]", "slices.overlaps[turnery/api.Block]"], unfollowed := true, recurses := true, named := ["turnery/code.ways"], apart := false, laid := [("turnery/code.ways", laid_turnery_code_ways)] }
def TailSaysSaid : Prop := tailSaysRow.holds Tryz.pinned (OpenSpec.ofChange tailSaysSpec)

/-- ITS FALSE NEIGHBOUR: 'it returns false'. Refute it at one input. -/
def tailSaysWrong : ChangeSpec := { name := "tailSays", fn := fun _ => fun
  | [d] => { results := [.lit (.bool false)], args := [d] }
  | _ => none }
def TailSaysWrongFalsely : Prop := tailSaysRow.holds Tryz.pinned (OpenSpec.ofChange tailSaysWrong)

/-- 'turnerylaw5.TailGone': WHATEVER THE INPUT: true; the input reads as it did. -/
def tailGoneSpec : ChangeSpec := { name := "tailGone", fn := fun _ => fun
  | [d] => { results := [.lit (.bool true)], args := [d] }
  | _ => none }
def tailGoneRow : OpenClaim := { program := "ytecdphhdmjmmnaagreatdoor", sum := "a4082a5161a972edbd1db8d9372d9d0cf36c8bffc2bd9f52feb0ba3333f6a839", func := "turnery/turnerylaw5.TailGone", spec := "tailGone", inPlace := ["slices.overlaps[turnery/api.Val]", "slices.overlaps[turnery/api.Block]"], unfollowed := true, recurses := true, named := ["turnery/code.ways"], apart := false, laid := [("turnery/code.ways", laid_turnery_code_ways)] }
def TailGoneSaid : Prop := tailGoneRow.holds Tryz.pinned (OpenSpec.ofChange tailGoneSpec)

/-- ITS FALSE NEIGHBOUR: 'it returns false'. Refute it at one input. -/
def tailGoneWrong : ChangeSpec := { name := "tailGone", fn := fun _ => fun
  | [d] => { results := [.lit (.bool false)], args := [d] }
  | _ => none }
def TailGoneWrongFalsely : Prop := tailGoneRow.holds Tryz.pinned (OpenSpec.ofChange tailGoneWrong)

/-- 'turnerylaw5.TailRest': WHATEVER THE INPUT: true; the input reads as it did. -/
def tailRestSpec : ChangeSpec := { name := "tailRest", fn := fun _ => fun
  | [d] => { results := [.lit (.bool true)], args := [d] }
  | _ => none }
def tailRestRow : OpenClaim := { program := "ytecdphhdmjmmnaagreatdoor", sum := "a4082a5161a972edbd1db8d9372d9d0cf36c8bffc2bd9f52feb0ba3333f6a839", func := "turnery/turnerylaw5.TailRest", spec := "tailRest", inPlace := ["slices.overlaps[turnery/api.Val]", "slices.overlaps[turnery/api.Block]"], unfollowed := true, recurses := true, named := ["turnery/code.ways"], apart := false, laid := [("turnery/code.ways", laid_turnery_code_ways)] }
def TailRestSaid : Prop := tailRestRow.holds Tryz.pinned (OpenSpec.ofChange tailRestSpec)

/-- ITS FALSE NEIGHBOUR: 'it returns false'. Refute it at one input. -/
def tailRestWrong : ChangeSpec := { name := "tailRest", fn := fun _ => fun
  | [d] => { results := [.lit (.bool false)], args := [d] }
  | _ => none }
def TailRestWrongFalsely : Prop := tailRestRow.holds Tryz.pinned (OpenSpec.ofChange tailRestWrong)

/-- 'turnerylaw5.TailMean': WHATEVER THE INPUT: true; the input reads as it did. -/
def tailMeanSpec : ChangeSpec := { name := "tailMean", fn := fun _ => fun
  | [d1, d2, d3] => { results := [.lit (.bool true)], args := [d1, d2, d3] }
  | _ => none }
def tailMeanRow : OpenClaim := { program := "ytecdphhdmjmmnaagreatdoor", sum := "a4082a5161a972edbd1db8d9372d9d0cf36c8bffc2bd9f52feb0ba3333f6a839", func := "turnery/turnerylaw5.TailMean", spec := "tailMean", inPlace := ["slices.overlaps[turnery/api.Val]", "slices.overlaps[turnery/api.Block]"], unfollowed := true, recurses := true, named := ["turnery/code.ways"], apart := false, laid := [("turnery/code.ways", laid_turnery_code_ways)] }
def TailMeanSaid : Prop := tailMeanRow.holds Tryz.pinned (OpenSpec.ofChange tailMeanSpec)

/-- ITS FALSE NEIGHBOUR: 'it returns false'. Refute it at one input. -/
def tailMeanWrong : ChangeSpec := { name := "tailMean", fn := fun _ => fun
  | [d1, d2, d3] => { results := [.lit (.bool false)], args := [d1, d2, d3] }
  | _ => none }
def TailMeanWrongFalsely : Prop := tailMeanRow.holds Tryz.pinned (OpenSpec.ofChange tailMeanWrong)

/-- 'turnerylaw5.TailFar': WHATEVER THE INPUT: true; the input reads as it did. -/
def tailFarSpec : ChangeSpec := { name := "tailFar", fn := fun _ => fun
  | [d] => { results := [.lit (.bool true)], args := [d] }
  | _ => none }
def tailFarRow : OpenClaim := { program := "ytecdphhdmjmmnaagreatdoor", sum := "a4082a5161a972edbd1db8d9372d9d0cf36c8bffc2bd9f52feb0ba3333f6a839", func := "turnery/turnerylaw5.TailFar", spec := "tailFar", inPlace := ["slices.overlaps[turnery/api.Val]", "slices.overlaps[turnery/api.Block]"], unfollowed := true, recurses := true, named := ["turnery/code.ways"], apart := false, laid := [("turnery/code.ways", laid_turnery_code_ways)] }
def TailFarSaid : Prop := tailFarRow.holds Tryz.pinned (OpenSpec.ofChange tailFarSpec)

/-- ITS FALSE NEIGHBOUR: 'it returns false'. Refute it at one input. -/
def tailFarWrong : ChangeSpec := { name := "tailFar", fn := fun _ => fun
  | [d] => { results := [.lit (.bool false)], args := [d] }
  | _ => none }
def TailFarWrongFalsely : Prop := tailFarRow.holds Tryz.pinned (OpenSpec.ofChange tailFarWrong)

/-- 'turnerylaw5.TailCalls': WHATEVER THE INPUT: true; the input reads as it did. -/
def tailCallsSpec : ChangeSpec := { name := "tailCalls", fn := fun _ => fun
  | [d] => { results := [.lit (.bool true)], args := [d] }
  | _ => none }
def tailCallsRow : OpenClaim := { program := "ytecdphhdmjmmnaagreatdoor", sum := "a4082a5161a972edbd1db8d9372d9d0cf36c8bffc2bd9f52feb0ba3333f6a839", func := "turnery/turnerylaw5.TailCalls", spec := "tailCalls", inPlace := ["slices.overlaps[turnery/api.Val]", "slices.overlaps[turnery/api.Block]"], unfollowed := true, recurses := true, named := ["turnery/code.ways"], apart := false, laid := [("turnery/code.ways", laid_turnery_code_ways)] }
def TailCallsSaid : Prop := tailCallsRow.holds Tryz.pinned (OpenSpec.ofChange tailCallsSpec)

/-- ITS FALSE NEIGHBOUR: 'it returns false'. Refute it at one input. -/
def tailCallsWrong : ChangeSpec := { name := "tailCalls", fn := fun _ => fun
  | [d] => { results := [.lit (.bool false)], args := [d] }
  | _ => none }
def TailCallsWrongFalsely : Prop := tailCallsRow.holds Tryz.pinned (OpenSpec.ofChange tailCallsWrong)

/- THE SECOND FORM. 'bulk': how many values and letters a reading holds, each counted each time it is reached (what is shared counts as often as it is met; a slice's spare places count too). A statement '..UptoSaid' is the law's where the arguments, and the package variables that the reading takes, are together of bulk at most 1048576: NARROWER than '..Said'. Prove '..Said' where nothing that the law and all that it calls make is longer than what came in: it says more and counts as full. Else prove '..UptoSaid'. A law counts once. -/
mutual
def uptoBulk {H : Type} : DataW H → Nat
  | .lit (.string bytes) => bytes.length + 1
  | .lit _ => 1
  | .nil => 1
  | .ptr d => uptoBulk d + 1
  | .slice elems spare => uptoBulkAll elems + uptoBulkAll spare + 1
  | .agg parts => uptoBulkAll parts + 1
  | .iface _ d => uptoBulk d + 1
  | .map entries => uptoBulkEntries entries + 1
  | .held _ => 1
def uptoBulkAll {H : Type} : List (DataW H) → Nat
  | [] => 0
  | d :: r => uptoBulk d + uptoBulkAll r
def uptoBulkEntries {H : Type} : List (Lit × DataW H) → Nat
  | [] => 0
  | x :: r => uptoBulkEntry x + uptoBulkEntries r
def uptoBulkEntry {H : Type} : Lit × DataW H → Nat
  | (.string bytes, d) => bytes.length + uptoBulk d + 1
  | (_, d) => uptoBulk d + 1
 end
def uptoSmall : (H : Type) → List (DataW H) → Bool := fun _ ds => decide (uptoBulkAll ds ≤ 1048576)
def OpenSpec.upto (s : _root_.Go.ChangeSpec) : _root_.Go.OpenSpec := { _root_.Go.OpenSpec.ofChange s with cond := some uptoSmall }

/-- 'turnerylaw5.TailSays', WHERE WHAT IT READS IS OF BULK AT MOST 1048576: true; the input reads as it did. -/
def tailSaysUptoRow : OpenClaim := { program := "ytecdphhdmjmmnaagreatdoor", sum := "a4082a5161a972edbd1db8d9372d9d0cf36c8bffc2bd9f52feb0ba3333f6a839", func := "turnery/turnerylaw5.TailSays", spec := "tailSays", inPlace := ["slices.overlaps[turnery/api.Val]", "slices.overlaps[turnery/api.Block]"], unfollowed := true, recurses := true, named := ["turnery/code.ways"], apart := false, laid := [("turnery/code.ways", laid_turnery_code_ways)], narrowed := true }
def TailSaysUptoSaid : Prop := tailSaysUptoRow.holds Tryz.pinned (OpenSpec.upto tailSaysSpec)

/-- 'turnerylaw5.TailGone', WHERE WHAT IT READS IS OF BULK AT MOST 1048576: true; the input reads as it did. -/
def tailGoneUptoRow : OpenClaim := { program := "ytecdphhdmjmmnaagreatdoor", sum := "a4082a5161a972edbd1db8d9372d9d0cf36c8bffc2bd9f52feb0ba3333f6a839", func := "turnery/turnerylaw5.TailGone", spec := "tailGone", inPlace := ["slices.overlaps[turnery/api.Val]", "slices.overlaps[turnery/api.Block]"], unfollowed := true, recurses := true, named := ["turnery/code.ways"], apart := false, laid := [("turnery/code.ways", laid_turnery_code_ways)], narrowed := true }
def TailGoneUptoSaid : Prop := tailGoneUptoRow.holds Tryz.pinned (OpenSpec.upto tailGoneSpec)

/-- 'turnerylaw5.TailRest', WHERE WHAT IT READS IS OF BULK AT MOST 1048576: true; the input reads as it did. -/
def tailRestUptoRow : OpenClaim := { program := "ytecdphhdmjmmnaagreatdoor", sum := "a4082a5161a972edbd1db8d9372d9d0cf36c8bffc2bd9f52feb0ba3333f6a839", func := "turnery/turnerylaw5.TailRest", spec := "tailRest", inPlace := ["slices.overlaps[turnery/api.Val]", "slices.overlaps[turnery/api.Block]"], unfollowed := true, recurses := true, named := ["turnery/code.ways"], apart := false, laid := [("turnery/code.ways", laid_turnery_code_ways)], narrowed := true }
def TailRestUptoSaid : Prop := tailRestUptoRow.holds Tryz.pinned (OpenSpec.upto tailRestSpec)

/-- 'turnerylaw5.TailMean', WHERE WHAT IT READS IS OF BULK AT MOST 1048576: true; the input reads as it did. -/
def tailMeanUptoRow : OpenClaim := { program := "ytecdphhdmjmmnaagreatdoor", sum := "a4082a5161a972edbd1db8d9372d9d0cf36c8bffc2bd9f52feb0ba3333f6a839", func := "turnery/turnerylaw5.TailMean", spec := "tailMean", inPlace := ["slices.overlaps[turnery/api.Val]", "slices.overlaps[turnery/api.Block]"], unfollowed := true, recurses := true, named := ["turnery/code.ways"], apart := false, laid := [("turnery/code.ways", laid_turnery_code_ways)], narrowed := true }
def TailMeanUptoSaid : Prop := tailMeanUptoRow.holds Tryz.pinned (OpenSpec.upto tailMeanSpec)

/-- 'turnerylaw5.TailFar', WHERE WHAT IT READS IS OF BULK AT MOST 1048576: true; the input reads as it did. -/
def tailFarUptoRow : OpenClaim := { program := "ytecdphhdmjmmnaagreatdoor", sum := "a4082a5161a972edbd1db8d9372d9d0cf36c8bffc2bd9f52feb0ba3333f6a839", func := "turnery/turnerylaw5.TailFar", spec := "tailFar", inPlace := ["slices.overlaps[turnery/api.Val]", "slices.overlaps[turnery/api.Block]"], unfollowed := true, recurses := true, named := ["turnery/code.ways"], apart := false, laid := [("turnery/code.ways", laid_turnery_code_ways)], narrowed := true }
def TailFarUptoSaid : Prop := tailFarUptoRow.holds Tryz.pinned (OpenSpec.upto tailFarSpec)

/-- 'turnerylaw5.TailCalls', WHERE WHAT IT READS IS OF BULK AT MOST 1048576: true; the input reads as it did. -/
def tailCallsUptoRow : OpenClaim := { program := "ytecdphhdmjmmnaagreatdoor", sum := "a4082a5161a972edbd1db8d9372d9d0cf36c8bffc2bd9f52feb0ba3333f6a839", func := "turnery/turnerylaw5.TailCalls", spec := "tailCalls", inPlace := ["slices.overlaps[turnery/api.Val]", "slices.overlaps[turnery/api.Block]"], unfollowed := true, recurses := true, named := ["turnery/code.ways"], apart := false, laid := [("turnery/code.ways", laid_turnery_code_ways)], narrowed := true }
def TailCallsUptoSaid : Prop := tailCallsUptoRow.holds Tryz.pinned (OpenSpec.upto tailCallsSpec)

end Rows
end Go.Proofs.YtecdphhdmjmmnaaGreatDoor
