/-
  TailSays holds: for every input that reads as data the law returns true and the arguments read as they did. Condition: the listed variable code.ways holds what the program's text lays (tied by the card).
-/
import Derived.Test.YtecdphhdmjmmnaaGreatDoorCards
import Derived.Test.YtecdphhdmjmmnaaGreatDoorTie
import Derived.SevenTiedAt
import Derived.Test.YtecdphhdmjmmnaaGreatDoorJLaidW
set_option maxRecDepth 100000
set_option maxHeartbeats 16000000
namespace Go.Proofs.YtecdphhdmjmmnaaGreatDoor
open Go Go.RowKit Go.ChangeShapes Go.WideShapes Go.ChangeAt

theorem X8:∀t∈[25],Tryz.prog.readableRec t=true∧t<Tryz.prog.types.size:=by
 have h:∀t∈[25],(Tryz.prog.readableRec t&&decide (t<Tryz.prog.types.size))=true:=List.all_eq_true.1 (by kernel_rfl)
 intro t ht
 have:=h t ht
 simp only[Bool.and_eq_true,decide_eq_true_eq]at this
 exact this

theorem Z0 (os:Os) (started:os.Started) (H:Type) (enc:TypeId×Value→H) :
  ReturnsInHanded {} Tryz.checked os 3 .any (fun w args=>(Rows.tailSaysSpec.pre enc Tryz.prog Tryz.f3 [] false w args∧laidMetH Tryz.prog kJ w)∧sizedMet enc Tryz.prog Tryz.f3 (OpenSpec.ofChange Rows.tailSaysSpec) false w args)
   (Rows.tailSaysSpec.post enc Tryz.prog Tryz.f3 false true false false):=by
 refine returnsInHanded_of_change_and (C:=Tryz.checked) (X:=fun w _=>laidMetH Tryz.prog kJ w) (fun _ _ _ hh h=>h.of_heap hh) own started (by kernel_rfl) Tryz.func3
  (ChangeSpec.witness_shaped (enc:=enc) (C:=Tryz.checked) (os:=os) (X:=fun w _=>laidMetH Tryz.prog kJ w) false (World.doorLaid Tryz.prog 400 os) #[.agg #[.slice none 0 0,.slice none 0 0]] 8 rfl (World.shaped_of_RefB (by kernel_rfl) (by kernel_rfl)) (by kernel_rfl) (by kernel_rfl) (by kernel_rfl) (door_ways os _)) ?_
 intro W base args ds gs before hval0 hW _ hsz0 hL _
 have hval:∀(j:Nat) t v,Tryz.f3.params[j]?=some t→args[j]?=some v→Value.okWide Tryz.prog W .any base t v:=hval0
 have hsz:(DataW.weightsEach Tryz.prog (Tryz.f3.params.toList++Rows.tailSaysSpec.plain.varTypes Tryz.prog) (ds++gs)).all (·≤reachBytes)=true:=hsz0
 have hkK:Ways W:=Jh hL
 have hW':=hW
 obtain⟨p,q,hA0,hV,rfl,hfz,hnd⟩:=hW
 have hA:DataW.TrodAll enc Tryz.prog W 0 (fun _=>true) true Tryz.f3.params.toList args.toList ds p:=hA0
 rw[Tryz.params3]at hA hval hsz
 obtain⟨v0,d0,rfl,rfl,h0⟩:=trodAll_one hA
 obtain⟨rfl,rfl⟩:=trodVars_none hV
 clear hA0 hval0 hsz0
 have hw0:∀k∈d0.weights Tryz.prog 25,k≤reachBytes:=by
  intro k hk
  have:=List.all_eq_true.1 hsz k (by
   show k∈DataW.weightsEach Tryz.prog (25::_) (d0::_)
   simp only[DataW.weightsEach]
   exact List.mem_append_left _ hk)
  simpa using this
 obtain⟨fuel0,hf0⟩:=h0
 obtain⟨u0,a0,b0,haF,hg0,hoQ⟩:=rd_uni hf0 hw0
 obtain⟨cs0,rfl,hoR⟩:=okWide_struct Tryz.underlying25 (hval 0 25 v0 rfl rfl)
 obtain⟨gp0,gc0,rfl,hug,hG0⟩:=hg0.out
 obtain⟨fp0,fc0,rfl,huh,hF0⟩:=hoQ.out
 have hkL:cs0=#[.slice gp0 u0.globals.length gc0,.slice fp0 u0.funcs.length fc0]:=by
  apply Array.toList_inj.1
  exact haF
 subst hkL
 refine(tsa_all u0 gp0 fp0 gc0 fc0 W hg0 hoQ hkK).mono fun e W' ⟨he,hb⟩=>?_
 exact⟨_,he,law_post laidOut rfl Tryz.underlying4 (by rw[Tryz.params3];exact X8) rfl hW' rfl hb⟩

theorem tailSays_named:Tryz.pinned.checked.prog.funcNamed Rows.tailSaysRow.func=some 3:=by kernel_rfl
theorem Z1:joinedFacts Tryz.pinned.checked.prog 3 Tryz.f3 Rows.tailSaysSpec Rows.tailSaysRow=true:=by kernel_rfl
theorem JQ:Rows.tailSaysRow.wfByText (OpenSpec.ofChange Rows.tailSaysSpec)=true:=by kernel_rfl
theorem Z5:false=Tryz.pinned.checked.prog.looks []:=by kernel_rfl
theorem X9:false=Rows.tailSaysRow.goesBy Tryz.pinned.checked.prog:=by kernel_rfl
theorem TailSays_row:Rows.TailSaysSaid:=
 OpenClaim.holds_of_wide 3 Tryz.f3 rfl rfl rfl rfl rfl rfl rfl ⟨rfl,rfl,rfl,rfl,rfl⟩ rfl rfl rfl rfl rfl tailSays_named Tryz.func3 Z1
  (of_decide_eq_true (by kernel_rfl)) (by unfold Func.isWrapper;first|(rw[if_pos (by decide +kernel)];kernel_rfl)|(rw[if_neg (by decide +kernel)];exact⟨rfl,rfl⟩))
  (fun os started H enc _=>Z0 os started H enc)

theorem TailSays_holds:Rows.TailSaysCardSaid:=
 Claim7.holds_tied_plain_at .later [] [.data] true Rows.tailSaysCard.stood.harness false
  TailSays_row (fun _ h=>by cases h) JQ (fun _ h=>by cases h) tailSays_row_tie rfl ⟨rfl,rfl⟩ (by kernel_rfl) rfl
  (fun f fn hf hfn=>by
   obtain rfl:f=3:=Option.some.inj (tailSays_named.symm.trans hf) |>.symm
   obtain rfl:fn=Tryz.f3:=(Option.some.inj (Tryz.func3.symm.trans hfn)).symm
   exact⟨Z5,fun j t ht=>by
    rw[Tryz.params3]at ht
    have hm:t∈[25]:=by simpa using Array.mem_of_getElem? ht
    have hall:([25].all fun u=>!Tryz.prog.wantsStandIn u)=true:=by kernel_rfl
    exact(show Tryz.prog.wantsStandIn t=false by simpa using List.all_eq_true.1 hall t hm)⟩)
  X9
#print axioms TailSays_holds
end Go.Proofs.YtecdphhdmjmmnaaGreatDoor
