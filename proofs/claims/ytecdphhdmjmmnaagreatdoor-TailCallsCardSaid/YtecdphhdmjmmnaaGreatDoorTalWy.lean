/-
  TailCalls holds: for every input that reads as data the law returns true and the arguments read as they did. Condition: the listed variable code.ways holds what the program's text lays (tied by the card).
-/
import Derived.Test.YtecdphhdmjmmnaaGreatDoorCards
import Derived.Test.YtecdphhdmjmmnaaGreatDoorTie
import Derived.SevenTiedAt
import Derived.Test.YtecdphhdmjmmnaaGreatDoorJTalW
set_option maxRecDepth 100000
set_option maxHeartbeats 16000000
namespace Go.Proofs.YtecdphhdmjmmnaaGreatDoor
open Go Go.RowKit Go.ChangeShapes Go.WideShapes Go.ChangeAt

theorem Zt:∀t∈[25],Tryz.prog.readableRec t=true∧t<Tryz.prog.types.size:=by
 have h:∀t∈[25],(Tryz.prog.readableRec t&&decide (t<Tryz.prog.types.size))=true:=List.all_eq_true.1 (by kernel_rfl)
 intro t ht
 have:=h t ht
 simp only[Bool.and_eq_true,decide_eq_true_eq]at this
 exact this

theorem Qq (os:Os) (started:os.Started) (H:Type) (enc:TypeId×Value→H) :
  ReturnsInHanded {} Tryz.checked os 8 .any (fun w args=>(Rows.tailCallsSpec.pre enc Tryz.prog Tryz.f8 [] false w args∧laidMetH Tryz.prog jz w)∧sizedMet enc Tryz.prog Tryz.f8 (OpenSpec.ofChange Rows.tailCallsSpec) false w args)
   (Rows.tailCallsSpec.post enc Tryz.prog Tryz.f8 false true false false):=by
 refine returnsInHanded_of_change_and (C:=Tryz.checked) (X:=fun w _=>laidMetH Tryz.prog jz w) (fun _ _ _ hh h=>h.of_heap hh) own started (by kernel_rfl) Tryz.func8
  (ChangeSpec.witness_shaped (enc:=enc) (C:=Tryz.checked) (os:=os) (X:=fun w _=>laidMetH Tryz.prog jz w) false (World.doorLaid Tryz.prog 400 os) #[.agg #[.slice none 0 0,.slice none 0 0]] 8 rfl (World.shaped_of_RefB (by kernel_rfl) (by kernel_rfl)) (by kernel_rfl) (by kernel_rfl) (by kernel_rfl) (JF os _)) ?_
 intro W base args ds gs before hval0 hW _ hsz0 hL _
 have hval:∀(j:Nat) t v,Tryz.f8.params[j]?=some t→args[j]?=some v→Value.okWide Tryz.prog W .any base t v:=hval0
 have hsz:(DataW.weightsEach Tryz.prog (Tryz.f8.params.toList++Rows.tailCallsSpec.plain.varTypes Tryz.prog) (ds++gs)).all (·≤reachBytes)=true:=hsz0
 have hdQ:Ways W:=Qj hL
 have hW':=hW
 obtain⟨p,q,hA0,hV,rfl,hfz,hnd⟩:=hW
 have hA:DataW.TrodAll enc Tryz.prog W 0 (fun _=>true) true Tryz.f8.params.toList args.toList ds p:=hA0
 rw[Tryz.params8]at hA hval hsz
 obtain⟨v0,d0,rfl,rfl,h0⟩:=trodAll_one hA
 obtain⟨rfl,rfl⟩:=trodVars_none hV
 clear hA0 hval0 hsz0
 have hw0:∀k∈d0.weights Tryz.prog 25,k≤reachBytes:=by
  intro k hk
  have:=List.all_eq_true.1 hsz k (by
   show k∈DataW.weightsEach Tryz.prog (25::_) (d0::_)
   simp only[DataW.weightsEach]
   exact List.mem_append_left _ hk)
  simpa using this
 obtain⟨fuel0,hf0⟩:=h0
 obtain⟨u0,a0,b0,hau,hg0,hfK⟩:=rd_uni hf0 hw0
 obtain⟨cs0,rfl,hfL⟩:=okWide_struct Tryz.underlying25 (hval 0 25 v0 rfl rfl)
 obtain⟨gp0,gc0,rfl,hqa,hG0⟩:=hg0.out
 obtain⟨fp0,fc0,rfl,hqf,hF0⟩:=hfK.out
 have hdR:cs0=#[.slice gp0 u0.globals.length gc0,.slice fp0 u0.funcs.length fc0]:=by
  apply Array.toList_inj.1
  exact hau
 subst hdR
 refine(tal_all u0 gp0 fp0 gc0 fc0 W hg0 hfK hdQ).mono fun e W' ⟨he,hb⟩=>?_
 exact⟨_,he,Vm laidOut rfl Tryz.underlying4 (by rw[Tryz.params8];exact Zt) rfl hW' rfl hb⟩

theorem tailCalls_named:Tryz.pinned.checked.prog.funcNamed Rows.tailCallsRow.func=some 8:=by kernel_rfl
theorem Qr:joinedFacts Tryz.pinned.checked.prog 8 Tryz.f8 Rows.tailCallsSpec Rows.tailCallsRow=true:=by kernel_rfl
theorem JH:Rows.tailCallsRow.wfByText (OpenSpec.ofChange Rows.tailCallsSpec)=true:=by kernel_rfl
theorem Zl:false=Tryz.pinned.checked.prog.looks []:=by kernel_rfl
theorem Zu:false=Rows.tailCallsRow.goesBy Tryz.pinned.checked.prog:=by kernel_rfl
theorem TailCalls_row:Rows.TailCallsSaid:=
 OpenClaim.holds_of_wide 8 Tryz.f8 rfl rfl rfl rfl rfl rfl rfl ⟨rfl,rfl,rfl,rfl,rfl⟩ rfl rfl rfl rfl rfl tailCalls_named Tryz.func8 Qr
  (of_decide_eq_true (by kernel_rfl)) (by unfold Func.isWrapper;first|(rw[if_pos (by decide +kernel)];kernel_rfl)|(rw[if_neg (by decide +kernel)];exact⟨rfl,rfl⟩))
  (fun os started H enc _=>Qq os started H enc)

theorem TailCalls_holds:Rows.TailCallsCardSaid:=
 Claim7.holds_tied_plain_at .later [] [.data] true Rows.tailCallsCard.stood.harness false
  TailCalls_row (fun _ h=>by cases h) JH (fun _ h=>by cases h) tailCalls_row_tie rfl ⟨rfl,rfl⟩ (by kernel_rfl) rfl
  (fun f fn hf hfn=>by
   obtain rfl:f=8:=Option.some.inj (tailCalls_named.symm.trans hf) |>.symm
   obtain rfl:fn=Tryz.f8:=(Option.some.inj (Tryz.func8.symm.trans hfn)).symm
   exact⟨Zl,fun j t ht=>by
    rw[Tryz.params8]at ht
    have hm:t∈[25]:=by simpa using Array.mem_of_getElem? ht
    have hall:([25].all fun u=>!Tryz.prog.wantsStandIn u)=true:=by kernel_rfl
    exact(show Tryz.prog.wantsStandIn t=false by simpa using List.all_eq_true.1 hall t hm)⟩)
  Zu
#print axioms TailCalls_holds
end Go.Proofs.YtecdphhdmjmmnaaGreatDoor
