/-
  SpanSsa holds: for every input that reads as data the law returns true and the arguments read as they did. Condition: the listed variables code.ways and span.all hold what the program's text lays (tied by the card).
-/
import Derived.Test.YtbnnhmcloecijaaGreatDoorCards
import Derived.Test.YtbnnhmcloecijaaGreatDoorTie
import Derived.SevenTiedAt
import Derived.Test.YtbnnhmcloecijaaGreatDoorLaidS
set_option maxRecDepth 100000
set_option maxHeartbeats 16000000
namespace Go.Proofs.YtbnnhmcloecijaaGreatDoor
open Go Go.RowKit Go.ChangeShapes Go.WideShapes Go.ChangeAt

theorem VV:∀t∈[25],Tryz.prog.readableRec t=true∧t<Tryz.prog.types.size:=by
 have h:∀t∈[25],(Tryz.prog.readableRec t&&decide (t<Tryz.prog.types.size))=true:=List.all_eq_true.1 (by kernel_rfl)
 intro t ht
 have:=h t ht
 simp only [Bool.and_eq_true,yY] at this
 exact this

theorem XA (os:Os) (started:os.Started) (H:Type) (enc:TypeId×Value→H) :
  ReturnsInHanded {} Tryz.checked os 5 .any (fun w args=>(Rows.spanSsaSpec.pre enc Tryz.prog Tryz.f5 [] false w args∧laidMetH Tryz.prog QO w)∧sizedMet enc Tryz.prog Tryz.f5 (OpenSpec.ofChange Rows.spanSsaSpec) false w args)
   (Rows.spanSsaSpec.post enc Tryz.prog Tryz.f5 false true false false):=by
 refine returnsInHanded_of_change_and (C:=Tryz.checked) (X:=fun w _=>laidMetH Tryz.prog QO w) (fun _ _ _ hh h=>h.of_heap hh) own started (by kernel_rfl) Tryz.func5
  (ChangeSpec.witness_shaped (enc:=enc) (C:=Tryz.checked) (os:=os) (X:=fun w _=>laidMetH Tryz.prog QO w) false (World.doorLaid Tryz.prog 400 os) #[.agg #[.slice none 0 0,.slice none 0 0]] 8 rfl (World.shaped_of_RefB (by kernel_rfl) (by kernel_rfl)) (by kernel_rfl) (by kernel_rfl) (by kernel_rfl) (door_span os _)) ?_
 intro W base args ds gs before hval0 hW _ hsz0 hL _
 have hval:∀(j:Nat) t v,Tryz.f5.params[j]?=some t→args[j]?=some v→Value.okWide Tryz.prog W .any base t v:=hval0
 have hsz:(DataW.weightsEach Tryz.prog (Tryz.f5.params.toList++Rows.spanSsaSpec.plain.varTypes Tryz.prog) (ds++gs)).all (·≤reachBytes)=true:=hsz0
 obtain ⟨hdC,hall⟩:=VU hL
 have hW':=hW
 obtain ⟨p,q,hA0,hV,rfl,hfz,hnd⟩:=hW
 have hA:DataW.TrodAll enc Tryz.prog W 0 (fun _=>true) true Tryz.f5.params.toList args.toList ds p:=hA0
 rw [Tryz.params5] at hA hval hsz
 obtain ⟨v0,d0,rfl,rfl,h0⟩:=trodAll_one hA
 obtain ⟨rfl,rfl⟩:=trodVars_none hV
 clear hA0 hval0 hsz0
 have hw0:∀k∈d0.weights Tryz.prog 25,k≤reachBytes:=by
  intro k hk
  have:=List.all_eq_true.1 hsz k (by
   show k∈DataW.weightsEach Tryz.prog (25::_) (d0::_)
   simp only [DataW.weightsEach]
   exact yE _ hk)
  simpa using this
 obtain ⟨fuel0,hf0⟩:=h0
 obtain ⟨u0,a0,b0,haX,hg0,hpQ⟩:=rd_uni hf0 hw0
 obtain ⟨cs0,rfl,hpR⟩:=okWide_struct Tryz.underlying25 (hval 0 25 v0 rfl rfl)
 obtain ⟨gp0,gc0,rfl,hvQ,hG0⟩:=hg0.out
 obtain ⟨fp0,fc0,rfl,hvS,hF0⟩:=hpQ.out
 have hlM:cs0=#[.slice gp0 u0.globals.length gc0,.slice fp0 u0.funcs.length fc0]:=by
  apply Array.toList_inj.1
  exact haX
 subst hlM
 refine (ssas_all u0 gp0 fp0 gc0 fc0 W hg0 hpQ hdC hall).mono fun e W' ⟨he,hb⟩=>?_
 exact ⟨_,he,law_post laidOut rfl Tryz.underlying4 (by rw [Tryz.params5];exact VV) rfl hW' rfl hb⟩

theorem spanSsa_named:Tryz.pinned.checked.prog.funcNamed Rows.spanSsaRow.func=some 5:=by kernel_rfl
theorem XB:joinedFacts Tryz.pinned.checked.prog 5 Tryz.f5 Rows.spanSsaSpec Rows.spanSsaRow=true:=by kernel_rfl
theorem mK:Rows.spanSsaRow.wfByText (OpenSpec.ofChange Rows.spanSsaSpec)=true:=by kernel_rfl
theorem JR:false=Tryz.pinned.checked.prog.looks []:=by kernel_rfl
theorem VW:false=Rows.spanSsaRow.goesBy Tryz.pinned.checked.prog:=by kernel_rfl
theorem SpanSsa_row:Rows.SpanSsaSaid:=
 OpenClaim.holds_of_wide 5 Tryz.f5 rfl rfl rfl rfl rfl rfl rfl ⟨rfl,rfl,rfl,rfl,rfl⟩ rfl rfl rfl rfl rfl spanSsa_named Tryz.func5 XB
  (of_decide_eq_true (by kernel_rfl)) (by unfold Func.isWrapper;first|(rw [zZ (by decide +kernel)];kernel_rfl)|(rw [zQ (by decide +kernel)];exact ⟨rfl,rfl⟩))
  (fun os started H enc _=>XA os started H enc)

theorem SpanSsa_holds:Rows.SpanSsaCardSaid:=
 Claim7.holds_tied_plain_at .later [] [.data,.data] true Rows.spanSsaCard.stood.harness false
  SpanSsa_row (fun _ h=>by cases h) mK (fun _ h=>by cases h) spanSsa_row_tie rfl ⟨rfl,rfl⟩ (by kernel_rfl) rfl
  (fun f fn hf hfn=>by
   obtain rfl:f=5:=Option.some.inj (spanSsa_named.symm.trans hf) |>.symm
   obtain rfl:fn=Tryz.f5:=(Option.some.inj (Tryz.func5.symm.trans hfn)).symm
   exact ⟨JR,fun j t ht=>by
    rw [Tryz.params5] at ht
    have hm:t∈[25]:=by simpa using Array.mem_of_getElem? ht
    have hall:([25].all fun u=>!Tryz.prog.wantsStandIn u)=true:=by kernel_rfl
    exact (show Tryz.prog.wantsStandIn t=false by simpa using List.all_eq_true.1 hall t hm)⟩)
  VW
#print axioms SpanSsa_holds
end Go.Proofs.YtbnnhmcloecijaaGreatDoor
