/-
  The listed variables code.ways and span.all: what the row's condition gives the walks; the
-/
import Derived.Test.YtbnnhmcloecijaaGreatDoorJLaidW
namespace Go.Proofs.YtbnnhmcloecijaaGreatDoor
open Go.ChangeShapes Go.WideShapes Go.ChangeAt Go.RowKit

def QO:List (String×DataW Unit):=Rows.spanSaysRow.laid
def nameS0 : String := (Rows.spanSaysRow.laid.map (·.1)).headD ""
def nameS1 : String := (Rows.spanSaysRow.laid.map (·.1)).getD 1 ""
theorem gS0:Tryz.prog.globalNamed nameS0=some 1:=by kernel_rfl
theorem gS1:Tryz.prog.globalNamed nameS1=some 0:=by kernel_rfl
theorem tS1:(Tryz.prog.globals[0]?).map (·.type)=some 59:=by kernel_rfl
theorem door_span (os:Os) (args:Array Value):laidMetH Tryz.prog QO ((World.doorLaid Tryz.prog 400 os).forCall (fun _ _=>0) ⟨#[],args,[]⟩).memory:=
 laidMetH_of_parts3 (fuel:=8) (laidMet_of_run' 8 (by kernel_rfl) (by kernel_rfl)) (by kernel_rfl) (by kernel_rfl)

theorem VU {W:World} (h:laidMetH Tryz.prog QO W):Ways W∧AllW W:=by
 rw [MakeChecks.laidMetH_plain _ _ _ (by kernel_rfl)] at h
 obtain ⟨ps,⟨g1,t1,cs1,f1,p1,q1,hg1,ht1,hv1,hd1,⟨g2,t2,cs2,f2,p2,q2,hg2,ht2,hv2,hd2,_,_⟩,_⟩,_,_⟩:=h
 obtain rfl:=Option.some.inj (gS0.symm.trans hg1)
 obtain rfl:=Option.some.inj (tWays.symm.trans ht1)
 obtain rfl:=Option.some.inj (gS1.symm.trans hg2)
 obtain rfl:=Option.some.inj (tS1.symm.trans ht2)
 have c3:Tryz.prog.cellsOf 3=1:=by kernel_rfl
 have one:∀(m:Nat) (a:Value) (x:DataW Unit×List MemPlace) (n:Int),DataW.trod (fun _=>()) Tryz.prog W 0 (fun _=>true) false m 3 [a]=some x→DataW.lit (.int .i64 n)=x.1→a = .int .i64 n:=fun m a x n h e=>by
  obtain ⟨k,e1,e2,_⟩:=DataW.trod_int Tryz.underlying3 (show DataW.trod _ Tryz.prog W 0 _ false m 3 _=some x from h)
  rw [e2] at e
  simp at e e1
  rw [e1,e]
 refine ⟨?_,?_⟩
 ·obtain ⟨xs,m1,rfl,hx1,hlen,hn4,hel⟩:=DataW.trod_array Tryz.underlying189 hd1
  have c4:Tryz.prog.cellsOf 189=4:=by kernel_rfl
  rw [c4] at hlen
  obtain ⟨l1⟩:=cs1
  obtain ⟨a0,a1,a2,a3,rfl⟩:=YQ (show l1.length=4 from hlen)
  obtain ⟨x0,x1,x2,x3,rfl⟩:=YQ hn4
  simp only [Rows.laid_turnery_code_ways,yS,yw,Prod.mk.injEq,DataW.agg.injEq,List.cons.injEq] at hx1
  rw [c3] at hel
  have hv:=World.var?_cell hg1 hv1
  obtain ⟨⟨e0,e1,e2,e3,_⟩,_⟩:=hx1
  obtain rfl:=one m1 a0 x0 0 (hel 0 (by decide)) e0
  obtain rfl:=one m1 a1 x1 0 (hel 1 (by decide)) e1
  obtain rfl:=one m1 a2 x2 1 (hel 2 (by decide)) e2
  obtain rfl:=one m1 a3 x3 2 (hel 3 (by decide)) e3
  exact ⟨by simpa using hv 0,by simpa using hv 1,by simpa using hv 2,by simpa using hv 3⟩
 obtain ⟨xs,m1,rfl,hx1,hlen,hn3,hel⟩:=DataW.trod_struct Tryz.underlying59 hd2
 have c4:Tryz.prog.cellsOf 59=3:=by kernel_rfl
 have c5:Tryz.prog.cellsOf 4=1:=by kernel_rfl
 rw [c4] at hlen
 obtain ⟨l1⟩:=cs2
 obtain ⟨a0,a1,a2,rfl⟩:=YP (show l1.length=3 from hlen)
 obtain ⟨x0,x1,x2,rfl⟩:=YP (show xs.length=3 by simpa using hn3)
 simp only [Rows.laid_turnery_span_all,yS,yw,Prod.mk.injEq,DataW.agg.injEq,List.cons.injEq] at hx1
 have h0:DataW.trod (fun _=>()) Tryz.prog W 0 (fun _=>true) false m1 3 (([a0,a1,a2].drop 0).take (Tryz.prog.cellsOf 3))=some x0:=hel 0 _ rfl
 have h1:DataW.trod (fun _=>()) Tryz.prog W 0 (fun _=>true) false m1 3 (([a0,a1,a2].drop 1).take (Tryz.prog.cellsOf 3))=some x1:=hel 1 _ rfl
 have h2:DataW.trod (fun _=>()) Tryz.prog W 0 (fun _=>true) false m1 4 (([a0,a1,a2].drop 2).take (Tryz.prog.cellsOf 4))=some x2:=hel 2 _ rfl
 rw [c3] at h0 h1
 rw [c5] at h2
 have hv:=World.var?_cell hg2 hv2
 obtain ⟨⟨e0,e1,e2,_⟩,_⟩:=hx1
 obtain rfl:=one m1 a0 x0 _ h0 e0
 obtain rfl:=one m1 a1 x1 _ h1 e1
 have ht:a2 = .bool true:=by
  obtain ⟨b,eb,e3⟩:=DataW.trod_bool Tryz.underlying4 h2
  rw [e3] at e2
  simp at e2 eb
  rw [eb,←e2]
 subst ht
 exact ⟨by simpa using hv 0,by simpa using hv 1,by simpa using hv 2⟩
end Go.Proofs.YtbnnhmcloecijaaGreatDoor
