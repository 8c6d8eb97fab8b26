/-
  The listed variables code.ways and span.all: what the row's condition gives the walks; the
-/
import Derived.Test.YtbnnhmcloecijaaGreatDoorSpdA
import Derived.LaidMore
import Derived.OpenShut
import Derived.Stop.Joined
import Derived.LaidHandle
set_option maxRecDepth 100000
set_option maxHeartbeats 16000000
namespace Go.Proofs.YtbnnhmcloecijaaGreatDoor
open Go.RowKit

structure Inst where
 op:Int
 dst:Int
 ar:Bool
 an:Int
 br:Bool
 bn:Int
 fn:Int
 ap:Option Addr
 al:Nat
 ac:Nat
def Inst.cells (i:Inst):Array Value:=#[.int .i64 i.op,.int .i64 i.dst,.bool i.ar,.int .i64 i.an,.bool i.br,.int .i64 i.bn,.int .i64 i.fn,.slice i.ap i.al i.ac]
def vw (op dst:Int) (r:Bool) (n:Int):Inst:=⟨op,dst,r,n,false,0,0,none,0,0⟩
theorem none_none (w:World):Calls Tryz.prog 9 #[.agg #[.slice none 0 0,.slice none 0 0]] w fun e w'=>e = .returned (.bool true)∧Below w.heap.size w w':=by
 go_enter Tryz.func9,Tryz.ntmps9
 go_wp2_with fail
 go_ret
 exact ⟨rfl,by exact bZ⟩
end Go.Proofs.YtbnnhmcloecijaaGreatDoor
namespace Go.Proofs.YtbnnhmcloecijaaGreatDoor
open Go.RowKit Go.Shelf

theorem ssaU_null {u:UniL} (h:(vd u).1=0):vd u=(0,0):=by
 unfold vd at h ⊢
 by_cases hc:(chk u).1=0
 ·rw [if_pos hc] at h ⊢
  cases hf:xl u.funcs.length (ssaI u) with
  | none=>rfl
  | some r=>rw [hf] at h;exact absurd h (jw hf)
 rw [if_neg hc] at h
 exact absurd h hc
theorem okU_bad {u:UniL} (h:okU u=false):(vd u).1≠0:=fun e=>by
 unfold okU at h
 rw [ssaU_null e] at h
 cases h

theorem spdo_bad (u:UniL) (gp fp:Option Addr) (gc fc:Nat) (w:World) (hgl:u.globals.length*48≤140737488351232) (hG:SliceAt w 3 (GloR w) gp u.globals) (hfl:u.funcs.length*56≤140737488351232) (hF:SliceAt w 4 (FunR w) fp u.funcs) (hw0:Ways w) (h:(vd u).1≠0) :
  Calls Tryz.prog 7 #[.agg #[.slice gp u.globals.length gc,.slice fp u.funcs.length fc]] w fun e w'=>e = .returned (.tuple #[.agg #[.slice none 0 0,.slice none 0 0],.agg #[.int .i64 (vd u).1,.int .i64 (vd u).2]])∧Below w.heap.size w w':=by
 have HG:=q7 hG
 have HF:=q7 hF
 have HW:=q7 hw0
 have hne:((vd u).1 == 0&&(vd u).2 == 0)=false:=by simp [h]
 have hq:∀w,(binOp .neq 27 (.agg #[.int .i64 (vd u).1,.int .i64 (vd u).2]) (.agg #[.int .i64 0,.int .i64 0])).run Tryz.prog w = .ok (.bool true) w:=fun w=>by rw [run_neFault,hne];rfl
 clear hG hF hw0 h hne
 go_enter Tryz.func7,Tryz.ntmps7
 go_wp2_with fail
 refine (QC u _ _ _ _ _ hgl (vR HG.out bZ) hfl (vS HF.out bZ) (HW.out.below bZ)).mono ?_
 rintro e w1 ⟨rfl,hb1⟩
 have HB1:Hid (Below w.heap.size w w1):=Below.trans bZ (hb1.mono (by simp;omega))
 have hR:=qh hb1 (k:=w.heap.size+1) (by simp) (qg (qj (w:=w.alloc (.cells #[.slice gp u.globals.length gc,.slice fp u.funcs.length fc] 25)) (o:=.cells #[.slice none 0 0,.slice none 0 0] 25) (by simp)))
 have hR2:=qh hb1 (k:=w.heap.size+1+1) (by simp) (qj (w:=(w.alloc (.cells #[.slice gp u.globals.length gc,.slice fp u.funcs.length fc] 25)).alloc (.cells #[.slice none 0 0,.slice none 0 0] 25)) (o:=.cells #[.int .i64 0,.int .i64 0] 27) (by simp))
 obtain ⟨hcc,hcf⟩:=blk hR
 obtain ⟨hlJ,hlK⟩:=blk hR2
 have z1:=q8 hR
 have z2:=q8 hR2
 clear hb1
 go_wp2_with fail
 go_region
 all_goals go_wp2
 all_goals
  refine bodyPost_ret (v:=.tuple #[.agg #[.slice none 0 0,.slice none 0 0],.agg #[.int .i64 (vd u).1,.int .i64 (vd u).2]]) ?_ rfl ⟨rfl,?_⟩
  ·simp [results,Tryz.results7,go_sem, *]
  exact bZ


theorem sure_bad (u:UniL) (gp fp:Option Addr) (gc fc:Nat) (w:World) (hgl:u.globals.length*48≤140737488351232) (hG:SliceAt w 3 (GloR w) gp u.globals) (hfl:u.funcs.length*56≤140737488351232) (hF:SliceAt w 4 (FunR w) fp u.funcs) (hw0:Ways w) (h:okU u=false) :
  Calls Tryz.prog 4 #[.agg #[.slice gp u.globals.length gc,.slice fp u.funcs.length fc]] w fun e w'=>e = .returned (.bool true)∧Below w.heap.size w w':=by
 have HG:=q7 hG
 have HF:=q7 hF
 have HW:=q7 hw0
 have hne:=okU_bad h
 have HNe:=q7 hne
 have hn1:((vd u).1 != 0)=true:=by simp [hne]
 clear hG hF hw0 h hne
 go_enter Tryz.func4,Tryz.ntmps4
 go_wp2_with fail
 refine (spdo_bad u _ _ _ _ _ hgl (vR HG.out bZ) hfl (vS HF.out bZ) (HW.out.below bZ) HNe.out).mono ?_
 rintro e w1 ⟨rfl,hb1⟩
 have HB1:Hid (Below w.heap.size w w1):=Below.trans bZ (hb1.mono (by simp))
 clear hb1
 go_wp2_with fail
 refine (none_none _).mono ?_
 rintro e w2 ⟨rfl,hb2⟩
 have hsz:=HB1.out.size
 have HB2:Hid (Below w.heap.size w w2):=q7 (HB1.out.trans (Below.trans bZ (hb2.mono (by simp;omega))))
 clear hb2
 go_wp2_with fail
 go_ret
 exact ⟨rfl,HB2.out⟩

theorem at_funcs {T:UniL} {k:Nat} (h:k<(xV (jb T)).funcs.length):∃h2:k<T.funcs.length,(xV (jb T)).funcs[k]=doT (xy T.funcs[k]):=by
 have h2:k<T.funcs.length:=by
  have e:(xV (jb T)).funcs.length=T.funcs.length:=by simp [xV,jb]
  rw [←e]
  exact h
 exact ⟨h2,by simp [xV,jb]⟩
theorem fin_at {f:FunL} {b:Nat} (h:b<f.blocks.length):(atF f b).fin=f.blocks[b].fin:=by
 unfold atF
 rw [List.getD_eq_getElem?_getD,List.getElem?_eq_getElem h]
 rfl
theorem ChkOk.sureAll {T:UniL} (hT:ChkOk T):∀k (hk:k<(xV (jb T)).funcs.length) b (hb:b<(xV (jb T)).funcs[k].blocks.length),¬ ((xV (jb T)).funcs[k].blocks[b].fin.kind=3∧(xV (jb T)).funcs[k].blocks[b].fin.onr=false):=by
 intro k hk b hb
 obtain ⟨h2,e⟩:=at_funcs hk
 obtain ⟨g,hg⟩:∃g,g=(xV (jb T)).funcs[k]:=⟨_,rfl⟩
 have hb2:b<g.blocks.length:=by rw [hg];exact hb
 have key:¬ (g.blocks[b].fin.kind=3∧g.blocks[b].fin.onr=false):=by
  rw [e] at hg
  subst hg
  have h:=(hT.funC h2).sure hb2
  unfold NumT at h
  rw [fin_at hb2] at h
  exact h
 subst hg
 exact key

theorem sure_ok (u:UniL) (gp fp:Option Addr) (gc fc:Nat) (w:World) (hgl:u.globals.length*48≤140737488351232) (hG:SlF w 3 48 (GloR w) (.slice gp u.globals.length gc) u.globals) (hfl:u.funcs.length*56≤140737488351232) (hF:SlF w 4 56 (FunR w) (.slice fp u.funcs.length fc) u.funcs) (hw0:Ways w) (hA:AllW w) (hok:okU u=true) :
  Calls Tryz.prog 4 #[.agg #[.slice gp u.globals.length gc,.slice fp u.funcs.length fc]] w fun e w'=>e = .returned (.bool true)∧Below w.heap.size w w':=by
 have hc:=(Jc (KE hok)).2
 obtain ⟨m,hm,_⟩:=hc.main
 have hpos:0<u.funcs.length:=Nat.lt_of_le_of_lt (Nat.zero_le _) (mainI_lt hm)
 have hT:=hc.tidy.2
 obtain ⟨U,hU⟩:∃U,U=xV (jb (xV u)):=⟨_,rfl⟩
 have hUl:U.funcs.length=u.funcs.length:=by rw [hU];simp [xV,jb]
 have hhy:∀k (hk:k<U.funcs.length) b (hb:b<U.funcs[k].blocks.length),¬ (U.funcs[k].blocks[b].fin.kind=3∧U.funcs[k].blocks[b].fin.onr=false):=by
  subst hU
  exact hT.sureAll
 have HGs:=q7 hG
 have HFs:=q7 hF
 have HW:=q7 hw0
 have HA:=q7 hA
 have HOk:=q7 hok
 have HU:=q7 hU
 have hlH:=q7 hhy
 have HUl:=q7 hUl
 have hp0:((u.funcs.length:Int) == 0)=false:=beq_eq_false_iff_ne.2 (by omega)
 clear hG hF hw0 hA hok hc hm hT hU hhy hUl
 go_enter Tryz.func4,Tryz.ntmps4
 go_wp2_with fail
 obtain ⟨w1,hw1⟩:∃w1,w1=w.alloc (.cells #[.slice gp u.globals.length gc,.slice fp u.funcs.length fc] 25):=⟨_,rfl⟩
 rw [←hw1]
 have hb1:Below w.heap.size w w1:=by rw [hw1];exact bZ
 have hgm:=SlF.mono HGs.out hb1 (by omega) fun _ _ h=>h.below hb1
 have hfm:=SlF.mono HFs.out hb1 (by omega) fun _ _ h=>h.below hb1
 have HB1:=q7 hb1
 clear hw1 hb1
 refine (spdo_ok u gp fp gc fc w1 hgl hgm hfl hfm (HW.out.below HB1.out) (HA.out.below HB1.out) HOk.out).mono ?_
 rintro e w2 ⟨⟨p1,c1,p2,c2,rfl,S,hS,hL⟩,hb2⟩
 rw [←HU.out] at hS
 have HB2:=q7 (HB1.out.trans (hb2.mono HB1.out.size))
 have hfr:SlF w2 4 56 (FunR w2) (.slice p2 u.funcs.length c2) U.funcs:=by
  obtain ⟨v1,v2,h0,_,h2⟩:=hS.read
  simp only [List.cons.injEq,and_true] at h0
  obtain ⟨rfl,rfl⟩:=h0
  exact h2
 have hF2:SliceAt w2 4 (FunR w2) p2 U.funcs:=by
  obtain ⟨p,c,e,_,_,h⟩:=hfr.outC
  injection e with e1 e2 e3
  rw [e1]
  exact h
 have HF2:=q7 hF2
 clear hS hL hb2 hgm hfm hfr hF2
 go_wp2_with fail
 obtain ⟨W3,hW3⟩:∃W3,W3=(w2.alloc (.cells #[.slice p1 u.globals.length c1,.slice p2 u.funcs.length c2] 25)).alloc (.cells #[.int .i64 0,.int .i64 0] 27):=⟨_,rfl⟩
 rw [←hW3]
 have hz3:W3.heap.size=w2.heap.size+1+1:=by rw [hW3];simp
 have hb3:Below w2.heap.size w2 W3:=by rw [hW3];exact bZ
 have hO3:W3.heap[w2.heap.size]?=some (.cells #[.slice p1 u.globals.length c1,.slice p2 u.funcs.length c2] 25 (0,0)):=by rw [hW3];exact qg (qj rfl)
 have hf3:W3.cell? ⟨w2.heap.size+1,0,none⟩=some (.int .i64 0):=by rw [hW3];exact (blk (qj (by simp))).1 0
 have HB3:=q7 hb3
 have HBw:=q7 (HB2.out.trans (hb3.mono HB2.out.size))
 have HO3:=q7 hO3
 have ob1:W3.cell? ⟨w2.heap.size,1,none⟩=some (.slice p2 u.funcs.length c2):=(blk hO3).1 1
 have oz:=q8 hO3
 clear hW3 hb3 hO3
 go_wp2_with fail
 go_loopg [5] u.funcs.length (fun q s wr=>∃k:Nat,k≤u.funcs.length∧q=u.funcs.length - k∧s = .int .i64 k∧Below W3.heap.size W3 wr)
 case atStart=>exact ⟨0,by omega,rfl,rfl,Below.refl _ _⟩
 case round=>
  obtain ⟨wp,hwp⟩:∃wp,wp=wr:=⟨_,rfl⟩
  subst hwp
  obtain ⟨k,hk,rfl,rfl,hb⟩:=hrel
  have HBp:=q7 hb
  have hzp:=hb.size
  have HOp:=q7 ((hb.block _ (q8 HO3.out)).trans HO3.out)
  have o1:wp.cell? ⟨w2.heap.size,1,none⟩=some (.slice p2 u.funcs.length c2):=(blk HOp.out).1 1
  have oz1:=q8 HOp.out
  clear hb
  by_cases hlt:k<u.funcs.length
  rotate_left
  ·obtain rfl:k=u.funcs.length:=by omega
   go_wp2_with fail
   go_ret
   exact ⟨rfl,HBw.out.trans (HBp.out.mono HBw.out.size)⟩
  have hkU:k<U.funcs.length:=by rw [HUl.out];exact hlt
  obtain ⟨fb,fo,q,c,rfl,_,_,_,f3,_,_,_,hbl,hBs⟩:=QT HF2.out (HB3.out.trans (HBp.out.mono (by omega))) hkU
  obtain ⟨g,hg⟩:∃g,g=U.funcs[k]:=⟨_,rfl⟩
  rw [←hg] at f3 hbl hBs
  have hSg:∀b (hb:b<g.blocks.length),¬ (g.blocks[b].fin.kind=3∧g.blocks[b].fin.onr=false):=by
   intro b hb
   simp only [hg] at hb ⊢
   exact hlH.out k hkU b hb
  have HSg:=q7 hSg
  have HBs:=q7 hBs
  have fz:=qd f3
  have k0:(0:Int)≤(k:Int):=by omega
  have k1:(k:Int)<u.funcs.length:=by omega
  clear hg hBs hSg
  go_wp2_with fail
  go_loopg [6] g.blocks.length (fun q s wr=>∃b:Nat,b≤g.blocks.length∧q=g.blocks.length - b∧s = .int .i64 b∧Below wp.heap.size wp wr)
  case atStart=>exact ⟨0,by omega,rfl,rfl,Below.refl _ _⟩
  case round=>
   obtain ⟨b,hb,rfl,rfl,hbr⟩:=hrel
   have HBr:=q7 hbr
   have hzr:=hbr.size
   have HOr:=q7 ((hbr.block _ oz1).trans HOp.out)
   have f3r:=(hbr.cell (p:=⟨fb,fo+k*4+3,none⟩) fz).trans f3
   have o1r:wr.cell? ⟨w2.heap.size,1,none⟩=some (.slice (some ⟨fb,fo,none⟩) u.funcs.length c2):=(blk HOr.out).1 1
   have oz1r:=q8 HOr.out
   have fzr:fb<wr.heap.size:=by omega
   clear hbr o1 f3
   by_cases hlb:b<g.blocks.length
   rotate_left
   ·obtain rfl:b=g.blocks.length:=by omega
    go_wp2_with fail
    go_roundg (u.funcs.length - (k+1))
    case measure=>omega
    case rel=>exact ⟨k+1,by omega,rfl,by go_num,HBp.out.trans (HBr.out.mono (by omega))⟩
   obtain ⟨bb,bo,pp,pc,lp,lc,tp,tc,rfl,b0,b1,b2,b3,b4,b5,_,_,_,_,htl,_,_,hS5⟩:=jD HBs.out HBr.out hlb
   have hs:=HSg.out b hlb
   obtain ⟨y,hy⟩:∃y,y=g.blocks[b]:=⟨_,rfl⟩
   rw [←hy] at b0 b1 b2 b3 b4 b5 hs
   have bz:=qd b2
   have j0:(0:Int)≤(b:Int):=by omega
   have j1:(b:Int)<g.blocks.length:=by omega
   clear hy hS5 htl
   by_cases h3:y.fin.kind=3
   ·have hon:y.fin.onr=true:=by
     cases h:y.fin.onr with
     | true=>rfl
     | false=>exact absurd ⟨h3,h⟩ hs
    rw [hon] at b3
    rw [h3] at b2
    go_wp2_with fail
    go_roundg (g.blocks.length - (b+1))
    case measure=>omega
    case rel=>exact ⟨b+1,by omega,rfl,by go_num,by exact bZ⟩
   have h3b:(y.fin.kind == 3)=false:=by simp [h3]
   go_wp2_with fail
   go_roundg (g.blocks.length - (b+1))
   case measure=>omega
   case rel=>exact ⟨b+1,by omega,rfl,by go_num,by exact bZ⟩

theorem sure_all (u:UniL) (gp fp:Option Addr) (gc fc:Nat) (w:World) (hG:SlF w 3 48 (GloR w) (.slice gp u.globals.length gc) u.globals) (hF:SlF w 4 56 (FunR w) (.slice fp u.funcs.length fc) u.funcs) (hw0:Ways w) (hA:AllW w) :
  Calls Tryz.prog 4 #[.agg #[.slice gp u.globals.length gc,.slice fp u.funcs.length fc]] w fun e w'=>e = .returned (.bool true)∧Below w.heap.size w w':=by
 have hgl:u.globals.length*48≤140737488351232:=hG.bdC
 have hfl:u.funcs.length*56≤140737488351232:=hF.bdC
 cases hok:okU u
 ·have hG':SliceAt w 3 (GloR w) gp u.globals:=by
   obtain ⟨p,c,e,_,_,h⟩:=hG.outC
   cases e
   exact h
  have hF':SliceAt w 4 (FunR w) fp u.funcs:=by
   obtain ⟨p,c,e,_,_,h⟩:=hF.outC
   cases e
   exact h
  exact sure_bad u gp fp gc fc w hgl hG' hfl hF' hw0 hok
 exact sure_ok u gp fp gc fc w hgl hG hfl hF hw0 hA hok
end Go.Proofs.YtbnnhmcloecijaaGreatDoor
namespace Go.Proofs.YtbnnhmcloecijaaGreatDoor
open Go.ChangeShapes Go.WideShapes Go.ChangeAt Go.RowKit

theorem tWays:(Tryz.prog.globals[1]?).map (·.type)=some 189:=by kernel_rfl
theorem own:ownKnob Tryz.prog.godebug=none:=by kernel_rfl
theorem laidOut:laidOutB Tryz.prog=true:=by kernel_rfl

def Q6:List (String×DataW Unit):=Rows.spanSaysRow.laid
def nameS0 : String := (Rows.spanSaysRow.laid.map (·.1)).headD ""
def nameS1 : String := (Rows.spanSaysRow.laid.map (·.1)).getD 1 ""
theorem gS0:Tryz.prog.globalNamed nameS0=some 1:=by kernel_rfl
theorem gS1:Tryz.prog.globalNamed nameS1=some 0:=by kernel_rfl
theorem tS1:(Tryz.prog.globals[0]?).map (·.type)=some 59:=by kernel_rfl
theorem door_span (os:Os) (args:Array Value):laidMetH Tryz.prog Q6 ((World.doorLaid Tryz.prog 400 os).forCall (fun _ _=>0) ⟨#[],args,[]⟩).memory:=
 laidMetH_of_parts3 (fuel:=8) (laidMet_of_run' 8 (by kernel_rfl) (by kernel_rfl)) (by kernel_rfl) (by kernel_rfl)

theorem JU {W:World} (h:laidMetH Tryz.prog Q6 W):Ways W∧AllW W:=by
 rw [MakeChecks.laidMetH_plain _ _ _ (by kernel_rfl)] at h
 obtain ⟨ps,⟨g1,t1,cs1,f1,p1,q1,hg1,ht1,hv1,hd1,⟨g2,t2,cs2,f2,p2,q2,hg2,ht2,hv2,hd2,_,_⟩,_⟩,_,_⟩:=h
 obtain rfl:=Option.some.inj (gS0.symm.trans hg1)
 obtain rfl:=Option.some.inj (tWays.symm.trans ht1)
 obtain rfl:=Option.some.inj (gS1.symm.trans hg2)
 obtain rfl:=Option.some.inj (tS1.symm.trans ht2)
 have c3:Tryz.prog.cellsOf 3=1:=by kernel_rfl
 have one:∀(m:Nat) (a:Value) (x:DataW Unit×List MemPlace) (n:Int),DataW.trod (fun _=>()) Tryz.prog W 0 (fun _=>true) false m 3 [a]=some x→DataW.lit (.int .i64 n)=x.1→a = .int .i64 n:=fun m a x n h e=>by
  obtain ⟨k,e1,e2,_⟩:=DataW.trod_int Tryz.underlying3 (show DataW.trod _ Tryz.prog W 0 _ false m 3 _=some x from h)
  rw [e2] at e
  simp at e e1
  rw [e1,e]
 refine ⟨?_,?_⟩
 ·obtain ⟨xs,m1,rfl,hx1,hlen,hn4,hel⟩:=DataW.trod_array Tryz.underlying189 hd1
  have c4:Tryz.prog.cellsOf 189=4:=by kernel_rfl
  rw [c4] at hlen
  obtain ⟨l1⟩:=cs1
  obtain ⟨a0,a1,a2,a3,rfl⟩:=KH (show l1.length=4 from hlen)
  obtain ⟨x0,x1,x2,x3,rfl⟩:=KH hn4
  simp only [Rows.laid_turnery_code_ways,List.map_cons,List.map_nil,Prod.mk.injEq,DataW.agg.injEq,List.cons.injEq] at hx1
  rw [c3] at hel
  have hv:=World.var?_cell hg1 hv1
  obtain ⟨⟨e0,e1,e2,e3,_⟩,_⟩:=hx1
  obtain rfl:=one m1 a0 x0 0 (hel 0 (by decide)) e0
  obtain rfl:=one m1 a1 x1 0 (hel 1 (by decide)) e1
  obtain rfl:=one m1 a2 x2 1 (hel 2 (by decide)) e2
  obtain rfl:=one m1 a3 x3 2 (hel 3 (by decide)) e3
  exact ⟨by simpa using hv 0,by simpa using hv 1,by simpa using hv 2,by simpa using hv 3⟩
 obtain ⟨xs,m1,rfl,hx1,hlen,hn3,hel⟩:=DataW.trod_struct Tryz.underlying59 hd2
 have c4:Tryz.prog.cellsOf 59=3:=by kernel_rfl
 have c5:Tryz.prog.cellsOf 4=1:=by kernel_rfl
 rw [c4] at hlen
 obtain ⟨l1⟩:=cs2
 obtain ⟨a0,a1,a2,rfl⟩:=KG (show l1.length=3 from hlen)
 obtain ⟨x0,x1,x2,rfl⟩:=KG (show xs.length=3 by simpa using hn3)
 simp only [Rows.laid_turnery_span_all,List.map_cons,List.map_nil,Prod.mk.injEq,DataW.agg.injEq,List.cons.injEq] at hx1
 have h0:DataW.trod (fun _=>()) Tryz.prog W 0 (fun _=>true) false m1 3 (([a0,a1,a2].drop 0).take (Tryz.prog.cellsOf 3))=some x0:=hel 0 _ rfl
 have h1:DataW.trod (fun _=>()) Tryz.prog W 0 (fun _=>true) false m1 3 (([a0,a1,a2].drop 1).take (Tryz.prog.cellsOf 3))=some x1:=hel 1 _ rfl
 have h2:DataW.trod (fun _=>()) Tryz.prog W 0 (fun _=>true) false m1 4 (([a0,a1,a2].drop 2).take (Tryz.prog.cellsOf 4))=some x2:=hel 2 _ rfl
 rw [c3] at h0 h1
 rw [c5] at h2
 have hv:=World.var?_cell hg2 hv2
 obtain ⟨⟨e0,e1,e2,_⟩,_⟩:=hx1
 obtain rfl:=one m1 a0 x0 _ h0 e0
 obtain rfl:=one m1 a1 x1 _ h1 e1
 have ht:a2 = .bool true:=by
  obtain ⟨b,eb,e3⟩:=DataW.trod_bool Tryz.underlying4 h2
  rw [e3] at e2
  simp at e2 eb
  rw [eb,←e2]
 subst ht
 exact ⟨by simpa using hv 0,by simpa using hv 1,by simpa using hv 2⟩
end Go.Proofs.YtbnnhmcloecijaaGreatDoor
