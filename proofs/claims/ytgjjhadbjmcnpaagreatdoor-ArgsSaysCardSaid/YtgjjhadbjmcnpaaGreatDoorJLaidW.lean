/-
  The listed variable code.ways: what the row's condition gives the walks; the door's own he
-/
import Derived.Test.YtgjjhadbjmcnpaaGreatDoorJDonC
import Derived.LaidMore
import Derived.OpenShut
import Derived.Stop.Joined
import Derived.LaidHandle
set_option maxRecDepth 100000
set_option maxHeartbeats 16000000
namespace Go.Proofs.YtgjjhadbjmcnpaaGreatDoor
open Go.RowKit

theorem fitsE_not {xs:List FunL} (h:xD xs=(0,0)):∀f∈xs,xS f=false:=fun f hf=>by
 unfold xD at h;cases e:xs.findIdx? xS with
 | none=>simpa using List.findIdx?_eq_none_iff.1 e f hf
 | some k=>rw[e]at h;simp at h
theorem RenX.fitE {xs ys:List FunL} (h:RenX xs ys):xD ys=xD xs:=by
 have e:ys.map xS=xs.map xS:=by
  refine yV (by simp[h.1]) fun i h1 h2=>?_;simp only[xE];obtain⟨a,b,c⟩:=h.fits i (by simpa using h2) (by simpa using h1);unfold xS;rw[a,b,c]
 have e2:∀zs:List FunL,zs.findIdx? xS=(zs.map xS).findIdx? id:=fun zs=>by
  rw[List.findIdx?_map];rfl
 unfold xD;rw[e2,e2,e]
theorem ChkOk.good {u:UniL} (h:ChkOk u):Good u.funcs:=⟨h.callN,fun f hf=>by
 obtain⟨k,hk,rfl⟩:=yp.1 hf
 exact(h.funC hk).reg.1⟩
theorem ChkOk.bodyAll {u:UniL} (h:ChkOk u):BodyZ u.funcs:=fun f hf=>by
 obtain⟨k,hk,rfl⟩:=yp.1 hf;have:=h.body k hk;rw[kH hk]at this;exact this
theorem args_ok {u:UniL} {xs ys:List FunL} (h:ChkOk u) (h1:Dr (qI u).funcs xs) (h3:Al xs xs.length 0 ys []) (hf:xD ys=(0,0)):ChkOk { globals:=(qI u).globals,funcs:=ys }:=by
 have ht:=h.tidy.2;obtain⟨b1,g1⟩:=h1.bodyZ ht.good ht.bodyAll;have b2:=(h3.bodyZ g1 b1).1;have g2:=h3.good g1;have hs:=h3.shl.trans h1.shl;have hl:=hs.1
 have hN:∀k,xr { globals:=(qI u).globals,funcs:=ys } k=xr (qI u) k:=fun k=>by
  unfold xr;congr 1;refine yV (by simp[hl]) fun i h1 h2=>?_;simp only[xE,List.getElem_take];have i1:i<ys.length:=by simp at h1;omega
  exact(hs.2 i i1 bO).2.1
 obtain⟨m,hm,hm2⟩:=ht.main
 have hml:m<(qI u).funcs.length:=by
  unfold kb at hm;exact yR.1 (List.mem_of_find?_eq_some hm)
 refine⟨ht.ng,by show ys.length<=10;rw[hl];exact ht.nf,ht.glo,fun j hj=>?_,fun j hj=>?_,m,?_,?_⟩
 ·have hj:j<ys.length:=hj;have hjt:j<(qI u).funcs.length:=by omega
  have hh:=ht.head j hjt;rw[vS hjt]at hh;rw[vS (u:={ globals:=(qI u).globals,funcs:=ys }) hj,hN];have hn:=(hs.2 j hj hjt).2.1;have hm:=fitsE_not hf _ (zP hj);unfold xS at hm;simp only[Bool.or_eq_false_iff,xA]at hm;have c1:=g2.call.blk _ (zP hj);have c2:=g2.call.par _ (zP hj);have c3:=g2.reg _ (zP hj);show jx (xr (qI u) j) ys[j]=0;unfold jx at hh ⊢;rw[hn]
  by_cases a:k9 (qI u).funcs[j].name=false
  ·rw[zZ a]at hh;cases hh
  rw[zQ a]at hh ⊢
  by_cases b:JC (xr (qI u) j) (qI u).funcs[j].name=true
  ·rw[zZ b]at hh;cases hh
  rw[zQ b,zQ bO,zQ bO]
 ·have hj:j<ys.length:=hj;rw[kH (u:={ globals:=(qI u).globals,funcs:=ys }) hj];exact b2 _ (zP hj)
 ·show kb ys=some m;rw[←hm,QX,QX,hl];congr 1;funext i
  by_cases hi:i<ys.length
  ·have hi':i<(qI u).funcs.length:=(by omega);rw[zj hi,zj hi'];show vR _=vR _;unfold vR;rw[(hs.2 i hi hi').2.1]
  rw[yk bO,yk bO]
 have hm3:m<ys.length:=by omega
 rw[ZW hm3];have h5:=(hs.2 m hm3 hml).2.2
 have h6:vm (qI u) m=(qI u).funcs[m].params:=by
  unfold vm;simp[hml]
 omega
theorem args_says {u:UniL} {xs ys y r rs:List FunL} (h:ChkOk u) (h1:Dr (qI u).funcs xs) (h2:Taken xs) (h3:Al xs xs.length 0 ys []) (g1:Stp (qI u).funcs y) (g2:RenX y r) (g3:Taken r) (g4:TurnsR r r.length rs):RenX ys rs:=by
 have hg:=h.tidy.2.good;have gx:=h1.stp.good hg;have hxy:=Stp.conf _ (zK _) hg (RenX.refl hg.par) h1.stp h2 g1 (g3.ren g2.sym);have hxr:=hxy.trans g2;obtain⟨zs,a,b,_,c⟩:=h3.turns gx;have hlz:zs.length=xs.length:=by rw[←b];exact h3.shl.1
 have e:ys=zs:=by
  rcases c with⟨m,c⟩|⟨_,c,_⟩
  ·have:=c.lt;omega
  exact c
 subst e;rw[←hxr.1]at g4;exact(Turns.ren hxr gx a g4).1
theorem says_tidy {u:UniL} {xs ys rs:List FunL} (h:ChkOk u) (h1:Dr (qI u).funcs xs) (h3:Al xs xs.length 0 ys []) (hf:xD ys=(0,0)) (hr:RenX ys rs):ChkOk { globals:=(qI u).globals,funcs:=rs }/\qI { globals:=(qI u).globals,funcs:=rs }=qI { globals:=(qI u).globals,funcs:=ys }:=by
 have ho:=args_ok h h1 h3 hf;have hc:=hr.chk (qI u).globals;rw[ho.zero]at hc;have hk:=(Xh (show(chk { globals:=(qI u).globals,funcs:=rs }).1=0 by rw[hc])).2;refine⟨hk,?_⟩;have hs:=h3.shl.trans h1.shl;have hut:(qI u).funcs.length=u.funcs.length:=by simp[qI]
 have e:rs.map doT=ys.map doT:=by
  refine yV (by simp[hr.1]) fun k k1 k2=>?_;simp only[xE];have hky:k<ys.length:=by simpa using k2
  have hkr:k<rs.length:=by simpa using k1
  have hkt:k<(qI u).funcs.length:=by have:=hs.1;omega
  have hku:k<u.funcs.length:=by omega
  have e2:(qI u).funcs[k]=doT u.funcs[k]:=by simp[qI]
  have s1:=(hs.2 k hky hkt).1;rw[e2]at s1;have r1:=hr.2 k hky hkr;have f1:=ho.funC (k:=k) hky;have f2:=hk.funC (k:=k) hkr
  have s2:Shp rs[k] ys[k]:=by
   obtain⟨g,_,_,e⟩:=r1;rw[e];exact .map (toB g) (fun _=>⟨rfl,rfl,by simp[toB]⟩) rfl
  have d1:=(h.funC hku).still f1 s1;have d2:=(h.funC hku).still f2 (s2.trans s1);exact d2.trans ((r1.name f1).trans d1.symm)
 show({ globals:=_,funcs:=rs.map doT }:UniL)={ globals:=_,funcs:=ys.map doT };rw[e]

theorem ChkOk.fits {u:UniL} (h:ChkOk u):xD u.funcs=(0,0):=Xq fun j hj=>by
 have h1:=h.funC hj;have h2:=h1.reg;have h4:=h1.n40;have h5:=h1.many;unfold xS;rw[decide_eq_false bO,decide_eq_false bO,decide_eq_false bO];rfl

theorem UniO.reads {w:World} {p1 p2:Option Addr} {n1 c1 n2 c2:Nat} {x:UniL} {S:Blks} (h:UniO w [.slice p1 n1 c1,.slice p2 n2 c2] x S):SlF w 3 48 (GloR w) (.slice p1 n1 c1) x.globals/\SlF w 4 56 (FunR w) (.slice p2 n2 c2) x.funcs:=by
 obtain⟨v1,v2,h0,h1,h2⟩:=h.read;simp only[List.cons.injEq,and_true]at h0;obtain⟨rfl,rfl⟩:=h0;exact⟨h1,h2⟩

def ValsAt (w:World) (p:Option Addr) (l:Nat) (V:Nat->Bool×Int):Prop:=
 l=0\/∃b o,p=some (J b o)/\∀i,i<l->w.cell? (J b (o+i*2))=some (.bool (V i).1)/\w.cell? (J b (o+i*2+1))=some (Z (V i).2)

theorem ValsAt.below {w w':World} {p:Option Addr} {l:Nat} {V:Nat->Bool×Int} (h:ValsAt w p l V) (hb:Below w.heap.size w w'):ValsAt w' p l V:=by
 rcases h with h|⟨b,o,rfl,h⟩
 ·exact .inl h
 refine .inr ⟨b,o,rfl,fun i hi=>?_⟩;obtain⟨h0,h1⟩:=h i hi;exact⟨(hb.cell (p:=(J b (o+i*2))) (q9 h0)).trans h0,(hb.cell (p:=(J b (o+i*2+1))) (q9 h0)).trans h1⟩

theorem vals_eq (b b' o o' n c d:Nat) (V V':Nat->Bool×Int) (w:World) (hn:n<=140737488355328)
  (h0:∀i,i<n->w.cell? (J b (o+i*2))=some (.bool (V i).1)) (h1:∀i,i<n->w.cell? (J b (o+i*2+1))=some (Z (V i).2))
  (g0:∀i,i<n->w.cell? (J b' (o'+i*2))=some (.bool (V' i).1)) (g1:∀i,i<n->w.cell? (J b' (o'+i*2+1))=some (Z (V' i).2)) :
  Calls Tryz.prog 102 #[.slice (some (J b o)) n c,.slice (some (J b' o')) n d] w fun e w'=>e = .returned (.bool (decide (∀i,i<n->V i=V' i)))/\∃m,w'=w.drewN m:=by
 have hb:((n:Int) != (n:Int))=false:=by simp
 go_enter Tryz.func102,Tryz.ntmps102
 go_wp2
 go_loopw [5] (fun i wr=>∃k m:Nat,k<=n/\i=Z k/\wr=w.drewN m/\∀j,j<k->V j=V' j) (fun i _=>n - (intOf i).toNat)
 case atStart=>exact⟨0,0,by omega,rfl,rfl,fun j hj=>by omega⟩
 case round=>
  obtain⟨k,m,hk,rfl,rfl,hV⟩:=hrel
  by_cases hlt:k<n
  rotate_left
  ·go_wp2
   go_ret
   refine⟨?_,m,rfl⟩;rw[decide_eq_true]
   ·rfl
   intro i hi;exact hV i bO
  have c0:=h0 k hlt;have c1:=h1 k hlt;have c2:=g0 k hlt;have c3:=g1 k hlt;have HV:Hid (∀j,j<k->V j=V' j):=hV;clear hV h0 h1 g0 g1;generalize hv:V k=v at c0 c1;generalize hv':V' k=v' at c2 c3;have Hv:Hid (V k=v):=hv;have Hv':Hid (V' k=v'):=hv';clear hv hv';obtain⟨r,x⟩:=v;obtain⟨r',x'⟩:=v';have hne:=Zn r r' x x'
  go_wp2_with fail
  go_quiet (fail)
  go_wp2_with fail
  ·rename_i hw
   go_ret
   refine⟨?_,m+nq,by simp⟩;rw[decide_eq_false]
   ·rfl
   intro hall;have hk2:=hall k hlt;rw[Hv.out,Hv'.out]at hk2;obtain⟨rfl,rfl⟩:=Prod.mk.inj hk2;simp at hw
  rename_i hw
  refine⟨⟨k+1,m+nq,by omega,by go_num,rfl,fun j hj=>?_⟩,by simp[intOf];omega⟩
  by_cases hjk:j<k
  ·exact HV.out j hjk
  obtain rfl:j=k:=by omega
  rw[Hv.out,Hv'.out];simp at hw;rw[hw.1,hw.2]
theorem vals_nil (p q:Option Addr) (c d:Nat) (w:World) :
  Calls Tryz.prog 102 #[.slice p 0 c,.slice q 0 d] w fun e w'=>e = .returned (.bool true)/\w'=w:=by
 go_enter Tryz.func102,Tryz.ntmps102
 go_wp2
 go_loop [5] (fun i=>i=Z 0) (fun _=>0)
 case atStart=>rfl
 case round=>
  subst hrel
  go_wp2
  go_ret
  exact⟨rfl,rfl⟩

theorem Vm (p q:Option Addr) (l c d:Nat) (V:Nat->Bool×Int) (w:World) (hl:l<=140737488355328) (h:ValsAt w p l V) (g:ValsAt w q l V) :
  Calls Tryz.prog 102 #[.slice p l c,.slice q l d] w fun e w'=>e = .returned (.bool true)/\∃m,w'=w.drewN m:=by
 rcases Nat.eq_zero_or_pos l with rfl|hp
 ·exact(vals_nil p q c d w).mono fun e w' ⟨h1,h2⟩=>⟨h1,0,h2⟩
 rcases h with rfl|⟨b,o,rfl,h⟩
 ·exact absurd hp bO
 rcases g with rfl|⟨b',o',rfl,g⟩
 ·exact absurd hp bO
 refine(vals_eq b b' o o' l c d V V w hl (fun i hi=>(h i hi).1) (fun i hi=>(h i hi).2) (fun i hi=>(g i hi).1) (fun i hi=>(g i hi).2)).mono ?_;rintro e w' ⟨rfl,hm⟩;exact⟨by simp,hm⟩

theorem ins_same (o d n n' f:Int) (r r':Bool) (p q:Option Addr) (l c c':Nat) (V:Nat->Bool×Int) (w:World) (hl:l<=140737488355328) (h:ValsAt w p l V) (g:ValsAt w q l V) :
  Calls Tryz.prog 103 #[.agg #[Z o,Z d,.bool r,Z n,.bool r',Z n',Z f,.slice p l c],.agg #[Z o,Z d,.bool r,Z n,.bool r',Z n',Z f,.slice q l c']] w fun e w'=>e = .returned (.bool true)/\Below w.heap.size w w':=by
 have H:Hid (ValsAt w p l V):=h;have G:Hid (ValsAt w q l V):=g;clear h g
 go_enter Tryz.func103,Tryz.ntmps103
 go_wp2_with fail
 refine(Vm _ _ _ _ _ V _ hl (H.out.below ?_) (G.out.below ?_)).mono ?_
 ·exact bZ
 ·exact bZ
 rintro e w1 ⟨rfl,m,rfl⟩
 go_wp2
 go_ret
 refine⟨rfl,?_⟩;exact bZ

theorem QK {w:World} {p:Option Addr} {xs:List (Bool×Int)} (h:SliceAt w 2 kc p xs):ValsAt w p xs.length fun i=>xs.getD i (false,0):=by
 rcases h with rfl|⟨b,o,hp,h⟩
 ·exact .inl rfl
 refine .inr ⟨b,o,hp,fun i hi=>?_⟩;obtain⟨cs,_,hc,⟨rfl,_⟩⟩:=h i hi;have h0:w.cell? (J b (o+i*2))=some (.bool xs[i].1):=hc 0 bO;have h1:w.cell? (J b (o+i*2+1))=some (Z xs[i].2):=hc 1 bO;have e:xs.getD i (false,0)=xs[i]:=by simp[List.getD,hi]
 show _=some (Value.bool (xs.getD i (false,0)).1)/\_=some (Z (xs.getD i (false,0)).2);rw[e];exact⟨h0,h1⟩
theorem valsS (xs:List (Bool×Int)) (p q:Option Addr) (c d:Nat) (w:World) (hl:xs.length*16<=reachBytes) (h:SliceAt w 2 kc p xs) (g:SliceAt w 2 kc q xs) :
  Calls Tryz.prog 102 #[.slice p xs.length c,.slice q xs.length d] w fun e w'=>e = .returned (.bool true)/\Below w.heap.size w w':=
 (Vm p q xs.length c d _ w (by unfold reachBytes at hl;omega) (QK h) (QK g)).mono fun e w' ⟨h1,m,h2⟩=>⟨h1,by rw[h2];exact below_drewN (zI _ _) _⟩

theorem insSm (x:InsL) (p q:Option Addr) (c d:Nat) (w:World) (hl:x.args.length*16<=reachBytes) (h:SliceAt w 2 kc p x.args) (g:SliceAt w 2 kc q x.args) :
  Calls Tryz.prog 103 #[.agg #[Z x.op,Z x.dst,.bool x.ar,Z x.an,.bool x.br,Z x.bn,Z x.fn,.slice p x.args.length c],.agg #[Z x.op,Z x.dst,.bool x.ar,Z x.an,.bool x.br,Z x.bn,Z x.fn,.slice q x.args.length d]] w fun e w'=>e = .returned (.bool true)/\Below w.heap.size w w':=
 ins_same x.op x.dst x.an x.bn x.fn x.ar x.br p q x.args.length c d _ w (by unfold reachBytes at hl;omega) (QK h) (QK g)
theorem intsS (xs:List Int) (p q:Option Addr) (c d:Nat) (w:World) (hl:xs.length*8<=140737488351232) (hX:SliceAt w 1 jM p xs) (hY:SliceAt w 1 jM q xs) :
  Calls Tryz.prog 71 #[.slice p xs.length c,.slice q xs.length d] w fun e w'=>e = .returned (.bool true)/\Below w.heap.size w w':=
 (ints_any xs xs p q c d w bO bO hX hY).mono fun e w' h=>⟨by rw[h.1];simp,h.2⟩

theorem YU (x:BlkL) (p1 p2 p3 q1 q2 q3:Option Addr) (c1 c2 c3 d1 d2 d3:Nat) (w:World) (hP:SlF w 2 32 (PhiR w) (.slice p1 x.phis.length c1) x.phis) (hI:SlF w 8 80 (InsR w) (.slice p2 x.list.length c2) x.list) (hT:SlF w 1 8 jM (.slice p3 x.fin.to.length c3) x.fin.to)
  (gP:SlF w 2 32 (PhiR w) (.slice q1 x.phis.length d1) x.phis) (gI:SlF w 8 80 (InsR w) (.slice q2 x.list.length d2) x.list) (gT:SlF w 1 8 jM (.slice q3 x.fin.to.length d3) x.fin.to) :
  Calls Tryz.prog 72 #[.agg #[.slice p1 x.phis.length c1,.slice p2 x.list.length c2,Z x.fin.kind,.bool x.fin.onr,Z x.fin.onn,.slice p3 x.fin.to.length c3],.agg #[.slice q1 x.phis.length d1,.slice q2 x.list.length d2,Z x.fin.kind,.bool x.fin.onr,Z x.fin.onn,.slice q3 x.fin.to.length d3]] w fun e w'=>e = .returned (.bool true)/\Below w.heap.size w w':=by
 have hlp:x.phis.length*32<=140737488351232:=hP.bdC;have hli:x.list.length*80<=140737488351232:=hI.bdC;have huz:x.fin.to.length*8<=140737488351232:=hT.bdC;have hP':SliceAt w 2 (PhiR w) p1 x.phis:=by obtain⟨_,_,e,_,_,h⟩:=hP.outC;cases e;exact h
 have hI':SliceAt w 8 (InsR w) p2 x.list:=by obtain⟨_,_,e,_,_,h⟩:=hI.outC;cases e;exact h
 have hT':SliceAt w 1 jM p3 x.fin.to:=by obtain⟨_,_,e,_,_,h⟩:=hT.outC;cases e;exact h
 have gP':SliceAt w 2 (PhiR w) q1 x.phis:=by obtain⟨_,_,e,_,_,h⟩:=gP.outC;cases e;exact h
 have gI':SliceAt w 8 (InsR w) q2 x.list:=by obtain⟨_,_,e,_,_,h⟩:=gI.outC;cases e;exact h
 have gT':SliceAt w 1 jM q3 x.fin.to:=by obtain⟨_,_,e,_,_,h⟩:=gT.outC;cases e;exact h
 have HP:=q8 hP';have HI:=q8 hI';have HT:=q8 hT';have GP:=q8 gP';have GI:=q8 gI';have GT:=q8 gT';clear hP hI hT gP gI gT hP' hI' hT' gP' gI' gT'
 go_enter Tryz.func72,Tryz.ntmps72
 go_wp2_with fail
 obtain⟨W0,hW0⟩:=nZ ((w.alloc (.cells #[.slice p1 x.phis.length c1,.slice p2 x.list.length c2,Z x.fin.kind,.bool x.fin.onr,Z x.fin.onn,.slice p3 x.fin.to.length c3] 49)).alloc (.cells #[.slice q1 x.phis.length d1,.slice q2 x.list.length d2,Z x.fin.kind,.bool x.fin.onr,Z x.fin.onn,.slice q3 x.fin.to.length d3] 49));rw[←hW0];have hz0:W0.heap.size=w.heap.size+1+1:=by rw[hW0];simp
 have HB0:Hid (Below w.heap.size w W0):=q8 (by rw[hW0];exact bZ);have HA:Hid (W0.heap[w.heap.size]?=some (.cells #[.slice p1 x.phis.length c1,.slice p2 x.list.length c2,Z x.fin.kind,.bool x.fin.onr,Z x.fin.onn,.slice p3 x.fin.to.length c3] 49 (0,0))):=q8 (by rw[hW0];exact qh (qr rfl));have HB:Hid (W0.heap[w.heap.size+1]?=some (.cells #[.slice q1 x.phis.length d1,.slice q2 x.list.length d2,Z x.fin.kind,.bool x.fin.onr,Z x.fin.onn,.slice q3 x.fin.to.length d3] 49 (0,0))):=q8 (by rw[hW0];exact qr bV);clear hW0
 go_loopw [5] (fun i wr=>∃k:Nat,k<=x.phis.length/\i=Z k/\Below W0.heap.size W0 wr) (fun i _=>x.phis.length - (intOf i).toNat)
 case atStart=>exact⟨0,by omega,rfl,zI _ _⟩
 case round=>
  obtain⟨k,hk,rfl,hb⟩:=hrel;have HBr:=q8 hb;have HBw:Hid (Below w.heap.size w wr):=HB0.out.trans (hb.mono bO);have hA:=(hb.block w.heap.size bO).trans HA.out;have hB:=(hb.block (w.heap.size+1) bO).trans HB.out;have a0:wr.cell? (J w.heap.size 0)=some (.slice p1 x.phis.length c1):=(blk hA).1 0;have b0:wr.cell? (J (w.heap.size+1) 0)=some (.slice q1 x.phis.length d1):=(blk hB).1 0;have za:=qd hA;have zb:=qd hB;have HA1:=q8 hA;have HB1:=q8 hB;clear hb hA hB
  by_cases hlt:k<x.phis.length
  ·obtain⟨bp,op,qa,ca,hp,e0,e1,_,l1,s1⟩:=Jz HP.out HBw.out hlt;obtain⟨bq,oq,qb,cb,hq,f0,f1,_,l2,s2⟩:=Jz GP.out HBw.out hlt;subst hp hq;have hz1:=q9 e0;have hz2:=q9 f0;have HS1:=q8 s1;have HS2:=q8 s2;clear s1 s2;have g1:(0:Int)<=(k:Int):=(by omega);have g2:(k:Int)<x.phis.length:=by omega
   go_wp2_with fail
   go_region_held3 (fun w'=>w'.cell? (J w.heap.size 0)=some (.slice (some (J bp op)) x.phis.length c1)/\w'.cell? (J (w.heap.size+1) 0)=some (.slice (some (J bq oq)) x.phis.length d1)/\w'.cell? (J bp (op+k*2))=some (Z x.phis[k].dst)/\w'.cell? (J bp (op+k*2+1))=some (.slice qa x.phis[k].src.length ca)/\w'.cell? (J bq (oq+k*2))=some (Z x.phis[k].dst)/\w'.cell? (J bq (oq+k*2+1))=some (.slice qb x.phis[k].src.length cb)) (go_keep)
    (first|(go_at_call 102;refine(valsS x.phis[k].src _ _ _ _ _ l1 (HS1.out.mono bZ bO fun _ _ h=>h) (HS2.out.mono bZ bO fun _ _ h=>h)).mono ?_;rintro e w2 ⟨rfl,hb2⟩;have hq1:=hb2.cell (p:=(J bp (op+k*2))) (by simpa using hz1);have hq2:=hb2.cell (p:=(J bp (op+k*2+1))) (by simpa using hz1);have hq3:=hb2.cell (p:=(J bq (oq+k*2))) (by simpa using hz2);have hq4:=hb2.cell (p:=(J bq (oq+k*2+1))) (by simpa using hz2);have hq5:=hb2.cell (p:=(J w.heap.size 0)) (by simpa using za);have hq6:=hb2.cell (p:=(J (w.heap.size+1) 0)) (by simpa using zb)))
   all_goals
    have HN:Hid (Below W0.heap.size W0 w2):=HBr.out.trans (yo bZ (hb2.mono (by simp;exact HBr.out.size)));clear hb2 hq1 hq2 hq3 hq4 hq5 hq6
    go_wp2
    exact⟨⟨k+1,by omega,by go_num,HN.out⟩,by simp[intOf];omega⟩
  obtain rfl:k=x.phis.length:=by omega
  have a1:wr.cell? (J w.heap.size 1)=some (.slice p2 x.list.length c2):=(blk HA1.out).1 1;have b1:wr.cell? (J (w.heap.size+1) 1)=some (.slice q2 x.list.length d2):=(blk HB1.out).1 1
  go_wp2_with fail
  clear a0 b0 a1 b1 za zb HBw;obtain⟨W1,hW1⟩:=nZ wr;rw[←hW1];rw[←hW1]at HBr;clear HA1 HB1 hW1;have hwL:=HBr.out.size
  go_loopw [6] (fun i wr=>∃k:Nat,k<=x.list.length/\i=Z k/\Below W0.heap.size W0 wr) (fun i _=>x.list.length - (intOf i).toNat)
  case atStart=>exact⟨0,by omega,rfl,HBr.out⟩
  case round=>
   obtain⟨k,hk,rfl,hb⟩:=hrel;have HBr:=q8 hb;have HBw:Hid (Below w.heap.size w wr):=HB0.out.trans (hb.mono bO);have hA:=(hb.block w.heap.size bO).trans HA.out;have hB:=(hb.block (w.heap.size+1) bO).trans HB.out;have a1:wr.cell? (J w.heap.size 1)=some (.slice p2 x.list.length c2):=(blk hA).1 1;have b1:wr.cell? (J (w.heap.size+1) 1)=some (.slice q2 x.list.length d2):=(blk hB).1 1;have za:=qd hA;have zb:=qd hB;have HA1:=q8 hA;have HB1:=q8 hB;clear hb hA hB
   by_cases hlt:k<x.list.length
   ·obtain⟨bp,op,qa,ca,hp,e0,e1,e2,e3,e4,e5,e6,e7,_,_,_,_,_,l1,s1⟩:=Zp HI.out HBw.out hlt;obtain⟨bq,oq,qb,cb,hq,f0,f1,f2,f3,f4,f5,f6,f7,_,_,_,_,_,l2,s2⟩:=Zp GI.out HBw.out hlt;subst hp hq;have hz1:=q9 e0;have hz2:=q9 f0;have HS1:=q8 s1;have HS2:=q8 s2;clear s1 s2;have g1:(0:Int)<=(k:Int):=(by omega);have g2:(k:Int)<x.list.length:=by omega
    go_wp2_with fail
    go_region_held3 (fun w'=>w'.cell? (J w.heap.size 1)=some (.slice (some (J bp op)) x.list.length c2)/\w'.cell? (J (w.heap.size+1) 1)=some (.slice (some (J bq oq)) x.list.length d2)/\w'.cell? (J bp (op+k*8))=some (Z x.list[k].op)/\w'.cell? (J bp (op+k*8+1))=some (Z x.list[k].dst)/\w'.cell? (J bp (op+k*8+2))=some (.bool x.list[k].ar)/\w'.cell? (J bp (op+k*8+3))=some (Z x.list[k].an)/\w'.cell? (J bp (op+k*8+4))=some (.bool x.list[k].br)/\w'.cell? (J bp (op+k*8+5))=some (Z x.list[k].bn)/\w'.cell? (J bp (op+k*8+6))=some (Z x.list[k].fn)/\w'.cell? (J bp (op+k*8+7))=some (.slice qa x.list[k].args.length ca)/\
      w'.cell? (J bq (oq+k*8))=some (Z x.list[k].op)/\w'.cell? (J bq (oq+k*8+1))=some (Z x.list[k].dst)/\w'.cell? (J bq (oq+k*8+2))=some (.bool x.list[k].ar)/\w'.cell? (J bq (oq+k*8+3))=some (Z x.list[k].an)/\w'.cell? (J bq (oq+k*8+4))=some (.bool x.list[k].br)/\w'.cell? (J bq (oq+k*8+5))=some (Z x.list[k].bn)/\w'.cell? (J bq (oq+k*8+6))=some (Z x.list[k].fn)/\w'.cell? (J bq (oq+k*8+7))=some (.slice qb x.list[k].args.length cb)) (go_keep)
     (first|(go_at_call 103;refine(insSm x.list[k] _ _ _ _ _ l1 (HS1.out.mono bZ bO fun _ _ h=>h) (HS2.out.mono bZ bO fun _ _ h=>h)).mono ?_;rintro e w2 ⟨rfl,hb2⟩;have hq1:=fun o=>hb2.cell (p:=(J bp o)) (by simpa using hz1);have hq2:=fun o=>hb2.cell (p:=(J bq o)) (by simpa using hz2);have hq5:=hb2.cell (p:=(J w.heap.size 1)) (by simpa using za);have hq6:=hb2.cell (p:=(J (w.heap.size+1) 1)) (by simpa using zb)))
    all_goals
     have HN:Hid (Below W0.heap.size W0 w2):=HBr.out.trans (yo bZ (hb2.mono (by simp;exact HBr.out.size)));clear hb2 hq1 hq2 hq5 hq6
     go_wp2
     exact⟨⟨k+1,by omega,by go_num,HN.out⟩,by simp[intOf];omega⟩
   obtain rfl:k=x.list.length:=(by omega);have a2:wr.cell? (J w.heap.size 2)=some (Z x.fin.kind):=(blk HA1.out).1 2;have b2:wr.cell? (J (w.heap.size+1) 2)=some (Z x.fin.kind):=(blk HB1.out).1 2;have a3:wr.cell? (J w.heap.size 3)=some (.bool x.fin.onr):=(blk HA1.out).1 3;have b3:wr.cell? (J (w.heap.size+1) 3)=some (.bool x.fin.onr):=(blk HB1.out).1 3;have a4:wr.cell? (J w.heap.size 4)=some (Z x.fin.onn):=(blk HA1.out).1 4;have b4:wr.cell? (J (w.heap.size+1) 4)=some (Z x.fin.onn):=(blk HB1.out).1 4;have a5:wr.cell? (J w.heap.size 5)=some (.slice p3 x.fin.to.length c3):=(blk HA1.out).1 5;have b5:wr.cell? (J (w.heap.size+1) 5)=some (.slice q3 x.fin.to.length d3):=(blk HB1.out).1 5
   go_wp2_with fail
   refine(intsS x.fin.to p3 q3 c3 d3 wr huz (HT.out.mono HBw.out bO fun _ _ h=>h) (GT.out.mono HBw.out bO fun _ _ h=>h)).mono ?_;rintro e w2 ⟨rfl,hb2⟩;have HN:Hid (Below w.heap.size w w2):=HBw.out.trans (hb2.mono HBw.out.size);clear hb2
   go_wp2
   go_ret
   exact⟨rfl,HN.out⟩

theorem blkSlot {w:World} {p:Option Addr} {xs:List BlkL} (h:SliceAt w 6 (BlkR w) p xs) {i:Nat} (hi:i<xs.length):∃b o q1 c1 q2 c2 q3 c3,p=some (J b o)/\w.cell? (J b (o+i*6))=some (.slice q1 xs[i].phis.length c1)/\w.cell? (J b (o+i*6+1))=some (.slice q2 xs[i].list.length c2)/\w.cell? (J b (o+i*6+2))=some (Z xs[i].fin.kind)/\w.cell? (J b (o+i*6+3))=some (.bool xs[i].fin.onr)/\w.cell? (J b (o+i*6+4))=some (Z xs[i].fin.onn)/\w.cell? (J b (o+i*6+5))=some (.slice q3 xs[i].fin.to.length c3)/\
  SlF w 2 32 (PhiR w) (.slice q1 xs[i].phis.length c1) xs[i].phis/\SlF w 8 80 (InsR w) (.slice q2 xs[i].list.length c2) xs[i].list/\SlF w 1 8 jM (.slice q3 xs[i].fin.to.length c3) xs[i].fin.to:=by
 rcases h with rfl|⟨b,o,hp,h⟩
 ·simp at hi
 obtain⟨cs,_,hc,hr⟩:=h i hi;obtain⟨v1,v2,v3,rfl,_,_,h1,h2,h3⟩:=hr;obtain⟨q1,c1,rfl,_⟩:=h1.outC;obtain⟨q2,c2,rfl,_⟩:=h2.outC;obtain⟨q3,c3,rfl,_⟩:=h3.outC;exact⟨b,o,q1,c1,q2,c2,q3,c3,hp,hc 0 bO,hc 1 bO,hc 2 bO,hc 3 bO,hc 4 bO,hc 5 bO,h1,h2,h3⟩

theorem func_same (x:FunL) (p q:Option Addr) (c d:Nat) (w:World) (_hn:x.name.size<=reachBytes) (hl:x.blocks.length*96<=reachBytes) (hP:SliceAt w 6 (BlkR w) p x.blocks) (hQ:SliceAt w 6 (BlkR w) q x.blocks) :
  Calls Tryz.prog 40 #[.agg #[.string x.name,Z x.params,Z x.regs,.slice p x.blocks.length c],.agg #[.string x.name,Z x.params,Z x.regs,.slice q x.blocks.length d]] w fun e w'=>e = .returned (.bool true)/\Below w.heap.size w w':=by
 have hlb:x.blocks.length*96<=140737488351232:=hl;have HP:=q8 hP;have HQ:=q8 hQ;clear hP hQ hl
 go_enter Tryz.func40,Tryz.ntmps40
 go_wp2_with fail
 obtain⟨W0,hW0⟩:=nZ ((w.alloc (.cells #[.string x.name,Z x.params,Z x.regs,.slice p x.blocks.length c] 38)).alloc (.cells #[.string x.name,Z x.params,Z x.regs,.slice q x.blocks.length d] 38));rw[←hW0];have hz0:W0.heap.size=w.heap.size+1+1:=by rw[hW0];simp
 have HB0:Hid (Below w.heap.size w W0):=q8 (by rw[hW0];exact bZ);have HA:Hid (W0.heap[w.heap.size]?=some (.cells #[.string x.name,Z x.params,Z x.regs,.slice p x.blocks.length c] 38 (0,0))):=q8 (by rw[hW0];exact qh (qr rfl));have HB:Hid (W0.heap[w.heap.size+1]?=some (.cells #[.string x.name,Z x.params,Z x.regs,.slice q x.blocks.length d] 38 (0,0))):=q8 (by rw[hW0];exact qr bV);clear hW0
 go_loopw [5] (fun i wr=>∃k:Nat,k<=x.blocks.length/\i=Z k/\Below W0.heap.size W0 wr) (fun i _=>x.blocks.length - (intOf i).toNat)
 case atStart=>exact⟨0,by omega,rfl,zI _ _⟩
 case round=>
  obtain⟨k,hk,rfl,hb⟩:=hrel;have HBr:=q8 hb;have HBw:Hid (Below w.heap.size w wr):=HB0.out.trans (hb.mono bO);have hA:=(hb.block w.heap.size bO).trans HA.out;have hB:=(hb.block (w.heap.size+1) bO).trans HB.out;have a0:wr.cell? (J w.heap.size 3)=some (.slice p x.blocks.length c):=(blk hA).1 3;have b0:wr.cell? (J (w.heap.size+1) 3)=some (.slice q x.blocks.length d):=(blk hB).1 3;have za:=qd hA;have zb:=qd hB;clear hb hA hB
  by_cases hlt:k<x.blocks.length
  rotate_left
  ·obtain rfl:k=x.blocks.length:=by omega
   go_wp2_with fail
   go_ret
   exact⟨rfl,HBw.out⟩
  obtain⟨bp,op,q1,c1,q2,c2,q3,c3,hp,e0,e1,e2,e3,e4,e5,s1,s2,s3⟩:=blkSlot (jY HP.out HBw.out) hlt;obtain⟨bq,oq,r1,d1,r2,d2,r3,d3,hq,f0,f1,f2,f3,f4,f5,t1,t2,t3⟩:=blkSlot (jY HQ.out HBw.out) hlt;subst hp hq;have hz1:=q9 e0;have hz2:=q9 f0;have HS:=q8 (zh s1 (zh s2 (zh s3 (zh t1 (zh t2 t3)))));clear s1 s2 s3 t1 t2 t3;have g1:(0:Int)<=(k:Int):=by omega
  have g2:(k:Int)<x.blocks.length:=by omega
  have hbl:∀W',Below wr.heap.size wr W'->SlF W' 2 32 (PhiR W') (.slice q1 x.blocks[k].phis.length c1) x.blocks[k].phis/\SlF W' 8 80 (InsR W') (.slice q2 x.blocks[k].list.length c2) x.blocks[k].list/\SlF W' 1 8 jM (.slice q3 x.blocks[k].fin.to.length c3) x.blocks[k].fin.to/\SlF W' 2 32 (PhiR W') (.slice r1 x.blocks[k].phis.length d1) x.blocks[k].phis/\SlF W' 8 80 (InsR W') (.slice r2 x.blocks[k].list.length d2) x.blocks[k].list/\SlF W' 1 8 jM (.slice r3 x.blocks[k].fin.to.length d3) x.blocks[k].fin.to:=fun W' h=>
   ⟨HS.out.1.mono h bO fun _ _ g=>g.below h,HS.out.2.1.mono h bO fun _ _ g=>g.below h,HS.out.2.2.1.mono h bO fun _ _ g=>g,HS.out.2.2.2.1.mono h bO fun _ _ g=>g.below h,HS.out.2.2.2.2.1.mono h bO fun _ _ g=>g.below h,HS.out.2.2.2.2.2.mono h bO fun _ _ g=>g⟩
  have HBl:=q8 hbl;clear hbl
  go_wp2_with fail
  go_region_held3 (fun w'=>w'.cell? (J w.heap.size 3)=some (.slice (some (J bp op)) x.blocks.length c)/\w'.cell? (J (w.heap.size+1) 3)=some (.slice (some (J bq oq)) x.blocks.length d)/\w'.cell? (J bp (op+k*6))=some (.slice q1 x.blocks[k].phis.length c1)/\w'.cell? (J bp (op+k*6+1))=some (.slice q2 x.blocks[k].list.length c2)/\w'.cell? (J bp (op+k*6+2))=some (Z x.blocks[k].fin.kind)/\w'.cell? (J bp (op+k*6+3))=some (.bool x.blocks[k].fin.onr)/\w'.cell? (J bp (op+k*6+4))=some (Z x.blocks[k].fin.onn)/\w'.cell? (J bp (op+k*6+5))=some (.slice q3 x.blocks[k].fin.to.length c3)/\
    w'.cell? (J bq (oq+k*6))=some (.slice r1 x.blocks[k].phis.length d1)/\w'.cell? (J bq (oq+k*6+1))=some (.slice r2 x.blocks[k].list.length d2)/\w'.cell? (J bq (oq+k*6+2))=some (Z x.blocks[k].fin.kind)/\w'.cell? (J bq (oq+k*6+3))=some (.bool x.blocks[k].fin.onr)/\w'.cell? (J bq (oq+k*6+4))=some (Z x.blocks[k].fin.onn)/\w'.cell? (J bq (oq+k*6+5))=some (.slice r3 x.blocks[k].fin.to.length d3)) (go_keep)
   (first|(go_at_call 72;obtain⟨t1,t2,t3,t4,t5,t6⟩:=HBl.out wr.drew (zI _ wr).drew;refine(YU x.blocks[k] _ _ _ _ _ _ _ _ _ _ _ _ _ t1 t2 t3 t4 t5 t6).mono ?_;rintro e w2 ⟨rfl,hb2⟩;have hq1:=fun o=>hb2.cell (p:=(J bp o)) (by simpa using hz1);have hq2:=fun o=>hb2.cell (p:=(J bq o)) (by simpa using hz2);have hq5:=hb2.cell (p:=(J w.heap.size 3)) (by simpa using za);have hq6:=hb2.cell (p:=(J (w.heap.size+1) 3)) (by simpa using zb)))
  all_goals
   have HN:Hid (Below W0.heap.size W0 w2):=HBr.out.trans (yo bZ (hb2.mono (by simp;exact HBr.out.size)));clear hb2 hq1 hq2 hq5 hq6
   go_wp2
   exact⟨⟨k+1,by omega,by go_num,HN.out⟩,by simp[intOf];omega⟩

theorem glosS {w:World} {p:Option Addr} {xs:List GloL} (h:SliceAt w 3 (GloR w) p xs) {i:Nat} (hi:i<xs.length):∃b o q c,p=some (J b o)/\w.cell? (J b (o+i*3))=some (.string xs[i].name)/\w.cell? (J b (o+i*3+1))=some (Z xs[i].size)/\w.cell? (J b (o+i*3+2))=some (.slice q xs[i].init.length c)/\xs[i].init.length*8<=140737488351232/\SliceAt w 1 jM q xs[i].init:=by
 obtain⟨b,o,q,c,hp,h1,h2,h3,_,_,h4,h5⟩:=gloGet h (zI _ _) hi;exact⟨b,o,q,c,hp,h1,h2,h3,h4,h5⟩
theorem Vn (xs:List GloL) (p q:Option Addr) (c d:Nat) (w:World) (hl:xs.length*48<=reachBytes) (hP:SliceAt w 3 (GloR w) p xs) (hQ:SliceAt w 3 (GloR w) q xs) :
  Calls Tryz.prog 39 #[.slice p xs.length c,.slice q xs.length d] w fun e w'=>e = .returned (.bool true)/\Below w.heap.size w w':=by
 have hlb:xs.length*48<=140737488351232:=hl;have HP:=q8 hP;have HQ:=q8 hQ;clear hP hQ hl;have hle:((xs.length:Int) != xs.length)=false:=by simp
 go_enter Tryz.func39,Tryz.ntmps39
 go_wp2_with fail
 go_loopw [5] (fun i wr=>∃k:Nat,k<=xs.length/\i=Z k/\Below w.heap.size w wr) (fun i _=>xs.length - (intOf i).toNat)
 case atStart=>exact⟨0,by omega,rfl,zI _ _⟩
 case round=>
  obtain⟨k,hk,rfl,hb⟩:=hrel;have HBr:=q8 hb;clear hb
  by_cases hlt:k<xs.length
  ·obtain⟨bp,op,qa,ca,hp,e0,e1,e2,l1,s1⟩:=glosS (jg HP.out HBr.out) hlt;obtain⟨bq,oq,qb,cb,hq,f0,f1,f2,l2,s2⟩:=glosS (jg HQ.out HBr.out) hlt;subst hp hq;have hz1:=q9 e0;have hz2:=q9 f0;have HS1:=q8 s1;have HS2:=q8 s2;clear s1 s2;have g1:(0:Int)<=(k:Int):=(by omega);have g2:(k:Int)<xs.length:=by omega
   go_wp2_with fail
   go_region_held3 (fun w'=>w'.cell? (J bp (op+k*3))=some (.string xs[k].name)/\w'.cell? (J bp (op+k*3+1))=some (Z xs[k].size)/\w'.cell? (J bp (op+k*3+2))=some (.slice qa xs[k].init.length ca)/\w'.cell? (J bq (oq+k*3))=some (.string xs[k].name)/\w'.cell? (J bq (oq+k*3+1))=some (Z xs[k].size)/\w'.cell? (J bq (oq+k*3+2))=some (.slice qb xs[k].init.length cb)) (go_keep)
    (first|(go_at_call 71;refine(intsS xs[k].init _ _ _ _ _ l1 (HS1.out.mono bZ bO fun _ _ h=>h) (HS2.out.mono bZ bO fun _ _ h=>h)).mono ?_;rintro e w2 ⟨rfl,hb2⟩;have hq1:=fun o=>hb2.cell (p:=(J bp o)) (by simpa using hz1);have hq2:=fun o=>hb2.cell (p:=(J bq o)) (by simpa using hz2)))
   all_goals
    have HN:Hid (Below w.heap.size w w2):=HBr.out.trans (yo bZ (hb2.mono (by simp;exact HBr.out.size)));clear hb2 hq1 hq2
    go_wp2
    exact⟨⟨k+1,by omega,by go_num,HN.out⟩,by simp[intOf];omega⟩
  obtain rfl:k=xs.length:=by omega
  go_wp2_with fail
  go_ret
  exact⟨rfl,HBr.out⟩

theorem YV (x:UniL) (p1 p2 q1 q2:Option Addr) (c1 c2 d1 d2:Nat) (w:World) (hG:SlF w 3 48 (GloR w) (.slice p1 x.globals.length c1) x.globals) (hF:SlF w 4 56 (FunR w) (.slice p2 x.funcs.length c2) x.funcs) (gG:SlF w 3 48 (GloR w) (.slice q1 x.globals.length d1) x.globals) (gF:SlF w 4 56 (FunR w) (.slice q2 x.funcs.length d2) x.funcs) :
  Calls Tryz.prog 15 #[.agg #[.slice p1 x.globals.length c1,.slice p2 x.funcs.length c2],.agg #[.slice q1 x.globals.length d1,.slice q2 x.funcs.length d2]] w fun e w'=>e = .returned (.bool true)/\Below w.heap.size w w':=by
 have hlf:x.funcs.length*56<=140737488351232:=hF.bdC;have HBd:=q8 hG.bdC;have hG':SliceAt w 3 (GloR w) p1 x.globals:=by obtain⟨_,_,e,_,_,h⟩:=hG.outC;cases e;exact h
 have hF':SliceAt w 4 (FunR w) p2 x.funcs:=by obtain⟨_,_,e,_,_,h⟩:=hF.outC;cases e;exact h
 have gG':SliceAt w 3 (GloR w) q1 x.globals:=by obtain⟨_,_,e,_,_,h⟩:=gG.outC;cases e;exact h
 have gF':SliceAt w 4 (FunR w) q2 x.funcs:=by obtain⟨_,_,e,_,_,h⟩:=gF.outC;cases e;exact h
 have HG:=q8 hG';have HF:=q8 hF';have GG:=q8 gG';have GF:=q8 gF';clear hG hF gG gF hG' hF' gG' gF';have hle:((x.funcs.length:Int) != x.funcs.length)=false:=by simp
 go_enter Tryz.func15,Tryz.ntmps15
 go_wp2_with fail
 refine(Vn x.globals _ _ _ _ _ HBd.out (jg HG.out bZ) (jg GG.out bZ)).mono ?_;rintro e w1 ⟨rfl,hb1⟩;have HB1:Hid (Below w.heap.size w w1):=yo bZ (hb1.mono bW);have HA:=q8 (qg hb1 (k:=w.heap.size) bW (qh (qr (w:=w) (o:=.cells #[.slice p1 x.globals.length c1,.slice p2 x.funcs.length c2] 25) rfl)));have HB:=q8 (qg hb1 (k:=w.heap.size+1) bV (qr (w:=w.alloc (.cells #[.slice p1 x.globals.length c1,.slice p2 x.funcs.length c2] 25)) (o:=.cells #[.slice q1 x.globals.length d1,.slice q2 x.funcs.length d2] 25) bV));have a1:w1.cell? (J w.heap.size 1)=some (.slice p2 x.funcs.length c2):=(blk HA.out).1 1;have b1:w1.cell? (J (w.heap.size+1) 1)=some (.slice q2 x.funcs.length d2):=(blk HB.out).1 1;clear hb1
 go_wp2_with fail
 clear a1 b1
 go_loopw [5] (fun i wr=>∃k:Nat,k<=x.funcs.length/\i=Z k/\Below w1.heap.size w1 wr) (fun i _=>x.funcs.length - (intOf i).toNat)
 case atStart=>exact⟨0,by omega,rfl,zI _ _⟩
 case round=>
  obtain⟨k,hk,rfl,hb⟩:=hrel;have HBr:=q8 hb;have HBw:Hid (Below w.heap.size w wr):=HB1.out.trans (hb.mono HB1.out.size);have hA:=(hb.block w.heap.size (qd HA.out)).trans HA.out;have hB:=(hb.block (w.heap.size+1) (qd HB.out)).trans HB.out;have a1:wr.cell? (J w.heap.size 1)=some (.slice p2 x.funcs.length c2):=(blk hA).1 1;have b1:wr.cell? (J (w.heap.size+1) 1)=some (.slice q2 x.funcs.length d2):=(blk hB).1 1;have za:=qd hA;have zb:=qd hB;clear hb hA hB
  by_cases hlt:k<x.funcs.length
  ·obtain⟨bp,op,qa,ca,hp,e0,e1,e2,e3,n1,_,_,l1,s1⟩:=Q1 HF.out HBw.out hlt;obtain⟨bq,oq,qb,cb,hq,f0,f1,f2,f3,n2,_,_,l2,s2⟩:=Q1 GF.out HBw.out hlt;subst hp hq;have hz1:=q9 e0;have hz2:=q9 f0;have HS1:=q8 s1;have HS2:=q8 s2;clear s1 s2;have g1:(0:Int)<=(k:Int):=(by omega);have g2:(k:Int)<x.funcs.length:=by omega
   go_wp2_with fail
   go_region_held3 (fun w'=>w'.cell? (J w.heap.size 1)=some (.slice (some (J bp op)) x.funcs.length c2)/\w'.cell? (J (w.heap.size+1) 1)=some (.slice (some (J bq oq)) x.funcs.length d2)/\w'.cell? (J bp (op+k*4))=some (.string x.funcs[k].name)/\w'.cell? (J bp (op+k*4+1))=some (Z x.funcs[k].params)/\w'.cell? (J bp (op+k*4+2))=some (Z x.funcs[k].regs)/\w'.cell? (J bp (op+k*4+3))=some (.slice qa x.funcs[k].blocks.length ca)/\w'.cell? (J bq (oq+k*4))=some (.string x.funcs[k].name)/\w'.cell? (J bq (oq+k*4+1))=some (Z x.funcs[k].params)/\w'.cell? (J bq (oq+k*4+2))=some (Z x.funcs[k].regs)/\w'.cell? (J bq (oq+k*4+3))=some (.slice qb x.funcs[k].blocks.length cb)) (go_keep)
    (first|(go_at_call 40;refine(func_same x.funcs[k] _ _ _ _ _ n1 l1 (jY HS1.out bZ) (jY HS2.out bZ)).mono ?_;rintro e w2 ⟨rfl,hb2⟩;have hq1:=fun o=>hb2.cell (p:=(J bp o)) (by simpa using hz1);have hq2:=fun o=>hb2.cell (p:=(J bq o)) (by simpa using hz2);have hq5:=hb2.cell (p:=(J w.heap.size 1)) (by simpa using za);have hq6:=hb2.cell (p:=(J (w.heap.size+1) 1)) (by simpa using zb)))
   all_goals
    have HN:Hid (Below w1.heap.size w1 w2):=HBr.out.trans (yo bZ (hb2.mono (by simp;exact HBr.out.size)));clear hb2 hq1 hq2 hq5 hq6
    go_wp2
    exact⟨⟨k+1,by omega,by go_num,HN.out⟩,by simp[intOf];omega⟩
  obtain rfl:k=x.funcs.length:=by omega
  go_wp2_with fail
  go_ret
  exact⟨rfl,HBw.out⟩

theorem Vo (w:World):Calls Tryz.prog 10 #[.agg #[.slice none 0 0,.slice none 0 0]] w fun e w'=>e = .returned (.bool true)/\Below w.heap.size w w':=by
 go_enter Tryz.func10,Tryz.ntmps10
 go_wp2_with fail
 go_ret
 exact⟨rfl,by exact bZ⟩
end Go.Proofs.YtgjjhadbjmcnpaaGreatDoor
namespace Go.Proofs.YtgjjhadbjmcnpaaGreatDoor
open Go.RowKit Go.Shelf

theorem fault_is (c a:Int) (w:World) :
  Calls Tryz.prog 14 #[Z c,Z a] w fun e w'=>e = .returned (.agg #[Z c,Z a])/\Below w.heap.size w w':=by
 go_enter Tryz.func14,Tryz.ntmps14
 go_wp2
 refine zk ?_ rfl ⟨rfl,(zI _ _).alloc (zK _) _⟩;simp[results,Tryz.results14,go_sem]
theorem much_fits (xs:List FunL):(∃k:Nat,k<=xs.length/\Zc xs=k/\xD xs=(10,(k:Int)))\/(Zc xs = -1/\xD xs=(0,0)):=by
 unfold Zc xD;cases h:xs.findIdx? xS with
 | none=>exact .inr ⟨rfl,rfl⟩
 | some k=>exact .inl ⟨k,Nat.le_of_lt (List.findIdx?_eq_some_iff_getElem.1 h).1,rfl,rfl⟩
theorem ado_says {u:UniL} {w w':World} {e:Ending} (hc:ChkOk u) (h:AdoR u w e w'):∃xs ys p1 n1 c1 p2 n2 c2,(Dr (qI u).funcs xs/\Taken xs/\Al xs xs.length 0 ys []/\ys.length=u.funcs.length)/\
    e = .returned (.tuple #[.agg #[.slice p1 n1 c1,.slice p2 n2 c2],.agg #[Z (xD ys).1,Z (xD ys).2]])/\
    ((xD ys≠(0,0)/\(p1=none/\n1=0/\c1=0)/\p2=none/\n2=0/\c2=0)\/
     (xD ys=(0,0)/\(n1=u.globals.length/\n2=u.funcs.length)/\SlF w' 3 48 (GloR w') (.slice p1 u.globals.length c1) u.globals/\SlF w' 4 56 (FunR w') (.slice p2 u.funcs.length c2) (qI { globals:=(qI u).globals,funcs:=ys }).funcs)):=by
  obtain⟨xs,ys,h1,h2,h3,h4⟩:=h
  have hl:ys.length=u.funcs.length:=by
    have:=(h3.shl.trans h1.shl).1;rw[this];simp[qI]
  rcases h4 with⟨h4,rfl⟩|⟨h4,h5,_⟩|⟨h4,_,p1,c1,p2,c2,rfl,S,hS,_⟩
  · exact⟨xs,ys,none,0,0,none,0,0,⟨h1,h2,h3,hl⟩,rfl,.inl ⟨h4,⟨rfl,rfl,rfl⟩,rfl,rfl,rfl⟩⟩
  · exact absurd (by rw[(args_ok hc h1 h3 h4).zero]) h5
  · obtain⟨r1,r2⟩:=hS.reads
    exact⟨xs,ys,p1,_,c1,p2,_,c2,⟨h1,h2,h3,hl⟩,by rw[h4],.inr ⟨h4,⟨rfl,hl⟩,r1,by rw[←hl];exact r2⟩⟩

theorem asy_bad (u:UniL) (gp fp:Option Addr) (gc fc:Nat) (w:World) (hgl:u.globals.length*48<=140737488351232) (hG:SliceAt w 3 (GloR w) gp u.globals) (hfl:u.funcs.length*56<=140737488351232) (hF:SliceAt w 4 (FunR w) fp u.funcs) (hw0:Ways w) (h:(chk u).1≠0) :
  Calls Tryz.prog 3 #[.agg #[.slice gp u.globals.length gc,.slice fp u.funcs.length fc]] w fun e w'=>e = .returned (.bool true)/\Below w.heap.size w w':=by
 have HG:=q8 hG;have HF:=q8 hF;have HW:=q8 hw0;have HH:=q8 h;have hne:((chk u).1 != 0)=true:=by simp[h]
 have hq:∀w,(binOp .eql 27 (.agg #[Z (chk u).1,Z (chk u).2]) (.agg #[Z (chk u).1,Z (chk u).2])).run Tryz.prog w = .ok (.bool true) w:=fun w=>by rw[Q7];simp
 clear hG hF hw0 h
 go_enter Tryz.func3,Tryz.ntmps3
 go_wp2_with fail
 refine(ado_bad u _ _ _ _ _ hgl (jg HG.out bZ) hfl (vQ HF.out bZ) (HW.out.below bZ) HH.out).mono ?_;rintro e w1 ⟨rfl,hb1⟩;have HB1:Hid (Below w.heap.size w w1):=yo bZ (hb1.mono bV);have hc0:=fun o=>(blk (qg hb1 (k:=w.heap.size) bV (qB w _))).1 o;have hz1:w.heap.size<w1.heap.size:=by have:=hb1.size;simp at this;omega
 have huC:w.heap.size<w1.heap.size+1:=by omega
 clear hb1
 go_wp2_with fail
 refine(vy u _ _ _ _ _ hgl (jg HG.out bZ) hfl (vQ HF.out bZ) (HW.out.below bZ)).mono ?_;rintro e w3 ⟨rfl,hb3⟩;have HB3:Hid (Below w.heap.size w w3):=yo bZ (hb3.mono bW);have hV:=qg hb3 (k:=w1.heap.size) bW (qh (qr (w:=w1) (o:=.cells #[.slice none 0 0,.slice none 0 0] 25) rfl));have hE:=qg hb3 (k:=w1.heap.size+1) bV (qr (w:=w1.alloc (.cells #[.slice none 0 0,.slice none 0 0] 25)) (o:=.cells #[Z (chk u).1,Z (chk u).2] 27) bV);have v0:w3.cell? (J w1.heap.size 0)=some (.slice none 0 0):=(blk hV).1 0;have v1:w3.cell? (J w1.heap.size 1)=some (.slice none 0 0):=(blk hV).1 1;have f0:w3.cell? (J (w1.heap.size+1) 0)=some (Z (chk u).1):=(blk hE).1 0;have f1:w3.cell? (J (w1.heap.size+1) 1)=some (Z (chk u).2):=(blk hE).1 1;have z1:=qd hV;have z2:=qd hE;have z11:w1.heap.size<w3.heap.size+1:=by omega
 have z12:w1.heap.size+1<w3.heap.size+1:=by omega
 clear hb3 hV hE
 go_wp2_with (go_at_call 10;refine(Vo _).mono ?_;rintro e w4 ⟨rfl,hb4⟩)
 have HB4:Hid (Below w.heap.size w w4):=yo bZ (hb4.mono (by have:=HB3.out.size;simp;omega));clear hb4
 go_wp2_with fail
 go_ret
 exact⟨rfl,HB4.out⟩

theorem asy_ok (u:UniL) (gp fp:Option Addr) (gc fc:Nat) (w:World) (hG:SlF w 3 48 (GloR w) (.slice gp u.globals.length gc) u.globals) (hF:SlF w 4 56 (FunR w) (.slice fp u.funcs.length fc) u.funcs) (hw0:Ways w) (hc:ChkOk u) :
  Calls Tryz.prog 3 #[.agg #[.slice gp u.globals.length gc,.slice fp u.funcs.length fc]] w fun e w'=>e = .returned (.bool true)/\Below w.heap.size w w':=by
 obtain⟨⟨hgl,hG0⟩,hfl,hF0⟩:(u.globals.length*48<=140737488351232/\SliceAt w 3 (GloR w) gp u.globals)/\u.funcs.length*56<=140737488351232/\SliceAt w 4 (FunR w) fp u.funcs:=by
  obtain⟨_,_,e1,_,_,h1⟩:=hG.outC;obtain⟨_,_,e2,_,_,h2⟩:=hF.outC;cases e1;cases e2;exact⟨⟨hG.bdC,h1⟩,hF.bdC,h2⟩
 obtain⟨m,hm,_⟩:=hc.main;have hpos:0<u.funcs.length:=Nat.lt_of_le_of_lt (Nat.zero_le _) (Va hm);have hp0:((u.funcs.length:Int) == 0)=false:=beq_eq_false_iff_ne.2 bO;have hzr:=hc.zero;have HGs:=q8 hG;have HFs:=q8 hF;have HG0:=q8 hG0;have HF0:=q8 hF0;have HW:=q8 hw0;have HC:=q8 hc;have HZ:=q8 hzr;clear hG hF hw0 hG0 hF0 hc hzr hm
 go_enter Tryz.func3,Tryz.ntmps3
 go_wp2_with fail
 obtain⟨w1,hw1⟩:=nZ (w.alloc (.cells #[.slice gp u.globals.length gc,.slice fp u.funcs.length fc] 25));rw[←hw1];have hb1:Below w.heap.size w w1:=by rw[hw1];exact bZ
 have hO1:w1.heap[w.heap.size]?=some (.cells #[.slice gp u.globals.length gc,.slice fp u.funcs.length fc] 25 (0,0)):=by rw[hw1];exact qr rfl
 have hz1:w1.heap.size=w.heap.size+1:=by rw[hw1];simp
 have hgm:=SlF.mono HGs.out hb1 bO fun _ _ h=>h.below hb1;have hfm:=SlF.mono HFs.out hb1 bO fun _ _ h=>h.below hb1;have HB1:=q8 hb1;have HO1:=q8 hO1;clear hw1 hb1 hO1;refine(ado_ok u gp fp gc fc w1 hgl hgm hfl hfm (HW.out.below HB1.out) (by rw[HZ.out])).mono ?_;rintro e w2 ⟨h,hb2⟩;obtain⟨xs,ys,p1,n1,c1,p2,n2,c2,hP,rfl,hcase⟩:=ado_says HC.out h;obtain⟨F1,F2,hFe⟩:∃F1 F2,xD ys=(F1,F2):=⟨_,_,rfl⟩;rw[hFe]at hcase ⊢;have HB2:=q8 (HB1.out.trans (hb2.mono HB1.out.size));have hO2:=(hb2.block _ bO).trans HO1.out;have HO2:=q8 hO2;have hz2:=hb2.size;have HP:=q8 hP;have HFe:=q8 hFe;have HCs:=q8 hcase;have u0:w2.cell? (J w.heap.size 0)=some (.slice gp u.globals.length gc):=(blk hO2).1 0;have u1:w2.cell? (J w.heap.size 1)=some (.slice fp u.funcs.length fc):=(blk hO2).1 1;have uz:=qd hO2;have uz1:w.heap.size<w2.heap.size+1:=by omega
 clear hgm hfm hb2 hO2 hP hFe hcase h
 go_wp2_with fail
 obtain⟨W3,hW3⟩:=nZ ((w2.alloc (.cells #[.slice p1 n1 c1,.slice p2 n2 c2] 25)).alloc (.cells #[Z F1,Z F2] 27));rw[←hW3];have hz3:W3.heap.size=w2.heap.size+1+1:=by rw[hW3];simp
 have hb3:Below w2.heap.size w2 W3:=by rw[hW3];exact bZ
 have HV3:Hid (W3.heap[w2.heap.size]?=some (.cells #[.slice p1 n1 c1,.slice p2 n2 c2] 25 (0,0))):=q8 (by rw[hW3];exact qh (qr rfl));have HT3:Hid (W3.heap[w2.heap.size+1]?=some (.cells #[Z F1,Z F2] 27 (0,0))):=q8 (by rw[hW3];exact qr bV);have HU3:=q8 ((hb3.block _ uz).trans HO2.out);have HB3:=q8 (HB2.out.trans (hb3.mono HB2.out.size));have hqQ:=q8 hb3;clear hW3 hb3 u0 u1 uz uz1;have hck:=vy u gp fp gc fc W3 hgl (jg HG0.out HB3.out) hfl (vQ HF0.out HB3.out) (HW.out.below HB3.out);rw[HZ.out]at hck;refine hck.mono ?_;rintro e w4 ⟨rfl,hb4⟩;have HB4:=q8 (HB3.out.trans (hb4.mono HB3.out.size));have hqR:=q8 (hqQ.out.trans (hb4.mono hqQ.out.size));have HU4:=q8 ((hb4.block _ (qd HU3.out)).trans HU3.out);have HV4:=q8 ((hb4.block _ (qd HV3.out)).trans HV3.out);have HT4:=q8 ((hb4.block _ (qd HT3.out)).trans HT3.out);have u0:w4.cell? (J w.heap.size 0)=some (.slice gp u.globals.length gc):=(blk HU4.out).1 0;have u1:w4.cell? (J w.heap.size 1)=some (.slice fp u.funcs.length fc):=(blk HU4.out).1 1;have uz:=qd HU4.out;have uz1:w.heap.size<w4.heap.size+1:=by omega
 have hz4:=hb4.size;clear hb4 hck HU3 HV3 HT3 HO2
 go_wp2_with fail
 obtain⟨W5,hW5⟩:=nZ (w4.alloc (.cells #[Z 0,Z 0] 27));rw[←hW5];have hb5:Below w4.heap.size w4 W5:=by rw[hW5];exact bZ
 have HB5:=q8 (HB4.out.trans (hb5.mono HB4.out.size));have hqS:=q8 (hqR.out.trans (hb5.mono hqR.out.size));have HV5:=q8 ((hb5.block _ (qd HV4.out)).trans HV4.out);have HT5:=q8 ((hb5.block _ (qd HT4.out)).trans HT4.out);have hz5:=hb5.size;clear hW5 hb5 u0 u1 uz uz1 HU4 HV4 HT4;refine(y9 u gp fp gc fc W5 hgl (HGs.out.mono HB5.out bO fun _ _ h=>h.below HB5.out) hfl (HFs.out.mono HB5.out bO fun _ _ h=>h.below HB5.out) (HW.out.below HB5.out) (by rw[HZ.out])).mono ?_;rintro e w6 ⟨⟨t1,d1,t2,d2,rfl,S,hS,_⟩,hb6⟩;obtain⟨hr1,hr2⟩:=hS.reads;have HR1:=q8 hr1;have HR2:=q8 hr2;have HB6:=q8 (HB5.out.trans (hb6.mono HB5.out.size));have hqT:=q8 (hqS.out.trans (hb6.mono hqS.out.size));have HV6:=q8 ((hb6.block _ (qd HV5.out)).trans HV5.out);have HT6:=q8 ((hb6.block _ (qd HT5.out)).trans HT5.out);have hz6:=hb6.size;clear hS hr1 hr2 hb6 HV5 HT5
 go_wp2_with fail
 obtain⟨W7,hW7⟩:=nZ ((w6.alloc (.cells #[.slice t1 u.globals.length d1,.slice t2 u.funcs.length d2] 25)).alloc (.cells #[Z 0,Z 0] 27));rw[←hW7];have hb7:Below w6.heap.size w6 W7:=by rw[hW7];exact bZ
 have htl:(qI u).funcs.length=u.funcs.length:=by simp[qI]
 have hda:=Vl u.globals (qI u).funcs t1 t2 d1 d2 W7 HC.out.tidy.2.fit (by rw[htl];exact hpos) (HR1.out.mono hb7 bO fun _ _ h=>h.below hb7) (by rw[htl];exact HR2.out.mono hb7 bO fun _ _ h=>h.below hb7);rw[htl]at hda;have HB7:=q8 (HB6.out.trans (hb7.mono HB6.out.size));have hqU:=q8 (hqT.out.trans (hb7.mono hqT.out.size));have HV7:=q8 ((hb7.block _ (qd HV6.out)).trans HV6.out);have HT7:=q8 ((hb7.block _ (qd HT6.out)).trans HT6.out);have hz7:=hb7.size;clear hW7 hb7 htl HV6 HT6 HR1 HR2;refine hda.mono ?_;rintro e w8 ⟨⟨r1,d3,r2,d4,y,r,rs,rfl,⟨g1,g2,g3,g4,hrl⟩,hr1,hr2⟩,hb8⟩;have hfT:=args_says HC.out HP.out.1 HP.out.2.1 HP.out.2.2.1 g1 g2 g3 g4;have hfe:=hfT.fitE;rw[HFe.out]at hfe;have hlw:=q8 hfT;have HR1:=q8 hr1;have HR2:=q8 hr2;have HRl:=q8 hrl;have HFr:=q8 hfe;have HB8:=q8 (HB7.out.trans (hb8.mono HB7.out.size));have hqV:=q8 (hqU.out.trans (hb8.mono hqU.out.size));have HV8:=q8 ((hb8.block _ (qd HV7.out)).trans HV7.out);have HT8:=q8 ((hb8.block _ (qd HT7.out)).trans HT7.out);have hz8:=hb8.size;clear hda hb8 hfT hfe hr1 hr2 hrl g1 g2 g3 g4 HV7 HT7
 go_wp2_with fail
 obtain⟨W9,hW9⟩:=nZ (w8.alloc (.cells #[.slice r1 u.globals.length d3,.slice r2 u.funcs.length d4] 25));rw[←hW9];have hb9:Below w8.heap.size w8 W9:=by rw[hW9];exact bZ
 have HO9:Hid (W9.heap[w8.heap.size]?=some (.cells #[.slice r1 u.globals.length d3,.slice r2 u.funcs.length d4] 25 (0,0))):=q8 (by rw[hW9];exact qr rfl);have hfr:=HR2.out.mono hb9 bO fun _ _ h=>h.below hb9
 have htm:=Kb rs r1 r2 u.globals.length d3 d4 W9 (by rw[HRl.out];omega) (by
  obtain⟨_,_,e,_,_,h⟩:=hfr.outC;injection e with e1 _ _;rw[e1]
  exact h)
 rw[HRl.out]at htm;have HB9:=q8 (HB8.out.trans (hb9.mono HB8.out.size));have hqW:=q8 (hqV.out.trans (hb9.mono hqV.out.size));have hqX:=q8 hb9;have HV9:=q8 ((hb9.block _ (qd HV8.out)).trans HV8.out);have HT9:=q8 ((hb9.block _ (qd HT8.out)).trans HT8.out);have hz9:=hb9.size;clear hW9 hb9 hfr HV8 HT8;refine htm.mono ?_;rintro e w10 ⟨rfl,hec⟩;have hiX:=q8 (HB9.out.trans (hec.mono HB9.out.size));have hiY:=q8 (hqW.out.trans (hec.mono hqW.out.size));have hdV:=q8 (hqX.out.trans (hec.mono hqX.out.size));have hn6:=q8 ((hec.block _ (qd HO9.out)).trans HO9.out);have hiZ:=q8 ((hec.block _ (qd HV9.out)).trans HV9.out);have hj4:=q8 ((hec.block _ (qd HT9.out)).trans HT9.out);have hfU:=hec.size;have o0:w10.cell? (J w8.heap.size 0)=some (.slice r1 u.globals.length d3):=(blk hn6.out).1 0;have o1:w10.cell? (J w8.heap.size 1)=some (.slice r2 u.funcs.length d4):=(blk hn6.out).1 1;have v0:w10.cell? (J w2.heap.size 0)=some (.slice p1 n1 c1):=(blk hiZ.out).1 0;have v1:w10.cell? (J w2.heap.size 1)=some (.slice p2 n2 c2):=(blk hiZ.out).1 1;have f0:w10.cell? (J (w2.heap.size+1) 0)=some (Z F1):=(blk hj4.out).1 0;have f1:w10.cell? (J (w2.heap.size+1) 1)=some (Z F2):=(blk hj4.out).1 1;have oz:=qd hn6.out;have vz:=qd hiZ.out;have fz:=qd hj4.out;clear hec htm HO9 HV9 HT9;rcases much_fits rs with⟨k,hk1,hk2,hk3⟩|⟨hk2,hk3⟩
 ·rw[hk2];rw[HFr.out]at hk3;cases hk3;have hd:decide ((k:Int)≥0)=true:=decide_eq_true bO
  have hv:(p1=none/\n1=0/\c1=0)/\p2=none/\n2=0/\c2=0:=by
   rcases HCs.out with⟨_,h1,h2⟩|⟨h1,_⟩
   ·exact⟨h1,h2⟩
   cases h1
  obtain⟨⟨rfl,rfl,rfl⟩,rfl,rfl,rfl⟩:=hv;have hq:∀w,(binOp .eql 27 (.agg #[Z 10,Z k]) (.agg #[Z 10,Z k])).run Tryz.prog w = .ok (.bool true) w:=fun w=>by rw[Q7];simp
  go_wp2_with fail
  have hn7:∀w',Below w10.heap.size w10 w'->w'.cell? (J w2.heap.size 0)=some (.slice none 0 0)/\w'.cell? (J w2.heap.size 1)=some (.slice none 0 0)/\w'.cell? (J (w2.heap.size+1) 0)=some (Z 10)/\w'.cell? (J (w2.heap.size+1) 1)=some (Z k)/\w2.heap.size<w'.heap.size/\w2.heap.size+1<w'.heap.size:=fun w' h=>by
   have h1:=(h.block _ vz).trans hiZ.out;have h2:=(h.block _ fz).trans hj4.out;exact⟨(blk h1).1 0,(blk h1).1 1,(blk h2).1 0,(blk h2).1 1,qd h1,qd h2⟩
  have hD:Below w10.heap.size w10 w10.drew:=(zI _ w10).drew;refine qA (S:=fun w'=>Below w10.heap.size w10 w') bK 8 ?_
  refine tkZ 0 44 (.agg #[Z 10,Z k]) rfl rfl hD (fun w' h=>by
   obtain⟨s1,s2,s3,s4,s5,s6⟩:=hn7 w' h
   go_simp) ?_
  refine tkZ 1 45 (Z k) rfl rfl hD (fun w' h=>by go_simp) ?_;refine qm (i:=2) bK (qt 46 rfl rfl rfl (by go_simp) (fault_is 10 k w10.drew) ?_);rintro e w11 ⟨rfl,haF⟩;have hfI:Below w10.heap.size w10 w11:=hD.trans haF;refine⟨_,rfl,hfI,?_⟩;refine qm (i:=3) bK (qC 47 (.bool true) w11 rfl rfl rfl (by go_simp) hfI ?_);refine qm (i:=4) bK (qC 48 (.bool true) w11 rfl rfl rfl (by go_simp) hfI ?_)
  refine tkZ 5 49 (.agg #[.slice none 0 0,.slice none 0 0]) rfl rfl hfI (fun w' h=>by
   obtain⟨s1,s2,s3,s4,s5,s6⟩:=hn7 w' h
   go_simp) ?_
  refine JK (i:=6) bK rfl bK (by go_simp) (Vo w11) ?_;rintro e w12 ⟨rfl,haG⟩;have hj5:Below w10.heap.size w10 w12:=hfI.trans (haG.mono hfI.size);refine⟨_,rfl,fun _=>hj5,?_⟩;refine qm (i:=7) bK (qC 51 (.bool true) w12 rfl rfl rfl (by go_simp) hj5 ?_);refine qm (i:=8) bK (qC 2 (.bool true) w12 rfl rfl rfl (by go_simp) hj5 (qL bK ?_ _));simp only[calm];have hdI:=q8 (hiX.out.trans (hj5.mono hiX.out.size));clear hfI hj5 haF haG hn7 hD
  go_wp2_with fail
  refine zk (v:=.bool true) ?_ rfl ⟨rfl,hdI.out⟩;simp[results,Tryz.results3,go_sem]
 rw[hk2];rw[HFr.out]at hk3;cases hk3
 have hv:(n1=u.globals.length/\n2=u.funcs.length)/\SlF w2 3 48 (GloR w2) (.slice p1 u.globals.length c1) u.globals/\SlF w2 4 56 (FunR w2) (.slice p2 u.funcs.length c2) (qI { globals:=(qI u).globals,funcs:=ys }).funcs:=by
  rcases HCs.out with⟨h1,_⟩|⟨_,h1⟩
  ·exact absurd rfl h1
  exact h1
 obtain⟨⟨rfl,rfl⟩,hvg,hvf⟩:=hv;obtain⟨hkr,hte⟩:=says_tidy HC.out HP.out.1 HP.out.2.2.1 HFe.out hlw.out;have HVg:=q8 hvg;have HVf:=q8 hvf;have HKr:=q8 hkr;have HTe:=q8 hte;have hlr:rs.length=u.funcs.length:=HRl.out;clear hvg hvf hkr hte
 go_wp2_with fail
 have htd:=y9 { globals:=u.globals,funcs:=rs } r1 r2 d3 d4 w10 hgl (HR1.out.mono hdV.out bO fun _ _ h=>h.below hdV.out) (by show rs.length*56<=_;rw[hlr];exact hfl) (by show SlF _ _ _ _ (.slice r2 rs.length d4) _;rw[hlr];exact HR2.out.mono hdV.out bO fun _ _ h=>h.below hdV.out) (HW.out.below hiX.out) (show(chk { globals:=(qI u).globals,funcs:=rs }).1=0 by rw[HKr.out.zero]);dsimp only at htd;rw[hlr]at htd;refine htd.mono ?_;rintro e w11 ⟨⟨q1,e1,q2,e2,rfl,S,hS,_⟩,haF⟩;obtain⟨hr1,hr2⟩:=hS.reads;have HR3:=q8 hr1;have HR4:=q8 hr2;have hjL:=q8 (hiX.out.trans (haF.mono hiX.out.size));have hj6:=q8 (hiY.out.trans (haF.mono hiY.out.size));have hV:=(haF.block _ vz).trans hiZ.out;have hT:=(haF.block _ fz).trans hj4.out;have huC:=haF.size;have x0:w11.cell? (J w2.heap.size 0)=some (.slice p1 u.globals.length c1):=(blk hV).1 0;have x1:w11.cell? (J w2.heap.size 1)=some (.slice p2 u.funcs.length c2):=(blk hV).1 1;have g0:w11.cell? (J (w2.heap.size+1) 0)=some (Z 0):=(blk hT).1 0;have g1:w11.cell? (J (w2.heap.size+1) 1)=some (Z 0):=(blk hT).1 1;have xz:=qd hV;have gz:=qd hT;have huD:=q8 hV;obtain⟨W12,hjP⟩:=nZ ((w11.alloc (.cells #[.slice q1 u.globals.length e1,.slice q2 u.funcs.length e2] 25)).alloc (.cells #[Z 0,Z 0] 27));have haG:Below w11.heap.size w11 W12:=by rw[hjP];exact bZ
 have hdA:Below w2.heap.size w2 W12:=hj6.out.trans (haG.mono hj6.out.size);have hxl:(qI { globals:=u.globals,funcs:=rs }).funcs.length=u.funcs.length:=by rw[←hlr];simp[qI]
 have hte:(qI { globals:=(qI u).globals,funcs:=ys }).funcs=(qI { globals:=u.globals,funcs:=rs }).funcs:=congrArg UniL.funcs HTe.out.symm;have hvf:=HVf.out.mono hdA bO fun _ _ h=>h.below hdA;rw[hte]at hvf;have hu:=YV (qI { globals:=u.globals,funcs:=rs }) p1 p2 q1 q2 c1 c2 e1 e2 W12 (HVg.out.mono hdA bO fun _ _ h=>h.below hdA) (by rw[hxl];exact hvf) (HR3.out.mono haG bO fun _ _ h=>h.below haG) (by rw[hxl];exact HR4.out.mono haG bO fun _ _ h=>h.below haG);rw[hxl,hjP]at hu;rw[hjP]at haG;have HU:=q8 hu;have hdI:=q8 haG;clear hjP haG hdA hxl hte hvf hu hr1 hr2 hS haF hV hT htd o0 o1 v0 v1 f0 f1;have hp1:decide ((u.funcs.length:Int) > 0)=true:=decide_eq_true bO;have hq:∀w,(binOp .eql 27 (.agg #[Z 0,Z 0]) (.agg #[Z 0,Z 0])).run Tryz.prog w = .ok (.bool true) w:=fun w=>by rw[Q7];simp
 go_wp2_with (go_at_call 15;refine HU.out.mono ?_;rintro e w13 ⟨rfl,hng⟩;have hx:=(hng.block w2.heap.size bW).trans ((hdI.out.block _ xz).trans huD.out);have y0:=(blk hx).1 0;have y1:w13.cell? (J w2.heap.size 1)=some (.slice p2 u.funcs.length c2):=(blk hx).1 1;have yz:=qd hx;have huE:Hid (Below w.heap.size w w13):=q8 ((hjL.out.trans (hdI.out.mono hjL.out.size)).trans (hng.mono bW));clear hng)
 go_ret
 exact⟨rfl,huE.out⟩
theorem asy_all (u:UniL) (gp fp:Option Addr) (gc fc:Nat) (w:World) (hG:SlF w 3 48 (GloR w) (.slice gp u.globals.length gc) u.globals) (hF:SlF w 4 56 (FunR w) (.slice fp u.funcs.length fc) u.funcs) (hw0:Ways w) :
  Calls Tryz.prog 3 #[.agg #[.slice gp u.globals.length gc,.slice fp u.funcs.length fc]] w fun e w'=>e = .returned (.bool true)/\Below w.heap.size w w':=by
 by_cases h:(chk u).1=0
 ·exact asy_ok u gp fp gc fc w hG hF hw0 (Xh h).2
 obtain⟨_,_,e1,_,_,h1⟩:=hG.outC;obtain⟨_,_,e2,_,_,h2⟩:=hF.outC;cases e1;cases e2;exact asy_bad u gp fp gc fc w hG.bdC h1 hF.bdC h2 hw0 h
end Go.Proofs.YtgjjhadbjmcnpaaGreatDoor
namespace Go.Proofs.YtgjjhadbjmcnpaaGreatDoor
open Go.ChangeShapes Go.WideShapes Go.ChangeAt Go.RowKit

def QL:List (String×DataW Unit):=Rows.argsSaysRow.laid
def nameWays : String := (Rows.argsSaysRow.laid.map (·.1)).headD ""
theorem gWays:Tryz.prog.globalNamed nameWays=some 0:=by kernel_rfl
theorem tWays:(Tryz.prog.globals[0]?).map (·.type)=some 121:=by kernel_rfl
theorem own:ownKnob Tryz.prog.godebug=none:=by kernel_rfl
theorem laidOut:laidOutB Tryz.prog=true:=by kernel_rfl
theorem door_ways (os:Os) (args:Array Value):laidMetH Tryz.prog QL ((World.doorLaid Tryz.prog 400 os).forCall (fun _ _=>0) ⟨#[],args,[]⟩).memory:=
 laidMetH_of_parts3 (fuel:=8) (laidMet_of_run' 8 bK bK) bK bK

theorem Vp {W:World} (h:laidMetH Tryz.prog QL W):Ways W:=by
 rw[MakeChecks.laidMetH_plain _ _ _ bK]at h;obtain⟨ps,⟨g1,t1,cs1,f1,p1,q1,hg1,ht1,hv1,hd1,_,_⟩,_,_⟩:=h;obtain rfl:=Option.some.inj (gWays.symm.trans hg1);obtain rfl:=Option.some.inj (tWays.symm.trans ht1);obtain⟨xs,m1,rfl,hx1,hlen,hn4,hel⟩:=DataW.trod_array Tryz.underlying121 hd1;have c3:Tryz.prog.cellsOf 3=1:=by kernel_rfl
 have c4:Tryz.prog.cellsOf 121=4:=by kernel_rfl
 rw[c4]at hlen;obtain⟨l1⟩:=cs1;obtain⟨a0,a1,a2,a3,rfl⟩:=Yf (show l1.length=4 from hlen);obtain⟨x0,x1,x2,x3,rfl⟩:=Yf hn4;simp only[Rows.laid_turnery_code_ways,yS,yw,Prod.mk.injEq,DataW.agg.injEq,List.cons.injEq]at hx1;rw[c3]at hel;have hv:=World.var?_cell hg1 hv1
 have one:∀(i:Nat) (a:Value) (x:DataW Unit×List MemPlace) (n:Int),DataW.trod (fun _=>()) Tryz.prog W 0 (fun _=>true) false m1 3 [a]=some x->DataW.lit (.int .i64 n)=x.1->a=Z n:=fun i a x n h e=>by
  obtain⟨k,e1,e2,_⟩:=DataW.trod_int Tryz.underlying3 (show DataW.trod _ Tryz.prog W 0 _ false m1 3 _=some x from h);rw[e2]at e;simp at e e1;rw[e1,e]
 obtain⟨⟨e0,e1,e2,e3,_⟩,_⟩:=hx1;obtain rfl:=one 0 a0 x0 0 (hel 0 (by decide)) e0;obtain rfl:=one 1 a1 x1 0 (hel 1 (by decide)) e1;obtain rfl:=one 2 a2 x2 1 (hel 2 (by decide)) e2;obtain rfl:=one 3 a3 x3 2 (hel 3 (by decide)) e3;exact⟨by simpa using hv 0,by simpa using hv 1,by simpa using hv 2,by simpa using hv 3⟩
end Go.Proofs.YtgjjhadbjmcnpaaGreatDoor
