/-
  The contract of tidy.Keep.
-/
import Derived.Lib.AppendZeros
import Derived.Test.YtgjjhadbjmcnpaaGreatDoorJArgG
set_option maxRecDepth 100000
set_option maxHeartbeats 16000000
namespace Go.Proofs.YtgjjhadbjmcnpaaGreatDoor
open Go.RowKit

theorem growI_any (n:Nat) (w:World) (hn:n<=1000000) :
  Calls Tryz.prog 54 #[.slice none 0 0,Z n] w fun e w'=>∃v,e = .returned v/\w'.ownsRow w.heap.size 51 8 v 0 []/\Below w.heap.size w w':=by
 obtain⟨iI,l1,l2,l3,l4⟩:=info_parts v6
 go_enter Tryz.func54,Tryz.ntmps54
 by_cases h0:0<n
 ·have hr:=fun ty=>Lib.run_append_nil_zeros (P:=Tryz.prog) w 42 3 ty 51 iI _ .i64 .i64 Tryz.underlying42 Tryz.underlying3 l1 l2 n h0 (by rw[l3];omega) bO (by rw[l4];omega);have HR:=q8 hr;clear hr
  go_wp2_with (at_builtin;refine Lib.wpList_append_run _ rfl _ _ _ _ rfl _ _ rfl rfl _ _ (HR.out _) ?_)
  go_ret
  refine⟨_,rfl,⟨rfl,.inr ⟨w.heap.size,_,_,rfl,zK _,heap_alloc_new _ _,Nat.zero_le _,grownCap_le_maxLen w n 0 _ (by unfold maxLen;omega),?_,by simp⟩⟩,?_⟩
  ·have:=grownCap_ge w n 0 51;simp[size_zeroCells];omega
  exact⟨rfl,rfl,rfl,by simp,fun j hj=>heap_alloc_old w _ hj⟩
 obtain rfl:n=0:=by omega
 go_wp2_with fail
 go_ret
 exact⟨_,rfl,⟨rfl,.inl ⟨rfl,rfl⟩⟩,zI _ _⟩
theorem J9 {P:Program} (w:World) (base:Nat) (t ty e:TypeId) (i:TypeInfo) (ht:P.underlying t=some (.slice e)) (hi:P.info? e=some i) (v:Value) (n c size:Nat) (xs:List Value) (hown:w.ownsRow base e size v n xs) :
  (Builtin.append_ #[t,t] ty #[v,.slice none 0 c]).run P w = .ok v w:=by
 rcases hown.2 with⟨rfl,rfl⟩|⟨g,cap,cur,rfl,_,_,hnc,_⟩
 ·simp[Builtin.append_,run_underlying ht,Go.sizeOf,typeInfo,hi,Builtin.lenOf,Builtin.firstCells]
 simp[Builtin.append_,run_underlying ht,Go.sizeOf,typeInfo,hi,Builtin.lenOf,Builtin.firstCells,hnc,storeCells]
theorem grown_bel {w W W':World} {v:Value} {e:TypeId} {size n:Nat} {xs:List Value} (h:Below w.heap.size w W) (ho:W.ownsRow w.heap.size e size v n xs) (hg:W.grownBy W' v.ownBlock):Below w.heap.size w W':=by
 refine⟨hg.os.trans h.os,hg.tape.trans h.tape,hg.output.trans h.output,yv h.size hg.size,fun j hj=>(hg.block j (xB hj h.size) ?_).trans (h.block j hj)⟩;rcases ho.2 with⟨rfl,_⟩|⟨g,_,_,rfl,hb,_⟩
 ·intro e;cases e
 intro e;have e:j=g:=by injection e
 omega

def QE (N:Nat->Nat) (k:Nat):Nat:=((List.range k).map N).sum
theorem jL (N:Nat->Nat) (k:Nat):QE N (k+1)=QE N k+N k:=by simp[QE,yt]
theorem KX {N:Nat->Nat} {a b:Nat} (h:a<=b):QE N a<=QE N b:=by
 induction b with
 | zero=>
  obtain rfl:a=0:=by omega
  exact zK _
 | succ b ih=>
  rw[jL];rcases yq a (b+1)with h1|h1
  ·have:=ih bO;omega
  obtain rfl:a=b+1:=by omega
  rw[jL];exact zK _

theorem VW (B m c:Nat) (Q:Nat->Option Addr) (N C:Nat->Nat) (X:Nat->List Value) (w:World) (hm:m<=1000000) (hs:∀k,k<m->w.cell? (J B k)=some (.slice (Q k) (N k) (C k)))
  (hl:∀k,k<m->(X k).length=N k*8) (h1:∀k,k<m->∀u∈X k,u.oneCell'=true) (hq:∀k,k<m->Q k=none->N k=0)
  (hc:∀k,k<m->∀a,Q k=some a->∀j u,(X k)[j]?=some u->w.cell? (a.add j)=some u) (ht:QE N m<=1000000) :
  Calls Tryz.prog 21 #[.slice (some (J B 0)) m c] w fun e w'=>∃v,e = .returned v/\w'.ownsRow w.heap.size 51 8 v (QE N m) ((List.range m).flatMap X)/\Below w.heap.size w w':=by
 obtain⟨iI,l1,l2,l3,l4⟩:=info_parts v6;have HSl:=q8 hs;have HL:=q8 hl;have hrN:=q8 h1;have HQ:=q8 hq;have HC:=q8 hc;clear hs hl h1 hq hc
 go_enter Tryz.func21,Tryz.ntmps21
 go_wp2
 go_loopw [3,11] (fun s i wr=>∃k:Nat,k<=m/\i=Z k/\s=Z (QE N k:Nat)/\w=wr) (fun _ i _=>m - (intOf i).toNat)
 case atStart=>exact⟨0,by omega,rfl,rfl,rfl⟩
 case round=>
  obtain⟨k,hk,rfl,rfl,rfl⟩:=hrel
  by_cases hlt:k<m
  ·have e0:=HSl.out k hlt;have hle:=KX (N:=N) (show k+1<=m by omega);rw[jL]at hle
   go_wp2_with fail
   refine⟨⟨k+1,by omega,by go_num,by rw[jL];go_num,trivial⟩,by simp[intOf];omega⟩
  obtain rfl:k=m:=by omega
  go_wp2_with (go_at_call 54;refine(growI_any _ _ ht).mono ?_;rintro e w1 ⟨v0,rfl,hown,hb1⟩)
  have HO:=q8 hown;have HB1:=q8 hb1;clear hown hb1
  go_loopw [6,27] (fun v i wr=>∃j:Nat,j<=k/\i=Z j/\wr.ownsRow w.heap.size 51 8 v (QE N j) ((List.range j).flatMap X)/\Below w.heap.size w wr) (fun _ i _=>k - (intOf i).toNat)
  case atStart=>exact⟨0,by omega,rfl,by simpa[QE]using HO.out,HB1.out⟩
  case round=>
   obtain⟨j,hj,rfl,hown,hb⟩:=hrel;have HO:=q8 hown;have HB:=q8 hb;clear hown hb
   by_cases hlj:j<k
   rotate_left
   ·obtain rfl:j=k:=by omega
    go_wp2_with fail
    go_ret
    exact⟨_,rfl,HO.out,HB.out⟩
   have e0:=(HB.out.cell (p:=(J B j)) (q9 (HSl.out j hlj))).trans (HSl.out j hlj);have z0:=q9 e0;have hle:=KX (N:=N) (show j+1<=k by omega);rw[jL]at hle
   have hap:∀ty,∃v' w',(Builtin.append_ #[42,42] ty #[u6,.slice (Q j) (N j) (C j)]).run Tryz.prog wr = .ok v' w'/\w'.ownsRow w.heap.size 51 8 v' (QE N (j+1)) ((List.range (j+1)).flatMap X)/\Below w.heap.size w w':=fun ty=>by
    have e1:(List.range (j+1)).flatMap X=(List.range j).flatMap X++X j:=(by simp[yt]);rw[e1,jL];cases hQ:Q j with
    | none=>
     have h0:=HQ.out j hlj hQ;have hx0:X j=[]:=List.eq_nil_of_length_eq_zero (by rw[HL.out j hlj,h0]);rw[h0,hx0,List.append_nil];exact⟨u6,wr,J9 wr _ _ ty _ iI Tryz.underlying42 l1 u6 _ _ 8 _ HO.out,HO.out,HB.out⟩
    | some a=>
     obtain⟨v',w',hr,ho,hg,_,_⟩:=run_append_own_at (P:=Tryz.prog) wr w.heap.size 42 ty 51 iI _ 8 80 Tryz.underlying42 l1 l2 l3 l4 rfl bO u6 _ _ HO.out a (N j) (C j) (X j) (HL.out j hlj) (fun i u hu=>by
      have hcc:=HC.out j hlj a hQ i u hu
      exact(HB.out.cell (p:=a.add i) (Nat.lt_of_not_le fun h=>by
       have e:w.cell? (a.add i)=none:=(by simp[World.cell?,Array.getElem?_eq_none h]);rw[e]at hcc
       cases hcc)).trans hcc) (hrN.out j hlj) (by unfold maxLen;omega) bO HB.out.size
     exact⟨v',w',hr,ho,grown_bel HB.out HO.out hg⟩
   have HAp:=q8 hap;clear hap;obtain⟨v',w',hr,ho,hb'⟩:=HAp.out 42;have HR:=q8 hr;have HO2:=q8 ho;have HB2:=q8 hb';clear hr ho hb'
   go_wp2_with (at_builtin;refine Lib.wpList_append_run _ rfl _ _ _ _ rfl _ _ rfl rfl _ _ HR.out ?_)
   exact⟨⟨j+1,by omega,by go_num,HO2.out,HB2.out⟩,by simp[intOf];omega⟩

theorem ChkOk.funC {u:UniL} (h:ChkOk u) {k:Nat} (hk:k<u.funcs.length):FunC u.funcs.length (vm u) u.funcs[k]:=by
 obtain⟨h1,h2,h3,h4⟩:=h.fn hk;refine⟨by omega,by omega,h1,h2,h4,fun b hb=>endC_iff.1 (JR (h.bodyZ hk) hb),fun b hb p hp=>phiC_iff.1 ((Qv (h.bodyZ hk) hb).1 p hp),fun b hb x hx=>(Qv (h.bodyZ hk) hb).2 x hx⟩
theorem FunC.body {u:UniL} {f:FunL} (h:FunC u.funcs.length (vm u) f):bodyE u f=0:=by
 have h1:qD (f.blocks.map fun b=>X6 f b.fin)=0:=xe fun x hx=>by
  obtain⟨b,hb,rfl⟩:=yD.1 hx;obtain⟨i,hi,rfl⟩:=yp.1 hb;exact endC_iff.2 (h.fin i hi)
 unfold bodyE;rw[zZ h1];refine xe fun x hx=>?_;obtain⟨i,hi,rfl⟩:=yD.1 hx;have hi:=yR.1 hi;rw[QM hi]
 have h2:qD (f.blocks[i].phis.map (X3 f i (zw (xq f) i).length))=0:=xe fun x hx=>by
  obtain⟨p,hp,rfl⟩:=yD.1 hx;exact phiC_iff.2 (h.phi i hi p hp)
 unfold Yi;rw[zZ h2];refine xe fun x hx=>?_;obtain⟨p,hp,rfl⟩:=yD.1 hx;exact h.ins i hi p hp
theorem headE_of {names:List ByteArray} {f g:FunL} (h:jx names f=0) (hn:g.name=f.name) {nf:Nat} {P:Nat->Int} (hg:FunC nf P g):jx names g=0:=by
 unfold jx at h ⊢;rw[hn]
 by_cases a:k9 f.name=false
 ·rw[zZ a]at h;cases h
 rw[zQ a]at h ⊢
 by_cases b:JC names f.name=true
 ·rw[zZ b]at h;cases h
 rw[zQ b];have h1:=hg.par;have h2:=hg.reg;have h3:=hg.n1;have h4:=hg.n40;have h5:=hg.many;rw[zQ bO,zQ bO]

def mainO (o:Option FunL):Bool:=match o with|some f=>vR f|none=>false
theorem QX (xs:List FunL):kb xs=(List.range xs.length).find? fun i=>mainO xs[i]?:=rfl
theorem ChkOk.same {u v:UniL} (h:ChkOk u) (hg:v.globals=u.globals) (hl:v.funcs.length=u.funcs.length) (hf:∀k (hk:k<u.funcs.length),v.funcs[k].name=u.funcs[k].name/\v.funcs[k].params=u.funcs[k].params/\FunC u.funcs.length (vm u) v.funcs[k]):chk v=(0,0)/\ChkOk v:=by
 have hp:vm v=vm u:=by
  funext k;unfold vm;congr 1;refine yV (by simp[hl]) fun i h1 h2=>?_;simp only[xE];exact(hf i (by simpa using h2)).2.1
 have hN:∀k,k<=u.funcs.length->xr v k=xr u k:=fun k hk=>by
  unfold xr;rw[hg];congr 1;refine yV (by simp[hl]) fun i h1 h2=>?_;simp only[xE,List.getElem_take];exact(hf i (by simp at h2;omega)).1
 have e1:∀j,j<v.globals.length->XF v j=0:=fun j hj=>by
  have:XF v j=XF u j:=by
   unfold XF jO jN;rw[hg]
  rw[this];exact h.glo j (by rw[←hg];exact hj)
 have e2:∀j,j<v.funcs.length->kf v j=0:=fun j hj=>by
  have hj':j<u.funcs.length:=by omega
  rw[vS hj,hN j bO];exact headE_of ((vS hj').symm.trans (h.head j hj')) (hf j hj').1 (hf j hj').2.2
 have e3:∀j,j<v.funcs.length->kX v j=0:=fun j hj=>by
  have hj':j<u.funcs.length:=by omega
  rw[kH hj];refine FunC.body ?_;rw[hp,hl];exact(hf j hj').2.2
 have e4:kb v.funcs=kb u.funcs:=by
  rw[QX,QX,hl];congr 1;funext i
  by_cases hi:i<u.funcs.length
  ·rw[zj hi,zj bO];show vR _=vR _;unfold vR;rw[(hf i hi).1]
  rw[yk bO,yk bO]
 obtain⟨m,hm,hm2⟩:=h.main;have hv:ChkOk v:=⟨by rw[hg];exact h.ng,by rw[hl];exact h.nf,e1,e2,e3,m,e4.trans hm,by rw[hp];exact hm2⟩;refine⟨?_,hv⟩;rcases JI v with g|g
 ·exact g.1
 exfalso;apply g;unfold chk chkO;rw[zQ (by have:=hv.ng;have:=hv.nf;omega),xp e1,xp e2,xp e3];simp only[kg];rw[e4.trans hm];simp only;rw[zQ (by rw[hp];omega)];rfl

theorem Ja (f:FunL):(doT f).name=f.name/\(doT f).params=f.params:=by
 have hj:∀(f:FunL) (b t:Nat),(xX f b t).name=f.name/\(xX f b t).params=f.params:=fun f b t=>⟨rfl,rfl⟩
 have hc:∀(c:Nat) (f:FunL) (b:Nat),(zt c f b).name=f.name/\(zt c f b).params=f.params:=by
  intro c
  induction c with
  | zero=>intro f b;exact⟨rfl,rfl⟩
  | succ c ih=>
   intro f b;unfold zt
   split
   ·exact⟨rfl,rfl⟩
   rename_i t _
   exact⟨(ih _ b).1.trans (hj f b t).1,(ih _ b).2.trans (hj f b t).2⟩
 have hs:∀f:FunL,(zM f).name=f.name/\(zM f).params=f.params:=fun f=>by
  unfold zM;generalize f.blocks.length+1=c
  have key:∀(l:List Nat) (g:FunL),(l.foldl (fun g b=>zt c g b) g).name=g.name/\(l.foldl (fun g b=>zt c g b) g).params=g.params:=by
   intro l
   induction l with
   | nil=>intro g;exact⟨rfl,rfl⟩
   | cons b l ih=>intro g;rw[List.foldl_cons];exact⟨(ih _).1.trans (hc c g b).1,(ih _).2.trans (hc c g b).2⟩
  exact key _ f
 have ho:∀g:FunL,(Qy g).name=g.name/\(Qy g).params=g.params:=fun g=>by unfold Qy zX;exact⟨rfl,rfl⟩
 have hn:∀g:FunL,(xO g).name=g.name/\(xO g).params=g.params:=fun g=>by unfold xO;exact⟨rfl,rfl⟩
 unfold doT jH;rw[(hn _).1,(hn _).2,(ho _).1,(ho _).2,(hs _).1,(hs _).2,(ho _).1,(ho _).2];exact⟨rfl,rfl⟩

theorem ChkOk.tidy {u:UniL} (h:ChkOk u):chk (qI u)=(0,0)/\ChkOk (qI u):=
 h.same rfl (by simp[qI]) fun k hk=>by
  have e:(qI u).funcs[k]'(by simp[qI];exact hk)=doT u.funcs[k]:=by simp[qI]
  rw[e];exact⟨(Ja _).1,(Ja _).2,(h.funC hk).done⟩
theorem FunC.small {nf:Nat} {P:Nat->Int} {f:FunL} (h:FunC nf P f):largeT f=false:=by
 unfold largeT;have h1:=h.reg;have h4:=h.n40;have h5:=h.many;rw[xA];omega

def QY {α:Type} (h:α->α) (k:Nat) (xs:List α):List (Bool×α):=xs.mapIdx fun i x=>(decide (i<k),if i<k then h x else x)
theorem jT {α:Type} (h:α->α) (k:Nat) (xs:List α):(QY h k xs).length=xs.length:=by simp[QY]
theorem QF {α:Type} {h:α->α} {k i:Nat} {xs:List α} (hi:i<(QY h k xs).length):(QY h k xs)[i]=(decide (i<k),if i<k then h (xs[i]'(by rw[←jT h k xs];exact hi))else xs[i]'(by rw[←jT h k xs];exact hi)):=by simp[QY]
theorem flagH_put {α:Type} {h:α->α} {k:Nat} {xs:List α} (hk:k<xs.length):(QY h k xs).set k (true,h xs[k])=QY h (k+1) xs:=by
 refine yV (by simp[QY]) fun i h1 h2=>?_;have h3:i<xs.length:=by rw[jT]at h2;exact h2
 rw[y8,QF h2]
 by_cases e:k=i
 ·subst e;rw[zZ rfl,zZ bO];simp
 rw[zQ e,QF (by rw[jT];exact h3)]
 by_cases g:i<k
 ·rw[zZ g,zZ bO];simp[g,(show i<k+1 by omega)]
 rw[zQ g,zQ bO];simp[g,(show ¬ i<k+1 by omega)]
theorem SlO.flagH0 {α:Type} {e:TypeId} {size:Nat} {RO:ElemO α} {R:List Value->α->Prop} {w:World} {v:Value} {xs:List α} {S:Blks} {h:α->α} (g:SlO e size (DatO R) w v xs S):SlO e size (jB RO R) w v (QY h 0 xs) S:=
 g.imp (jT h 0 xs) fun i h1 h2 cs T _ hr=>by
  rw[QF h2];exact hr
theorem SlO.flagHN {α:Type} {e:TypeId} {size:Nat} {RO:ElemO α} {R:List Value->α->Prop} {w:World} {v:Value} {xs:List α} {S:Blks} {h:α->α} (g:SlO e size (jB RO R) w v (QY h xs.length xs) S):SlO e size RO w v (xs.map h) S:=
 g.imp (by rw[jT,yT]) fun i h1 h2 cs T _ hr=>by
  have h3:i<xs.length:=by rw[yT]at h2;exact h2
  rw[QF h1]at hr;unfold jB at hr;rw[zZ (by simpa using h3)]at hr;rw[xE];rw[zZ h3]at hr;exact hr
theorem glo_one {w:World} (cs:List Value) (x:GloL) (h:GloR w cs x):∀u∈cs,u.oneCell'=true:=by
 obtain⟨v,rfl,_,_,h⟩:=h;obtain⟨p,c,rfl,_⟩:=h.outC;intro u hu;simp only[yC,yG,yl]at hu;rcases hu with rfl|rfl|rfl<;>rfl
theorem fun_one {w:World} (cs:List Value) (x:FunL) (h:FunR w cs x):∀u∈cs,u.oneCell'=true:=by
 obtain⟨v,rfl,_,_,_,h⟩:=h;obtain⟨p,c,rfl,_⟩:=h.outC;intro u hu;simp only[yC,yG,yl]at hu;rcases hu with rfl|rfl|rfl|rfl<;>rfl
def quad (w:World) (g o:Nat) (a0 a1 a2 a3:Value):World:=(((w.setCell (J g o) a0).setCell (J g (o+1)) a1).setCell (J g (o+2)) a2).setCell (J g (o+3)) a3
theorem quad_kept (w:World) (g o:Nat) (a0 a1 a2 a3:Value):Kept (fun i=>i=g) w (quad w g o a0 a1 a2 a3):=by
 unfold quad;have h0:Kept (fun i=>i=g) w w:=Kept.refl _ w;have h1:=h0.setCell (p:=(J g o)) rfl a0;have h2:=h1.setCell (p:=(J g (o+1))) rfl a1;have h3:=h2.setCell (p:=(J g (o+2))) rfl a2;exact h3.setCell (p:=(J g (o+3))) rfl a3
theorem RowPut.quad {w w1:World} {e:TypeId} {g o:Nat} {cs:List Value} (h:RowPut w w1 e g o 4 cs) (hl:cs.length=4) (a0 a1 a2 a3:Value):RowPut w (Go.Proofs.YtgjjhadbjmcnpaaGreatDoor.quad w1 g o a0 a1 a2 a3) e g o 4 [a0,a1,a2,a3]:=by
 obtain⟨c0,c1,c2,c3,rfl⟩:=Yf hl;have h0:=RowPut.set h rfl (j:=0) bO a0;simp only[yJ,yQ]at h0;have h1:=RowPut.set h0 rfl (j:=1) bO a1;simp only[yZ,yQ]at h1;have h2:=RowPut.set h1 rfl (j:=2) bO a2;simp only[yZ,yQ]at h2;have h3:=RowPut.set h2 rfl (j:=3) bO a3;simp only[yZ,yQ]at h3;unfold Go.Proofs.YtgjjhadbjmcnpaaGreatDoor.quad;exact h3

theorem vk (nm:ByteArray) (params regs:Int) (bb bo bc n:Nat) (TS:List (List Int)) (w:World) (hn:n<=40)
  (hB:∀i,i<n->Vv w bb bo i (TS.getD i []))
  (hE:∀i,i<n->(TS.getD i []).length<=2/\∀t∈TS.getD i [],1<=t/\t<n) :
  Calls Tryz.prog 95 #[.agg #[.string nm,Z params,Z regs,.slice (some (J bb bo)) n bc]] w fun e w'=>
   (∃f:Nat->Value,e = .returned (.slice (some (J (w.heap.size+1) 0)) n n)/\Rows2 w' (w.heap.size+1+1) (w.heap.size+1) n 45 3 (zm TS n) f)/\Below w.heap.size w w':=by
 obtain⟨i1,k1,k2,k3,k4⟩:=info_parts infoInt;obtain⟨i2,l1,l2,l3,l4⟩:=info_parts Kn;have hmk:=run_make_row 65 45 i2 (.slice none 0 0) JB l1 l2 l3 rfl .i64 .i64 n (by rw[l4];omega) bO;have HB:Hid (∀i,i<n->Vv w bb bo i (TS.getD i [])):=hB;have HE:Hid (∀i,i<n->(TS.getD i []).length<=2/\∀t∈TS.getD i [],1<=t/\t<n):=hE;clear hB hE
 go_enter Tryz.func95,Tryz.ntmps95
 go_wp2
 go_loopw [15] (fun i wr=>∃k:Nat,k<=n/\i=Z k/\(∃f,Rows2 wr (w.heap.size+1+1) (w.heap.size+1) n 45 3 (zm TS k) f)/\Below w.heap.size w wr) (fun i _=>n - (intOf i).toNat)
 case atStart=>exact⟨0,by omega,rfl,⟨_,by have:=Rows2.made (w.alloc (.cells #[.string nm,Z params,Z regs,.slice (some (J bb bo)) n bc] 38)) n 45 3;simpa[zm]using this⟩,by exact bZ⟩
 case round=>
  obtain⟨k,hk,rfl,⟨f,hR⟩,hb⟩:=hrel;have HBw:Hid (Below w.heap.size w wr):=hb;have HR:Hid (Rows2 wr (w.heap.size+1+1) (w.heap.size+1) n 45 3 (zm TS k) f):=hR;have hsz:w.heap.size+1<wr.heap.size:=hR.tab.lt;clear hb hR
  by_cases hlt:k<n
  rotate_left
  ·go_wp2
   go_ret
   obtain rfl:k=n:=(by omega);exact⟨⟨f,rfl,HR.out⟩,HBw.out⟩
  obtain⟨p1,m1,c1,p2,m2,c2,kk,r,m,p,c,e0,e1,e2,e3,e4,e5,hto⟩:=HB.out k hlt;have hbb:=q9 e0;rw[←HBw.out.cell (p:=(J bb (bo+k*6))) hbb]at e0;rw[←HBw.out.cell (p:=(J bb (bo+k*6+1))) hbb]at e1;rw[←HBw.out.cell (p:=(J bb (bo+k*6+2))) hbb]at e2;rw[←HBw.out.cell (p:=(J bb (bo+k*6+3))) hbb]at e3;rw[←HBw.out.cell (p:=(J bb (bo+k*6+4))) hbb]at e4;rw[←HBw.out.cell (p:=(J bb (bo+k*6+5))) hbb]at e5;obtain⟨hl2,hts⟩:=HE.out k hlt;have HTO:Hid (SliceAt w 1 jM p (TS.getD k [])):=hto;have HTS:Hid (∀t∈TS.getD k [],1<=t/\t<n):=hts;clear hto hts;generalize hto:TS.getD k []=tq at *;have HK:Hid (TS.getD k []=tq):=hto;clear hto
  go_wp2
  go_loopw [24] (fun i wq=>∃j:Nat,j<=tq.length/\i=Z j/\(∃f,Rows2 wq (w.heap.size+1+1) (w.heap.size+1) n 45 3 (zm TS k++(tq.map fun t=>(t.toNat,k)).take j) f)/\Below w.heap.size w wq) (fun i _=>tq.length - (intOf i).toNat)
  case atStart=>exact⟨0,by omega,rfl,⟨f,by simpa using HR.out.alloc _⟩,by have:=HBw.out;exact this.alloc bO _⟩
  case round=>
   clear HR HBw e0 e1 e2 e3 e4 e5;obtain⟨j,hj,rfl,⟨f,hR⟩,hb⟩:=hrel;have HBw:Hid (Below w.heap.size w wr):=hb;have HR:Hid (Rows2 wr (w.heap.size+1+1) (w.heap.size+1) n 45 3 (zm TS k++(tq.map fun t=>(t.toNat,k)).take j) f):=hR;have hsz:w.heap.size+1<wr.heap.size:=hR.tab.lt;clear hb hR
   by_cases hjl:j<tq.length
   rotate_left
   ·go_wp2
    obtain rfl:j=tq.length:=(by omega);refine⟨⟨k+1,by omega,by go_num,⟨f,?_⟩,HBw.out⟩,by simp[intOf];omega⟩;have HR2:=HR.out;rw[List.take_of_length_le bV]at HR2;unfold zm;rw[HK.out];exact HR2
   obtain⟨t,ht⟩:∃t:Nat,tq[j]=(t:Int):=⟨tq[j].toNat,by have:=(HTS.out _ (zP hjl)).1;omega⟩;have htn:t<n:=by have:=(HTS.out _ (zP hjl)).2;omega
   obtain⟨tb,tof,hp,htc⟩:∃tb tof,p=some (J tb tof)/\wr.cell? (J tb (tof+j))=some (Z t):=by
    rcases HTO.out with h0|⟨tb,tof,hp,hc⟩
    ·rw[h0]at hjl;simp at hjl
    refine⟨tb,tof,hp,?_⟩;obtain⟨cs,_,hc,⟨rfl,_⟩⟩:=hc j hjl;have h2:=hc 0 bO;simp only[Nat.mul_one,yJ,zB]at h2;rw[HBw.out.cell (p:=(J tb (tof+j))) (q9 h2),h2,ht]
   subst hp;have hrow:=HR.out.row t htn
   obtain⟨q,qc,hq⟩:∃q qc,f t = .slice q (zw (zm TS k++(tq.map fun t=>(t.toNat,k)).take j) t).length qc:=by
    rcases hrow.2 with⟨h1,h2⟩|⟨g,cap,cur,h1,_⟩
    ·refine⟨none,0,?_⟩;rw[h1,h2]
    exact⟨_,_,h1⟩
   have HQ:Hid (f t = .slice q (zw (zm TS k++(tq.map fun t=>(t.toNat,k)).take j) t).length qc):=hq;have hfc:=HR.out.tab.cell htn;have hff:=HR.out.tab.frozen t;rw[hq]at hfc hrow;clear hq;have HT:Hid (tq[j]?=some (t:Int)):=(by show _=_;rw[zj hjl,ht]);clear ht
   have hm2:(zw (zm TS k++(tq.map fun t=>(t.toNat,k)).take j) t).length<=2*k+2:=by
    have h1:=Ze (zm TS k++(tq.map fun t=>(t.toNat,k)).take j) t;have h2:=Qk TS k n hk (fun i hi=>(HE.out i hi).1);rw[yN,yr,yT]at h1;omega
   generalize hm:(zw (zm TS k++(tq.map fun t=>(t.toNat,k)).take j) t).length=m at *;have HM:Hid ((zw (zm TS k++(tq.map fun t=>(t.toNat,k)).take j) t).length=m):=hm;clear hm
   go_wp2_with (at_builtin;refine wpList_append_own_at _ rfl _ _ 45 rfl (w.heap.size+1+1) 3 i1 (Z 0) 1 8 JA k1 k2 k3 k4 rfl (by decide) _ _ _ rfl (hrow.alloc _) ⟨wr.heap.size,0,none⟩ 1 1 [Z k] rfl rfl (cell_one_new _ _ _) (by simp[Value.oneCell']) ?_ ?_ ?_ ?_)
   ·unfold maxLen;omega
   ·omega
   ·simp;omega
   intro v' w1 hown' hgrow _ hat;have HP:=(HR.out.alloc (.cells #[Z k] 3)).put (i:=k) bW htn (v':=v') (w':=w1) (by rw[HM.out];exact hown') (by rw[HQ.out];exact hgrow) (by rw[HQ.out];simpa using hat)
   obtain⟨q2,c2',hv2⟩:∃q2 c2,v' = .slice q2 (m+1) c2:=by
    rcases hown'.2 with⟨h1,h2⟩|⟨g,cap,cur,h1,_⟩
    ·omega
    exact⟨_,_,h1⟩
   subst hv2;obtain⟨hc1,hf1⟩:=(HR.out.alloc (.cells #[Z k] 3)).atTab htn (w':=w1) (by rw[HQ.out];exact hgrow);rw[HQ.out]at hc1;have hbw:=(HBw.out.alloc bO (.cells #[Z k] 3)).grown hgrow bW (fun kk e=>by have:=(hrow.lt kk e).1;omega);have HB2:=q8 hbw;have HP2:=q8 HP;clear HP hown' hgrow hat hfc hff htc hrow hbw
   go_wp2
   refine⟨⟨j+1,by omega,by go_num,⟨fun i=>if i=t then Value.slice q2 (m+1) c2' else f i,?_⟩,?_⟩,by simp[intOf];omega⟩
   ·rw[List.take_add_one,List.getElem?_map,HT.out];have HP3:=HP2.out;rw[yF]at HP3;exact HP3
   exact HB2.out.setCell (by show _<=w.heap.size+1;omega) _
end Go.Proofs.YtgjjhadbjmcnpaaGreatDoor
namespace Go.Proofs.YtgjjhadbjmcnpaaGreatDoor
open Go.RowKit Go.Shelf

theorem KY {nf:Nat} {P:Nat->Int} (f:FunL) (hC:FunC nf P f) (o:List Nat) (ho:OrdC f o) (q:Option Addr) (e1 go co:Nat) (w:World) (S:Blks) (hF:FunO w [.string f.name,Z f.params,Z f.regs,.slice q f.blocks.length e1] f S)
  (hgo:go<w.heap.size) (hgS:¬ S go) (hoc:∀i (h:i<o.length),w.cell? (J go i)=some (Z (o[i]:Nat))) (_hco:o.length<=co) :
  Calls Tryz.prog 67 #[.agg #[.string f.name,Z f.params,Z f.regs,.slice q f.blocks.length e1],.slice (some (J go 0)) o.length co] w fun e w'=>∃p c S',e = .returned (.agg #[.string f.name,Z f.params,Z f.regs,.slice p (zX o f).blocks.length c])/\
   FunO w' [.string f.name,Z f.params,Z f.regs,.slice p (zX o f).blocks.length c] (zX o f) S'/\(∀g,S' g->S g\/w.heap.size<=g)/\Kept S w w':=by
 obtain⟨iR,r1,r2,r3,r4⟩:=info_parts infoFrmC;obtain⟨iV,l1,l2,l3,l4⟩:=info_parts vU;obtain⟨iB,k1,k2,k3,k4⟩:=info_parts Zg;have hn0:=hC.n1;have hdD:=hC.n40;obtain⟨v0,hbE,hnm,i1,i2,hB⟩:=hF;have hv0:v0 = .slice q f.blocks.length e1:=by simpa using hbE.symm
 subst hv0;have hread:=hB.read (R':=BlkR w) qM bO fun _ _ _ h=>h.read;obtain⟨cs,T,hW⟩:=hB.sl;obtain⟨gq,cq,hvq,hSg,hgq,_⟩:=hW.cell hn0;have hq:q=some (J gq 0):=by injection hvq
 subst hq
 have hRd:SliceAt w 6 (BlkR w) (some (J gq 0)) f.blocks:=by
  obtain⟨p,c,e,_,_,h⟩:=hread.outC;cases e;exact h
 have hcell:∀b (hb:b<f.blocks.length) j,j<6->w.cell? (J gq (b*6+j))=(cs b)[j]?:=fun b hb j hj=>by
  obtain⟨g',c',e,_,_,h⟩:=hW.cell hb;cases e;exact h j hj
 have hol:o.length<=40:=yv (jl _ o ho.once ho.inb) hdD;have hop:0<o.length:=ho.pos.1;have HC:=q8 hC;have HO:=q8 ho;have HW:=q8 hW;have HRd:=q8 hRd;have HCe:=q8 hcell;have HOc:=q8 hoc;have HN:=q8 (zh hnm (zh i1 i2));have HBd:=q8 hB.bd;have HGS:=q8 hgS;have HSg:=q8 hSg;clear hC ho hW hRd hread hcell hoc hnm i1 i2 hB hgS hbE hvq hSg
 go_enter Tryz.func67,Tryz.ntmps67
 go_wp2_with fail
 refine(Xi (w.heap.size+1+1) 0 1 (-1) f.blocks.length _ bO (fun j hj=>by
  obtain rfl:j=0:=by omega
  exact(blk (qr (w:=(w.alloc (.cells #[.string f.name,Z f.params,Z f.regs,.slice (some (J gq 0)) f.blocks.length e1] 38)).alloc (.cells #[.string { data:=#[] },Z 0,Z 0,.slice none 0 0] 38)) (o:=.cells #[Z (-1)] 3) bV)).1 0)).mono ?_
 rintro e w1 ⟨rfl,hU,hb1⟩;have eU:(((w.alloc (.cells #[.string f.name,Z f.params,Z f.regs,.slice (some (J gq 0)) f.blocks.length e1] 38)).alloc (.cells #[.string { data:=#[] },Z 0,Z 0,.slice none 0 0] 38)).alloc (.cells #[Z (-1)] 3)).heap.size=w.heap.size+1+1+1:=by simp
 rw[eU]at hU hb1 ⊢;have hF1:w1.heap[w.heap.size]?=some (.cells #[.string f.name,Z f.params,Z f.regs,.slice (some (J gq 0)) f.blocks.length e1] 38 (0,0)):=qg hb1 bO (qh (qh (qr rfl)));have hZ1:w1.heap[w.heap.size+1]?=some (.cells #[.string { data:=#[] },Z 0,Z 0,.slice none 0 0] 38 (0,0)):=qg hb1 bO (qh (qr bV));have ho5:Below w.heap.size w w1:=yo bZ (hb1.mono bO);have HB1:=q8 ho5;have HF1:=q8 hF1;have HZ1:=q8 hZ1;have HU:=q8 hU;have zU:w.heap.size+1+1+1<w1.heap.size:=hU.lt;clear hb1 hU hF1 hZ1 ho5 eU
 go_wp2_with fail
 go_loopg [30] o.length (fun q i wr=>∃k:Nat,k<=o.length/\q=o.length - k/\i=Z k/\wr.rowIs (w.heap.size+1+1+1) 3 f.blocks.length (fun j=>Z (atK o k j))/\Kept (fun b=>b=w.heap.size+1+1+1) w1 wr)
 case atStart=>exact⟨0,by omega,rfl,rfl,HU.out.congr fun j _=>by rw[atK_zero],Kept.refl _ _⟩
 case round=>
  obtain⟨k,hk,rfl,rfl,hR,hK⟩:=hrel;have HR:=q8 hR;have HK:=q8 hK;clear hR hK
  by_cases hlt:k<o.length
  ·have c1:wr.cell? (J go k)=some (Z (o[k]:Nat)):=(HK.out.cell (p:=(J go k)) (by show go<_;omega) (by show ¬ go=_;omega)).trans ((HB1.out.cell (p:=(J go k)) hgo).trans (HOc.out k hlt));have hin:o[k]<f.blocks.length:=HO.out.inb _ (zP hlt);have c2:=HR.out.cell hin;have c3:=HR.out.frozen o[k];have HSu:=q8 (atK_succ HO.out.once hlt);generalize o[k]=ok at *
   go_wp2_with fail
   go_roundg (o.length - (k+1))
   case measure=>omega
   case rel=>exact⟨k+1,by omega,rfl,by go_num,(HR.out.set ok (Z (k:Nat))).congr fun j _=>by
    rw[HSu.out j]
    split<;>rfl,HK.out.setCell rfl _⟩
  obtain rfl:k=o.length:=by omega
  have hA:wr.rowIs (w.heap.size+1+1+1) 3 f.blocks.length (fun j=>Z (qE o j)):=HR.out.congr fun j _=>by rw[atK_full]
  have hFr:wr.heap[w.heap.size]?=some (.cells #[.string f.name,Z f.params,Z f.regs,.slice (some (J gq 0)) f.blocks.length e1] 38 (0,0)):=(HK.out.block _ bO bO).trans HF1.out;have hZr:wr.heap[w.heap.size+1]?=some (.cells #[.string { data:=#[] },Z 0,Z 0,.slice none 0 0] 38 (0,0)):=(HK.out.block _ bO bO).trans HZ1.out;have hbr:Below w.heap.size w wr:=HB1.out.trans (HK.out.below bO (fun i e=>by omega));obtain⟨wa,hwa⟩:=nZ wr;subst hwa;obtain⟨fb,ff⟩:=blk hFr;have fb0:=fb 0;have fb1:=fb 1;have fb2:=fb 2;have fb3:=fb 3;simp only[zE,zB,zD]at fb0 fb1 fb2 fb3;have fz:=qd hFr;have HA:=q8 hA;have HFr:=q8 hFr;have HZr:=q8 hZr;have HBr:=q8 hbr;have zA:w.heap.size+1+1+1<wa.heap.size:=hA.lt;clear hA hFr hZr hbr fb HR HK HU HF1 HZ1 HB1
  go_wp2_with fail
  refine(vk f.name f.params f.regs gq 0 e1 f.blocks.length (kE f) wa hdD (fun i hi=>Kq HRd.out HBr.out i hi) HC.out.funD.toFunS.tosD).mono ?_;rintro e W1 ⟨⟨tf,rfl,haS⟩,hb1⟩;have HAh:=q8 (AheadIn.of haS);have HA1:=q8 (HA.out.of_block (hb1.block _ zA));have HF1:=q8 ((hb1.block _ (qd HFr.out)).trans HFr.out);have HZ1:=q8 ((hb1.block _ (qd HZr.out)).trans HZr.out);have HB1:=q8 (HBr.out.trans (hb1.mono HBr.out.size));have hz1:=hb1.size;obtain⟨T1,hT1⟩:=nZ (wa.heap.size+1);rw[←hT1]at HAh ⊢;clear haS hb1 HA HFr HZr HBr fb0 fb1 fb2 fb3 ff fz;obtain⟨lo,hlo⟩:=nZ w.heap.size;have hrO:w.heap.size+1+1+1+1<T1:=by omega
  have ho6:=HAh.out.1.2;clear hT1;have hrP:Hid (∀i (h:i<o.length),W1.cell? (J go i)=some (Z (o[i]:Nat))):=q8 fun i h=>(HB1.out.cell (p:=(J go i)) hgo).trans (HOc.out i h);have zA1:w.heap.size+1+1+1<W1.heap.size:=by omega
  go_wp2_with fail
  go_loopg [9,44] o.length (fun q s9 s44 wr=>∃(k:Nat) (SN:Blks),k<=o.length/\q=o.length - k/\s44=Z k/\SlO 49 6 BlkO wr s9 ((zX o f).blocks.take k) SN/\(∀g,SN g->(∃i∈o.take k,T i g)\/W1.heap.size<=g)/\Kept (fun g=>∃i∈o.take k,T i g) W1 wr)
  case atStart=>exact⟨0,fun _=>False,by omega,rfl,rfl,by rw[List.take_zero];exact SlO.nil _ _ _ _ (fun _ h=>h.elim),fun _ h=>h.elim,Kept.refl _ _⟩
  case round=>
   obtain⟨wo,hwo⟩:=nZ wr;subst hwo;obtain⟨k,SN,hk,rfl,rfl,hO,hN,hK⟩:=hrel
   have hkQ:∀k',k'<=o.length->∀g,(∃i∈o.take k',T i g)->g<w.heap.size/\S g:=fun k' _ g hg=>by
    obtain⟨i,hi,h⟩:=hg;have hi2:=HO.out.inb i (List.mem_of_mem_take hi);exact⟨HW.out.inb g (HW.out.sub i hi2 g h),HW.out.sub i hi2 g h⟩
   have HTl:=q8 hkQ;have hkl:(zX o f).blocks.length=o.length:=xg o f;obtain⟨pN,cN,hvN,_⟩:=hO.val;have hlN:((zX o f).blocks.take k).length=k:=(by rw[yr,hkl];omega);rw[hlN]at hvN;subst hvN;have hsz:=hK.size;have hFo:wo.heap[w.heap.size]?=some (.cells #[.string f.name,Z f.params,Z f.regs,.slice (some (J gq 0)) f.blocks.length e1] 38 (0,0)):=(hK.block _ bO (fun hg=>by have:=(hkQ k hk _ hg).1;omega)).trans HF1.out;have HFo:=q8 hFo;have HOo:=q8 hO;have HN1:=q8 hN;have HK:=q8 hK;obtain⟨fb,ff⟩:=blk hFo;have fb0:=fb 0;have fb1:=fb 1;have fb2:=fb 2;have fb3:=fb 3;simp only[zE,zB,zD]at fb0 fb1 fb2 fb3;have fz:=qd hFo;clear hO hN hK hkQ hFo fb
   by_cases hlt:k<o.length
   rotate_left
   ·obtain rfl:k=o.length:=(by omega);have hOf:=HOo.out;rw[List.take_of_length_le (by rw[hkl];exact zK _)]at hOf;have hZo:wo.heap[w.heap.size+1]?=some (.cells #[.string { data:=#[] },Z 0,Z 0,.slice none 0 0] 38 (0,0)):=(HK.out.block _ bO (fun hg=>by have:=(HTl.out _ (zK _) _ hg).1;omega)).trans HZ1.out;obtain⟨zb,zf⟩:=blk hZo;have zb0:=zb 0;have zb1:=zb 1;have zb2:=zb 2;have zb3:=zb 3;simp only[zE,zB,zD]at zb0 zb1 zb2 zb3;have zz:=qd hZo;have hne1:¬ (w.heap.size+1=w.heap.size):=(by omega);have hne2:¬ (w.heap.size=w.heap.size+1):=(by omega);have HOf:=q8 hOf;have HZo:=q8 hZo;clear hOf hZo zb
    go_wp2_with fail
    obtain⟨WF,hWF⟩:=nZ (((((wo.setCell (J w.heap.size 3) (.slice pN o.length cN)).setCell (J (w.heap.size+1) 0) (.string f.name)).setCell (J (w.heap.size+1) 1) (Z f.params)).setCell (J (w.heap.size+1) 2) (Z f.regs)).setCell (J (w.heap.size+1) 3) (.slice pN o.length cN));rw[←hWF]
    have hKf:Kept (fun i=>i=w.heap.size\/i=w.heap.size+1) wo WF:=by
     rw[hWF];have h0:Kept (fun i=>i=w.heap.size\/i=w.heap.size+1) wo wo:=Kept.refl _ wo;have h1:=h0.setCell (p:=(J w.heap.size 3)) (.inl rfl) (.slice pN o.length cN);have h2:=h1.setCell (p:=(J (w.heap.size+1) 0)) (.inr rfl) (.string f.name);have h3:=h2.setCell (p:=(J (w.heap.size+1) 1)) (.inr rfl) (Z f.params);have h4:=h3.setCell (p:=(J (w.heap.size+1) 2)) (.inr rfl) (Z f.regs);exact h4.setCell (p:=(J (w.heap.size+1) 3)) (.inr rfl) (.slice pN o.length cN)
    have hRF:WF.heap[w.heap.size+1]?=some (.cells #[.string f.name,Z f.params,Z f.regs,.slice pN o.length cN] 38 (0,0)):=by
     have h1:(wo.setCell (J w.heap.size 3) (.slice pN o.length cN)).heap[w.heap.size+1]?=some (.cells #[.string { data:=#[] },Z 0,Z 0,.slice none 0 0] 38 (0,0)):=(zJ _ _ _ _ (by show w.heap.size+1≠w.heap.size;omega)).trans HZo.out;rw[hWF,qj (qj (qj (qj h1 0 _) 1 _) 2 _) 3 _];rfl
    clear hWF;obtain⟨rb,_⟩:=blk hRF;have rb0:=rb 0;have rb1:=rb 1;have rb2:=rb 2;have rb3:=rb 3;simp only[zE,zB,zD]at rb0 rb1 rb2 rb3
    have hNl:∀g,SN g->g≠w.heap.size/\g≠w.heap.size+1:=fun g hg=>by
     rcases HN1.out g hg with h|h
     ·have:=(HTl.out _ (zK _) g h).1;omega
     omega
    refine zk (v:=.agg #[.string f.name,Z f.params,Z f.regs,.slice pN o.length cN]) ?_ rfl ⟨pN,cN,SN,by rw[hkl],⟨_,by rw[hkl];rfl,HN.out.1,HN.out.2.1,HN.out.2.2,⟨?_,?_⟩⟩,fun g hg=>?_,?_⟩
    ·simp[results,Tryz.results67,go_sem,rb0,rb1,rb2,rb3]
    ·exact HOf.out.kept qM hKf (fun g h1 h2=>by have:=hNl g h2;omega)
    ·rw[hkl];unfold reachBytes;omega
    ·rcases HN1.out g hg with h|h
     ·exact .inl (HTl.out _ (zK _) g h).2
     right;omega
    refine((Kept.of_below HB1.out).trans HK.out (fun g _ h=>(HTl.out _ (zK _) g h).2)).trans hKf (fun g h1 h2=>?_);omega
   obtain⟨b,hbk⟩:=nZ (o[k]);have hin:b<f.blocks.length:=(by rw[hbk];exact HO.out.inb _ (zP hlt));have hmem:b∈o:=by rw[hbk];exact zP hlt
   have c1:wo.cell? (J go k)=some (Z (b:Nat)):=by
    rw[hbk];exact(HK.out.cell (p:=(J go k)) (by show go<_;omega) (fun hg=>HGS.out (HTl.out k hk go hg).2)).trans (hrP.out k hlt)
   obtain⟨x,hxe⟩:=nZ (f.blocks[b]);obtain⟨ah,hah⟩:=nZ (insN f b)
   have hTk:∀g,T b g->¬ ∃i∈o.take k,T i g:=fun g hg ⟨i,hi,h⟩=>by
    have hib:=HO.out.inb i (List.mem_of_mem_take hi)
    have hne:i≠b:=fun e=>by
     rw[List.mem_take_iff_getElem]at hi;obtain⟨j,hj,rfl⟩:=hi;rw[hbk]at e;have h2:=congrArg o.idxOf e;have hnd:o.Nodup:=HO.out.once;rw[hnd.idxOf_getElem j bO,hnd.idxOf_getElem k hlt]at h2;omega
    exact HW.out.two i b hib hin hne g h hg
   have hTw:∀g,T b g->S g/\g<w.heap.size:=fun g hg=>⟨HW.out.sub b hin g hg,HW.out.inb g (HW.out.sub b hin g hg)⟩;have hTo:∀g,T b g->wo.heap[g]?=w.heap[g]?:=fun g hg=>(HK.out.block g (by have:=(hTw g hg).2;omega) (hTk g hg)).trans (HB1.out.block g (hTw g hg).2)
   have hX0:BlkO wo (cs b) x (T b):=by
    rw[hxe];exact qM _ _ _ _ _ (HW.out.el b hin) hTo bO
   have hez:wo.heap[gq]?=w.heap[gq]?:=(HK.out.block gq bO (fun⟨i,hi,h⟩=>HW.out.off i (HO.out.inb i (List.mem_of_mem_take hi)) gq rfl h)).trans (HB1.out.block gq hgq);have hce:∀j,j<6->wo.cell? (J gq (b*6+j))=(cs b)[j]?:=fun j hj=>(zN (a:=(J gq (b*6+j))) hez).trans (HCe.out b hin j hj);have hv9:gq<wo.heap.size:=(by omega);obtain⟨v1,v2,v3,S1,S2,S3,ho7,j1,j2,h3,h4,h5,a1,a2,a3,g1,g2,g3⟩:=hX0;rw[ho7]at hce
   have hcl:∀p∈x.phis,p.src.length=ah.length:=fun p hp=>by
    rw[hxe]at hp;rw[hah];exact(HC.out.phi b hin p hp).len
   have hto:∀t∈x.fin.to,1<=t/\t<(f.blocks.length:Int):=(by rw[hxe];exact(HC.out.fin b hin).to);have hhI:∀a∈ah,a<f.blocks.length:=fun a ha=>row_lt (c:=b) (by rw[hah]at ha;exact ha);have ho8:ah.Nodup:=(by rw[hah];exact HC.out.funD.insD b);have hkR:ah.length<=80:=(by rw[hah];exact KE HC.out.funD.toFunS b);obtain⟨q1,d1,rfl,e10,_⟩:=h3.sl.val;obtain⟨q2,d2,rfl,e20,_⟩:=h4.sl.val;obtain⟨q3,d3,rfl,e30,_⟩:=h5.sl.val;have c2:=hce 0 bO;have c3:=hce 1 bO;have c4:=hce 2 bO;have c5:=hce 3 bO;have c6:=hce 4 bO;have c7:=hce 5 bO;simp only[zB,zD,yJ]at c2 c3 c4 c5 c6 c7;have HBk:=q8 hbk;have HXe:=q8 hxe;have HAe:=q8 hah;have HTk:=q8 hTk;have HTw:=q8 hTw;have HPh:=q8 h3;have HLs:=q8 h4;have HEt:=q8 h5;have HJ:=q8 (zh j1 j2);have HAp:=q8 (zh a1 (zh a2 a3));have HG:=q8 (zh g1 (zh g2 g3));have HCl:=q8 hcl;have HTo:=q8 hto;have HAl:=q8 hhI;have HAd:=q8 ho8;have hbp:=h3.bd;have hbl:=h4.bd;unfold reachBytes at hbp hbl;clear hbk hxe hah hTk hTw hTo hez hce h3 h4 h5 j1 j2 a1 a2 a3 g1 g2 g3 hcl hto hhI ho8 ho7
   go_wp2_with fail
   obtain⟨W2,hW2⟩:=nZ (wo.alloc (.cells #[.slice q1 x.phis.length d1,.slice q2 x.list.length d2,Z x.fin.kind,.bool x.fin.onr,Z x.fin.onn,.slice q3 x.fin.to.length d3] 49));rw[←hW2];have hz2:W2.heap.size=wo.heap.size+1:=(by rw[hW2];simp);have hb2:Below wo.heap.size wo W2:=(by rw[hW2];exact bZ);have hX2:W2.heap[wo.heap.size]?=some (.cells #[.slice q1 x.phis.length d1,.slice q2 x.list.length d2,Z x.fin.kind,.bool x.fin.onr,Z x.fin.onn,.slice q3 x.fin.to.length d3] 49 (0,0)):=(by rw[hW2];exact qr rfl);have HB2:=q8 hb2;have HX2:=q8 hX2;have hK2:Kept (fun g=>∃i∈o.take k,T i g) W1 W2:=HK.out.trans (Kept.of_below (S:=fun _=>False) hb2) (fun _ _ h=>h.elim)
   have hrQ:Hid (∀(U:Blks) (wr:World),Kept U W2 wr->(∀g,U g->g<w.heap.size\/W2.heap.size<=g)->wr.rowIs (w.heap.size+1+1+1) 3 f.blocks.length (fun j=>Z (qE o j))/\AheadIn wr T1 T1 f/\wr.heap[wo.heap.size]?=some (.cells #[.slice q1 x.phis.length d1,.slice q2 x.list.length d2,Z x.fin.kind,.bool x.fin.onr,Z x.fin.onn,.slice q3 x.fin.to.length d3] 49 (0,0))/\wr.heap[w.heap.size]?=some (.cells #[.string f.name,Z f.params,Z f.regs,.slice (some (J gq 0)) f.blocks.length e1] 38 (0,0))/\W2.heap.size<=wr.heap.size):=q8 fun U wr hk hU=>by
    have hlow:∀g,(∃i∈o.take k,T i g)->g<w.heap.size:=fun g hg=>(HTl.out k bO g hg).1;refine⟨(HA1.out.of_block (hK2.block _ zA1 (fun hg=>by have:=hlow _ hg;omega))).of_block (hk.block _ bO (fun hg=>by have:=hU _ hg;omega)),(HAh.out.kept hK2 (fun g hg=>.inl (by have:=hlow g hg;omega))).kept hk (fun g hg=>by have:=hU g hg;omega),(hk.block _ bO (fun hg=>by have:=hU _ hg;omega)).trans HX2.out,(hk.block _ bO (fun hg=>by have:=hU _ hg;omega)).trans ((hb2.block _ bO).trans HFo.out),hk.size⟩
   have hP2:SlO 84 2 PhiO W2 (.slice q1 x.phis.length d1) x.phis S1:=HPh.out.sl.below x8 hb2;have hS1:∀g,S1 g->S g/\g<w.heap.size:=fun g hg=>HTw.out g (HG.out.1 g hg);have HP2:=q8 hP2;have HS1:=q8 hS1;clear hW2 hb2 hX2 hP2 hS1 hK2 c1 c2 c3 c4 c5 c6 c7 fb0 fb1 fb2 fb3 ff fz
   go_wp2_with fail
   go_loopg [56] x.phis.length (fun q s56 wr=>∃(j:Nat) (SP:Blks),j<=x.phis.length/\q=x.phis.length - j/\s56=Z j/\SlO 84 2 PhiO wr (.slice q1 x.phis.length d1) (qG j (phiK (qE o) ah) x.phis) SP/\(∀g,SP g->S1 g\/W2.heap.size<=g)/\Kept S1 W2 wr)
   case atStart=>exact⟨0,S1,by omega,rfl,rfl,by rw[qU];exact HP2.out,fun _ h=>.inl h,Kept.refl _ _⟩
   case round=>
    obtain⟨wp,hwp⟩:=nZ wr;subst hwp;obtain⟨j,SP,hj,rfl,rfl,hO,hN,hK'⟩:=hrel;have HPj:=q8 hO;have HNj:=q8 hN;have HKj:=q8 hK';have hj8:=hK'.size;obtain⟨hAj,ho9,hXj,hFj,_⟩:=hrQ.out S1 wp hK' (fun g hg=>.inl (HS1.out g hg).2);obtain⟨xb,xf⟩:=blk hXj;have xz:=qd hXj;have xb0:=xb 0;have xb1:=xb 1;have xb2:=xb 2;have xb3:=xb 3;have xb4:=xb 4;have xb5:=xb 5;simp only[zE,zB,zD]at xb0 xb1 xb2 xb3 xb4 xb5;have HXj:=q8 hXj;have HAj:=q8 hAj;have hrR:=q8 ho9;clear hO hN hK' hAj ho9 hXj hFj xb
    by_cases hjl:j<x.phis.length
    rotate_left
    ·obtain rfl:j=x.phis.length:=(by omega);have hPf:=HPj.out;rw[qR]at hPf;have hT0:SlO 3 1 IntO wp (.slice q3 x.fin.to.length d3) x.fin.to S3:=(HEt.out.sl.below xk HB2.out).kept xk HKj.out (fun g h1 h2=>HAp.out.2.1 g h1 h2);have HPf:=q8 hPf;have HT0:=q8 hT0;have hoh:∀g,S3 g->S g/\g<w.heap.size:=fun g hg=>HTw.out g (HG.out.2.2 g hg);have HS3:=q8 hoh;have hbt:=HEt.out.bd;unfold reachBytes at hbt;clear hPf hT0 HPj hoh
     go_wp2_with fail
     go_loopg [122] x.fin.to.length (fun q s122 wr=>∃i:Nat,i<=x.fin.to.length/\q=x.fin.to.length - i/\s122=Z i/\SlO 3 1 IntO wr (.slice q3 x.fin.to.length d3) (qG i (fun t=>qE o t.toNat) x.fin.to) S3/\Kept S3 wp wr)
     case atStart=>exact⟨0,by omega,rfl,rfl,by rw[qU];exact HT0.out,Kept.refl _ _⟩
     case round=>
      obtain⟨i,hi,rfl,rfl,hT,hKt⟩:=hrel;have hvh:=hKt.size;have hXt:wr.heap[wo.heap.size]?=some (.cells #[.slice q1 x.phis.length d1,.slice q2 x.list.length d2,Z x.fin.kind,.bool x.fin.onr,Z x.fin.onn,.slice q3 x.fin.to.length d3] 49 (0,0)):=(hKt.block _ (qd HXj.out) (fun h=>by have:=(HS3.out _ h).2;omega)).trans HXj.out;have hAt:=HAj.out.of_block (hKt.block _ HAj.out.lt (fun h=>by have:=(HS3.out _ h).2;omega));obtain⟨yb,yf⟩:=blk hXt;have yz:=qd hXt;have yb5:=yb 5;simp only[zE,zB,zD]at yb5;have HT:=q8 hT;have HKt:=q8 hKt;have HXt:=q8 hXt;have HAt:=q8 hAt;clear hT hKt hAt xb0 xb1 xb2 xb3 xb4 xb5 xf xz
      by_cases hil:i<x.fin.to.length
      ·have hhJ:i<(qG i (fun t=>qE o t.toNat) x.fin.to).length:=(by rw[qO];exact hil);obtain⟨gt,ct,cst,Tt,hvt,hgt,hom,hrS,hxt,hrT,hrV,heA,hrW,⟨curt,hhK⟩,putt⟩:=HT.out.focus xk bO hhJ;rw[xh hhJ (zK _)]at hxt;obtain⟨hfQ,_⟩:=hxt;subst hfQ;have hq3:q3=some (J gt 0):=(by injection hvt);subst hq3;have htb:=HTo.out _ (zP hil);obtain⟨tn,htn⟩:∃tn:Nat,x.fin.to[i]=(tn:Int):=⟨x.fin.to[i].toNat,by omega⟩;have hsu:=qS (u:=fun t=>qE o t.toNat) hil;simp only[htn,xC]at hsu;rw[htn]at htb heA;have htl:tn<f.blocks.length:=(by omega);have t0:=heA 0 bO;simp only[zB,yJ,Nat.mul_one]at t0;have t1:=HAt.out.cell htl;have t2:=hrW i;have tAz:w.heap.size+1+1+1<wr.heap.size:=HAt.out.lt;have HSu:=q8 hsu;have hkS:=q8 putt;have hkT:=q8 hhK;have hrX:=q8 heA;have HTn:=q8 htn;have hrY:=q8 hom;clear hvt hsu putt hhK heA htn hom hrS hrT hrV;generalize hpt:qE o tn=pt at *
       have hoo:pt<1000000/\-1<=pt:=by
        rw[←hpt];unfold qE
        split
        ·next h=>have:=(ja h).1;omega
        omega
       have HPt:=q8 hpt;clear hpt
       go_wp2_with fail
       go_region
       have hput:=hkS.out (wr.drew.setCell (J gt i) (Z pt)) [Z pt] pt (fun _=>False) (by
         have h1:=RowPut.set (RowPut.same (w':=wr.drew) hkT.out rfl hrX.out) rfl (j:=0) bO (Z pt);simp only[yJ,Nat.mul_one,yQ]at h1;simp only[Nat.mul_one];exact h1) rfl (fun u hu=>by
         simp only[yC,yG,yl]at hu;rw[hu]
         rfl) (by rw[yK];exact zK _) (fun g h1 h2 h3=>zJ _ _ _ g h3) ⟨rfl,by unfold I64;omega⟩ (fun g h=>h.elim)
       rw[HSu.out]at hput
       have hrel:SlO 3 1 IntO (wr.drew.setCell (J gt i) (Z pt)) (.slice (some (J gt 0)) x.fin.to.length d3) (qG (i+1) (fun t=>qE o t.toNat) x.fin.to) S3/\Kept S3 wp (wr.drew.setCell (J gt i) (Z pt)):=
        ⟨hput.grow (fun g h=>h.elim id (fun h=>h.elim)) (HT.out.inb.mono (by rw[yK];exact zK _)),(HKt.out.drew).setCell (p:=(J gt i)) hrY.out _⟩
       have ha7:=q8 hrel;clear hput hrel
       go_wp2_with fail
       go_roundg (x.fin.to.length - (i+1))
       case measure=>omega
       case rel=>exact⟨i+1,by omega,rfl,by go_num,ha7.out.1,ha7.out.2⟩
      obtain rfl:i=x.fin.to.length:=(by omega);have hTf:=HT.out;rw[qR]at hTf;have hKw:Kept S1 wo wp:=(Kept.of_below HB2.out).trans HKj.out (fun _ _ h=>h);have hKa:Kept (fun g=>S1 g\/S3 g) wo wr:=(hKw.mono fun _ _ h=>.inl h).trans HKt.out (fun _ _ h=>.inr h)
      have hPr:SlO 84 2 PhiO wr (.slice q1 x.phis.length d1) (x.phis.map (phiK (qE o) ah)) SP:=HPf.out.kept x8 HKt.out (fun g h1 h2=>by
       rcases HNj.out g h2 with h|h
       ·exact HAp.out.2.1 g h h1
       have:=(HS3.out g h1).2;omega)
      have hLr:SlO 51 8 InsO wr (.slice q2 x.list.length d2) x.list S2:=HLs.out.sl.kept qT hKa (fun g h1 h2=>h1.elim (fun h=>HAp.out.1 g h h2) (fun h=>HAp.out.2.2 g h2 h))
      have hBr:BlkO wr [.slice q1 x.phis.length d1,.slice q2 x.list.length d2,Z x.fin.kind,.bool x.fin.onr,Z x.fin.onn,.slice q3 x.fin.to.length d3] (blkK (qE o) ah x) (fun g=>SP g\/S2 g\/S3 g):=by
       refine⟨_,_,_,SP,S2,S3,rfl,HJ.out.1,HJ.out.2,⟨?_,?_⟩,⟨hLr,HLs.out.bd⟩,⟨?_,?_⟩,fun g h1 h2=>?_,fun g h1 h2=>?_,HAp.out.2.2,fun _ h=>.inl h,fun _ h=>.inr (.inl h),fun _ h=>.inr (.inr h)⟩
       ·exact hPr
       ·show(x.phis.map _).length*32<=_;rw[yT];exact HPh.out.bd
       ·exact hTf
       ·show(x.fin.to.map _).length*8<=_;rw[yT];exact HEt.out.bd
       ·rcases HNj.out g h1 with h|h
        ·exact HAp.out.1 g h h2
        have:=(HTw.out g (HG.out.2.1 g h2)).2;omega
       rcases HNj.out g h1 with h|h
       ·exact HAp.out.2.1 g h h2
       have:=(HS3.out g h2).2;omega
      have hTb:∀g,SP g\/S2 g\/S3 g->T b g\/W2.heap.size<=g:=fun g hg=>by
       rcases hg with h|h|h
       ·rcases HNj.out g h with h|h
        ·exact .inl (HG.out.1 g h)
        exact .inr h
       ·exact .inl (HG.out.2.1 g h)
       exact .inl (HG.out.2.2 g h)
      have hTi:InB wr (fun g=>SP g\/S2 g\/S3 g):=fun g hg=>by
       rcases hg with h|h|h
       ·exact hPr.inb g h
       ·exact hLr.inb g h
       exact hTf.inb g h
      have hap:Apart SN (fun g=>SP g\/S2 g\/S3 g):=fun g h1 h2=>by
       rcases hTb g h2 with h|h
       ·rcases HN1.out g h1 with h3|h3
        ·exact HTk.out g h h3
        have:=(HTw.out g h).2;omega
       have:=HOo.out.inb g h1;omega
      have hNr:SlO 49 6 BlkO wr (.slice pN k cN) ((zX o f).blocks.take k) SN:=HOo.out.kept qM hKa (fun g h1 h2=>hap g h2 (h1.elim (fun h=>by
       rcases HN1.out g h2 with h3|h3
       ·exact absurd h3 (HTk.out g (HG.out.1 g h))
       have:=(HTw.out g (HG.out.1 g h)).2;omega) (fun h=>.inr (.inr h))))
      have yb0:=yb 0;have yb1:=yb 1;have yb2:=yb 2;have yb3:=yb 3;have yb4:=yb 4;simp only[zE,zB,zD]at yb0 yb1 yb2 yb3 yb4;have hNa:=hNr.below qM ((zI _ wr).alloc (zK _) (.cells #[.slice q1 x.phis.length d1,.slice q2 x.list.length d2,Z x.fin.kind,.bool x.fin.onr,Z x.fin.onn,.slice q3 x.fin.to.length d3] 49));have HBr:=q8 hBr;have HTb:=q8 hTb;have HTi:=q8 hTi;have hrZ:=q8 hap;have HKa:=q8 hKa;have HNa:=q8 hNa;clear hTf hKw hPr hLr hBr hTb hTi hap hNr hNa hKa yb
      go_wp2_with (at_builtin;refine qH _ rfl _ _ 36 rfl 49 iB _ 6 96 Tryz.underlying36 k1 k2 k3 k4 rfl (by decide) qM rfl HNa.out ⟨wr.heap.size,0,none⟩ 1 [.slice q1 x.phis.length d1,.slice q2 x.list.length d2,Z x.fin.kind,.bool x.fin.onr,Z x.fin.onn,.slice q3 x.fin.to.length d3] (blkK (qE o) ah x) rfl rfl ?hn ?ho (T:=fun g=>SP g\/S2 g\/S3 g) ?hy ?ha ?ht ?hm ?hb ?_)
      case hn=>exact zW _ _ _ rfl
      case ho=>intro u hu;simp only[yC,yG,yl]at hu;rcases hu with rfl|rfl|rfl|rfl|rfl|rfl<;>rfl
      case hy=>exact qM _ _ _ _ _ HBr.out (fun g hg=>xG _ _ g (HTi.out g hg)) bV
      case ha=>exact hrZ.out
      case ht=>exact HTi.out.mono bV
      case hm=>unfold maxLen;omega
      case hb=>omega
      intro v' w8 ⟨S',hO8,hsub,hK8⟩;have hk1:k<(zX o f).blocks.length:=by rw[hkl];exact hlt
      have hlk:((zX o f).blocks.take (k+1))=(zX o f).blocks.take k++[blkK (qE o) ah x]:=by
       rw[yA hk1];congr 2;rw[ZG o f hlt,←HBk.out,HAe.out,HXe.out,qW hin]
      have hrel:SlO 49 6 BlkO w8 v' ((zX o f).blocks.take (k+1)) S'/\(∀g,S' g->(∃i∈o.take (k+1),T i g)\/W1.heap.size<=g)/\Kept (fun g=>∃i∈o.take (k+1),T i g) W1 w8:=by
       have hmono:∀g,(∃i∈o.take k,T i g)->∃i∈o.take (k+1),T i g:=fun g ⟨i,hi,h⟩=>⟨i,by rw[yA hlt];exact yE _ hi,h⟩;have hbi:b∈o.take (k+1):=(by rw[yA hlt,HBk.out];exact yM _ yg);refine⟨by rw[hlk];exact hO8,fun g hg=>?_,?_⟩
       ·rcases hsub g hg with h|h|h
        ·exact(HN1.out g h).imp (hmono g) id
        ·rcases HTb.out g h with h|h
         ·exact .inl ⟨b,hbi,h⟩
         right;omega
        simp at h;right;omega
       refine(((HK.out.mono fun g _ h=>hmono g h).trans HKa.out (fun g _ h=>?_)).alloc _).trans hK8 (fun g hg h=>?_)
       ·exact⟨b,hbi,h.elim (HG.out.1 g) (HG.out.2.2 g)⟩
       rcases HN1.out g h with h|h
       ·exact hmono g h
       omega
      have ha7:=q8 hrel;clear hrel hO8 hsub hK8
      go_wp2_with fail
      go_roundg (o.length - (k+1))
      case measure=>omega
      case rel=>exact⟨k+1,S',by omega,rfl,by go_num,ha7.out.1,ha7.out.2.1,ha7.out.2.2⟩
    have haP:j<(qG j (phiK (qE o) ah) x.phis).length:=(by rw[qO];exact hjl);obtain⟨gp,cp,csp,Tp,hvp,hgp,hdE,hhL,hxp,hdL,hdM,hbF,heB,⟨curp,haT⟩,putp⟩:=HPj.out.focus x8 bO haP;rw[xh haP (zK _)]at hxp;obtain⟨p,hpe⟩:=nZ (x.phis[j]);have hpl:p.src.length=ah.length:=HCl.out p (by rw[hpe];exact zP hjl);rw[←hpe]at hxp;obtain⟨vp,rfl,hpd,hps⟩:=hxp;obtain⟨qp,dp,rfl,ep0,_⟩:=hps.sl.val;have hq1:q1=some (J gp 0):=(by injection hvp);have p0:=hbF 0 bO;have p1:=hbF 1 bO;simp only[zB,zD,yJ]at p0 p1;have hpr:=hps.read (R':=kc) zq bO fun _ _ _ h=>h
    have hoA:SliceAt wp 2 kc qp p.src:=by
     obtain⟨_,_,e,_,_,h⟩:=hpr.outC;cases e;exact h
    have HPl:=q8 hpl;have HPr:=q8 hoA;have HPs:=q8 hps;have HPd:=q8 hpd;have HPe:=q8 hpe;have haA:=q8 putp;have HTp:=q8 (zh hdL hdM);have HCp:=q8 haT;have hdO:=q8 hbF;have hhM:=q8 heB;have hfR:=q8 hdE
    have hs8:gp≠w.heap.size+1+1+1/\gp<w.heap.size\/W2.heap.size<=gp:=by
     rcases HNj.out gp hdE with h|h
     ·have:=(HS1.out gp h).2;omega
     omega
    subst hq1;clear hvp hpl hpd hps hpe hpr hoA putp hdL hdM haT hbF hhL hdE
    go_wp2_with fail
    obtain⟨w3,hw3⟩:=nZ (wp.alloc (.cells #[Z p.dst,.slice qp p.src.length dp] 84));rw[←hw3];have hz3:w3.heap.size=wp.heap.size+1:=(by rw[hw3];simp);have hb3:Below wp.heap.size wp w3:=(by rw[hw3];exact bZ);have hP3:w3.heap[wp.heap.size]?=some (.cells #[Z p.dst,.slice qp p.src.length dp] 84 (0,0)):=(by rw[hw3];exact qr rfl);have HB3:=q8 hb3;have HP3:=q8 hP3;clear hw3 hb3 hP3 p0 p1 xb0 xb1 xb2 xb3 xb4 xb5 xf
    go_loopg [15,64] p.src.length (fun q s15 s64 wr=>∃(m:Nat) (SR:Blks),m<=p.src.length/\q=p.src.length - m/\s64=Z m/\SlO 142 3 FrmO wr s15 (rowM (qE o) ah p.src m) SR/\(∀g,SR g->w3.heap.size<=g)/\Below w3.heap.size w3 wr)
    case atStart=>exact⟨0,fun _=>False,by omega,rfl,rfl,SlO.nil _ _ _ _ (fun _ h=>h.elim),fun _ h=>h.elim,zI _ _⟩
    case round=>
     obtain⟨m,SR,hm,rfl,rfl,hO,hN,hb⟩:=hrel;obtain⟨pR,cR,hvR,_⟩:=hO.val;obtain⟨rl,hrl⟩:=nZ ((rowM (qE o) ah p.src m).length);have hrm:rl<=m:=(by rw[hrl];exact rowM_len _ _ _ _);have HRl:=q8 hrl;rw[←hrl]at hvR;subst hvR;have HRo:=q8 hO;have HRn:=q8 hN;have HRb:=q8 hb;have hoB:=hb.size;have hbw:Below wp.heap.size wp wr:=HB3.out.trans (hb.mono bO);have HBw:=q8 hbw;clear hO hN hb hrl
     by_cases hml:m<p.src.length
     ·have hma:m<ah.length:=(by rw[←HPl.out];exact hml);obtain⟨bp,op,csv,hpp,_,hcv,hrv⟩:=HPr.out.get hml;obtain⟨e2,hv64⟩:=hrv;subst e2;have hkU:=hcv 0 bO;have hbp:=q9 hkU;have v0:=(hbw.cell (p:=(J bp _)) hbp).trans hkU;have v1:=(hbw.cell (p:=(J bp _)) hbp).trans (hcv 1 bO);simp only[zB,zD,yJ]at v0 v1;obtain⟨rt,rr⟩:=hrR.out.kept (Kept.of_below (S:=fun _=>False) hbw) (fun _ h=>h.elim);obtain⟨qa,qc,ha0,ha1⟩:=rr b hin;rw[←HAe.out]at ha0 ha1;obtain⟨ba,rfl,⟨ha2,ha3⟩,ha4⟩:=ha1 m hma;have hAr:=HAj.out.of_block (hbw.block _ HAj.out.lt);have hal:=HAl.out _ (zP hma);have ha5:=hAr.cell hal;have hAz:w.heap.size+1+1+1<wr.heap.size:=hAr.lt
      have hoo:qE o ah[m]<1000000/\-1<=qE o ah[m]:=by
       unfold qE
       split
       ·next h=>have:=(ja h).1;omega
       omega
      have hsu:=rowM_succ (at_:=qE o) hma hml;have hvi:T1<wr.heap.size:=rt.2;subst hpp;generalize hpv:p.src[m]=pv at *;generalize hav:ah[m]=av at *;have HSu:=q8 hsu;have hs9:=q8 hv64;clear hcv hkU rr hsu hv64 hbw hAr;generalize hpa:qE o av=pa at *
      by_cases hpos:0<=pa
      ·have hO2:=(HRo.out.below Xl ((zI _ wr).alloc (zK _) (.cells #[.bool pv.1,Z pv.2] 44))).below Xl ((zI _ _).alloc (zK _) (.cells #[Z pa,.bool pv.1,Z pv.2] 142));have HO2:=q8 hO2;clear hO2
       go_wp2_with (at_builtin;refine qH _ rfl _ _ 140 rfl 142 iR _ 3 24 Tryz.underlying140 r1 r2 r3 r4 rfl (by decide) Xl rfl HO2.out ⟨wr.heap.size+1,0,none⟩ 1 [Z pa,.bool pv.1,Z pv.2] (pa,pv) rfl rfl ?hn ?ho (T:=fun _=>False) ⟨rfl,⟨hpos,hoo.1⟩,hs9.out⟩ ?ha ?ht ?hm ?hb ?_)
       case hn=>exact zW _ _ _ bV
       case ho=>intro u hu;simp only[yC,yG,yl]at hu;rcases hu with rfl|rfl|rfl<;>rfl
       case ha=>exact fun k h1 h2=>h2
       case ht=>exact fun k h=>h.elim
       case hm=>rw[←HRl.out];unfold maxLen;omega
       case hb=>rw[←HRl.out];omega
       intro v' w' ⟨S',hO3,hsub,hK3⟩
       have hrel:SlO 142 3 FrmO w' v' (rowM (qE o) ah p.src (m+1)) S'/\(∀g,S' g->w3.heap.size<=g)/\Below w3.heap.size w3 w':=by
        refine⟨?_,fun g hg=>?_,?_⟩
        ·rw[HSu.out,zZ hpos];exact hO3
        ·rcases hsub g hg with h|h|h
         ·exact HRn.out g h
         ·exact h.elim
         simp at h;omega
        exact((HRb.out.alloc hoB _).alloc bW _).trans (hK3.below bW (fun g hg=>HRn.out g hg))
       have ha7:=q8 hrel;clear hrel hO3 hsub hK3
       go_wp2_with fail
       go_roundg (p.src.length - (m+1))
       case measure=>omega
       case rel=>exact⟨m+1,S',by omega,rfl,by go_num,ha7.out.1,ha7.out.2.1,ha7.out.2.2⟩
      have hrel:SlO 142 3 FrmO (wr.alloc (.cells #[.bool pv.1,Z pv.2] 44)) (.slice pR rl cR) (rowM (qE o) ah p.src (m+1)) SR/\(∀g,SR g->w3.heap.size<=g)/\Below w3.heap.size w3 (wr.alloc (.cells #[.bool pv.1,Z pv.2] 44)):=by
       refine⟨?_,HRn.out,HRb.out.alloc hoB _⟩;rw[HSu.out,zQ hpos,List.append_nil];exact HRo.out.below Xl ((zI _ wr).alloc (zK _) _)
      have ha7:=q8 hrel;clear hrel
      go_wp2_with fail
      go_roundg (p.src.length - (m+1))
      case measure=>omega
      case rel=>exact⟨m+1,SR,by omega,rfl,by go_num,ha7.out.1,ha7.out.2.1,ha7.out.2.2⟩
     obtain rfl:m=p.src.length:=(by omega);have hfull:=rowM_full (at_:=qE o) (ah:=ah) HPl.out;have hO:=HRo.out;rw[hfull]at hO;have hlr:rl=(KF (qE o) ah p.src).length:=(by rw[HRl.out,hfull]);have hO':SlO 142 3 FrmO wr (.slice pR (KF (qE o) ah p.src).length cR) (KF (qE o) ah p.src) SR:=(by rw[←hlr];exact hO);have hcon:=JX pR cR (KF (qE o) ah p.src) wr SR hO' (by have:=HPl.out;rw[←hlr];omega);rw[←hlr]at hcon;have hfL:=q8 hcon;have HLr:=q8 hlr;clear hfull hO hlr hO' hcon HRo HRl
     go_wp2_with fail
     refine hfL.out.mono ?_;rintro e w5 ⟨rfl,⟨ys,hyp,hys,hY⟩,hK5⟩;have hyl:ys.length=rl:=(by rw[hyp.length_eq];exact HLr.out.symm);have hsk:sortK (KF (qE o) ah p.src)=ys:=sortK_of hyp hys (rowK_keys HO.out.once HAd.out HPl.out);have hb5:Below wp.heap.size wp w5:=HBw.out.trans (hK5.below bO (fun g hg=>by have:=HRn.out g hg;omega));have hz5:=hK5.size;have hX5:=(hb5.block _ (qd HXj.out)).trans HXj.out;obtain⟨xb,xf⟩:=blk hX5;have xz:=qd hX5;have xb0:=xb 0;simp only[zE,zB]at xb0;have hg5:w5.heap[gp]?=wp.heap[gp]?:=hb5.block gp hgp;have g0:w5.cell? (J gp (j*2+1))=some (.slice qp p.src.length dp):=(zN (a:=(J gp (j*2+1))) hg5).trans (hdO.out 1 bO);have g1:w5.frozen? (J gp (j*2+1))=false:=(yB (a:=(J gp (j*2+1))) hg5).trans (hhM.out _);have g2:gp<w5.heap.size:=(by omega);have hhN:RowPut wp (w5.setCell (J gp (j*2+1)) (.slice none 0 0)) 84 gp (j*2) 2 [Z p.dst,.slice none 0 0]:=RowPut.set (RowPut.same HCp.out hg5 hdO.out) rfl (j:=1) bO _;have hhO:=q8 hhN;have HY:=q8 hY;have HYl:=q8 hyl;have HSk:=q8 hsk;have HB5:=q8 hb5;have HX5:=q8 hX5;have HSR:=q8 (fun g (hg:SR g)=>HRn.out g hg);have hsf:rl<=80:=(by have:=HPl.out;omega);clear hyp hys hyl hY hK5 hsk hb5 hX5 hg5 hhN xb HRn HRb HBw hfL
     go_wp2_with fail
     obtain⟨W5,hW5⟩:=nZ (w5.setCell (J gp (j*2+1)) (.slice none 0 0));rw[←hW5]at hhO ⊢;have hz6:W5.heap.size=w5.heap.size:=(by rw[hW5];exact yK _ _ _);have hoC:∀g,g≠gp->W5.heap[g]?=w5.heap[g]?:=fun g hg=>by rw[hW5];exact zJ _ _ _ g hg
     have hKW:Kept (fun g=>g=gp) wp W5:=(by rw[hW5];exact Kept.setCell (S:=fun g=>g=gp) (p:=(J gp (j*2+1))) (Kept.of_below HB5.out) rfl _);have hoD:=q8 hoC;have HKW:=q8 hKW;clear hW5 hoC hKW g0 g1 g2 xb0 xf xz
     go_loopg [97] rl (fun q s97 wr=>∃(m:Nat) (vq:Value) (SQ:Blks),m<=rl/\q=rl - m/\s97=Z m/\SlO 44 2 jV wr vq ((ys.take m).map (·.2)) SQ/\(∀g,SQ g->W5.heap.size<=g)/\RowPut wp wr 84 gp (j*2) 2 [Z p.dst,vq]/\Kept (fun g=>g=gp) W5 wr)
     case atStart=>exact⟨0,.slice none 0 0,fun _=>False,by omega,rfl,rfl,SlO.nil _ _ _ _ (fun _ h=>h.elim),fun _ h=>h.elim,hhO.out,Kept.refl _ _⟩
     case round=>
      obtain⟨m,vq,SQ,hm,rfl,rfl,hQ,hQn,hrp,hKq⟩:=hrel;have hkV:((ys.take m).map (·.2)).length=m:=(by rw[yT,yr,HYl.out];omega);obtain⟨pq,cq,hvq,_⟩:=hQ.val;rw[hkV]at hvq;subst hvq;have hvj:=hKq.size
      have hgX:wo.heap.size≠gp:=by
       rcases hs8 with h|h<;>omega
      have hXq:wr.heap[wo.heap.size]?=some (.cells #[.slice (some (J gp 0)) x.phis.length d1,.slice q2 x.list.length d2,Z x.fin.kind,.bool x.fin.onr,Z x.fin.onn,.slice q3 x.fin.to.length d3] 49 (0,0)):=(hKq.block _ (by have:=qd HX5.out;omega) hgX).trans ((hoD.out _ hgX).trans HX5.out);obtain⟨r1c,r2c,r3c⟩:=hrp.cell (j:=1) bO;have HQ:=q8 hQ;have HQn:=q8 hQn;have HRp:=q8 hrp;have HKq:=q8 hKq;have HXq:=q8 hXq;have HQl:=q8 hkV;clear hQ hQn hrp hKq hXq hkV
      by_cases hml:m<rl
      rotate_left
      ·obtain rfl:rl=m:=by omega
       have hall:(ys.take rl).map (·.2)=(phiK (qE o) ah p).src:=by
        rw[List.take_of_length_le (by rw[HYl.out];exact zK _)];show _=(sortK (KF (qE o) ah p.src)).map (·.2);rw[HSk.out]
       have hQf:SlO 44 2 jV wr (.slice pq rl cq) (phiK (qE o) ah p).src SQ:=(by rw[←hall];exact HQ.out);have hfl:(phiK (qE o) ah p).src.length=rl:=(by rw[←hall];exact HQl.out);have hKp:Kept (fun g=>g=gp) wp wr:=HKW.out.trans HKq.out (fun _ _ h=>h);have he4:PhiO wr [Z p.dst,.slice pq rl cq] (phiK (qE o) ah p) SQ:=⟨_,rfl,HPd.out,hQf,by rw[hfl];unfold reachBytes;omega⟩
       have hput:=haA.out wr _ _ SQ HRp.out rfl (fun u hu=>by
         simp only[yC,yG,yl]at hu
         rcases hu with rfl|rfl<;>rfl) hKp.size (fun g h1 h2 h3=>hKp.block g (HPj.out.inb g h1) h3) he4 (fun g hg=>⟨.inr (by have:=HQn.out g hg;omega),HQ.out.inb g hg⟩)
       rw[HPe.out,qS hjl]at hput
       have hrel:(∀g,SP g\/SQ g->S1 g\/W2.heap.size<=g)/\Kept S1 W2 wr:=by
        refine⟨fun g hg=>?_,HKj.out.trans hKp (fun g hg e=>?_)⟩
        ·rcases hg with h|h
         ·exact HNj.out g h
         have:=HQn.out g h;right;omega
        rw[e];rcases HNj.out gp hfR.out with h|h
        ·exact h
        omega
       have ha7:=q8 (zh hput hrel);clear hput hrel he4 hKp hfl hQf hall
       go_wp2_with fail
       go_roundg (x.phis.length - (j+1))
       case measure=>omega
       case rel=>exact⟨j+1,_,by omega,rfl,by go_num,ha7.out.1,ha7.out.2.1,ha7.out.2.2⟩
      have hmy:m<ys.length:=(by rw[HYl.out];exact hml);have hYr:=HY.out.read (R':=fun cs x=>cs=kq x/\I64 x.2.2) Xl bO (fun cs x T h=>⟨h.1,h.2.2⟩);obtain⟨pY,cY,hvY,_,_,hYs⟩:=hYr;obtain⟨gy,cy2,csy,Ty,hvy,hgy,hSy,hsq,hxy,_,_,hcy,hfy,_⟩:=HY.out.focus Xl bO hmy;have hpy:pR=some (J gy 0):=(by injection hvy);have hvo:=HSR.out gy hSy;have hhP:gy≠gp:=(by omega);have hjw:wr.heap[gy]?=w5.heap[gy]?:=(HKq.out.block gy bO hhP).trans (hoD.out gy hhP);obtain⟨hsC,hpos,hkY⟩:=hxy;subst hsC;have y0:=(zN (a:=(J gy (m*3+0))) hjw).trans (hcy 0 bO);have y1:=(zN (a:=(J gy (m*3+1))) hjw).trans (hcy 1 bO);have y2:=(zN (a:=(J gy (m*3+2))) hjw).trans (hcy 2 bO);simp only[zB,zD,yJ]at y0 y1 y2;have hvx:gy<wr.heap.size:=(by omega);obtain⟨y,hye⟩:=nZ (ys[m]);rw[←hye]at y0 y1 y2 hkY;have HYe:=q8 hye;have hhQ:=q8 hkY;subst hpy;clear hYs hvY hvy hsq hcy hfy hpos hye hjw hkY
      go_wp2_with fail
      obtain⟨w7,hw7⟩:=nZ (wr.alloc (.cells #[Z y.1,.bool y.2.1,Z y.2.2] 142));rw[←hw7];have hz7:w7.heap.size=wr.heap.size+1:=(by rw[hw7];simp);have hb7:Below wr.heap.size wr w7:=(by rw[hw7];exact bZ);have hR7:w7.heap[wr.heap.size]?=some (.cells #[Z y.1,.bool y.2.1,Z y.2.2] 142 (0,0)):=(by rw[hw7];exact qr rfl);have HB7:=q8 hb7;clear hw7 hb7 y0 y1 y2;obtain⟨Sp,hSp⟩:∃Sp:World->Prop,Sp=fun w'=>w'.heap[wo.heap.size]?=some (.cells #[.slice (some (J gp 0)) x.phis.length d1,.slice q2 x.list.length d2,Z x.fin.kind,.bool x.fin.onr,Z x.fin.onn,.slice q3 x.fin.to.length d3] 49 (0,0))/\w'.heap[wr.heap.size]?=some (.cells #[Z y.1,.bool y.2.1,Z y.2.2] 142 (0,0))/\w'.heap[gp]?=wr.heap[gp]?:=⟨_,rfl⟩
      have ha6:∀w',Sp w'->w'.cell? (J wo.heap.size 0)=some (.slice (some (J gp 0)) x.phis.length d1)/\(∀i,w'.cell? (J wr.heap.size i)=(#[Z y.1,.bool y.2.1,Z y.2.2]:Array Value)[i]?)/\w'.cell? (J gp (j*2+1))=some (.slice pq m cq)/\w'.frozen? (J gp (j*2+1))=false/\wo.heap.size<w'.heap.size/\wr.heap.size<w'.heap.size:=fun w' h=>by
       rw[hSp]at h;exact⟨(blk h.1).1 0,(blk h.2.1).1,(zN (a:=(J gp (j*2+1))) h.2.2).trans r1c,(yB (a:=(J gp (j*2+1))) h.2.2).trans r2c,qd h.1,qd h.2.1⟩
      have hSk:∀{U:Blks} {a c:World},Sp a->Kept U a c->¬ U wo.heap.size->¬ U wr.heap.size->¬ U gp->Sp c:=fun {U a c} h hk n1 n2 n3=>by
       rw[hSp]at h ⊢;have hsD:gp<a.heap.size:=(by have:=qd h.2.1;omega);exact⟨(hk.block _ (qd h.1) n1).trans h.1,(hk.block _ (qd h.2.1) n2).trans h.2.1,(hk.block _ hsD n3).trans h.2.2⟩
      have hS7:Sp w7:=by
       rw[hSp];exact⟨(HB7.out.block _ (qd HXq.out)).trans HXq.out,hR7,HB7.out.block gp r3c⟩
      have haf:Sp w7.drew:=(by rw[hSp]at hS7 ⊢;exact hS7);refine qA (S:=Sp) bK 15 ?_;refine tkZ 0 101 (.pointer (some (J wo.heap.size 0))) rfl rfl haf (fun w' h=>?_) ?_
      ·obtain⟨h1,h2,h3,h4,h5,h6⟩:=ha6 w' h;have y0:=h2 0;have y1:=h2 1;have y2:=h2 2;clear h2;simp only[zE,zB,zD]at y0 y1 y2;go_simp
      refine tkZ 1 102 (.slice (some (J gp 0)) x.phis.length d1) rfl rfl haf (fun w' h=>?_) ?_
      ·obtain⟨h1,h2,h3,h4,h5,h6⟩:=ha6 w' h;have y0:=h2 0;have y1:=h2 1;have y2:=h2 2;clear h2;simp only[zE,zB,zD]at y0 y1 y2;go_simp
      refine tkZ 2 103 (Z j) rfl rfl haf (fun w' h=>?_) ?_
      ·obtain⟨h1,h2,h3,h4,h5,h6⟩:=ha6 w' h;have y0:=h2 0;have y1:=h2 1;have y2:=h2 2;clear h2;simp only[zE,zB,zD]at y0 y1 y2;go_simp
      refine tkZ 3 104 (.pointer (some (J wo.heap.size 0))) rfl rfl haf (fun w' h=>?_) ?_
      ·obtain⟨h1,h2,h3,h4,h5,h6⟩:=ha6 w' h;have y0:=h2 0;have y1:=h2 1;have y2:=h2 2;clear h2;simp only[zE,zB,zD]at y0 y1 y2;go_simp
      refine tkZ 4 105 (.slice (some (J gp 0)) x.phis.length d1) rfl rfl haf (fun w' h=>?_) ?_
      ·obtain⟨h1,h2,h3,h4,h5,h6⟩:=ha6 w' h;have y0:=h2 0;have y1:=h2 1;have y2:=h2 2;clear h2;simp only[zE,zB,zD]at y0 y1 y2;go_simp
      refine tkZ 5 106 (Z j) rfl rfl haf (fun w' h=>?_) ?_
      ·obtain⟨h1,h2,h3,h4,h5,h6⟩:=ha6 w' h;have y0:=h2 0;have y1:=h2 1;have y2:=h2 2;clear h2;simp only[zE,zB,zD]at y0 y1 y2;go_simp
      refine tkZ 6 107 (.pointer (some (J gp (j*2)))) rfl rfl haf (fun w' h=>?_) ?_
      ·obtain⟨h1,h2,h3,h4,h5,h6⟩:=ha6 w' h;have y0:=h2 0;have y1:=h2 1;have y2:=h2 2;clear h2;simp only[zE,zB,zD]at y0 y1 y2;go_simp
      refine tkZ 7 108 (.pointer (some (J gp (j*2+1)))) rfl rfl haf (fun w' h=>?_) ?_
      ·obtain⟨h1,h2,h3,h4,h5,h6⟩:=ha6 w' h;have y0:=h2 0;have y1:=h2 1;have y2:=h2 2;clear h2;simp only[zE,zB,zD]at y0 y1 y2;go_simp
      refine tkZ 8 109 (.slice pq m cq) rfl rfl haf (fun w' h=>?_) ?_
      ·obtain⟨h1,h2,h3,h4,h5,h6⟩:=ha6 w' h;have y0:=h2 0;have y1:=h2 1;have y2:=h2 2;clear h2;simp only[zE,zB,zD]at y0 y1 y2;go_simp
      refine tkZ 9 110 (.pointer (some (J wr.heap.size 1))) rfl rfl haf (fun w' h=>?_) ?_
      ·obtain⟨h1,h2,h3,h4,h5,h6⟩:=ha6 w' h;have y0:=h2 0;have y1:=h2 1;have y2:=h2 2;clear h2;simp only[zE,zB,zD]at y0 y1 y2;go_simp
      refine tkZ 10 111 (.agg #[.bool y.2.1,Z y.2.2]) rfl rfl haf (fun w' h=>?_) ?_
      ·obtain⟨h1,h2,h3,h4,h5,h6⟩:=ha6 w' h;have y0:=h2 0;have y1:=h2 1;have y2:=h2 2;clear h2;simp only[zE,zB,zD]at y0 y1 y2;go_simp
      have hS8:Sp (w7.drew.alloc (.cells #[.bool y.2.1,Z y.2.2] 44)):=hSk haf ((Kept.refl (fun _=>False) _).alloc _) (fun h=>h) (fun h=>h) (fun h=>h);refine qm (i:=11) bK (qC 112 (.slice (some (J w7.heap.size 0)) 1 1) (w7.drew.alloc (.cells #[.bool y.2.1,Z y.2.2] 44)) rfl rfl rfl (by go_simp) hS8 ?_);refine qm (i:=12) bK (v7 113 _ _ 40 rfl rfl rfl rfl 44 iV _ 2 16 Tryz.underlying40 l1 l2 l3 l4 rfl (by decide) zq (by go_simp) ((HQ.out.below zq HB7.out).below zq ((zI _ w7).drew.alloc (zK _) _)) ⟨w7.heap.size,0,none⟩ 1 [.bool y.2.1,Z y.2.2] y.2 (by go_simp) rfl ?hn ?ho (T:=fun _=>False) ⟨rfl,hhQ.out⟩ ?ha ?ht ?hm ?hb ?_)
      case hn=>exact zW _ _ _ rfl
      case ho=>intro u hu;simp only[yC,yG,yl]at hu;rcases hu with rfl|rfl<;>rfl
      case ha=>exact fun k h1 h2=>h2
      case ht=>exact fun k h=>h.elim
      case hm=>rw[HQl.out];unfold maxLen;omega
      case hb=>rw[HQl.out];omega
      intro v' w8 ⟨S',hO8,hsub,hK8⟩;obtain⟨pv,cv,hv8,_⟩:=hO8.val;have hl8:((ys.take m).map (·.2)++[y.2]).length=m+1:=(by rw[yN,HQl.out];rfl);rw[hl8]at hv8;subst hv8;have hkZ:∀g,g<W5.heap.size->¬ SQ g:=fun g hg h=>by have:=HQn.out g h;omega
      have hS9:Sp w8:=hSk hS8 hK8 (hkZ _ (by have:=qd HX5.out;omega)) (fun h=>by have:=HQ.out.inb _ h;omega) (hkZ _ bO);refine⟨hS9,?_⟩;refine qm (i:=13) bK (qC 114 (.pointer (some (J gp (j*2)))) w8 rfl rfl rfl (by go_simp) hS9 ?_);refine qm (i:=14) bK (qC 115 (.pointer (some (J gp (j*2+1)))) w8 rfl rfl rfl (by go_simp) hS9 ?_);obtain⟨t1,t2,t3,t4,t5,t6⟩:=ha6 w8 hS9;clear t2;have hvz:gp<w8.heap.size:=(by omega);refine qm (i:=15) bK (qz (w8.setCell (J gp (j*2+1)) (.slice pv (m+1) cv)) rfl rfl rfl (by go_simp) (fun h=>absurd rfl h) (qL bK ?_ _));show Exit.inBlock 9 _ Exit.normal _ _;have hsE:w8.heap[gp]?=wr.heap[gp]?:=(by rw[hSp]at hS9;exact hS9.2.2);have hfS:Kept SQ wr w8:=((Kept.of_below HB7.out).drew.alloc _).trans hK8 (fun _ _ h=>h)
      have hrel:SlO 44 2 jV (w8.setCell (J gp (j*2+1)) (.slice pv (m+1) cv)) (.slice pv (m+1) cv) ((ys.take (m+1)).map (·.2)) S'/\(∀g,S' g->W5.heap.size<=g)/\RowPut wp (w8.setCell (J gp (j*2+1)) (.slice pv (m+1) cv)) 84 gp (j*2) 2 [Z p.dst,.slice pv (m+1) cv]/\Kept (fun g=>g=gp) W5 (w8.setCell (J gp (j*2+1)) (.slice pv (m+1) cv)):=by
       have hs':∀g,S' g->W5.heap.size<=g:=fun g hg=>by
        rcases hsub g hg with h|h|h
        ·exact HQn.out g h
        ·exact h.elim
        simp at h;omega
       refine⟨?_,hs',RowPut.set (HRp.out.of_block hsE) rfl (j:=1) bO _,?_⟩
       ·have e1:(ys.take (m+1)).map (·.2)=(ys.take m).map (·.2)++[y.2]:=(by rw[yA hmy,yW,HYe.out];rfl);rw[e1];exact hO8.loc zq (fun g hg=>zJ _ _ _ g (by have:=hs' g hg;show g≠gp;omega)) (by rw[yK];exact zK _)
       exact(HKq.out.trans hfS (fun g hg h=>absurd h (hkZ g hg))).setCell rfl _
      have ha7:=q8 hrel;clear hrel hO8 hsub hK8 hfS hS9 hS8 haf hS7 t1 t3 t4 r1c r2c
      go_wp2_with fail
      go_roundg (rl - (m+1))
      case measure=>omega
      case rel=>exact⟨m+1,_,S',by omega,rfl,by go_num,ha7.out.1,ha7.out.2.1,ha7.out.2.2.1,ha7.out.2.2.2⟩

end Go.Proofs.YtgjjhadbjmcnpaaGreatDoor
