/-
  Plain: args.Do's second phase goes turn by turn; so do the reference's turns; both leave t
-/
import Derived.Test.YtgjjhadbjmcnpaaGreatDoorJArgX
set_option maxRecDepth 100000
set_option maxHeartbeats 16000000
namespace Go.Proofs.YtgjjhadbjmcnpaaGreatDoor

structure Ren (n m:Int) (g h:Int->Int):Prop where
 p:0<=n
 l:∀x,h (g x)=x
 r:∀x,g (h x)=x
 lo:∀x,x<n->g x=x
 hi:∀x,m<=x->g x=x
theorem Ren.sym {n m:Int} {g h:Int->Int} (a:Ren n m g h):Ren n m h g:=
 ⟨a.p,a.r,a.l,fun x hx=>by have:=a.l x;rwa [a.lo x hx]at this,fun x hx=>by have:=a.l x;rwa [a.hi x hx]at this⟩
theorem Ren.refl {n m:Int} (h:0<=n):Ren n m (fun x=>x) (fun x=>x):=⟨h,fun _=>rfl,fun _=>rfl,fun _ _=>rfl,fun _ _=>rfl⟩
theorem Ren.trans {n m:Int} {g h g' h':Int->Int} (a:Ren n m g h) (b:Ren n m g' h'):Ren n m (fun x=>g' (g x)) (fun x=>h (h' x)):=
 ⟨a.p,fun x=>by rw[b.l,a.l],fun x=>by rw[a.r,b.r],fun x hx=>by rw[a.lo x hx,b.lo x hx],fun x hx=>by rw[a.hi x hx,b.hi x hx]⟩
theorem Ren.nn {n m:Int} {g h:Int->Int} (a:Ren n m g h) {x:Int} (hx:0<=x):0<=g x:=by
 refine xF fun hn=>?_;have h1:=a.lo (g x) (by have:=a.p;omega);have h2:=congrArg h h1;rw[a.l,a.l]at h2;rw[h2]at hn;exact hn hx
theorem Ren.lt {n m:Int} {g h:Int->Int} (a:Ren n m g h) {x:Int} (hx:x<m):g x<m:=by
 refine xF fun hn=>?_;have h1:=a.hi (g x) bO;have h2:=congrArg h h1;rw[a.l,a.l]at h2;rw[h2]at hn;exact hn hx
theorem Ren.inj {n m:Int} {g h:Int->Int} (a:Ren n m g h) {x y:Int} (e:g x=g y):x=y:=by
 have:=congrArg h e
 rwa [a.l,a.l]at this

theorem QH (g h:Int->Int) (v:Bool×Int):toW g (toW h v)=toW (fun x=>g (h x)) v:=by
 obtain⟨b,n⟩:=v;cases b<;>rfl
theorem toI_comp {g h:Int->Int} (hn:∀x,0<=x->0<=h x) (x:InsL):toI g (toI h x)=toI (fun x=>g (h x)) x:=by
 have ha:=QH g h (x.ar,x.an);have hb:=QH g h (x.br,x.bn);rw[jv h]at ha hb
 have hargs:(x.args.map (toW h)).map (toW g)=x.args.map (toW fun x=>g (h x)):=by
  rw[yy];exact ya fun v _=>QH g h v
 have hd:(if 0<=(if 0<=x.dst then h x.dst else x.dst)then g (if 0<=x.dst then h x.dst else x.dst) else(if 0<=x.dst then h x.dst else x.dst))=if 0<=x.dst then g (h x.dst)else x.dst:=by
  by_cases e:0<=x.dst
  ·simp only[zZ e,zZ (hn _ e)]
  simp only[zQ e]
 unfold toI;simp only[ha,hb,hargs,hd]
theorem QI {g h:Int->Int} (hn:∀x,0<=x->0<=h x) (f:FunL):toF g (toF h f)=toF (fun x=>g (h x)) f:=by
 have hb:∀b,toB g (toB h b)=toB (fun x=>g (h x)) b:=fun b=>by
  have h1:(b.list.map (toI h)).map (toI g)=b.list.map (toI fun x=>g (h x)):=by
   rw[yy];exact ya fun x _=>toI_comp hn x
  have h2:(b.phis.map (toP h)).map (toP g)=b.phis.map (toP fun x=>g (h x)):=by
   rw[yy];refine ya fun p _=>?_
   have:(p.src.map (toW h)).map (toW g)=p.src.map (toW fun x=>g (h x)):=by
    rw[yy];exact ya fun v _=>QH g h v
   show toP g (toP h p)=_;unfold toP;simp only[this]
  have h3:toE g (toE h b.fin)=toE (fun x=>g (h x)) b.fin:=by
   have ha:=QH g h (b.fin.onr,b.fin.onn);rw[jv h]at ha;unfold toE;simp only[ha]
  unfold toB;simp only[h1,h2,h3]
 have:(f.blocks.map (toB h)).map (toB g)=f.blocks.map (toB fun x=>g (h x)):=by
  rw[yy];exact ya fun b _=>hb b
 unfold toF;simp only[this]
theorem Y0 (f:FunL):toF (fun x=>x) f=f:=by
 have hw:∀v:Bool×Int,toW (fun x=>x) v=v:=fun v=>by
  unfold toW;obtain⟨b,n⟩:=v;cases b<;>rfl
 have hws:∀l:List (Bool×Int),l.map (toW fun x=>x)=l:=fun l=>(ya (g:=id) fun v _=>hw v).trans bV
 have hi:∀l:List InsL,l.map (toI fun x=>x)=l:=fun l=>(ya (g:=id) fun x _=>by
  unfold toI;simp only[hw,hws]
  by_cases e:0<=x.dst
  ·simp only[zZ e,id]
  simp only[zQ e,id]).trans bV
 have hp:∀l:List PhiL,l.map (toP fun x=>x)=l:=fun l=>(ya (g:=id) fun x _=>by unfold toP;simp only[hws,id]).trans bV
 have hb:f.blocks.map (toB fun x=>x)=f.blocks:=(ya (g:=id) fun b _=>by
  unfold toB toE
  simp only[hi,hp,hw,id]).trans bV
 unfold toF;rw[hb]

def RenF (f f':FunL):Prop:=∃g h,Ren f.params f.regs g h/\f'=toF g f
theorem RenF.refl {f:FunL} (h:0<=f.params):RenF f f:=⟨_,_,Ren.refl h,(Y0 f).symm⟩
theorem RenF.sym {f f':FunL} (a:RenF f f'):RenF f' f:=by
 obtain⟨g,h,hr,rfl⟩:=a;refine⟨h,g,hr.sym,?_⟩;rw[QI fun x hx=>hr.nn hx];simp only[hr.l,Y0]
theorem RenF.trans {a b c:FunL} (h1:RenF a b) (h2:RenF b c):RenF a c:=by
 obtain⟨g,h,hr,rfl⟩:=h1;obtain⟨g',h',hr',rfl⟩:=h2;exact⟨_,_,hr.trans hr',QI (fun x hx=>hr.nn hx) _⟩
def RenX (xs ys:List FunL):Prop:=xs.length=ys.length/\∀k (h:k<xs.length) (h2:k<ys.length),RenF xs[k] ys[k]
theorem RenX.refl {xs:List FunL} (h:∀f∈xs,0<=f.params):RenX xs xs:=⟨rfl,fun _ h1 _=>.refl (h _ (zP h1))⟩
theorem RenX.sym {xs ys:List FunL} (h:RenX xs ys):RenX ys xs:=⟨h.1.symm,fun k h1 h2=>(h.2 k h2 h1).sym⟩
theorem RenX.trans {a b c:List FunL} (h:RenX a b) (g:RenX b c):RenX a c:=⟨h.1.trans g.1,fun k h1 h2=>(h.2 k h1 (by rw[←h.1];exact h1)).trans (g.2 k (by rw[←h.1];exact h1) h2)⟩
theorem RenF.par {f f':FunL} (h:RenF f f'):f'.params=f.params/\f'.regs=f.regs/\f'.name=f.name/\0<=f.params:=by
 obtain⟨g,h,hr,rfl⟩:=h;exact⟨rfl,rfl,rfl,hr.p⟩
/-! ## what a turned function takes -/
theorem RdF.of_to {f:FunL} {g:Int->Int} {q:Int} (h:RdF (toF g f) (true,q)):∃r,g r=q/\RdF f (true,r):=by
 have key:∀{v:Bool×Int},(true,q)=toW g v->v.1=true/\g v.2=q:=fun {v} e=>by
  unfold toW at e
  split at e
  ·next h1=>exact⟨h1,by injection e with _ e;exact e.symm⟩
  next h1=>rw[←e]at h1;exact absurd rfl h1
 have fin:∀{v:Bool×Int},v.1=true->RdF f v->RdF f (true,v.2):=fun {v} h1 h2=>by
  have:v=(true,v.2):=Prod.ext h1 rfl
  rwa [←this]
 obtain⟨b',hb',h⟩:=h;obtain⟨b,hb,rfl⟩:=yD.1 hb';rcases h with h|⟨p',hp',hv⟩|⟨x',hx',h⟩
 ·have h:(true,q)=(b.fin.onr,(toW g (b.fin.onr,b.fin.onn)).2):=h;rw[←jv]at h;obtain⟨h1,h2⟩:=key h;exact⟨_,h2,fin h1 ⟨b,hb,.inl rfl⟩⟩
 ·obtain⟨p,hp,rfl⟩:=yD.1 hp';obtain⟨v,hv',e⟩:=yD.1 hv;obtain⟨h1,h2⟩:=key e.symm;exact⟨_,h2,fin h1 ⟨b,hb,.inr (.inl ⟨p,hp,hv'⟩)⟩⟩
 obtain⟨x,hx,rfl⟩:=yD.1 hx';rcases h with h|h|h
 ·have h:(true,q)=(x.ar,(toW g (x.ar,x.an)).2):=h;rw[←jv]at h;obtain⟨h1,h2⟩:=key h;exact⟨_,h2,fin h1 ⟨b,hb,.inr (.inr ⟨x,hx,.inl rfl⟩)⟩⟩
 ·have h:(true,q)=(x.br,(toW g (x.br,x.bn)).2):=h;rw[←jv]at h;obtain⟨h1,h2⟩:=key h;exact⟨_,h2,fin h1 ⟨b,hb,.inr (.inr ⟨x,hx,.inr (.inl rfl)⟩)⟩⟩
 obtain⟨v,hv',e⟩:=yD.1 h;obtain⟨h1,h2⟩:=key e.symm;exact⟨_,h2,fin h1 ⟨b,hb,.inr (.inr ⟨x,hx,.inr (.inr hv')⟩)⟩⟩
theorem RenF.tk {f f':FunL} (h:RenF f f') {p:Nat} (hp:(p:Int)<f.params):tkF p f'=tkF p f:=by
 obtain⟨g,h,hr,rfl⟩:=h;rw[Bool.eq_iff_iff,tkF_iff,tkF_iff];constructor
 ·intro a;obtain⟨r,h1,h2⟩:=a.of_to;have:=hr.inj (h1.trans (hr.lo _ hp).symm)
  rwa [this]at h2
 intro a;have:=a.to g;unfold toW at this;rw[zZ rfl]at this;simp only[hr.lo _ hp]at this;exact this
theorem cvF_to (k:Int) (p:Nat) (g:Int->Int) (f:FunL):cvF k p (toF g f)=cvF k p f:=cvF_map (toB g) rfl fun _ _=>K4 _ _ fun x _=>cvI_to k p g x
theorem RenX.cv {xs ys:List FunL} (h:RenX xs ys) (k:Int) (p:Nat):cvX k p ys=cvX k p xs:=cvX_at h.1.symm fun i h1 h2=>by
 obtain⟨g,_,_,e⟩:=h.2 i h1 h2;rw[e,cvF_to]
/-! ## parameters picked out -/
structure Perm (L:List Nat) (n:Nat):Prop where
 nd:L.Nodup
 len:L.length=n
 mem:∀a,a∈L↔a<n
theorem Perm.range (n:Nat):Perm (List.range n) n:=⟨List.nodup_range,List.length_range,fun _=>yR⟩
theorem Perm.of {L L':List Nat} {n:Nat} (h:Perm L n) (p:List.Perm L' L):Perm L' n:=⟨p.nodup_iff.2 h.nd,p.length_eq.trans h.len,fun a=>p.mem_iff.trans (h.mem a)⟩
def gL (L:List Nat) (r:Int):Int:=if 0<=r/\r.toNat∈L then(L.idxOf r.toNat:Int)else r
def hL (L:List Nat) (r:Int):Int:=if 0<=r then(match L[r.toNat]? with|some a=>(a:Int)|none=>r)else r
theorem Jf {L:List Nat} {n i:Nat} (h:Perm L n) (hi:i<L.length):gL L (L[i]:Int)=i:=by
 unfold gL;rw[zZ ⟨by omega,by simp⟩,xC,h.nd.idxOf_getElem i hi]
theorem hL_at {L:List Nat} {i:Nat} (hi:i<L.length):hL L (i:Int)=(L[i]:Int):=by
 unfold hL;rw[zZ bO,xC,zj hi]
theorem Z4 {L:List Nat} {n:Nat} (h:Perm L n) {r:Int} (hr:r<0\/(n:Int)<=r):gL L r=r:=by
 unfold gL;rw[zQ];rintro⟨h1,h2⟩;have:=(h.mem _).1 h2;omega
theorem hL_out {L:List Nat} {n:Nat} (h:Perm L n) {r:Int} (hr:r<0\/(n:Int)<=r):hL L r=r:=by
 unfold hL
 split
 ·rw[yk (by have:=h.len;omega)]
 rfl
theorem Perm.lr {L:List Nat} {n:Nat} (h:Perm L n) (r:Int):hL L (gL L r)=r:=by
 by_cases hr:r<0\/(n:Int)<=r
 ·rw[Z4 h hr,hL_out h hr]
 have hm:r.toNat∈L:=(h.mem _).2 bO;obtain⟨i,hi,e⟩:=yp.1 hm;have e2:r=(L[i]:Int):=by omega
 rw[e2,Jf h hi,hL_at hi]
theorem Perm.rl {L:List Nat} {n:Nat} (h:Perm L n) (r:Int):gL L (hL L r)=r:=by
 by_cases hr:r<0\/(n:Int)<=r
 ·rw[hL_out h hr,Z4 h hr]
 have hi:r.toNat<L.length:=by have:=h.len;omega
 have e2:r=(r.toNat:Int):=by omega
 rw[e2,hL_at hi,Jf h hi]
theorem Perm.nn {L:List Nat} {n:Nat} (_h:Perm L n) {x:Int} (hx:0<=x):0<=gL L x:=by
 unfold gL
 split
 ·omega
 exact hx
def pickF (K T:List Nat) (f:FunL):FunL:={ toF (gL (K++T)) f with params:=K.length }
def xM (k:Int) (K:List Nat) (x:InsL):InsL:=if x.op=20/\x.fn=k then { x with args:=K.map fun a=>x.args.getD a (false,0) } else x
def pickC (k:Int) (K:List Nat) (f:FunL):FunL:={ f with blocks:=f.blocks.map fun b=>{ b with list:=b.list.map (xM k K) } }
def zS (k:Nat) (K T:List Nat) (xs:List FunL):List FunL:=(xs.modify k (pickF K T)).map (pickC k K)
theorem qP (k:Nat) (K T:List Nat) (xs:List FunL):(zS k K T xs).length=xs.length:=by simp[zS]
theorem xP {k:Nat} {K T:List Nat} {xs:List FunL} {i:Nat} (h:i<(zS k K T xs).length) (h2:i<xs.length):(zS k K T xs)[i]=pickC k K (if k=i then pickF K T xs[i]else xs[i]):=by
 simp[zS,List.getElem_modify]
theorem pickI_to (k:Int) (K:List Nat) (g:Int->Int) (x:InsL):toI g (xM k K x)=xM k K (toI g x):=by
 unfold xM
 by_cases e:x.op=20/\x.fn=k
 ·rw[zZ e,zZ (show(toI g x).op=20/\(toI g x).fn=k from e)];unfold toI;simp only[yy];congr 1;refine ya fun a _=>?_;show toW g (x.args.getD a (false,0))=(x.args.map (toW g)).getD a (false,0);rw[Je rfl]
 rw[zQ e,zQ (show ¬((toI g x).op=20/\(toI g x).fn=k)from e)]
theorem Y3 (k:Int) (K:List Nat) (g:Int->Int) (f:FunL):toF g (pickC k K f)=pickC k K (toF g f):=by
 have:(f.blocks.map fun b=>({ b with list:=b.list.map (xM k K) }:BlkL)).map (toB g)=(f.blocks.map (toB g)).map fun b=>{ b with list:=b.list.map (xM k K) }:=by
  rw[yy,yy];refine ya fun b _=>?_;show toB g { b with list:=b.list.map (xM k K) }={ toB g b with list:=(toB g b).list.map (xM k K) };unfold toB;simp only[yy];congr 1;exact ya fun x _=>pickI_to k K g x
 unfold toF pickC;simp only[this]
theorem k6 {α β:Type} (f:α->β):∀(l:List α) (p:Nat),(l.map f).eraseIdx p=(l.eraseIdx p).map f
 | [],p=>by simp
 | a::l,0=>rfl
 | a::l,p+1=>by simp[k6 f l p]
theorem pickI_del (k:Int) (p:Nat) (K:List Nat) (x:InsL):kd k p (xM k K x)=xM k (K.eraseIdx p) x:=by
 unfold xM
 by_cases e:x.op=20/\x.fn=k
 ·rw[zZ e,zZ e];unfold kd;rw[zZ e];simp only[k6]
 rw[zQ e,zQ e];unfold kd;rw[zQ e]
theorem Vd (k:Int) (p:Nat) (K:List Nat) (f:FunL):kK k p (pickC k K f)=pickC k (K.eraseIdx p) f:=by
 unfold kK pickC;simp only[yy];congr 1;refine ya fun b _=>?_;simp only[Function.comp,yy];congr 1;exact ya fun x _=>pickI_del k p K x
theorem Xw:∀{K:List Nat} {p:Nat} (hp:p<K.length),List.Perm (K[p]::K.eraseIdx p) K
 | a::l,0,_=>List.Perm.refl _
 | a::l,p+1,hp=>(List.Perm.swap a _ _).trans ((Xw (K:=l) (p:=p) (by simpa using hp)).cons a)
theorem jd {K:List Nat} {p:Nat} (hp:p<K.length) (T:List Nat):List.Perm (K.eraseIdx p++K[p]::T) (K++T):=by
 have h1:=Xw hp;exact List.perm_middle.trans (h1.append_right T)
theorem lastG_gL {K T:List Nat} {n p:Nat} (h:Perm (K++T) n) (hp:p<K.length) (r:Int):qN p ((K.length:Int) - 1) (gL (K++T) r)=gL (K.eraseIdx p++K[p]::T) r:=by
 have h':=h.of (jd hp T);have hln:K.length<=n:=by have:=h.len;rw[yN]at this;omega
 by_cases hr:r<0\/(n:Int)<=r
 ·rw[Z4 h hr,Z4 h' hr];unfold qN;rw[zQ bO,zQ bO]
 have hm:r.toNat∈K++T:=(h.mem _).2 bO;obtain⟨i,hi,e⟩:=yp.1 hm;have hlen:(K.eraseIdx p).length=K.length - 1:=List.length_eraseIdx_of_lt hp
 have key:∀j:Nat,(K.eraseIdx p++K[p]::T)[j]?=some r.toNat->gL (K.eraseIdx p++K[p]::T) r=j:=fun j hj=>by
  obtain⟨hj1,hj2⟩:=List.getElem?_eq_some_iff.1 hj;have:r=(((K.eraseIdx p++K[p]::T)[j]:Nat):Int):=by rw[hj2];omega
  rw[this];exact Jf h' hj1
 have eg:gL (K++T) r=i:=by
  have:r=(((K++T)[i]:Nat):Int):=by rw[e];omega
  rw[this];exact Jf h hi
 have ei:(K++T)[i]?=some r.toNat:=by rw[zj hi,e]
 rw[eg];unfold qN
 by_cases e1:i=p
 ·subst e1;rw[zZ rfl]
  have:=key (K.length - 1) (by
   rw[List.getElem?_append_right bO,hlen,Nat.sub_self];rw[List.getElem?_append_left hp]at ei;rw[zj hp]at ei
   simpa using ei)
  omega
 rw[zQ bO]
 by_cases e2:p<i/\i<K.length
 ·rw[zZ bO]
  have:=key (i - 1) (by
   rw[List.getElem?_append_left bO,List.getElem?_eraseIdx,zQ bO,show i - 1+1=i by omega]
   rwa [List.getElem?_append_left bO]at ei)
  omega
 rw[zQ bO]
 by_cases e3:i<p
 ·exact(key i (by
   rw[List.getElem?_append_left bO,List.getElem?_eraseIdx,zZ e3]
   rwa [List.getElem?_append_left bO]at ei)).symm
 exact(key i (by
  rw[List.getElem?_append_right bO,hlen,show i - (K.length - 1)=(i - K.length)+1 by omega,zD]
  rwa [List.getElem?_append_right bO]at ei)).symm
theorem kv {k p n:Nat} {K T:List Nat} {xs:List FunL} (h:Perm (K++T) n) (hp:p<K.length):zC k p (zS k K T xs)=zS k (K.eraseIdx p) (K[p]::T) xs:=by
 refine yV (by rw[qQ,qP,qP]) fun i h1 h2=>?_;have hi:i<xs.length:=by rwa [qP]at h2
 have hi':i<(zS k K T xs).length:=by rwa [qP]
 rw[j5 h1,xP h2 hi,xP hi' hi]
 by_cases e:k=i
 ·simp only[zZ e];rw[←Vd];congr 1;unfold vW;have e1:(pickC (k:Int) K (pickF K T xs[i])).params - 1=(K.length:Int) - 1:=rfl;rw[e1,Y3]
  have e2:toF (qN p ((K.length:Int) - 1)) (pickF K T xs[i])={ toF (gL (K.eraseIdx p++K[p]::T)) xs[i]with params:=(K.length:Int) }:=by
   have:=QI (g:=qN p ((K.length:Int) - 1)) (fun x hx=>h.nn hx) xs[i];simp only[lastG_gL h hp]at this;rw[←this];rfl
  rw[e2];unfold pickC pickF;have e3:(((K.eraseIdx p).length:Nat):Int)=(K.length:Int) - 1:=by rw[List.length_eraseIdx_of_lt hp];omega
  simp only[e3]
 simp only[zQ e];exact Vd _ _ _ _
end Go.Proofs.YtgjjhadbjmcnpaaGreatDoor
namespace Go.Proofs.YtgjjhadbjmcnpaaGreatDoor
open Go.RowKit

def vK (q:Nat->Bool) (r:Nat):Nat:=((List.range r).filter q).length
theorem kU (q:Nat->Bool) (r:Nat):vK q (r+1)=vK q r+(if q r=true then 1 else 0):=by
 unfold vK;rw[yt,List.filter_append,yN];congr 1
 by_cases h:q r=true<;>simp[h]
theorem kV (q:Nat->Bool) (r:Nat):vK q r<=r:=by
 unfold vK;have:=List.length_filter_le q (List.range r)
 rwa [List.length_range]at this
theorem ZR {q:Nat->Bool} {n r:Nat} (h:r<n) (hq:q r=true):((List.range n).filter q)[vK q r]?=some r:=by
 have h2:List.range n=List.range r++r::List.range' (r+1) (n - r - 1):=by
  rw[List.range_eq_range',List.range_eq_range'];have a:=List.range'_append_1 (s:=0) (m:=r) (n:=n - r);rw[yx]at a
  have b:List.range' r (n - r)=r::List.range' (r+1) (n - r - 1):=by
   rw[show n - r=(n - r - 1)+1 by omega];exact List.range'_succ
  rw[←b,a];congr 1;omega
 rw[h2,List.filter_append];unfold vK;rw[List.getElem?_append_right (zK _),Nat.sub_self,List.filter_cons,zZ hq];rfl
def K5 (st:Nat->Bool) (n r:Nat):Int:=if r<n then(if st r=true then(vK st r:Int) else(vK st n:Int)+vK (fun a=>!st a) r)else r
theorem Y4 {st:Nat->Bool} {n r:Nat}:gL ((List.range n).filter st++(List.range n).filter fun a=>!st a) (r:Int)=K5 st n r:=by
 have hp:Perm ((List.range n).filter st++(List.range n).filter fun a=>!st a) n:=(Perm.range n).of (by
  have:∀l:List Nat,List.Perm (l.filter st++l.filter fun a=>!st a) l:=fun l=>by
   induction l with
   | nil=>exact List.Perm.nil
   | cons a l ih=>
    cases e:st a
    ·simp only[List.filter_cons,e,Bool.not_false,if_true,Bool.false_eq_true,if_false];exact List.perm_middle.trans (ih.cons a)
    simp only[List.filter_cons,e,Bool.not_true,if_true,Bool.false_eq_true,if_false];exact ih.cons a
  exact this _)
 unfold K5
 by_cases h:r<n
 rotate_left
 ·rw[zQ h];exact Z4 hp (.inr bO)
 rw[zZ h]
 by_cases hs:st r=true
 ·rw[zZ hs];obtain⟨h1,h2⟩:=List.getElem?_eq_some_iff.1 (ZR h hs);have h3:vK st r<((List.range n).filter st++(List.range n).filter fun a=>!st a).length:=by rw[yN];omega
  have:=Jf hp h3;rw[List.getElem_append_left h1,h2]at this;exact this
 rw[zQ hs];have hs2:(!st r)=true:=by simpa using hs
 obtain⟨h1,h2⟩:=List.getElem?_eq_some_iff.1 (ZR (q:=fun a=>!st a) h hs2);have h3:((List.range n).filter st).length+vK (fun a=>!st a) r<((List.range n).filter st++(List.range n).filter fun a=>!st a).length:=by rw[yN];omega
 have:=Jf hp h3;rw[List.getElem_append_right bO]at this;simp only[Nat.add_sub_cancel_left]at this;rw[h2]at this;rw[this];unfold vK;omega

theorem underIntS:Tryz.prog.underlying 45=some (.slice 3):=by kernel_rfl
theorem infoIntS:(Tryz.prog.info? 3).map (fun i=>(i.zero,i.size,i.bytes))=some (some (Z 0),1,8):=by kernel_rfl
theorem Ve (f:FunL) (n m:Nat) (st:Nat->Bool) (qb:Option Addr) (cb sb:Nat) (TB:Blks) (w:World) (hn:f.params=n) (hm:f.regs=m) (hnm:n<=m) (h6:n<=6) (hnI:m<=1000) (hS:SlO 49 6 BlkO w (.slice qb f.blocks.length cb) f.blocks TB) (hbd:f.blocks.length*96<=140737488351232) (hr:∀b∈f.blocks,RegB m b) (hst:w.rowIs sb 4 n (fun p=>.bool (st p))) (_hsb:¬ TB sb) :
  Calls Tryz.prog 35 #[.agg #[.string f.name,Z f.params,Z f.regs,.slice qb f.blocks.length cb],.slice (some (J sb 0)) n n] w fun e w'=>e = .returned (Z (((List.range n).filter st).length:Nat))/\SlO 49 6 BlkO w' (.slice qb f.blocks.length cb) (f.blocks.map (toB (gL ((List.range n).filter st++(List.range n).filter fun a=>!st a)))) TB/\Kept TB w w':=by
 obtain⟨i1,k1,k2,k3,k4⟩:=info_parts infoIntS;have hmk:=run_make_row 45 3 i1 (Z 0) underIntS k1 k2 k3 rfl .i64 .i64 m (by rw[k4];omega) bO;have HTl:Hid (∀i,TB i->i<w.heap.size):=q8 hS.inb;have HS:=q8 hS;have HSt:=q8 hst;have hsz:=hst.lt
 have HFn:Hid (∀(nb:Nat) (W:World),SlO 49 6 BlkO W (.slice qb f.blocks.length cb) f.blocks TB->nb<W.heap.size->¬ TB nb->W.rowIs nb 3 m (fun r=>Z (K5 st n r))->Calls Tryz.prog 70 #[.agg #[.string f.name,Z n,Z m,.slice qb f.blocks.length cb],.slice (some (J nb 0)) m m] W fun e w'=>e = .returned (.tuple #[])/\SlO 49 6 BlkO w' (.slice qb f.blocks.length cb) (f.blocks.map (toB (gL ((List.range n).filter st++(List.range n).filter fun a=>!st a)))) TB/\Kept TB W w'):=q8 fun nb W hS hnb hnT hrow=>by
  have h:=K3 f qb cb nb 0 m m (gL ((List.range n).filter st++(List.range n).filter fun a=>!st a)) TB W hS hbd hr (fun r hr=>by
   rw[Y4,yx];exact hrow.cell hr) hnb hnT (fun r hr=>by
   rw[Y4];have a:=kV st r;have b:=kV st n;have c:=kV (fun a=>!st a) r;unfold K5 I64
   split
   ·split<;>omega
   omega)
  rw[hn,hm]at h;exact h
 rw[hn,hm];clear hS hst hr hn hm hbd
 go_enter Tryz.func35,Tryz.ntmps35
 go_wp2_with fail
 obtain⟨W0,hW0⟩:=nZ ((w.alloc (.cells #[.string f.name,Z n,Z m,.slice qb f.blocks.length cb] 38)).alloc (.cells (madeCells #[Z 0] m) 3));rw[←hW0];have hz0:W0.heap.size=w.heap.size+1+1:=by rw[hW0];simp
 have hb0:Below w.heap.size w W0:=by rw[hW0];exact bZ
 have HB0:=q8 hb0;have HA:Hid (W0.heap[w.heap.size]?=some (.cells #[.string f.name,Z n,Z m,.slice qb f.blocks.length cb] 38 (0,0))):=q8 (by rw[hW0];exact qh (qr rfl))
 have haZ:Hid (W0.rowIs (w.heap.size+1) 3 m (fun _=>Z 0)):=q8 (by
  have:=World.rowIs_made (w.alloc (.cells #[.string f.name,Z n,Z m,.slice qb f.blocks.length cb] 38)) (Z 0) m 3;rw[hW0]
  simpa using this)
 clear hW0 hb0 hmk
 go_loopg [6,7] n (fun q s6 s7 wr=>∃x:Nat,x<=n/\q=n - x/\s7=Z x/\s6=Z (vK st x:Nat)/\wr.rowIs (w.heap.size+1) 3 m (fun r=>Z (if r<x/\st r=true then(vK st r:Int)else 0))/\Below (w.heap.size+1) W0 wr)
 case atStart=>exact⟨0,by omega,rfl,rfl,rfl,haZ.out.congr fun r _=>by simp,zI _ _⟩
 case round=>
  obtain⟨wo,hwo⟩:=nZ wr;subst hwo;obtain⟨x,hx,rfl,rfl,rfl,hrow,hb⟩:=hrel;have HR:=q8 hrow;have HB:=q8 hb;have hzr:=hb.size;have hA:=(hb.block w.heap.size bO).trans HA.out;obtain⟨hcc,hcf⟩:=blk hA;have za:=qd hA;have HA1:=q8 hA;have HBw:Hid (Below w.heap.size w wo):=q8 (HB0.out.trans (hb.mono bO));clear hrow hb hA
  by_cases hlt:x<n
  ·have hs0:=(jE HSt.out HBw.out).cell hlt;have hrz:=HR.out.lt;have hc0:=HR.out.cell (show x<m by omega);have hf0:=HR.out.frozen x;have hsz2:sb<wo.heap.size:=(by omega);have x0:(0:Int)<=(x:Int):=(by omega);have x1:(x:Int)<n:=(by omega);have x2:(x:Int)<m:=(by omega);have hle:=kV st x;cases hst:st x
   ·rw[hst]at hs0;have HE:=q8 hst;clear hst
    go_wp2_with fail
    go_roundg (n - (x+1))
    case measure=>omega
    case rel=>
     refine⟨x+1,by omega,rfl,by go_num,by rw[kU,HE.out];rfl,HR.out.congr fun r _=>?_,HB.out⟩
     by_cases e:r=x
     ·subst e;simp[HE.out]
     have:r<x+1↔r<x:=(by omega);simp[this]
   rw[hst]at hs0;have HE:=q8 hst;clear hst
   go_wp2_with fail
   go_roundg (n - (x+1))
   case measure=>omega
   case rel=>
    refine⟨x+1,by omega,rfl,by go_num,by rw[kU,HE.out];go_num,(HR.out.set x _).congr fun r _=>?_,HB.out.setCell (zK _) _⟩
    by_cases e:r=x
    ·subst e;simp[HE.out]
    have:r<x+1↔r<x:=(by omega);simp[this,e]
  obtain rfl:x=n:=by omega
  go_wp2_with fail
  clear hcc hcf za
  go_loopg [8,9] x (fun q s8 s9 wr=>∃y:Nat,y<=x/\q=x - y/\s9=Z y/\s8=Z ((vK st x+vK (fun a=>!st a) y:Nat))/\wr.rowIs (w.heap.size+1) 3 m (fun r=>Z (if r<x then(if st r=true then(vK st r:Int)else if r<y then(vK st x:Int)+vK (fun a=>!st a) r else 0)else 0))/\Below (w.heap.size+1) W0 wr)
  case atStart=>
   refine⟨0,by omega,rfl,rfl,rfl,HR.out.congr fun r _=>?_,HB.out⟩
   by_cases e:r<x<;>simp[e]
  case round=>
   obtain⟨wp,hwp⟩:=nZ wr;subst hwp;obtain⟨y,hy,rfl,rfl,rfl,hrow,hb⟩:=hrel;have HR2:=q8 hrow;have HB2:=q8 hb;have hwh:=hb.size;have hA:=(hb.block w.heap.size bO).trans HA.out;obtain⟨hcc,hcf⟩:=blk hA;have za:=qd hA;have heZ:Hid (Below w.heap.size w wp):=q8 (HB0.out.trans (hb.mono bO));clear hrow hb hA
   by_cases hlt2:y<x
   ·have hs0:=(jE HSt.out heZ.out).cell hlt2;have hrz:=HR2.out.lt;have hc0:=HR2.out.cell (show y<m by omega);have hf0:=HR2.out.frozen y;have hsz2:sb<wp.heap.size:=(by omega);have y0:(0:Int)<=(y:Int):=(by omega);have y1:(y:Int)<x:=(by omega);have y2:(y:Int)<m:=(by omega);have hle:=kV st x;have hle2:=kV (fun a=>!st a) y;cases hst:st y
    ·rw[hst]at hs0;have HE:=q8 hst;clear hst
     go_wp2_with fail
     go_roundg (x - (y+1))
     case measure=>omega
     case rel=>
      refine⟨y+1,by omega,rfl,by go_num,by rw[kU,HE.out];go_num,(HR2.out.set y _).congr fun r _=>?_,HB2.out.setCell (zK _) _⟩
      by_cases e:r=y
      ·subst e;simp[HE.out,hlt2]
      have:r<y+1↔r<y:=(by omega);simp[this,e]
    rw[hst]at hs0;have HE:=q8 hst;clear hst
    go_wp2_with fail
    go_roundg (x - (y+1))
    case measure=>omega
    case rel=>
     refine⟨y+1,by omega,rfl,by go_num,by rw[kU,HE.out];rfl,HR2.out.congr fun r _=>?_,HB2.out⟩
     by_cases e:r=y
     ·subst e;simp[HE.out]
     have:r<y+1↔r<y:=(by omega);simp[this]
   obtain rfl:y=x:=by omega
   go_wp2_with fail
   clear hcc hcf za
   go_loopg [10] (m - y) (fun q s10 wr=>∃z:Nat,y<=z/\z<=m/\q=m - z/\s10=Z z/\wr.rowIs (w.heap.size+1) 3 m (fun r=>Z (if r<z then K5 st y r else 0))/\Below (w.heap.size+1) W0 wr)
   case atStart=>
    refine⟨y,by omega,by omega,rfl,rfl,HR2.out.congr fun r _=>?_,HB2.out⟩
    by_cases e:r<y
    ·simp[e,K5]
    simp[e]
   case round=>
    obtain⟨wz,hwz⟩:=nZ wr;subst hwz;obtain⟨z,hz,hz2,rfl,rfl,hrow,hb⟩:=hrel;have HR3:=q8 hrow;have HB3:=q8 hb;have hwu:=hb.size;have hA:=(hb.block w.heap.size bO).trans HA.out;obtain⟨hcc,hcf⟩:=blk hA;have za:=qd hA;have hqy:Hid (Below w.heap.size w wz):=q8 (HB0.out.trans (hb.mono bO));clear hrow hb hA
    by_cases hlt3:z<m
    ·have hrz:=HR3.out.lt;have hc0:=HR3.out.cell hlt3;have hf0:=HR3.out.frozen z;have z0:(0:Int)<=(z:Int):=(by omega);have z1:(z:Int)<m:=by omega
     go_wp2_with fail
     go_roundg (m - (z+1))
     case measure=>omega
     case rel=>
      refine⟨z+1,by omega,by omega,rfl,by go_num,(HR3.out.set z _).congr fun r _=>?_,HB3.out.setCell (zK _) _⟩
      by_cases e:r=z
      ·subst e;have:¬ r<y:=(by omega);simp[K5,this]
      have:r<z+1↔r<z:=(by omega);simp[this,e]
    obtain rfl:z=m:=(by omega);have HC:=q8 (HFn.out (w.heap.size+1) wz (HS.out.below qM hqy.out) HR3.out.lt (fun h=>by have:=HTl.out _ h;omega) (HR3.out.congr fun r hr=>by simp[hr]))
    go_wp2_with fail
    refine HC.out.mono ?_;rintro e w5 ⟨rfl,hS5,hK5⟩;have HS5:=q8 hS5;have HK5:=q8 hK5;clear hS5 hK5
    go_wp2_with fail
    go_ret
    exact⟨rfl,HS5.out,(Kept.of_below hqy.out).trans HK5.out fun _ _ h=>h⟩
end Go.Proofs.YtgjjhadbjmcnpaaGreatDoor
namespace Go.Proofs.YtgjjhadbjmcnpaaGreatDoor

def Xa (k p:Nat) (x:InsL):List (Bool×Int):=if x.op=20/\x.fn=(k:Int) then[x.args.getD p (false,0)] else[]
def seenB (k p:Nat) (b:BlkL):List (Bool×Int):=b.list.flatMap (Xa k p)
def Vf (k p:Nat) (f:FunL):List (Bool×Int):=f.blocks.flatMap (seenB k p)
theorem Jg (k p:Nat) (V:List FunL):(V.flatMap (Vf k p)).map yj=cvX k p V:=by
 have e:∀x,(Xa k p x).map yj=cvI k p x:=fun x=>by
  unfold Xa cvI
  split<;>rfl
 unfold cvX cvF Vf seenB;simp only[List.map_flatMap,e]
theorem seen_no {k p:Nat} {V:List FunL} {xs:List (Bool×Int)} (h:jy k p V=none) (hs:xs=V.flatMap (Vf k p)) (h0:0<xs.length) (ha:∀j (hj:j<xs.length),xs[j].1=false/\xs[j]=xs[0]):False:=by
 have h1:jy k p V=some xs[0].2:=by
  rw[alwL_iff,←Jg,←hs];refine⟨fun e=>?_,fun v hv=>?_⟩
  ·have:=congrArg List.length e;simp at this;subst this;simp at h0
  obtain⟨x,hx,rfl⟩:=yD.1 hv;obtain⟨j,hj,rfl⟩:=yp.1 hx;obtain⟨a,b⟩:=ha j hj;unfold yj;rw[zQ (by rw[a];decide),b]
 rw[h1]at h;cases h
theorem ZS {α β:Type} {l:List α} {g:α->List β} {i:Nat} (hi:i<l.length):(l.take (i+1)).flatMap g=(l.take i).flatMap g++g l[i]:=by
 rw[←List.take_append_getElem hi,yn];simp
theorem Y5 {k p:Nat} {x:InsL} (h:¬(x.op=20/\x.fn=(k:Int))):Xa k p x=[]:=zQ h
theorem seenI_yes {k p:Nat} {x:InsL} (h:x.op=20/\x.fn=(k:Int)) (hp:p<x.args.length):Xa k p x=[x.args[p]]:=by
 unfold Xa;rw[zZ h];simp[hp]
end Go.Proofs.YtgjjhadbjmcnpaaGreatDoor
namespace Go.Proofs.YtgjjhadbjmcnpaaGreatDoor
open Go.RowKit

def SeenR (wq wr:World) (pv:Option Addr) (vc:Nat) (xs:List (Bool×Int)):Prop:=∃Sv:Blks,SlO 44 2 jV wr (.slice pv xs.length vc) xs Sv/\(∀g,Sv g->wq.heap.size<=g)/\Below wq.heap.size wq wr
theorem SeenR.nil {wq wr:World} (h:Below wq.heap.size wq wr):SeenR wq wr none 0 []:=⟨fun _=>False,SlO.nil _ _ _ _ (fun _ h=>h.elim),fun _ h=>h.elim,h⟩
theorem SeenR.snoc {wq wr w':World} {xs:List (Bool×Int)} {y:Bool×Int} {v':Value} {Sv:Blks} {o:Obj} (hL:∀g,Sv g->wq.heap.size<=g) (hB:Below wq.heap.size wq wr) (h:Snoc 44 2 jV (wr.alloc o) (xs++[y]) Sv (fun _=>False) v' w'):∃pv' vc',v' = .slice pv' (xs++[y]).length vc'/\SeenR wq w' pv' vc' (xs++[y]):=by
 obtain⟨S',hO3,hsub,hK3⟩:=h;obtain⟨pv2,vc2,e2,_⟩:=hO3.val;subst e2;have hz:=hB.size;refine⟨pv2,vc2,rfl,S',hO3,fun g hg=>?_,(hB.alloc hz _).trans (hK3.below bW hL)⟩;rcases hsub g hg with h|h|h
 ·exact hL g h
 ·exact h.elim
 simp at h;omega

theorem ZT {α:Type} (q:Nat->Bool) (g:Nat->α) (p:Nat):((List.range (p+1)).filter q).map g=((List.range p).filter q).map g++(if q p=true then[g p] else[]):=by
 rw[yt,List.filter_append,yW];congr 1
 by_cases h:q p=true<;>simp[h]
theorem Xx {α:Type} (q:Nat->Bool) (g:Nat->α) (p:Nat):(((List.range p).filter q).map g).length<=p:=by
 rw[yT];have:=List.length_filter_le q (List.range p)
 rwa [List.length_range]at this
theorem small_bd {n p:Nat} (h:n<=p) (h6:p<=6):n+1<=maxLen/\(n+1)*16<=140737488355328:=by
 unfold maxLen;omega

theorem Xy (xs:List FunL) (k n g c sb:Nat) (st:Nat->Bool) (q1:Option Addr) (n1 c1:Nat) (S:Blks) (w:World) (hS:SlO 38 4 FunO w (.slice (some (J g 0)) xs.length c) xs S) (hst:w.rowIs sb 4 n (fun p=>.bool (st p))) (hsb:¬ S sb) (h10:xs.length<=10) (hblk:∀f∈xs,0<f.blocks.length/\f.blocks.length<=40) (hlist:∀f∈xs,∀b∈f.blocks,b.list.length<=400)
  (hcall:∀f∈xs,∀b∈f.blocks,∀x∈b.list,x.op=20->x.fn=(k:Int)->x.args.length=n) (h6:n<=6) :
  Calls Tryz.prog 36 #[.agg #[.slice q1 n1 c1,.slice (some (J g 0)) xs.length c],Z k,.slice (some (J sb 0)) n n] w fun e w'=>e = .returned (.tuple #[])/\∃S',SlO 38 4 FunO w' (.slice (some (J g 0)) xs.length c) (xs.map (pickC k ((List.range n).filter st))) S'/\(∀i,S' i->S i\/w.heap.size<=i)/\Kept S w w':=by
 obtain⟨iV,r1,r2,r3,r4⟩:=info_parts vU;have HSl:Hid (∀i,S i->i<w.heap.size):=q8 hS.inb;have HS:=q8 hS;have HSt:=q8 hst;have HSb:=q8 hsb;have HBk:=q8 hblk;have HLs:=q8 hlist;have HCl:=q8 hcall;have hsz:=hst.lt;obtain⟨K,hK⟩:=nZ ((List.range n).filter st);rw[←hK];have HKe:=q8 hK;clear hS hst hsb hblk hlist hcall hK
 go_enter Tryz.func36,Tryz.ntmps36
 go_wp2_with fail
 obtain⟨W0,hW0⟩:=nZ (w.alloc (.cells #[.slice q1 n1 c1,.slice (some (J g 0)) xs.length c] 25));rw[←hW0];have hz0:W0.heap.size=w.heap.size+1:=by rw[hW0];simp
 have hb0:Below w.heap.size w W0:=by rw[hW0];exact bZ
 have HB0:=q8 hb0;have HA:Hid (W0.heap[w.heap.size]?=some (.cells #[.slice q1 n1 c1,.slice (some (J g 0)) xs.length c] 25 (0,0))):=q8 (by rw[hW0];exact qr rfl);have HS0:=q8 (HS.out.below qK hb0);have hu6:=q8 (jE HSt.out hb0);clear hW0 hb0
 go_loopg [6] xs.length (fun q s wr=>∃(cc:Nat) (S':Blks),cc<=xs.length/\q=xs.length - cc/\s=Z cc/\SlO 38 4 FunO wr (.slice (some (J g 0)) xs.length c) (qG cc (pickC k K) xs) S'/\(∀i,S' i->S i\/W0.heap.size<=i)/\Kept S W0 wr)
 case atStart=>exact⟨0,S,by omega,rfl,rfl,by rw[qU];exact HS0.out,fun _ h=>.inl h,Kept.refl _ _⟩
 case round=>
  obtain⟨wo,hwo⟩:=nZ wr;subst hwo;obtain⟨cc,S',hcc,rfl,rfl,hO,hS',hK0⟩:=hrel;have hzo:=hK0.size;have hA:=(hK0.block w.heap.size bO (fun h=>by have:=HSl.out _ h;omega)).trans HA.out;have hiL:=hK0.block sb bO HSb.out;have hu7:=q8 (hu6.out.of_block hiL);have HO:=q8 hO;have HS':=q8 hS';have HK0:=q8 hK0;have HA1:=q8 hA
  have HnB:Hid (¬ S' w.heap.size):=q8 fun h=>by
   rcases hS' _ h with h|h
   ·have:=HSl.out _ h;omega
   omega
  have HnS:Hid (¬ S' sb):=q8 fun h=>by
   rcases hS' _ h with h|h
   ·exact HSb.out h
   omega
  have a1:wo.cell? (J w.heap.size 1)=some (.slice (some (J g 0)) xs.length c):=(blk hA).1 1;have za:=qd hA;clear hO hS' hK0 hA hiL
  by_cases hlt:cc<xs.length
  rotate_left
  ·obtain rfl:cc=xs.length:=by omega
   go_wp2_with fail
   have hO9:=HO.out;rw[qR]at hO9;exact bodyPost_end (results_none rfl _ _ _) rfl ⟨rfl,S',hO9,fun i h=>(HS'.out i h).imp id (fun h=>by omega),(Kept.of_below HB0.out).trans HK0.out fun _ _ h=>h⟩
  obtain⟨f,hf⟩:=nZ (xs[cc]);have hfm:f∈xs:=by rw[hf];exact zP hlt
  have hml:cc<(qG cc (pickC k K) xs).length:=by rw[qO];exact hlt
  have hmf:(qG cc (pickC k K) xs)[cc]=f:=by rw[xh hml (zK _),hf]
  obtain⟨hb1,hwy⟩:=HBk.out f hfm;have hqA:=HO.out.shape hml (by rw[hmf];exact hb1);rw[hmf]at hqA;obtain⟨bb,cb,hsh,hmQ,hSg,hgz,_,_⟩:=hqA;have hset:(qG cc (pickC k K) xs).set cc (upI (fun _=>xM k K) f 0)=qG cc (pickC k K) xs:=by rw[XT,←hmf,List.set_getElem_self]
  have hdZ:=q8 hset;have HSh:=q8 hsh;have HSg:=q8 (zh hSg hmQ);have HFe:=q8 hf;have HFm:=q8 hfm;have hbz:=HO.out.inb bb hmQ;have e3:=hsh.fn;have c0:(0:Int)<=(cc:Int):=by omega
  have cx:(cc:Int)<xs.length:=by omega
  clear hf hmf hset hsh hmQ hSg hfm
  go_wp2_with fail
  clear a1 za e3
  go_loopg [7] f.blocks.length (fun q s wr=>∃(m:Nat) (S2:Blks),m<=f.blocks.length/\q=f.blocks.length - m/\s=Z m/\SlO 38 4 FunO wr (.slice (some (J g 0)) xs.length c) ((qG cc (pickC k K) xs).set cc (upI (fun _=>xM k K) f (xx (qq f) m).length)) S2/\(∀i,S2 i->S' i\/wo.heap.size<=i)/\Kept S' wo wr/\FunSh g cc bb f.blocks.length cb (lqW wo bb) (qq f) (lcW wo bb) wr)
  case atStart=>exact⟨0,S',by omega,rfl,rfl,by rw[show(xx (qq f) 0).length=0 from rfl,hdZ.out];exact HO.out,fun _ h=>.inl h,Kept.refl _ _,HSh.out⟩
  case round=>
   obtain⟨wm,hwm⟩:=nZ wr;subst hwm;obtain⟨m,S2,hm,rfl,rfl,hO2,hS2,hK2,hsh⟩:=hrel;have hzm:=hK2.size;have hA:=(hK2.block w.heap.size bO HnB.out).trans HA1.out;have a1:wm.cell? (J w.heap.size 1)=some (.slice (some (J g 0)) xs.length c):=(blk hA).1 1;have za:=qd hA;have HO2:=q8 hO2;have HS2:=q8 hS2;have HK2:=q8 hK2;have hqB:=q8 hsh;have e3:=hsh.fn;have ze:=q9 e3;clear hO2 hS2 hK2 hsh hA
   by_cases hlm:m<f.blocks.length
   rotate_left
   ·obtain rfl:m=f.blocks.length:=(by omega);have hO9:=HO2.out;have hu:upI (fun _=>xM k K) f (xx (qq f) f.blocks.length).length=pickC k K f:=(by rw[VJ];rfl);rw[hu,HFe.out,qS hlt]at hO9;have HO9:=q8 hO9;clear hO9 hu
    go_wp2_with fail
    go_roundg (xs.length - (cc+1))
    case measure=>omega
    case rel=>
     refine⟨cc+1,S2,by omega,rfl,by go_num,HO9.out,fun i h=>?_,HK0.out.trans HK2.out fun i hi h=>?_⟩
     ·rcases HS2.out i h with h|h
      ·exact HS'.out i h
      exact .inr bO
     rcases HS'.out i h with h|h
     ·exact h
     omega
   have d1:=hqB.out.blk m hlm;obtain⟨lq,hlq⟩:=nZ (lqW wo bb m);obtain⟨ll,hll⟩:=nZ (qq f m);have hmR:ll=f.blocks[m].list.length:=(by rw[hll,xn hlm]);have hiN:ll<=400:=(by rw[hmR];exact HLs.out f HFm.out _ (zP hlm));rw[←hlq,←hll]at d1;have HLq:=q8 hlq;have HLl:=q8 hll;have HL2:=q8 hmR;have zd:=q9 d1;have m0:(0:Int)<=(m:Int):=(by omega);have m1:(m:Int)<f.blocks.length:=(by omega);clear hlq hll hmR
   go_wp2_with fail
   clear a1 za e3 ze d1 zd
   go_loopg [9] ll (fun q s wr=>∃(j:Nat) (S3:Blks),j<=ll/\q=ll - j/\s=Z j/\SlO 38 4 FunO wr (.slice (some (J g 0)) xs.length c) ((qG cc (pickC k K) xs).set cc (upI (fun _=>xM k K) f ((xx (qq f) m).length+j))) S3/\(∀i,S3 i->S' i\/wo.heap.size<=i)/\Kept S' wo wr/\FunSh g cc bb f.blocks.length cb (lqW wo bb) (qq f) (lcW wo bb) wr)
   case atStart=>exact⟨0,S2,by omega,rfl,rfl,HO2.out,HS2.out,HK2.out,hqB.out⟩
   case round=>
    obtain⟨wi,hwi⟩:=nZ wr;subst hwi;obtain⟨j,S3,hj,rfl,rfl,hO3,hS3,hK3,hhc⟩:=hrel;have HO3:=q8 hO3;have HS3:=q8 hS3;have HK3:=q8 hK3;have hfh:=q8 hhc;have hzi:=hK3.size;clear hO3 hS3 hK3 hhc
    by_cases hlj:j<ll
    rotate_left
    ·obtain rfl:j=ll:=by omega
     go_wp2_with fail
     go_roundg (f.blocks.length - (m+1))
     case measure=>omega
     case rel=>exact⟨m+1,S3,by omega,rfl,by go_num,by rw[kj,←HLl.out];exact HO3.out,HS3.out,HK3.out,hfh.out⟩
    have hj2:j<f.blocks[m].list.length:=(by rw[←HL2.out];exact hlj);obtain⟨lb,v,Ti,hqC,hbT,hdX,hep,hci,hlg,haQ,h64,hAr,he3,haJ,hTg,hdC,⟨cur,hay⟩,hput⟩:=J5 HO3.out hml hlm hj2 hfh.out;have hu8:lq=some (J lb 0):=HLq.out.trans hqC;obtain⟨x,hx⟩:=nZ (f.blocks[m].list[j]);have hxm:x∈f.blocks[m].list:=(by rw[hx];exact zP hj2);have hlen:=HCl.out f HFm.out _ (zP hlm) x hxm;rw[←hx]at hci h64 hAr hput;obtain⟨qa,ca,rfl,_,_⟩:=hAr.sl.val;have y0:wi.cell? (J lb (j*8))=some (Z x.op):=hci 0 bO;have y6:wi.cell? (J lb (j*8+6))=some (Z x.fn):=hci 6 bO;have y7:wi.cell? (J lb (j*8+7))=some (.slice qa x.args.length ca):=hci 7 bO;have HR:=q8 (RowPut.same hay rfl hci);have HXe:=q8 hx;have H64:=q8 h64;have HAr:=q8 hAr;have haA:=q8 hput;have HT:=q8 (zh he3 (zh hbT (zh hlg haQ)));have j0:(0:Int)<=(j:Int):=(by omega);have j1:(j:Int)<ll:=(by omega);subst hu8;have HLen:=q8 hlen;clear hqC hbT hci hlg haQ h64 hAr he3 haJ hTg hdC hay hput hx hxm hlen hep
    have HSame:Hid (xM k K x=x->SlO 38 4 FunO wi (.slice (some (J g 0)) xs.length c) ((qG cc (pickC k K) xs).set cc (upI (fun _=>xM k K) f ((xx (qq f) m).length+(j+1)))) S3):=q8 fun h=>by
     rw[←Nat.add_assoc,←Kx hlm hj2 (by rw[←HXe.out];exact h)];exact HO3.out
    by_cases hop:x.op=20
    rotate_left
    ·have q20:(x.op != 20)=true:=(by simp[hop]);have hid:xM k K x=x:=(by unfold xM;rw[zQ fun h=>hop h.1]);have HN:=q8 (HSame.out hid);clear hop hid
     go_wp2_with fail
     go_roundg (ll - (j+1))
     case measure=>omega
     case rel=>exact⟨j+1,S3,by omega,rfl,by go_num,HN.out,HS3.out,HK3.out,hfh.out⟩
    by_cases hfn:x.fn=(k:Int)
    ·have q20:(x.op != 20)=false:=(by simp[hop]);have qk:(x.fn != (k:Int))=false:=(by simp[hfn]);have hnl:=HLen.out hop hfn;have hpk:xM k K x={ x with args:=K.map fun a=>x.args.getD a (false,0) }:=(by unfold xM;rw[zZ ⟨hop,hfn⟩]);have HPk:=q8 hpk;have HNl:=q8 hnl
     have hRd:SliceAt wi 2 kc qa x.args:=by
      obtain⟨p',c',e,_,_,h⟩:=HAr.out.sl.read (R':=kc) zq bO fun _ _ _ h=>h;cases e;exact h
     have HRd:=q8 hRd;have hiL:=HK3.out.block sb bO HnS.out;have hu9:=q8 (hu7.out.of_block hiL);have htu:sb<wi.heap.size:=(by omega);clear hop hfn hnl hpk hRd hiL
     go_wp2_with fail
     clear y0 y6
     go_loopg [10,11] n (fun q s10 s11 wr=>∃(p:Nat) (ys:List (Bool×Int)) (pv:Option Addr) (vc:Nat),p<=n/\q=n - p/\s11=Z p/\s10 = .slice pv ys.length vc/\SeenR wi wr pv vc ys/\Hid (ys=((List.range p).filter st).map fun a=>x.args.getD a (false,0)))
     case atStart=>exact⟨0,[],none,0,by omega,rfl,rfl,rfl,SeenR.nil (zI _ _),q8 rfl⟩
     case round=>
      obtain⟨wp,hwp⟩:=nZ wr;subst hwp;obtain⟨p,ys,pv,vc,hp,rfl,rfl,rfl,hSe,HYs⟩:=hrel;have HSe:=q8 hSe;have hb:Below wi.heap.size wi wp:=(by obtain⟨_,_,_,h⟩:=hSe;exact h);have HBp:=q8 hb;have hzp:=hb.size;have y7p:=(hb.cell (p:=(J lb (j*8+7))) hdX).trans y7;have zlb:lb<wp.heap.size:=(by omega);have hsz2:sb<wp.heap.size:=(by omega);have huf:=q8 (jE hu9.out hb);clear hSe hb
      by_cases hlp:p<n
      rotate_left
      ·obtain rfl:p=n:=(by omega);have hsn:∃Sv,SlO 44 2 jV wp (.slice pv ys.length vc) ys Sv/\(∀g,Sv g->wi.heap.size<=g)/\Below wi.heap.size wi wp:=HSe.out;obtain⟨Sv,hSv,hLv,hBv⟩:=hsn;have hyl:ys.length<=p:=(by rw[HYs.out];exact Xx _ _ _);have hR7:=((RowW.start HR.out).below hBv).set (j:=7) (v:=.slice pv ys.length vc) rfl bO;have hwB:=((RowW.start HR.out).below hBv).row.free1;have hys:ys=K.map fun a=>x.args.getD a (false,0):=by rw[HYs.out,HKe.out]
       have hnew:=haA.out (wp.setCell (J lb (j*8+7)) (.slice pv ys.length vc)) { x with args:=ys } (.slice pv ys.length vc) Sv hR7.row rfl hR7.kept.size (fun b hb h1 h2=>hR7.kept.block b (HO3.out.inb b hb) h2) ⟨H64.out.op,H64.out.dst,H64.out.an,H64.out.bn,H64.out.fn⟩
        ⟨hSv.kept zq ((Kept.refl (fun b=>b=lb) wp).setCell (p:=(J lb (j*8+7))) rfl _) (fun b e h=>by(have e:b=lb:=e);have:=hLv b h;omega),by show ys.length*16<=140737488351232;omega⟩
        (fun b hb=>⟨.inr (hLv b hb),by have:=hSv.inb b hb;have:=((Kept.refl (fun b=>b=lb) wp).setCell (p:=(J lb (j*8+7))) rfl (.slice pv ys.length vc)).size;omega⟩) (by rw[HPk.out,hys])
       have hug:=q8 hnew;have HR7:=q8 hR7;have hsub:∀i,(S3 i\/Sv i)->S' i\/wo.heap.size<=i:=fun i h=>h.elim (HS3.out i) (fun h=>.inr (by have:=hLv i h;omega));have HSub:=q8 hsub;have HBv:=q8 hBv;clear hSv hLv hBv hR7 hys hnew hsub hyl
       go_wp2_with fail
       have hKn:Kept S' wo (wp.setCell (J lb (j*8+7)) (.slice pv ys.length vc)):=HK3.out.trans HR7.out.kept fun i hi e=>by
        have e:i=lb:=e;rcases HS3.out lb HT.out.2.1 with h|h
        ·rw[e];exact h
        omega
       have huh:FunSh g cc bb f.blocks.length cb (lqW wo bb) (qq f) (lcW wo bb) (wp.setCell (J lb (j*8+7)) (.slice pv ys.length vc)):=hfh.out.other (HR7.out.kept.block g (q9 hfh.out.fn) (fun e=>HT.out.2.2.1 (Eq.symm e))) (HR7.out.kept.block bb (q9 (hfh.out.blk m hlm)) (fun e=>HT.out.2.2.2 (Eq.symm e)))
       go_roundg (ll - (j+1))
       case measure=>omega
       case rel=>exact⟨j+1,fun b=>S3 b\/Sv b,by omega,rfl,by go_num,by rw[←Nat.add_assoc];exact hug.out,HSub.out,hKn,huh⟩
      have hs0:=huf.out.cell hlp;have p0:(0:Int)<=(p:Int):=(by omega);have p1:(p:Int)<n:=(by omega);cases hst:st p
      ·rw[hst]at hs0;have HE:=q8 hst;clear hst
       go_wp2_with fail
       go_roundg (n - (p+1))
       case measure=>omega
       case rel=>exact⟨p+1,ys,pv,vc,by omega,rfl,by go_num,rfl,HSe.out,q8 (by rw[ZT,HE.out,HYs.out];simp)⟩
      rw[hst]at hs0;have HE:=q8 hst;have hpa:p<x.args.length:=(by rw[HNl.out];exact hlp);obtain⟨ab,ao,hqa,a0,a1,hfk⟩:=Z1 HRd.out HBp.out hpa;have hYg:x.args.getD p (false,0)=x.args[p]:=(by simp[hpa]);obtain⟨Y,hY⟩:=nZ (x.args[p]);rw[←hY]at a0 a1 hfk hYg;have HYg:=q8 hYg;have hhQ:=q8 hfk;have az:=q9 a0;have pa1:(p:Int)<x.args.length:=(by omega);have hsn:∃Sv,SlO 44 2 jV wp (.slice pv ys.length vc) ys Sv/\(∀g,Sv g->wi.heap.size<=g)/\Below wi.heap.size wi wp:=HSe.out;obtain⟨Sv,hSv,hLv,hBv⟩:=hsn;have HSv:=q8 hSv;have HLv:=q8 hLv;have hyl:ys.length<=p:=(by rw[HYs.out];exact Xx _ _ _);have HBd:=q8 (small_bd hyl bO);subst hqa;clear hst hY hfk hSv hLv hBv hYg hyl
      go_wp2_with (at_builtin;refine qH _ rfl _ _ 40 rfl 44 iV _ 2 16 Tryz.underlying40 r1 r2 r3 r4 rfl (by decide) zq rfl (HSv.out.below zq ((zI _ wp).alloc (zK _) _)) ⟨wp.heap.size,0,none⟩ 1 [.bool Y.1,Z Y.2] Y rfl rfl ?hn ?ho (T:=fun _=>False) ⟨rfl,hhQ.out⟩ ?ha ?ht ?hm ?hb ?_)
      case hn=>exact zW _ _ _ bV
      case ho=>intro u hu;simp only[yC,yG,yl]at hu;rcases hu with rfl|rfl<;>rfl
      case ha=>exact fun k h1 h2=>h2
      case ht=>exact fun k h=>h.elim
      case hm=>exact(HBd.out).1
      case hb=>exact(HBd.out).2
      intro v' w' hsn;obtain⟨pv',vc',rfl,hS9⟩:=SeenR.snoc HLv.out HBp.out hsn;have HS9:=q8 hS9;clear hsn hS9
      go_wp2_with fail
      go_roundg (n - (p+1))
      case measure=>omega
      case rel=>exact⟨p+1,ys++[Y],pv',vc',by omega,rfl,by go_num,rfl,HS9.out,q8 (by rw[ZT,HE.out,zZ rfl,HYg.out,←HYs.out])⟩
    have q20:(x.op != 20)=false:=(by simp[hop]);have qk:(x.fn != (k:Int))=true:=(by simp[hfn]);have hid:xM k K x=x:=(by unfold xM;rw[zQ fun h=>hfn h.2]);have HN:=q8 (HSame.out hid);clear hop hfn hid
    go_wp2_with fail
    go_roundg (ll - (j+1))
    case measure=>omega
    case rel=>exact⟨j+1,S3,by omega,rfl,by go_num,HN.out,HS3.out,HK3.out,hfh.out⟩
end Go.Proofs.YtgjjhadbjmcnpaaGreatDoor
namespace Go.Proofs.YtgjjhadbjmcnpaaGreatDoor

structure Good (xs:List FunL):Prop where
 call:CallN xs
 reg:∀f∈xs,f.params<=f.regs
theorem Good.par {xs:List FunL} (h:Good xs):∀f∈xs,0<=f.params:=fun f hf=>(h.call.par f hf).1
theorem pickF_all {f:FunL} {n:Nat} (h:f.params=n):pickF (List.range n) [] f=f:=by
 have e:gL (List.range n++[])=fun x=>x:=by
  funext r;rw[List.append_nil];unfold gL
  split
  ·next h1=>
   rw[ku (yR.1 h1.2)];omega
  rfl
 unfold pickF;rw[e,Y0,List.length_range,←h]
theorem Vg {k:Nat} {n:Nat} {f:FunL} (h:∀b∈f.blocks,∀x∈b.list,x.op=20->x.fn=(k:Int)->x.args.length=n):pickC k (List.range n) f=f:=by
 have hb:(f.blocks.map fun b=>({ b with list:=b.list.map (xM k (List.range n)) }:BlkL))=f.blocks:=by
  refine(ya (g:=id) fun b hb=>?_).trans bV
  have:b.list.map (xM k (List.range n))=b.list:=by
   refine(ya (g:=id) fun x hx=>?_).trans bV;unfold xM
   split
   ·next e=>
    have hl:=h b hb x hx e.1 e.2
    have:((List.range n).map fun a=>x.args.getD a (false,0))=x.args:=by
     refine yV (by simp[hl]) fun i h1 h2=>?_;simp[h2]
    rw[this];rfl
   rfl
  rw[this];rfl
 unfold pickC;rw[hb]
theorem CallN.nat {xs:List FunL} (h:CallN xs) {k n:Nat} (hk:k<xs.length) (hn:xs[k].params=n):∀f∈xs,∀b∈f.blocks,∀x∈b.list,x.op=20->x.fn=(k:Int)->x.args.length=n:=fun f hf b hb x hx h1 h2=>by
 obtain⟨_,h3⟩:=h.call f hf b hb x hx h1 k h2;omega
theorem Jh {k n:Nat} {xs:List FunL} (h:CallN xs) (hk:k<xs.length) (hn:xs[k].params=n):zS k (List.range n) [] xs=xs:=by
 refine yV (qP _ _ _ _) fun i h1 h2=>?_;rw[xP h1 h2]
 by_cases e:k=i
 ·subst e;rw[zZ rfl,pickF_all hn];exact Vg (h.nat hk hn _ (zP hk))
 rw[zQ e];exact Vg (h.nat hk hn _ (zP h2))
theorem kw {k n p:Nat} {xs:List FunL} (h:CallN xs) (hk:k<xs.length) (hn:xs[k].params=n) (hp:p<n):zC k p xs=zS k ((List.range n).eraseIdx p) [p] xs:=by
 have h1:=kv (k:=k) (K:=List.range n) (T:=[]) (xs:=xs) (p:=p) (n:=n) (by rw[List.append_nil];exact Perm.range n) (by rw[List.length_range];exact hp);rw[Jh h hk hn]at h1;rw[h1];simp
theorem RenF.pickC {f f':FunL} (h:RenF f f') (k:Int) (K:List Nat):RenF (pickC k K f) (pickC k K f'):=by
 obtain⟨g,g',hr,rfl⟩:=h;exact⟨g,g',hr,(Y3 k K g f).symm⟩
theorem RenF.pick {f f':FunL} (h:RenF f f') {K T T':List Nat} {n:Nat} (hn:f.params=n) (hm:f.params<=f.regs) (hp:Perm (K++T) n) (hp':Perm (K++T') n):RenF (pickF K T f) (pickF K T' f'):=by
 obtain⟨g,g',hr,rfl⟩:=h;have hln:K.length<=n:=by have:=hp.len;rw[yN]at this;omega
 have fixed:∀{x:Int},(x<0\/f.regs<=x)->gL (K++T') (g (hL (K++T) x))=x:=fun {x} hx=>by
  have h1:x<0\/(n:Int)<=x:=by omega
  rw[hL_out hp h1]
  have h2:g x=x:=by
   rcases hx with hx|hx
   ·exact hr.lo x bO
   exact hr.hi x hx
  rw[h2,Z4 hp' h1]
 refine⟨fun x=>gL (K++T') (g (hL (K++T) x)),fun x=>gL (K++T) (g' (hL (K++T') x)),⟨by show(0:Int)<=(K.length:Int);omega,fun x=>by simp only[hp'.lr,hr.l,hp.rl],fun x=>by simp only[hp.lr,hr.r,hp'.rl],fun x hx=>?_,fun x hx=>fixed (.inr hx)⟩,?_⟩
 ·have hx:x<(K.length:Int):=hx
  by_cases h0:x<0
  ·exact fixed (.inl h0)
  have hi:x.toNat<K.length:=by omega
  have e:x=(x.toNat:Int):=by omega
  have a1:x.toNat<(K++T).length:=by rw[yN];omega
  have a2:x.toNat<(K++T').length:=by rw[yN];omega
  have b1:hL (K++T) x=(K[x.toNat]:Int):=by
   have h1:=hL_at a1;rw[List.getElem_append_left hi,←e]at h1;exact h1
  have b2:K[x.toNat]<n:=(hp.mem _).1 (yE _ (zP hi));have b3:g (K[x.toNat]:Int)=(K[x.toNat]:Int):=hr.lo _ bO;have b4:(K[x.toNat]:Int)=((K++T')[x.toNat]:Nat):=by rw[List.getElem_append_left hi]
  show gL (K++T') (g (hL (K++T) x))=x;rw[b1,b3,b4,Jf hp' a2];omega
 unfold Go.Proofs.YtgjjhadbjmcnpaaGreatDoor.pickF;have e1:=QI (g:=gL (K++T')) (fun x hx=>hr.nn hx) f;have e2:=QI (g:=fun x=>gL (K++T') (g (hL (K++T) x))) (fun x hx=>hp.nn hx) f;simp only[hp.lr]at e2;rw[e1,←e2];rfl
theorem RenX.pick {xs xs':List FunL} (h:RenX xs xs') (hg:Good xs) {k n:Nat} (hk:k<xs.length) (hn:xs[k].params=n) {K T T':List Nat} (hp:Perm (K++T) n) (hp':Perm (K++T') n):RenX (zS k K T xs) (zS k K T' xs'):=by
 refine⟨by rw[qP,qP,h.1],fun i h1 h2=>?_⟩;have i1:i<xs.length:=by rwa [qP]at h1
 have i2:i<xs'.length:=by rwa [qP]at h2
 rw[xP h1 i1,xP h2 i2];refine RenF.pickC ?_ _ _
 by_cases e:k=i
 ·subst e;rw[zZ rfl,zZ rfl];exact(h.2 k i1 i2).pick hn (hg.reg _ (zP i1)) hp hp'
 rw[zQ e,zQ e];exact h.2 i i1 i2
theorem Good.ren {xs ys:List FunL} (h:Good xs) (r:RenX xs ys):Good ys:=by
 have hat:∀f'∈ys,∃i,∃hi:i<xs.length,RenF xs[i] f':=fun f' hf=>by
  obtain⟨i,hi,rfl⟩:=yp.1 hf;have hi':i<xs.length:=by rw[r.1];exact hi
  exact⟨i,hi',r.2 i hi' hi⟩
 refine⟨⟨fun f hf=>?_,fun f hf=>?_,fun f hf b hb x hx ho k hk=>?_⟩,fun f hf=>?_⟩
 ·obtain⟨i,hi,g,_,_,rfl⟩:=hat f hf;rw[vh];exact h.call.blk _ (zP hi)
 ·obtain⟨i,hi,g,_,_,rfl⟩:=hat f hf;exact(h.call.par _ (zP hi):0<=xs[i].params/\xs[i].params<=6)
 ·obtain⟨i,hi,g,_,_,rfl⟩:=hat f hf;obtain⟨b0,hb0,rfl⟩:=yD.1 hb;obtain⟨x0,hx0,rfl⟩:=yD.1 hx;obtain⟨h1,h2⟩:=h.call.call _ (zP hi) b0 hb0 x0 hx0 ho k hk;have h3:k<ys.length:=by rw[←r.1];exact h1
  refine⟨h3,?_⟩;rw[(r.2 k h1 h3).par.1,←h2];show(((x0.args.map _).length:Nat):Int)=_;rw[yT]
 obtain⟨i,hi,hr⟩:=hat f hf;rw[hr.par.1,hr.par.2.1];exact h.reg _ (zP hi)
theorem Good.drop {xs:List FunL} (h:Good xs) {k p:Nat} (hk:k<xs.length) (hp:(p:Int)<xs[k].params):Good (zC k p xs):=by
 refine⟨h.call.drop hk hp,fun f hf=>?_⟩;obtain⟨i,hi,rfl⟩:=yp.1 hf;have hi':i<xs.length:=by rw[←qQ k p xs];exact hi
 rw[jk hi];have h1:=h.reg _ (zP hi')
 have h2:(zC k p xs)[i].regs=xs[i].regs:=by
  rw[j5 hi];show(if k=i then vW p xs[i]else xs[i]).regs=_
  split<;>rfl
 rw[h2]
 split<;>omega
theorem RenX.drop {xs xs':List FunL} (h:RenX xs xs') (hg:Good xs) {k p:Nat} (hk:k<xs.length) (hp:(p:Int)<xs[k].params):RenX (zC k p xs) (zC k p xs'):=by
 obtain⟨n,hn⟩:∃n:Nat,xs[k].params=n:=⟨xs[k].params.toNat,by omega⟩;have hk':k<xs'.length:=by rw[←h.1];exact hk
 have hn':xs'[k].params=n:=by rw[(h.2 k hk hk').par.1,hn]
 have hpn:p<n:=by omega
 rw[kw hg.call hk hn hpn,kw (hg.ren h).call hk' hn' hpn]
 have e:Perm ((List.range n).eraseIdx p++[p]) n:=by
  have h1:=jd (K:=List.range n) (p:=p) (by rw[List.length_range];exact hpn) [];have h2:(List.range n)[p]'(by rw[List.length_range];exact hpn)=p:=by simp
  rw[h2,List.append_nil]at h1;exact(Perm.range n).of h1
 exact h.pick hg hk hn e e
/-! ## what dropped parameters leave to take -/
theorem RdF.of_del {f:FunL} {v:Bool×Int} {k:Int} {p:Nat} (h:RdF (kK k p f) v):RdF f v:=by
 obtain⟨b',hb',h⟩:=h;obtain⟨b,hb,rfl⟩:=yD.1 hb';refine⟨b,hb,?_⟩;rcases h with h|h|⟨x',hx',h⟩
 ·exact .inl h
 ·exact .inr (.inl h)
 obtain⟨x,hx,rfl⟩:=yD.1 hx';refine .inr (.inr ⟨x,hx,?_⟩);unfold kd at h
 split at h
 ·rcases h with h|h|h
  ·exact .inl h
  ·exact .inr (.inl h)
  exact .inr (.inr (List.mem_of_mem_eraseIdx h))
 exact h
theorem RdF.of_pick {f:FunL} {r:Int} {k:Int} {K:List Nat} (h:RdF (pickC k K f) (true,r)):RdF f (true,r):=by
 obtain⟨b',hb',h⟩:=h;obtain⟨b,hb,rfl⟩:=yD.1 hb';refine⟨b,hb,?_⟩;rcases h with h|h|⟨x',hx',h⟩
 ·exact .inl h
 ·exact .inr (.inl h)
 obtain⟨x,hx,rfl⟩:=yD.1 hx';refine .inr (.inr ⟨x,hx,?_⟩);unfold xM at h
 split at h
 ·rcases h with h|h|h
  ·exact .inl h
  ·exact .inr (.inl h)
  obtain⟨a,_,e⟩:=yD.1 h;refine .inr (.inr ?_);rw[yO]at e;cases e2:x.args[a]? with
  | none=>rw[e2]at e;simp at e
  | some w=>
   rw[e2]at e;have e:w=(true,r):=e;rw[←e];exact List.mem_of_getElem? e2
 exact h
theorem lastG_inj {p:Nat} {last a b:Int} (hp:(p:Int)<=last) (e:qN p last a=qN p last b):a=b:=by
 unfold qN at e
 split at e<;>split at e<;>(try split at e)<;>(try split at e)<;>omega
theorem Y6 {xs:List FunL} {k p j q:Nat} (hj:j<xs.length) (hj':j<(zC k p xs).length) (hne:k≠j) (h:tkF q xs[j]=false):tkF q (zC k p xs)[j]=false:=by
 cases e:tkF q (zC k p xs)[j] with
 | false=>rfl
 | true=>
  rw[tkF_iff,j5 hj',zQ hne]at e;rw[tkF_iff.2 e.of_del]at h;cases h
theorem Ji {xs:List FunL} {k p q q':Nat} (hk:k<xs.length) (hk':k<(zC k p xs).length) (hp:(p:Int)<xs[k].params) (hq:qN p (xs[k].params - 1) q=q') (h:tkF q xs[k]=false):tkF q' (zC k p xs)[k]=false:=by
 cases e:tkF q' (zC k p xs)[k] with
 | false=>rfl
 | true=>
  rw[tkF_iff,j5 hk',zZ rfl]at e;obtain⟨r,h1,h2⟩:=RdF.of_to (f:=xs[k]) (g:=qN p (xs[k].params - 1)) e.of_del;have:=lastG_inj bO (h1.trans hq.symm);rw[this]at h2;rw[tkF_iff.2 h2]at h;cases h
/-! ## confluence -/
inductive Stp:List FunL->List FunL->Prop
 | nil (xs:List FunL):Stp xs xs
 | cons {xs ys:List FunL} {k p:Nat} (hk:k<xs.length) (hp:(p:Int)<xs[k].params) (ht:tkF p xs[k]=false) (h:Stp (zC k p xs) ys):Stp xs ys
theorem Stp.trans {a b c:List FunL} (h:Stp a b) (g:Stp b c):Stp a c:=by
 induction h with
 | nil=>exact g
 | cons hk hp ht _ ih=>exact .cons hk hp ht (ih g)
theorem Stp.one {xs:List FunL} {k p:Nat} (hk:k<xs.length) (hp:(p:Int)<xs[k].params) (ht:tkF p xs[k]=false):Stp xs (zC k p xs):=.cons hk hp ht (.nil _)
theorem Dr.stp {t xs:List FunL} (h:Dr t xs):Stp t xs:=by
 induction h with
 | start=>exact .nil _
 | step _ hk hp ht _ ih=>exact ih.trans (.one hk hp ht)
theorem Stp.good {xs ys:List FunL} (h:Stp xs ys) (g:Good xs):Good ys:=by
 induction h with
 | nil=>exact g
 | cons hk hp _ _ ih=>exact ih (g.drop hk hp)
theorem not_taken {xs:List FunL} (h:¬ Taken xs):∃(k p:Nat),∃hk:k<xs.length,(p:Int)<xs[k].params/\tkF p xs[k]=false:=by
 refine xF fun hn=>h fun k hk p hp _=>?_;cases e:tkF p xs[k] with
 | true=>rfl
 | false=>exact absurd ⟨k,p,hk,hp,e⟩ hn
theorem Stp.norm:∀(n:Nat) (xs:List FunL),Z7 xs<=n->∃c,Stp xs c/\Taken c
 | n,xs,hn=>by
  by_cases h:Taken xs
  ·exact⟨xs,.nil _,h⟩
  obtain⟨k,p,hk,hp,ht⟩:=not_taken h;have hd:=jr hk hp
  match n with
  | 0=>omega
  | n+1=>
   obtain⟨c,h1,h2⟩:=Stp.norm n (zC k p xs) bO;exact⟨c,.cons hk hp ht h1,h2⟩
theorem Taken.ren {xs ys:List FunL} (h:Taken xs) (r:RenX xs ys):Taken ys:=fun k hk p hp _=>by
 have hk':k<xs.length:=by rw[r.1];exact hk
 have h1:=r.2 k hk' hk;rw[h1.par.1]at hp;rw[h1.tk hp];exact h k hk' p hp (.inl hk')
theorem Taken.no {xs:List FunL} (h:Taken xs) {k p:Nat} (hk:k<xs.length) (hp:(p:Int)<xs[k].params) (ht:tkF p xs[k]=false):False:=by
 rw[h k hk p hp (.inl hk)]at ht;cases ht
theorem ZU {k j:Int} (hne:k≠j) (p q:Nat) (f:FunL):kK k p (kK j q f)=kK j q (kK k p f):=by
 have hi:∀x,kd k p (kd j q x)=kd j q (kd k p x):=fun x=>by
  by_cases e1:x.op=20/\x.fn=j
  ·have e2:¬(x.op=20/\x.fn=k):=fun h=>hne (h.2.symm.trans e1.2);unfold kd;simp only[zZ e1,zQ e2]
  by_cases e2:x.op=20/\x.fn=k
  ·unfold kd;simp only[zQ e1,zZ e2]
  unfold kd;simp only[zQ e1,zQ e2]
 unfold kK;simp only[yy];congr 1;refine ya fun b _=>?_;simp only[Function.comp,yy];congr 1;exact ya fun x _=>hi x
theorem Xz (k:Int) (p q:Nat) (f:FunL):kK k p (vW q f)=vW q (kK k p f):=by
 have hi:∀(g:Int->Int) x,kd k p (toI g x)=toI g (kd k p x):=fun g x=>by
  by_cases e:x.op=20/\x.fn=k
  ·have e2:(toI g x).op=20/\(toI g x).fn=k:=e;unfold kd;rw[zZ e,zZ e2];unfold toI;simp only[k6]
  have e2:¬((toI g x).op=20/\(toI g x).fn=k):=e;unfold kd;rw[zQ e,zQ e2]
 unfold kK vW toF;simp only[yy];congr 1;refine ya fun b _=>?_;simp only[Function.comp,toB,yy];congr 1;exact ya fun x _=>hi _ x
theorem YM {k j:Nat} (hne:k≠j) (p q:Nat) (xs:List FunL):zC k p (zC j q xs)=zC j q (zC k p xs):=by
 refine yV (by simp only[qQ]) fun i h1 h2=>?_;have hi:i<xs.length:=by simpa only [qQ]using h1
 rw[j5 h1,j5 h2];have a1:∀k p (h:i<(zC k p xs).length),(zC k p xs)[i]=kK k p (if k=i then vW p xs[i]else xs[i]):=fun k p h=>j5 h;rw[a1,a1];have hne':(k:Int)≠j:=by omega
 by_cases e1:k=i
 ·have e2:¬ j=i:=by omega
  simp only[zZ e1,zQ e2];rw[←Xz,ZU hne']
 by_cases e2:j=i
 ·simp only[zQ e1,zZ e2];rw[ZU hne',←Xz]
 simp only[zQ e1,zQ e2];exact ZU hne' _ _ _
theorem Vh {α:Type}:∀(l:List α) (p q:Nat),p<q->(l.eraseIdx p).eraseIdx (q - 1)=(l.eraseIdx q).eraseIdx p
 | [],_,_,_=>by simp
 | a::l,0,q+1,_=>by simp
 | a::l,p+1,q+1,h=>by
  obtain⟨r,rfl⟩:∃r,q=r+1:=⟨q - 1,by omega⟩;have:=Vh l p (r+1) bO;simpa using this
theorem Y7 {xs:List FunL} (hg:Good xs) {k p q:Nat} (hk:k<xs.length) (hpq:p<q) (hq:(q:Int)<xs[k].params):RenX (zC k (q - 1) (zC k p xs)) (zC k p (zC k q xs)):=by
 obtain⟨n,hn⟩:∃n:Nat,xs[k].params=n:=⟨xs[k].params.toNat,by omega⟩;have lr:(List.range n).length=n:=List.length_range;have g1:(List.range n)[p]'bO=p:=by simp
 have g2:(List.range n)[q]'bO=q:=by simp
 have p1:=jd (K:=List.range n) (p:=p) bO [];have p2:=jd (K:=List.range n) (p:=q) bO [];rw[g1,List.append_nil]at p1;rw[g2,List.append_nil]at p2;have l1:((List.range n).eraseIdx p).length=n - 1:=by rw[List.length_eraseIdx_of_lt bO,lr]
 have l2:((List.range n).eraseIdx q).length=n - 1:=by rw[List.length_eraseIdx_of_lt bO,lr]
 have a1:=kv (k:=k) (xs:=xs) ((Perm.range n).of p1) (p:=q - 1) bO;have a2:=kv (k:=k) (xs:=xs) ((Perm.range n).of p2) (p:=p) bO;have b1:=(jd (K:=(List.range n).eraseIdx p) (p:=q - 1) bO [p]).trans p1;have b2:=(jd (K:=(List.range n).eraseIdx q) (p:=p) bO [q]).trans p2;rw[kw hg.call hk hn bO,kw hg.call hk hn bO,a1,a2];rw[Vh _ _ _ hpq]at b1 ⊢;exact(RenX.refl hg.par).pick hg hk hn ((Perm.range n).of b1) ((Perm.range n).of b2)
theorem Stp.conf:∀(n:Nat) {xs xs' a b:List FunL},Z7 xs<=n->Good xs->RenX xs xs'->Stp xs a->Taken a->Stp xs' b->Taken b->RenX a b
 | n,xs,xs',a,b,hn,hg,hr,h1,ha,h2,hb=>by
  cases h1 with
  | nil=>
   cases h2 with
   | nil=>exact hr
   | cons hk hp ht _=>exact((ha.ren hr).no hk hp ht).elim
  | @cons _ _ k p hk hp ht h1=>
   cases h2 with
   | nil=>
    have hx:=hb.ren hr.sym;exact(hx.no hk hp ht).elim
   | @cons _ _ j q hj' hq' ht' h2=>
    have hj:j<xs.length:=(by rw[hr.1];exact hj');have hR:=hr.2 j hj hj';have hq:(q:Int)<xs[j].params:=(by rw[←hR.par.1];exact hq');have hu:tkF q xs[j]=false:=(by rw[←hR.tk hq];exact ht');have d1:=jr hk hp;have d2:=jr hj hq;have r2:=hr.drop hg hj hq;have g1:=hg.drop hk hp;have g2:=hg.drop hj hq
    match n with
    | 0=>omega
    | n+1=>
     have join:∀{w w':List FunL},RenX w w'->Stp (zC k p xs) w->Stp (zC j q xs) w'->Z7 w<=n->RenX a b:=fun {w w'} hw s1 s2 hs=>by
      have gw:Good w:=s1.good g1;obtain⟨c,c1,c2⟩:=Stp.norm _ w (zK _);obtain⟨c',c1',c2'⟩:=Stp.norm _ w' (zK _);have e1:=Stp.conf n bO g1 (RenX.refl g1.par) h1 ha (s1.trans c1) c2;have e2:=Stp.conf n hs gw hw c1 c2 c1' c2';have e3:=Stp.conf n bO g2 r2 (s2.trans c1') c2' h2 hb;exact e1.trans (e2.trans e3)
     by_cases ekj:k=j
     ·subst ekj
      by_cases epq:p=q
      ·subst epq;exact Stp.conf n bO g1 r2 h1 ha h2 hb
      have hk1:k<(zC k p xs).length:=(by rw[qQ];exact hk);have hk2:k<(zC k q xs).length:=(by rw[qQ];exact hk);have n1:=jk hk1;have n2:=jk hk2;rw[zZ rfl]at n1 n2;rcases yq p q with hlt|hge
      ·have t1:=Ji hk hk1 hp (q':=q - 1) (by unfold qN;rw[zQ bO,zZ bO];omega) hu;have t2:=Ji hk hk2 hq (q':=p) (by unfold qN;rw[zQ bO,zQ bO]) ht;refine join (Y7 hg hk hlt hq) (.one hk1 bO t1) (.one hk2 bO t2) ?_;have:=jr hk1 (p:=q - 1) bO;omega
      have hlt:q<p:=(by omega);have t1:=Ji hk hk1 hp (q':=q) (by unfold qN;rw[zQ bO,zQ bO]) hu;have t2:=Ji hk hk2 hq (q':=p - 1) (by unfold qN;rw[zQ bO,zZ bO];omega) ht;refine join (Y7 hg hk hlt hp).sym (.one hk1 bO t1) (.one hk2 bO t2) ?_;have:=jr hk1 (p:=q) bO;omega
     have hj1:j<(zC k p xs).length:=(by rw[qQ];exact hj);have hk2:k<(zC j q xs).length:=(by rw[qQ];exact hk);have n1:=jk hj1;have n2:=jk hk2;rw[zQ ekj]at n1;rw[zQ (fun e=>ekj e.symm)]at n2;have t1:=Y6 hj hj1 ekj hu;have t2:=Y6 hk hk2 (fun e=>ekj e.symm) ht;have ec:=YM (fun e=>ekj e.symm) q p xs;have s1:Stp (zC k p xs) (zC j q (zC k p xs)):=.one hj1 bO t1;refine join (RenX.refl (s1.good g1).par) s1 (by rw[ec];exact .one hk2 bO t2) ?_;have:=jr hj1 (p:=q) bO;omega
/-! ## parameters that nobody takes -/
def K6 (f:FunL):List Nat:=(List.range f.params.toNat).filter fun p:Nat=>tkF p f
def Jj (f:FunL):List Nat:=(List.range f.params.toNat).filter fun p:Nat=>!tkF p f
theorem Z0 {α:Type} (q:α->Bool):∀l:List α,List.Perm (l.filter q++l.filter fun a=>!q a) l
 | []=>List.Perm.nil
 | a::l=>by
  have ih:=Z0 q l;cases e:q a
  ·simp only[List.filter_cons,e,Bool.not_false,if_true,Bool.false_eq_true,if_false];exact List.perm_middle.trans (ih.cons a)
  simp only[List.filter_cons,e,Bool.not_true,if_true,Bool.false_eq_true,if_false];exact ih.cons a
theorem Qf (n:Nat) (q:Nat->Bool):Perm ((List.range n).filter q++(List.range n).filter fun a=>!q a) n:=(Perm.range n).of (Z0 q _)
theorem Vi {l m:List Nat} {a:Nat}:(l++a::m).eraseIdx l.length=l++m:=by
 rw[List.eraseIdx_append_of_length_le (zK _),Nat.sub_self];rfl
theorem XA {y:List FunL} (hg:Good y) {k n:Nat} (hk:k<y.length) (hn:y[k].params=n):∀d,d<=n->∃T,Perm ((List.range (n - d)++(List.range' (n - d) d).filter fun p:Nat=>tkF p y[k])++T) n/\Stp y (zS k (List.range (n - d)++(List.range' (n - d) d).filter fun p:Nat=>tkF p y[k]) T y)
 | 0,_=>by
  refine⟨[],?_,?_⟩
  ·simpa using Perm.range n
  rw[Nat.sub_zero,List.range'_zero,List.filter_nil,List.append_nil,Jh hg.call hk hn];exact .nil _
 | d+1,hd=>by
  obtain⟨T,h1,h2⟩:=XA hg hk hn d bO;obtain⟨j,hj⟩:∃j,n - (d+1)=j:=⟨_,rfl⟩;have e0:n - d=j+1:=by omega
  rw[e0]at h1 h2;rw[hj];have er:List.range' j (d+1)=j::List.range' (j+1) d:=List.range'_succ;rw[er];obtain⟨S,hS⟩:=nZ ((List.range' (j+1) d).filter fun p:Nat=>tkF p y[k]);rw[←hS]at h1 h2;have eK:List.range (j+1)++S=List.range j++j::S:=by rw[yt,yF];rfl
  rw[eK]at h1 h2;cases e:tkF j y[k] with
  | true=>
   rw[List.filter_cons,zZ e,←hS];exact⟨T,h1,h2⟩
  | false=>
   rw[List.filter_cons,zQ (by rw[e];decide),←hS];have hp:j<(List.range j++j::S).length:=by simp
   have hjl:(List.range j++j::S)[j]'hp=j:=by
    rw[List.getElem_append_right bV];simp
   have hm:(List.range j++j::S).eraseIdx j=List.range j++S:=by
    have:=Vi (l:=List.range j) (m:=S) (a:=j)
    rwa [List.length_range]at this
   have h3:=kv (k:=k) (xs:=y) h1 hp;have h4:=h1.of (jd hp T);rw[hm,hjl]at h3 h4;refine⟨j::T,h4,h2.trans ?_⟩;rw[←h3];have hz:k<(zS k (List.range j++j::S) T y).length:=(by rwa [qP]);refine .one hz ?_ ?_
   ·rw[xP hz hk,zZ rfl];show(j:Int)<(((List.range j++j::S).length:Nat):Int);omega
   cases e2:tkF j (zS k (List.range j++j::S) T y)[k] with
   | false=>rfl
   | true=>
    rw[tkF_iff,xP hz hk,zZ rfl]at e2;obtain⟨r,r1,r2⟩:=RdF.of_to (f:=y[k]) (g:=gL ((List.range j++j::S)++T)) e2.of_pick;have r3:=h1.lr r;rw[r1]at r3;have hp2:j<((List.range j++j::S)++T).length:=(by simp);rw[hL_at hp2,List.getElem_append_left hp,hjl]at r3;rw[←r3]at r2;rw[tkF_iff.2 r2]at e;cases e
theorem kept_ren {f f':FunL} (h:RenF f f'):K6 f'=K6 f/\Jj f'=Jj f:=by
 have hp:=h.par;have e:∀p∈List.range f.params.toNat,tkF p f'=tkF p f:=fun p hp'=>h.tk (by have:=yR.1 hp';omega);unfold K6 Jj;rw[hp.1];exact⟨List.filter_congr fun p hp'=>e p hp',List.filter_congr fun p hp'=>by rw[e p hp']⟩
theorem ref_one {y r:List FunL} (hr:RenX y r) (hg:Good y) {k:Nat} (hk:k<r.length):∃y',Stp y y'/\RenX y' (zS k (K6 r[k]) (Jj r[k]) r):=by
 have hk':k<y.length:=by rw[hr.1];exact hk
 have hR:=hr.2 k hk' hk;obtain⟨e1,e2⟩:=kept_ren hR;have ham:=hR.par;have hn:y[k].params=(y[k].params.toNat:Nat):=by omega
 obtain⟨T,h1,h2⟩:=XA hg hk' hn _ (zK _)
 have eK:(List.range (y[k].params.toNat - y[k].params.toNat)++(List.range' (y[k].params.toNat - y[k].params.toNat) y[k].params.toNat).filter fun p:Nat=>tkF p y[k])=K6 y[k]:=by
  rw[Nat.sub_self,List.range_zero,List.nil_append,←List.range_eq_range'];rfl
 rw[eK]at h1 h2;refine⟨_,h2,?_⟩;rw[e1,e2];exact hr.pick hg hk' hn h1 (Qf _ _)
theorem YN {r:List FunL} (h:∀k (hk:k<r.length),Jj r[k]=[]):Taken r:=fun k hk p hp _=>by
 have h1:=h k hk;unfold Jj at h1;have:=List.filter_eq_nil_iff.1 h1 p (yR.2 bO);simpa using this
/-! ## parameters that are always one number -/
theorem alwL_cv {k:Int} {p q:Nat} {xs ys:List FunL} (e:cvX k p ys=cvX k q xs):jy k p ys=jy k q xs:=by
 cases g:jy k q xs with
 | none=>exact alwL_same e g
 | some m=>
  have:=alwL_iff.1 g;rw[←e]at this;exact alwL_iff.2 this
def jK (xs:List FunL) (k:Nat):Nat:=((xs[k]?.map fun f:FunL=>f.params).getD 0).toNat
theorem Qg {xs:List FunL} {k:Nat} (hk:k<xs.length):jK xs k=xs[k].params.toNat:=by
 unfold jK;rw[zj hk];rfl
def j9 (k:Nat) (xs:List FunL) (m:Nat):List Nat:=(List.range m).filter fun p=>(jy k p xs).isNone
def j7 (k:Nat) (xs:List FunL) (m:Nat):List Nat:=(List.range m).filter fun p=>!(jy k p xs).isNone
def K7 (k:Nat) (xs:List FunL) (o:Nat):Int:=(jy k o xs).getD 0
def ZV (k:Nat) (K T D:List Nat) (num:Nat->Int) (xs:List FunL):List FunL:=(zS k K T xs).modify k (zF (D.map fun o:Nat=>j8 (gL (K++T) o) (num o)))
def refA (k:Nat) (xs:List FunL):List FunL:=ZV k (j9 k xs (jK xs k)) (j7 k xs (jK xs k)) (j7 k xs (jK xs k)) (K7 k xs) xs
def prgA (k:Nat) (xs:List FunL):List FunL:=ZV k (j9 k xs (jK xs k)) (j7 k xs (jK xs k)).reverse (j7 k xs (jK xs k)) (K7 k xs) xs
def K8 (D:List Nat) (num:Nat->Int):List InsL:=D.map fun o:Nat=>j8 (o:Int) (num o)
theorem Y8 {g:Int->Int} (hd:List InsL) (f:FunL):toF g (zF hd f)=zF (hd.map (toI g)) (toF g f):=by
 have:(f.blocks.modify 0 fun b=>({ b with list:=hd++b.list }:BlkL)).map (toB g)=(f.blocks.map (toB g)).modify 0 fun b=>{ b with list:=hd.map (toI g)++b.list }:=by
  rcases f.blocks with _|⟨b,bs⟩
  ·rfl
  simp[toB]
 unfold toF zF;simp only[this]
theorem Y9 {g:Int->Int} {o:Nat} (n:Int):toI g (j8 (o:Int) n)=j8 (g o) n:=by
 unfold toI j8;have h1:(0:Int)<=(o:Int):=by omega
 simp[toW]
theorem YO {k:Int} {K:List Nat} {hd:List InsL} (hh:∀x∈hd,x.op≠20) (f:FunL):pickC k K (zF hd f)=zF hd (pickC k K f):=by
 have e:hd.map (xM k K)=hd:=(ya (g:=id) fun x hx=>by
  unfold xM;rw[zQ fun h=>hh x hx h.1]
  rfl).trans bV
 have:((f.blocks.modify 0 fun b=>({ b with list:=hd++b.list }:BlkL)).map fun b=>({ b with list:=b.list.map (xM k K) }:BlkL))=(f.blocks.map fun b=>({ b with list:=b.list.map (xM k K) }:BlkL)).modify 0 fun b=>{ b with list:=hd++b.list }:=by
  rcases f.blocks with _|⟨b,bs⟩
  ·rfl
  simp[e]
 unfold pickC zF;simp only[this]
theorem kW (D:List Nat) (g:Nat->Int) (num:Nat->Int):∀x∈D.map fun o:Nat=>j8 (g o) (num o),x.op≠20:=fun x hx=>by
 obtain⟨o,_,rfl⟩:=yD.1 hx;show(1:Int)≠20;omega
theorem turn_at {k:Nat} {K T D:List Nat} {num:Nat->Int} {xs:List FunL} {i:Nat} (h:i<(ZV k K T D num xs).length) (h2:i<(zS k K T xs).length):(ZV k K T D num xs)[i]=if k=i then zF (D.map fun o:Nat=>j8 (gL (K++T) o) (num o)) (zS k K T xs)[i] else(zS k K T xs)[i]:=by
 simp[ZV,List.getElem_modify]
theorem QJ (k:Nat) (K T D:List Nat) (num:Nat->Int) (xs:List FunL):ZV k K T D num xs=zS k K T (xs.modify k (zF (K8 D num))):=by
 refine yV (by simp[ZV,qP]) fun i h1 h2=>?_;have hi:i<xs.length:=by simpa[qP]using h2
 have hi2:i<(zS k K T xs).length:=by rwa [qP]
 rw[xP h2 (by simpa using hi)];rw[turn_at h1 hi2,xP hi2 hi,List.getElem_modify]
 by_cases e:k=i
 ·simp only[zZ e];rw[←YO (kW D (fun o=>gL (K++T) o) num)];congr 1;unfold pickF;rw[Y8]
  have:(K8 D num).map (toI (gL (K++T)))=D.map fun o:Nat=>j8 (gL (K++T) o) (num o):=by
   unfold K8;rw[yy];exact ya fun o _=>Y9 _
  rw[this];rfl
 simp only[zQ e]
theorem RenX.head {xs xs':List FunL} (h:RenX xs xs') {k:Nat} {D:List Nat} {num:Nat->Int} (hD:∀o∈D,∀(hk:k<xs.length),(o:Int)<xs[k].params):RenX (xs.modify k (zF (K8 D num))) (xs'.modify k (zF (K8 D num))):=by
 refine⟨by simp[h.1],fun i h1 h2=>?_⟩;have i1:i<xs.length:=by simpa using h1
 have i2:i<xs'.length:=by simpa using h2
 rw[List.getElem_modify,List.getElem_modify]
 by_cases e:k=i
 ·subst e;rw[zZ rfl,zZ rfl];obtain⟨g,g',hr,e⟩:=h.2 k i1 i2;refine⟨g,g',hr,?_⟩;rw[e,Y8];congr 1;unfold K8;rw[yy];refine(ya fun o ho=>?_).symm;show toI g (j8 (o:Int) (num o))=_;rw[Y9,hr.lo _ (hD o ho i1)]
 rw[zQ e,zQ e];exact h.2 i i1 i2
theorem Good.head {xs:List FunL} (h:Good xs) (k:Nat) {hd:List InsL} (hh:∀x∈hd,x.op≠20):Good (xs.modify k (zF hd)):=by
 refine⟨h.call.head hh,fun f hf=>?_⟩;obtain⟨i,hi,rfl⟩:=yp.1 hf;have hi2:i<xs.length:=by simpa using hi
 have:=h.reg _ (zP hi2);rw[List.getElem_modify]
 split
 ·exact this
 exact this
theorem gone_lt {k m:Nat} {xs:List FunL} {o:Nat} (h:o∈j7 k xs m):o<m:=by
 unfold j7 at h;exact yR.1 (yu.1 h).1
theorem K9 (k m:Nat) (xs:List FunL):Perm (j9 k xs m++j7 k xs m) m:=Qf _ _
theorem permB (k m:Nat) (xs:List FunL):Perm (j9 k xs m++(j7 k xs m).reverse) m:=(K9 k m xs).of ((List.reverse_perm _).append_left _)
theorem RenX.turn {xs xs':List FunL} (h:RenX xs xs') (hg:Good xs) {k:Nat} (hk:k<xs.length):RenX (prgA k xs) (refA k xs'):=by
 have hk':k<xs'.length:=by rw[←h.1];exact hk
 have hp:=(h.2 k hk hk').par;have e0:jK xs' k=jK xs k:=by rw[Qg hk,Qg hk',hp.1]
 have e1:∀p,jy k p xs'=jy k p xs:=fun p=>alwL_cv (h.cv k p);have e2:j9 k xs'=j9 k xs:=by funext m;unfold j9;simp only[e1]
 have e3:j7 k xs'=j7 k xs:=by funext m;unfold j7;simp only[e1]
 have e4:K7 k xs'=K7 k xs:=by funext m;unfold K7;simp only[e1]
 unfold prgA refA;rw[e0,e2,e3,e4,QJ,QJ];have hn:(jK xs k:Int)=xs[k].params:=by rw[Qg hk];omega
 have hc:∀x∈K8 (j7 k xs (jK xs k)) (K7 k xs),x.op≠20:=kW _ (fun o=>(o:Int)) _;refine(h.head fun o ho _=>?_).pick (hg.head k hc) (by simpa using hk) (n:=jK xs k) ?_ (permB _ _ _) (K9 _ _ _)
 ·have:=gone_lt ho;omega
 rw[List.getElem_modify,zZ rfl];exact hn.symm
inductive TurnsP (t:List FunL):Nat->List FunL->Prop
 | start:TurnsP t 0 t
 | step {k:Nat} {xs:List FunL} (h:TurnsP t k xs) (hk:k<xs.length):TurnsP t (k+1) (prgA k xs)
inductive TurnsR (t:List FunL):Nat->List FunL->Prop
 | start:TurnsR t 0 t
 | step {k:Nat} {xs:List FunL} (h:TurnsR t k xs) (hk:k<xs.length):TurnsR t (k+1) (refA k xs)
end Go.Proofs.YtgjjhadbjmcnpaaGreatDoor
namespace Go.Proofs.YtgjjhadbjmcnpaaGreatDoor
open Go.RowKit

structure OutC (L O g c:Nat) (p1:Option Addr) (c1:Nat) (gl:List GloL) (xs:List FunL) (S1 S2:Blks) (W:World):Prop where
 out:W.heap[O]?=some (.cells #[.slice p1 gl.length c1,.slice (some (J g 0)) xs.length c] 25 (0,0))
 glo:SlQ 61 3 48 GloO W (.slice p1 gl.length c1) gl S1
 fn:SlO 38 4 FunO W (.slice (some (J g 0)) xs.length c) xs S2
 ap:Apart S1 S2
 l1:∀k,S1 k->L<=k/\k≠O
 l2:∀k,S2 k->L<=k/\k≠O
section
variable {L O g c c1 : Nat} {p1 : Option Addr} {gl : List GloL} {xs : List FunL} {S1 S2 : Blks} {W W' : World}
theorem OutC.lt (h:OutC L O g c p1 c1 gl xs S1 S2 W):O<W.heap.size:=qd h.out
theorem OutC.put (h:OutC L O g c p1 c1 gl xs S1 S2 W) {xs':List FunL} {S2':Blks} (hL:L<=W.heap.size) (hl:xs'.length=xs.length) (hk:Kept S2 W W') (hs:SlO 38 4 FunO W' (.slice (some (J g 0)) xs.length c) xs' S2') (h2:∀b,S2' b->S2 b\/W.heap.size<=b):OutC L O g c p1 c1 gl xs' S1 S2' W':=by
 have zO:=h.lt;refine⟨?_,⟨h.glo.sl.loc xl (fun b hb=>hk.block b (h.glo.sl.inb b hb) (h.ap b hb)) hk.size,h.glo.bd⟩,by rw[hl];exact hs,fun b x y=>?_,h.l1,fun b hb=>?_⟩
 ·rw[hl];exact(hk.block O zO fun hu=>(h.l2 O hu).2 rfl).trans h.out
 ·rcases h2 b y with z|z
  ·exact h.ap b x z
  have:=h.glo.sl.inb b x;omega
 rcases h2 b hb with z|z
 ·exact h.l2 b z
 omega
theorem OutC.below (h:OutC L O g c p1 c1 gl xs S1 S2 W) (hL:L<=W.heap.size) (hb:Below W.heap.size W W'):OutC L O g c p1 c1 gl xs S1 S2 W':=
 h.put hL rfl (Kept.of_below hb) (h.fn.below qK hb) fun _ hb=>.inl hb
theorem OutC.cO (h:OutC L O g c p1 c1 gl xs S1 S2 W):W.cell? (J O 0)=some (.slice p1 gl.length c1)/\W.cell? (J O 1)=some (.slice (some (J g 0)) xs.length c):=⟨(blk h.out).1 0,(blk h.out).1 1⟩
end
theorem kx {W:World} {g c k:Nat} {xs:List FunL} {S2:Blks} (h:SlO 38 4 FunO W (.slice (some (J g 0)) xs.length c) xs S2) (hk:k<xs.length) :
  ∃qb cb TB,RowPut W W 38 g (k*4) 4 [.string xs[k].name,Z xs[k].params,Z xs[k].regs,.slice qb xs[k].blocks.length cb]/\SlQ 49 6 96 BlkO W (.slice qb xs[k].blocks.length cb) xs[k].blocks TB/\(∀i,TB i->S2 i)/\¬ TB g/\S2 g/\I64 xs[k].params/\I64 xs[k].regs/\
   ∀(W':World) (f':FunL),RowPut W W' 38 g (k*4) 4 [.string xs[k].name,Z f'.params,Z xs[k].regs,.slice qb xs[k].blocks.length cb]->W.heap.size<=W'.heap.size->(∀i,S2 i->¬ TB i->i≠g->W'.heap[i]?=W.heap[i]?)->f'.name=xs[k].name->f'.regs=xs[k].regs->I64 f'.params->
    SlQ 49 6 96 BlkO W' (.slice qb xs[k].blocks.length cb) f'.blocks TB->SlO 38 4 FunO W' (.slice (some (J g 0)) xs.length c) (xs.set k f') S2:=by
 obtain⟨g',c',cs',T',hv',hhg,hdW,hcl',hF',hdB,ha9,hbZ,hje,⟨cur,hay⟩,hput⟩:=h.focus qK bO hk
 obtain rfl:g=g':=by
  injection hv' with a;injection a with a;injection a
 obtain⟨v,hcs,hnm,i1,i2,hB⟩:=hF';subst hcs;obtain⟨qb,cb,rfl,_,_⟩:=hB.sl.val;refine⟨qb,cb,T',RowPut.same hay rfl hbZ,hB,ha9,hdB,hdW,i1,i2,fun W' f' hp hz hkk e1 e2 hi hB'=>?_⟩
 have h1:=hput W' _ f' T' hp rfl (fun u hu=>by
   simp only[yC,yG,yl]at hu
   rcases hu with rfl|rfl|rfl|rfl<;>rfl) hz hkk ⟨_,by rw[e1,e2],by rw[e1];exact hnm,hi,by rw[e2];exact i2,hB'⟩ (fun b hb=>⟨.inl hb,hB'.sl.inb b hb⟩)
 exact h1.grow (fun b hb=>hb.elim id (ha9 b)) (fun b hb=>by have:=h.inb b hb;omega)
theorem turn_eq {k n:Nat} {st:Nat->Bool} {xs:List FunL} (hk:k<xs.length) :
  ((xs.set k (toF (gL ((List.range n).filter st++(List.range n).filter fun a=>!st a)) xs[k])).map (pickC k ((List.range n).filter st))).set k { pickC k ((List.range n).filter st) (toF (gL ((List.range n).filter st++(List.range n).filter fun a=>!st a)) xs[k])with params:=(((List.range n).filter st).length:Nat) }=zS k ((List.range n).filter st) ((List.range n).filter fun a=>!st a) xs:=by
 refine yV (by simp[qP]) fun i h1 h2=>?_;have hi:i<xs.length:=by rwa [qP]at h2
 rw[xP h2 hi]
 by_cases e:k=i
 ·subst e;rw[List.getElem_set_self,zZ rfl];rfl
 rw[List.getElem_set_ne e,xE,List.getElem_set_ne e,zQ e]
theorem regB_of {u:UniL} {f:FunL} {m:Nat} (hm:f.regs=m) (h:bodyE u f=0):∀b∈f.blocks,RegB m b:=fun b hb=>by
 obtain⟨i,hi,rfl⟩:=yp.1 hb;have h1:=endC_iff.1 (JR h hi);have h2:=(Qv h hi).1;have h3:=(Qv h hi).2;refine⟨fun e=>?_,fun p hp=>?_,fun x hx=>?_⟩
 ·have:=h1.on e;omega
 ·have hc:=phiC_iff.1 (h2 p hp);have hd:=hc.dst;refine⟨by omega,fun v hv e=>?_⟩;have:=hc.src v hv e;omega
 have hc:=insC_iff.1 (h3 x hx)
 have hdst:x.dst<f.regs\/x.dst = -1:=by
  by_cases e:shD x.op=true/\¬(x.op=20/\x.dst = -1)
  ·exact .inl (hc.d1 e.1 e.2).2
  by_cases e2:shD x.op=true
  ·have e3:x.op=20/\x.dst = -1:=xF fun g=>e ⟨e2,g⟩;exact .inr e3.2
  exact .inr (hc.d0 (by simpa using e2))
 refine⟨by omega,fun e=>?_,fun e=>?_,fun v hv e=>?_⟩
 ·have:=hc.a e;omega
 ·have:=hc.b e;omega
 by_cases e2:x.op=20
 ·have:=(hc.call e2).2.2 v hv e;omega
 have:=(hc.c0 e2).2;rw[List.eq_nil_of_length_eq_zero this]at hv;cases hv
end Go.Proofs.YtgjjhadbjmcnpaaGreatDoor
namespace Go.Proofs.YtgjjhadbjmcnpaaGreatDoor

theorem Good.pick {xs:List FunL} (h:Good xs) {k n:Nat} (hk:k<xs.length) (hn:xs[k].params=n) {K T:List Nat} (hK:K.length<=n):Good (zS k K T xs):=by
 have hat:∀f'∈zS k K T xs,∃i,∃hi:i<xs.length,f'=pickC k K (if k=i then pickF K T xs[i]else xs[i]):=fun f' hf=>by
  obtain⟨i,hi,rfl⟩:=yp.1 hf;have hi':i<xs.length:=by rwa [qP]at hi
  exact⟨i,hi',xP hi hi'⟩
 have ham:∀i (hi:i<xs.length) (hi':i<(zS k K T xs).length),(zS k K T xs)[i].params=if k=i then(K.length:Int)else xs[i].params:=fun i hi hi'=>by
  rw[xP hi' hi];show(if k=i then pickF K T xs[i]else xs[i]).params=_
  split<;>rfl
 have h6:=h.call.par _ (zP hk);have hr:=h.reg _ (zP hk);refine⟨⟨fun f hf=>?_,fun f hf=>?_,fun f hf b hb x hx ho j hj=>?_⟩,fun f hf=>?_⟩
 ·obtain⟨i,hi,rfl⟩:=hat f hf;have:=h.call.blk _ (zP hi);show 0<((if k=i then pickF K T xs[i]else xs[i]).blocks.map _).length;rw[yT]
  split
  ·show 0<(toF _ _).blocks.length;rw[vh];exact this
  exact this
 ·obtain⟨i,hi,rfl⟩:=yp.1 hf;have hi':i<xs.length:=by rwa [qP]at hi
  rw[ham i hi' hi];have:=h.call.par _ (zP hi')
  split<;>omega
 ·obtain⟨i,hi,rfl⟩:=hat f hf;obtain⟨b1,hb1,rfl⟩:=yD.1 hb;obtain⟨x1,hx1,rfl⟩:=yD.1 hx
  have key:∃x0:InsL,(∃b0∈xs[i].blocks,x0∈b0.list)/\x0.op=x1.op/\x0.fn=x1.fn/\x0.args.length=x1.args.length:=by
   by_cases e:k=i
   ·rw[zZ e]at hb1;obtain⟨b0,hb0,rfl⟩:=yD.1 hb1;obtain⟨x0,hx0,rfl⟩:=yD.1 hx1;exact⟨x0,⟨b0,hb0,hx0⟩,rfl,rfl,by simp[toI]⟩
   rw[zQ e]at hb1;exact⟨x1,⟨b1,hb1,hx1⟩,rfl,rfl,rfl⟩
  obtain⟨x0,⟨b0,hb0,hx0⟩,e1,e2,e3⟩:=key
  have ho':x1.op=20:=by
   unfold xM at ho
   split at ho<;>exact ho
  have hf':x1.fn=j:=by
   unfold xM at hj
   split at hj<;>exact hj
  obtain⟨hj2,hl⟩:=h.call.call _ (zP hi) b0 hb0 x0 hx0 (by rw[e1,ho']) j (by rw[e2,hf']);have hj3:j<(zS k K T xs).length:=by rwa [qP]
  refine⟨hj3,?_⟩;rw[ham j hj2 hj3];unfold xM
  by_cases ekj:k=j
  ·subst ekj;rw[zZ ⟨ho',hf'⟩,zZ rfl];show(((K.map _).length:Nat):Int)=_;rw[yT]
  rw[zQ (fun h=>ekj (by have:=h.2;omega)),zQ ekj,←e3];exact hl
 obtain⟨i,hi,rfl⟩:=yp.1 hf;have hi':i<xs.length:=by rwa [qP]at hi
 rw[ham i hi' hi];have h1:=h.reg _ (zP hi')
 have h2:(zS k K T xs)[i].regs=xs[i].regs:=by
  rw[xP hi hi'];show(if k=i then pickF K T xs[i]else xs[i]).regs=_
  split<;>rfl
 rw[h2]
 split
 ·next e=>subst e;omega
 exact h1
theorem Good.turn {xs:List FunL} (h:Good xs) {k:Nat} (hk:k<xs.length) {T D:List Nat} {num:Nat->Int}:Good (ZV k (j9 k xs (jK xs k)) T D num xs):=by
 rw[QJ]
 have hl:(j9 k xs (jK xs k)).length<=jK xs k:=by
  have:=(K9 k (jK xs k) xs).len;rw[yN]at this;omega
 have hp:=h.par _ (zP hk);refine(h.head k (kW D (fun o=>(o:Int)) num)).pick (n:=jK xs k) (by simpa using hk) ?_ hl;rw[List.getElem_modify,zZ rfl,Qg hk];show xs[k].params=_;omega
theorem Turns.ren {t t':List FunL} (ht:RenX t t') (hg:Good t) {n:Nat} {xs xs':List FunL} (h:TurnsP t n xs) (h':TurnsR t' n xs'):RenX xs xs'/\Good xs:=by
 induction h generalizing xs' with
 | start=>cases h' with|start=>exact⟨ht,hg⟩
 | step h hk ih=>
  cases h' with
  | step h' hk'=>
   obtain⟨a,b⟩:=ih h';exact⟨a.turn b hk,b.turn hk⟩
theorem cv_pick {k:Nat} {p:Nat} {K T:List Nat} {xs:List FunL} (hp:p<K.length):cvX k p (zS k K T xs)=cvX k (K[p]) xs:=cvX_at (qP _ _ _ _) fun i h1 h2=>by
 rw[xP h2 h1]
 have hi:∀x,cvI k p (xM k K x)=cvI k (K[p]) x:=fun x=>by
  unfold xM
  by_cases e:x.op=20/\x.fn=(k:Int)
  ·rw[zZ e];unfold cvI;rw[zZ e,zZ e]
   have:(K.map fun a=>x.args.getD a (false,0)).getD p (false,0)=x.args.getD K[p] (false,0):=by
    rw[yO,List.getElem?_map,zj hp];rfl
   simp only[this]
  rw[zQ e];unfold cvI;rw[zQ e,zQ e]
 have hc:∀f,cvF k p (pickC k K f)=cvF k (K[p]) f:=fun f=>cvF_map (fun b=>{ b with list:=b.list.map (xM k K) }) rfl fun b _=>K4 _ _ fun x _=>hi x;rw[hc]
 split
 ·exact cvF_to _ _ _ _
 rfl
theorem Al.good {t xs:List FunL} {k p:Nat} {hd:List InsL} (h:Al t k p xs hd) (hg:Good t):Good xs:=by
 induction h with
 | start=>exact hg
 | skip _ _ _ _ ih=>exact ih
 | drop _ hk hp _ ih=>exact ih.drop hk hp
 | next h _ _ ih=>exact ih.head _ h.noCall
structure TurnAt (k m:Nat) (ys zs:List FunL) (p:Nat) (hd:List InsL):Prop where
 lt:k<ys.length
 le:m<=jK ys k
 zs:zs=zS k (j9 k ys m++List.range' m (jK ys k - m)) (j7 k ys m).reverse ys
 p:p=(j9 k ys m).length
 hd:hd=(j7 k ys m).mapIdx fun i o=>j8 ((jK ys k:Int) - 1 - i) (K7 k ys o)
theorem permM {k m n:Nat} {ys:List FunL} (h:m<=n):Perm ((j9 k ys m++List.range' m (n - m))++(j7 k ys m).reverse) n:=by
 refine(Perm.range n).of ?_;have h1:List.Perm (j9 k ys m++(j7 k ys m).reverse) (List.range m):=((List.reverse_perm _).append_left _).trans (Z0 _ _)
 have h2:List.range n=List.range m++List.range' m (n - m):=by
  rw[List.range_eq_range',List.range_eq_range'];have:=List.range'_append_1 (s:=0) (m:=m) (n:=n - m);rw[yx]at this;rw[this];congr 1;omega
 rw[h2,yF];refine(List.perm_append_comm.append_left _).trans ?_;rw[←yF];exact h1.append_right _
theorem kept_next {k m:Nat} {ys:List FunL}:(jy k m ys=none->j9 k ys (m+1)=j9 k ys m++[m]/\j7 k ys (m+1)=j7 k ys m)/\(∀{v},jy k m ys=some v->j9 k ys (m+1)=j9 k ys m/\j7 k ys (m+1)=j7 k ys m++[m]):=by
 unfold j9 j7;rw[yt,List.filter_append,List.filter_append];refine⟨fun h=>?_,fun {v} h=>?_⟩<;>simp[h]
theorem Al.turns {t zs:List FunL} {k p:Nat} {hd:List InsL} (h:Al t k p zs hd) (hg:Good t):∃ys,TurnsP t k ys/\zs.length=ys.length/\Good ys/\((∃m,TurnAt k m ys zs p hd)\/(ys.length<=k/\zs=ys/\p=0/\hd=[])):=by
 have fresh:∀(ys:List FunL) (k:Nat),Good ys->(∃m,TurnAt k m ys ys 0 [])\/(ys.length<=k/\ys=ys/\0=0/\([]:List InsL)=[]):=fun ys k hg=>by
  rcases yq k ys.length with hk|hk
  ·have hp:=hg.par _ (zP hk);refine .inl ⟨0,hk,Nat.zero_le _,?_,rfl,rfl⟩;show ys=zS k ([]++List.range' 0 (jK ys k - 0)) [] ys;rw[List.nil_append,Nat.sub_zero,←List.range_eq_range',Jh hg.call hk (by rw[Qg hk];omega)]
  exact .inr ⟨hk,rfl,rfl,rfl⟩
 have split:∀{k m p:Nat} {ys zs:List FunL} {hd:List InsL},TurnAt k m ys zs p hd->∀(hk:k<zs.length),zs[k].params=((j9 k ys m).length+(jK ys k - m):Nat):=fun {k m p ys zs hd} a hk=>by
  have e:=a.zs;subst e;rw[xP hk a.lt,zZ rfl];show(((j9 k ys m++List.range' m (jK ys k - m)).length:Nat):Int)=_;rw[yN,List.length_range']
 have mid:∀{k m p:Nat} {ys zs:List FunL} {hd:List InsL},TurnAt k m ys zs p hd->∀(hk:k<zs.length),(p:Int)<zs[k].params->m<jK ys k/\List.range' m (jK ys k - m)=m::List.range' (m+1) (jK ys k - (m+1))/\jy k p zs=jy k m ys:=fun {k m p ys zs hd} a hk hp=>by
  have h1:=split a hk;have h2:=a.p;have hm:m<jK ys k:=by omega
  have hr:List.range' m (jK ys k - m)=m::List.range' (m+1) (jK ys k - (m+1)):=by
   rw[show jK ys k - m=(jK ys k - (m+1))+1 by omega];exact List.range'_succ
  refine⟨hm,hr,?_⟩;have e:=a.zs;rw[hr]at e;have hlt:p<(j9 k ys m++m::List.range' (m+1) (jK ys k - (m+1))).length:=by rw[yN,yi];omega
  have hKp:(j9 k ys m++m::List.range' (m+1) (jK ys k - (m+1)))[p]'hlt=m:=by
   rw[List.getElem_append_right bO];simp[h2]
  have h3:=cv_pick (k:=k) (T:=(j7 k ys m).reverse) (xs:=ys) hlt;rw[hKp,←e]at h3;exact alwL_cv h3
 induction h with
 | start=>exact⟨t,.start,rfl,hg,fresh t 0 hg⟩
 | @skip k p zs hd _ hk hp ha ih=>
  obtain⟨ys,h1,h2,h3,h4⟩:=ih;refine⟨ys,h1,h2,h3,?_⟩;rcases h4 with⟨m,a⟩|⟨h4,_⟩
  ·obtain⟨hm,hr,hal⟩:=mid a hk hp;rw[ha]at hal;obtain⟨e1,e2⟩:=kept_next.1 hal.symm;refine .inl ⟨m+1,a.lt,hm,?_,?_,?_⟩
   ·rw[a.zs,hr,e1,e2,yF];rfl
   ·rw[e1,yN,a.p];rfl
   rw[e2];exact a.hd
  omega
 | @drop k p zs hd n _ hk hp ha ih=>
  obtain⟨ys,h1,h2,h3,h4⟩:=ih;refine⟨ys,h1,by rw[qQ];exact h2,h3,?_⟩;rcases h4 with⟨m,a⟩|⟨h4,_⟩
  rotate_left
  ·omega
  obtain⟨hm,hr,hal⟩:=mid a hk hp;have ham:=split a hk;rw[ha]at hal;obtain⟨e1,e2⟩:=kept_next.2 hal.symm;have hlt:p<(j9 k ys m++m::List.range' (m+1) (jK ys k - (m+1))).length:=by rw[yN,yi,a.p];omega
  have hKp:(j9 k ys m++m::List.range' (m+1) (jK ys k - (m+1)))[p]'hlt=m:=by
   rw[List.getElem_append_right (by rw[a.p];exact zK _)];simp[a.p]
  have hpm:=permM (k:=k) (ys:=ys) a.le;rw[hr]at hpm;have h5:=kv (k:=k) (xs:=ys) hpm hlt;rw[hKp]at h5
  have he:(j9 k ys m++m::List.range' (m+1) (jK ys k - (m+1))).eraseIdx p=j9 k ys m++List.range' (m+1) (jK ys k - (m+1)):=by
   rw[a.p];exact Vi
  rw[he]at h5
  have hgl:(j7 k ys m).length+(j9 k ys m).length=m:=by
   have:=(K9 k m ys).len;rw[yN]at this;omega
  refine .inl ⟨m+1,a.lt,hm,?_,?_,?_⟩
  ·rw[a.zs,hr,h5,e1,e2,List.reverse_append];rfl
  ·rw[e1,a.p]
  rw[e2,List.mapIdx_append,←a.hd];congr 1;simp only[List.mapIdx_cons,List.mapIdx_nil,List.cons.injEq,and_true]
  have h6:K7 k ys m=n:=by
   unfold K7;rw[←hal];rfl
  rw[h6,ham];congr 1;omega
 | @next k p zs hd hal hk hp ih=>
  obtain⟨ys,h1,h2,h3,h4⟩:=ih;rcases h4 with⟨m,a⟩|⟨h4,_⟩
  rotate_left
  ·omega
  have ham:=split a hk
  have hm:m=jK ys k:=by
   have:=a.p;have:=a.le;omega
  have e:zs.modify k (zF hd)=prgA k ys:=by
   have ez:=a.zs;have eh:=a.hd;rw[hm,Nat.sub_self,List.range'_zero,List.append_nil]at ez;rw[hm]at eh;unfold prgA ZV;rw[←ez];congr 2;rw[eh];refine yV bV fun i i1 i2=>?_;have hi:i<(j7 k ys (jK ys k)).length:=(by simpa using i1);simp only[List.getElem_mapIdx,xE];congr 1;have hp2:=permB k (jK ys k) ys;have hl:=hp2.len;rw[yN,List.length_reverse]at hl
   have hj:(j9 k ys (jK ys k)).length+((j7 k ys (jK ys k)).length - 1 - i)<(j9 k ys (jK ys k)++(j7 k ys (jK ys k)).reverse).length:=by
    rw[yN,List.length_reverse];omega
   have h5:=Jf hp2 hj;rw[List.getElem_append_right bO]at h5;simp only[Nat.add_sub_cancel_left,List.getElem_reverse]at h5;have h6:(j7 k ys (jK ys k)).length - 1 - ((j7 k ys (jK ys k)).length - 1 - i)=i:=(by omega);simp only[h6]at h5;rw[h5];omega
  rw[e];have hgn:Good (prgA k ys):=h3.turn a.lt;exact⟨prgA k ys,h1.step a.lt,rfl,hgn,fresh _ _ hgn⟩
end Go.Proofs.YtgjjhadbjmcnpaaGreatDoor
