/-
  The contract of turneryref5.CloneBlock.
-/
import Derived.Test.YtgjjhadbjmcnpaaGreatDoorJEqvD
import Derived.Laws.AppendOwnNone
set_option maxRecDepth 100000
set_option maxHeartbeats 16000000
namespace Go.Proofs.YtgjjhadbjmcnpaaGreatDoor
open Go.RowKit

theorem Ren.inn {n m:Int} {g h:Int->Int} (a:Ren n m g h) (x:Int):(0<=g x/\g x<m)↔(0<=x/\x<m):=by
 constructor
 ·rintro⟨h1,h2⟩;have:=a.sym.nn h1;have:=a.sym.lt h2;rw[a.l]at *;omega
 rintro⟨h1,h2⟩;exact⟨a.nn h1,a.lt h2⟩
theorem Zk {n m:Int} {g h:Int->Int} (a:Ren n m g h) (v:Bool×Int):xt m (toW g v).1 (toW g v).2=xt m v.1 v.2:=by
 obtain⟨r,x⟩:=v;cases r
 ·rfl
 show xt m true (g x)=xt m true x;have:=a.inn x;unfold xt
 by_cases e:0<=x/\x<=m - 1
 ·rw[zQ (fun h=>h.2 bO),zQ (fun h=>h.2 e)]
 rw[zZ ⟨rfl,by omega⟩,zZ ⟨rfl,e⟩]
theorem Ya {n m:Int} {g h:Int->Int} (a:Ren n m g h) (x:Int):k7 m (g x)=k7 m x:=by
 have:=a.inn x;unfold k7
 by_cases e:0<=x/\x<=m - 1
 ·rw[zZ e,zZ bO]
 rw[zQ e,zQ bO]
theorem Vj {n m:Int} {g h:Int->Int} (a:Ren n m g h) (l:List (Bool×Int)):Vt m (l.map (toW g))=Vt m l:=by
 unfold Vt;rw[yy];congr 1;exact ya fun v _=>Zk a v
theorem Jk {m:Int} (g:Int->Int) (r:Bool) (x:Int):xt m r (toW g (r,x)).2=xt m (toW g (r,x)).1 (toW g (r,x)).2:=by
 cases r<;>rfl
theorem Yb {u u':UniL} {f:FunL} {n:Int} {g g':Int->Int} (hr:Ren n f.regs g g') (hl:u'.funcs.length=u.funcs.length) (hp:vm u'=vm u):bodyE u' (toF g f)=bodyE u f:=by
 have hlen:(toF g f).blocks.length=f.blocks.length:=vh _ _
 have hw:xq (toF g f)=xq f:=by
  have:kE (toF g f)=kE f:=by
   unfold kE toF;rw[yy];rfl
  unfold xq;rw[this,hlen]
 have he:(toF g f).blocks.map (fun b=>X6 (toF g f) b.fin)=f.blocks.map fun b=>X6 f b.fin:=by
  show(f.blocks.map (toB g)).map _=_;rw[yy];refine ya fun b _=>?_;show kD f.regs (toF g f).blocks.length b.fin.kind b.fin.onr (toW g (b.fin.onr,b.fin.onn)).2 b.fin.to=kD f.regs f.blocks.length b.fin.kind b.fin.onr b.fin.onn b.fin.to;rw[hlen];have h1:xt f.regs b.fin.onr (toW g (b.fin.onr,b.fin.onn)).2=xt f.regs b.fin.onr b.fin.onn:=(Jk _ _ _).trans (Zk hr _)
  have h2:(b.fin.onr=false/\(toW g (b.fin.onr,b.fin.onn)).2=0)↔(b.fin.onr=false/\b.fin.onn=0):=by
   cases b.fin.onr
   ·exact Iff.rfl
   simp
  unfold kD;simp only[h1,h2]
 have hb:∀i,Z6 u' (toF g f) i=Z6 u f i:=fun i=>by
  unfold Z6
  have:(toF g f).blocks[i]?=f.blocks[i]?.map (toB g):=by
   show(f.blocks.map (toB g))[i]?=_;rw[List.getElem?_map]
  rw[this];cases f.blocks[i]? with
  | none=>rfl
  | some b=>
   show Yi u' (toF g f) i (toB g b)=Yi u f i b
   have hph:∀c,(toB g b).phis.map (X3 (toF g f) i c)=b.phis.map (X3 f i c):=fun c=>by
    show(b.phis.map (toP g)).map _=_;rw[yy];refine ya fun p _=>?_;show X0 f.regs i c (g p.dst) (p.src.map (toW g))=X0 f.regs i c p.dst p.src;unfold X0;rw[Ya hr,Vj hr,yT]
   have hin:(toB g b).list.map (JD u' (toF g f))=b.list.map (JD u f):=by
    show(b.list.map (toI g)).map _=_;rw[yy];refine ya fun x _=>?_;show jX f.regs u'.funcs.length (vm u') x.op (if 0<=x.dst then g x.dst else x.dst) (toW g (x.ar,x.an)).2 (toW g (x.br,x.bn)).2 x.fn x.ar x.br (x.args.map (toW g))=jX f.regs u.funcs.length (vm u) x.op x.dst x.an x.bn x.fn x.ar x.br x.args;rw[hl,hp];have a1:xt f.regs x.ar (toW g (x.ar,x.an)).2=xt f.regs x.ar x.an:=(Jk _ _ _).trans (Zk hr _);have b1:xt f.regs x.br (toW g (x.br,x.bn)).2=xt f.regs x.br x.bn:=(Jk _ _ _).trans (Zk hr _)
    have a2:(x.ar=false/\(toW g (x.ar,x.an)).2=0)↔(x.ar=false/\x.an=0):=by
     cases x.ar
     ·exact Iff.rfl
     simp
    have b2:(x.br=false/\(toW g (x.br,x.bn)).2=0)↔(x.br=false/\x.bn=0):=by
     cases x.br
     ·exact Iff.rfl
     simp
    have c1:jf f.regs u.funcs.length (vm u) (x.op == 20) x.fn (x.args.map (toW g))=jf f.regs u.funcs.length (vm u) (x.op == 20) x.fn x.args:=by
     unfold jf;rw[yT,Vj hr]
    have d1:k7 f.regs (if 0<=x.dst then g x.dst else x.dst)=k7 f.regs x.dst:=by
     split
     ·exact Ya hr _
     rfl
    have d2:((if 0<=x.dst then g x.dst else x.dst) = -1)↔x.dst = -1:=by
     split
     ·next e=>
      have:=hr.nn e;omega
     exact Iff.rfl
    unfold jX;simp only[a1,b1,a2,b2,c1,d1,d2,yT,ne_eq]
   unfold Yi;simp only[hph,hin,hw]
 unfold bodyE;have hbs:Z6 u' (toF g f)=Z6 u f:=funext hb;rw[he,hlen,hbs]
theorem RenF.bodyE {u u':UniL} {f f':FunL} (h:RenF f f') (hl:u'.funcs.length=u.funcs.length) (hp:vm u'=vm u):bodyE u' f'=bodyE u f:=by
 obtain⟨g,g',hr,rfl⟩:=h;exact Yb hr hl hp
theorem RenF.many {f f':FunL} (h:RenF f f'):xu f'=xu f/\f'.blocks.length=f.blocks.length:=by
 obtain⟨g,g',hr,rfl⟩:=h;refine⟨?_,vh _ _⟩;unfold xu toF;rw[yy];congr 1;exact ya fun b _=>by simp[toB]
theorem RenX.chk {xs ys:List FunL} (h:RenX xs ys) (gl:List GloL):chk { globals:=gl,funcs:=ys }=chk { globals:=gl,funcs:=xs }:=by
 have hl:=h.1
 have hn:∀k,(ys.take k).map (·.name)=(xs.take k).map (·.name):=fun k=>by
  refine yV (by simp[hl]) fun i h1 h2=>?_;simp only[xE,List.getElem_take];have i1:i<xs.length:=by simp at h2;omega
  exact(h.2 i i1 bO).par.2.2.1
 have hp:vm { globals:=gl,funcs:=ys }=vm { globals:=gl,funcs:=xs }:=by
  funext k;unfold vm;congr 1;refine yV (by simp[hl]) fun i h1 h2=>?_;simp only[xE];exact(h.2 i (by simpa using h2) (by simpa using h1)).par.1
 have hh:kf { globals:=gl,funcs:=ys }=kf { globals:=gl,funcs:=xs }:=by
  funext i;unfold kf
  by_cases hi:i<xs.length
  ·have hi':i<ys.length:=(by omega);have e1:ys[i]?=some ys[i]:=zj hi';have e2:xs[i]?=some xs[i]:=zj hi;have r:=h.2 i hi hi';show(match ys[i]? with|some f=>jx (xr { globals:=gl,funcs:=ys } i) f|none=>0)=match xs[i]? with|some f=>jx (xr { globals:=gl,funcs:=xs } i) f|none=>0
   rw[e1,e2]
   have en:xr { globals:=gl,funcs:=ys } i=xr { globals:=gl,funcs:=xs } i:=by
    unfold xr;simp only[hn]
   show jx _ _=jx _ _;rw[en];unfold jx;rw[r.par.1,r.par.2.1,r.par.2.2.1,r.many.1,r.many.2]
  show(match ys[i]? with|some f=>jx (xr { globals:=gl,funcs:=ys } i) f|none=>0)=match xs[i]? with|some f=>jx (xr { globals:=gl,funcs:=xs } i) f|none=>0
  rw[yk bO,yk bO]
 have hb:kX { globals:=gl,funcs:=ys }=kX { globals:=gl,funcs:=xs }:=by
  funext i;unfold kX
  by_cases hi:i<xs.length
  ·have hi':i<ys.length:=(by omega);show(match ys[i]? with|some f=>Go.Proofs.YtgjjhadbjmcnpaaGreatDoor.bodyE { globals:=gl,funcs:=ys } f|none=>0)=match xs[i]? with|some f=>Go.Proofs.YtgjjhadbjmcnpaaGreatDoor.bodyE { globals:=gl,funcs:=xs } f|none=>0
   rw[zj hi,zj hi'];exact(h.2 i hi hi').bodyE hl.symm hp
  show(match ys[i]? with|some f=>Go.Proofs.YtgjjhadbjmcnpaaGreatDoor.bodyE { globals:=gl,funcs:=ys } f|none=>0)=match xs[i]? with|some f=>Go.Proofs.YtgjjhadbjmcnpaaGreatDoor.bodyE { globals:=gl,funcs:=xs } f|none=>0
  rw[yk bO,yk bO]
 have hm:Ko { globals:=gl,funcs:=ys }=Ko { globals:=gl,funcs:=xs }:=by
  rw[kg,kg,QX,QX];show(List.range ys.length).find? _=(List.range xs.length).find? _;rw[←hl];congr 1;funext i
  by_cases hi:i<xs.length
  ·have hi':i<ys.length:=(by omega);show mainO ys[i]?=mainO xs[i]?;rw[zj hi,zj hi'];show vR _=vR _;unfold vR;rw[(h.2 i hi hi').par.2.2.1]
  show mainO ys[i]?=mainO xs[i]?;rw[yk bO,yk bO]
 unfold Go.Proofs.YtgjjhadbjmcnpaaGreatDoor.chk chkO;rw[hh,hb,hm,hp];have e:∀ws:List FunL,XF { globals:=gl,funcs:=ws }=XF { globals:=gl,funcs:=xs }:=fun _=>rfl;rw[e ys];simp only[←hl]
theorem RenX.fits {xs ys:List FunL} (h:RenX xs ys) (k:Nat) (hk:k<xs.length) (hk':k<ys.length):xu ys[k]=xu xs[k]/\ys[k].blocks.length=xs[k].blocks.length/\ys[k].regs=xs[k].regs:=by
 have r:=h.2 k hk hk';exact⟨r.many.1,r.many.2,r.par.2.1⟩
/-! ## names -/
theorem metV_to {g:Int->Int} (_hg:∀x,0<=x->0<=g x) {v:Bool×Int} (hv:v.1=true->0<=v.2):xQ (toW g v)=(xQ v).map fun r:Nat=>(g r).toNat:=by
 unfold xQ toW
 by_cases e:v.1=true
 ·have h1:=hv e;rw[zZ e,zZ rfl,zZ e];have h2:((v.2.toNat:Nat):Int)=v.2:=by omega
  simp[h2]
 rw[zQ e,zQ e];rfl
theorem FunC.val0 {nf:Nat} {P:Nat->Int} {f:FunL} (h:FunC nf P f) {b:Nat} (hb:b<f.blocks.length):(f.blocks[b].fin.onr=true->0<=f.blocks[b].fin.onn)/\(∀p∈f.blocks[b].phis,0<=p.dst/\∀v∈p.src,v.1=true->0<=v.2)/\∀x∈f.blocks[b].list,(x.ar=true->0<=x.an)/\(x.br=true->0<=x.bn)/\∀v∈x.args,v.1=true->0<=v.2:=by
 refine⟨fun e=>((h.fin b hb).on e).1,fun p hp=>⟨(h.phi b hb p hp).dst.1,fun v hv e=>((h.phi b hb p hp).src v hv e).1⟩,fun x hx=>?_⟩;have hc:=insC_iff.1 (h.ins b hb x hx);refine⟨fun e=>(hc.a e).1,fun e=>(hc.b e).1,fun v hv e=>?_⟩
 by_cases e2:x.op=20
 ·exact((hc.call e2).2.2 v hv e).1
 have:=(hc.c0 e2).2;rw[List.eq_nil_of_length_eq_zero this]at hv;cases hv
theorem RenF.name {nf:Nat} {P:Nat->Int} {f f':FunL} (h:RenF f f') (hc:FunC nf P f):xO f'=xO f:=by
 obtain⟨g,g',hr,rfl⟩:=h;obtain⟨q,hq⟩:∃q:Nat->Nat,q=fun r:Nat=>(g r).toNat:=⟨_,rfl⟩;have hgn:∀x,0<=x->0<=g x:=fun x hx=>hr.nn hx
 have hqg:∀r:Nat,(q r:Int)=g r:=fun r=>by
  have:=hgn r bO;rw[hq];show(((g r).toNat:Nat):Int)=_;omega
 have hqi:∀a b:Nat,q a=q b->a=b:=fun a b e=>by
  have:g a=g b:=by rw[←hqg,←hqg,e]
  have:=hr.inj this;omega
 have hV:∀{v:Bool×Int},(v.1=true->0<=v.2)->xQ (toW g v)=(xQ v).map q:=fun {v} hv=>by rw[hq];exact metV_to hgn hv
 have hD:∀d:Int,vO (if 0<=d then g d else d)=(vO d).map q:=fun d=>by
  unfold vO
  by_cases e:0<=d
  ·rw[zZ e,zZ (hgn d e),zZ e,hq];have h2:((d.toNat:Nat):Int)=d:=(by omega);simp[h2]
  rw[zQ e,zQ e];rfl
 have hB:∀b (hb:b<f.blocks.length),KG (toB g f.blocks[b])=(KG f.blocks[b]).map q/\J0 (toB g f.blocks[b])=(J0 f.blocks[b]).map q:=fun b hb=>by
  obtain⟨h1,h2,h3⟩:=hc.val0 hb
  have hL:(f.blocks[b].list.map (toI g)).flatMap (fun i=>Qx i++vO i.dst)=(f.blocks[b].list.flatMap fun i=>Qx i++vO i.dst).map q:=QG fun x hx=>by
   obtain⟨a1,a2,a3⟩:=h3 x hx;show(xQ (x.ar,(toW g (x.ar,x.an)).2)++xQ (x.br,(toW g (x.br,x.bn)).2)++(x.args.map (toW g)).flatMap xQ)++vO (if 0<=x.dst then g x.dst else x.dst)=_;rw[←jv,←jv,hV a1,hV a2,hD,QG (m:=q) (w:=xQ) fun v hv=>hV (a3 v hv)];unfold Qx;simp only[yW]
  have hF:xQ (f.blocks[b].fin.onr,(toW g (f.blocks[b].fin.onr,f.blocks[b].fin.onn)).2)=(xQ (f.blocks[b].fin.onr,f.blocks[b].fin.onn)).map q:=by
   rw[←jv];exact hV h1
  have hP:∀p∈f.blocks[b].phis,(toP g p).dst.toNat=q p.dst.toNat:=fun p hp=>by
   have h4:=(h2 p hp).1;have h5:((p.dst.toNat:Nat):Int)=p.dst:=(by omega);rw[hq];show(g p.dst).toNat=(g ((p.dst.toNat:Nat):Int)).toNat;rw[h5]
  unfold KG J0;have e1:(toB g f.blocks[b]).list=f.blocks[b].list.map (toI g):=rfl;have e2:(toB g f.blocks[b]).fin=toE g f.blocks[b].fin:=rfl;have e3:(toB g f.blocks[b]).phis=f.blocks[b].phis.map (toP g):=rfl;rw[e1,e2,e3];unfold toE;simp only[yW,hL,hF];refine⟨?_,?_⟩
  ·congr 2;rw[yy,yy];exact ya hP
  congr 2;refine QG fun p hp=>?_;simp only[yS];rw[hP p hp];show _::(p.src.map (toW g)).flatMap xQ=_;rw[QG (m:=q) (w:=xQ) fun v hv=>hV ((h2 p hp).2 v hv)]
 have hlen:(toF g f).blocks.length=f.blocks.length:=vh _ _;have hat:∀i (h2:i<(toF g f).blocks.length) (h1:i<f.blocks.length),(toF g f).blocks[i]=toB g f.blocks[i]:=fun i h2 h1=>by simp[toF]
 have hM:Qh (toF g f)++ZD (toF g f)=(Qh f++ZD f).map q:=by
  unfold Qh ZD
  have e1:(toF g f).blocks.flatMap KG=(f.blocks.flatMap KG).map q:=by
   rw[List.map_flatMap];exact ZP (w:=fun x=>(KG x).map q) hlen fun i h1 h2=>by rw[hat i h2 h1];exact(hB i h1).1
  have e2:(toF g f).blocks.flatMap J0=(f.blocks.flatMap J0).map q:=by
   rw[List.map_flatMap];exact ZP (w:=fun x=>(J0 x).map q) hlen fun i h1 h2=>by rw[hat i h2 h1];exact(hB i h1).2
  rw[e1,e2,yW,yW];congr 2;show List.range f.params.toNat=_;refine((ya (g:=id) fun r hr'=>?_).trans bV).symm;have h1:=hr.lo r (by have:=yR.1 hr';omega);have h2:=hqg r;show q r=r;omega
 have hmet:Qi (toF g f)=(Qi f).map q:=by
  have:=QZ (m:=q) (Qh f++ZD f) [] fun a _ b _ e=>hqi a b e;show ZI (Qh (toF g f)++ZD (toF g f))=(ZI (Qh f++ZD f)).map q;rw[hM];exact this
 have hmS:∀r:Nat,(kO (toF g f)).1 (q r)=(kO f).1 r:=fun r=>by
  rw[QV,QV,hmet];show qE ((Qi f).map q) (q r)=qE (Qi f) r;unfold qE
  have e:q r∈(Qi f).map q↔r∈Qi f:=by
   constructor
   ·intro h;obtain⟨a,ha,e⟩:=yD.1 h
    rwa [←hqi _ _ e]
   exact fun h=>yD.2 ⟨r,h,rfl⟩
  by_cases hm:r∈Qi f
  ·rw[zZ hm,zZ (e.2 hm)];obtain⟨k1,k2⟩:=ja hm;have hnd:=QW f;have h1:((Qi f).map q)[(Qi f).idxOf r]'(by simpa using k1)=q r:=by simp[k2]
   have hui:((Qi f).map q).Nodup:=by
    rw[←hmet];exact QW _
   rw[←h1,hui.idxOf_getElem]
  rw[zQ hm,zQ fun h=>hm (e.1 h)]
 have hrv:∀{v:Bool×Int},(v.1=true->0<=v.2)->xw (kO (toF g f)).1 (toW g v)=xw (kO f).1 v:=fun {v} hv=>by
  unfold xw toW
  by_cases e:v.1=true
  ·have h1:=hv e;rw[zZ e,zZ rfl,zZ e];have h2:=hmS v.2.toNat
   have h3:q v.2.toNat=(g v.2).toNat:=by
    rw[hq];show(g ((v.2.toNat:Nat):Int)).toNat=_;rw[show((v.2.toNat:Nat):Int)=v.2 by omega]
   rw[h3]at h2;rw[←h2]
  rw[zQ e,zQ e,zQ e]
 have haD:(kO (toF g f)).2=(kO f).2:=by
  rw[QV,QV,hmet];show(((Qi f).map q).length:Int)=((Qi f).length:Int);rw[yT]
 have hbl:(toF g f).blocks.map (KH (kO (toF g f)).1)=f.blocks.map (KH (kO f).1):=by
  refine yV (by simp[hlen]) fun b h1 h2=>?_;have hb:b<f.blocks.length:=by simpa using h2
  simp only[xE];rw[hat b (by simpa using h1) hb];obtain⟨v1,v2,v3⟩:=hc.val0 hb
  have hl:(f.blocks[b].list.map (toI g)).map (vZ (kO (toF g f)).1)=f.blocks[b].list.map (vZ (kO f).1):=by
   rw[yy];refine ya fun x hx=>?_;obtain⟨a1,a2,a3⟩:=v3 x hx;have ha:=hrv (v:=(x.ar,x.an)) a1;have hb:=hrv (v:=(x.br,x.bn)) a2
   have hs:(x.args.map (toW g)).map (xw (kO (toF g f)).1)=x.args.map (xw (kO f).1):=by
    rw[yy];exact ya fun v hv=>hrv (a3 v hv)
   have hd:(if 0<=(if 0<=x.dst then g x.dst else x.dst) then(kO (toF g f)).1 (if 0<=x.dst then g x.dst else x.dst).toNat else(if 0<=x.dst then g x.dst else x.dst))=if 0<=x.dst then(kO f).1 x.dst.toNat else x.dst:=by
    by_cases e:0<=x.dst
    ·simp only[zZ e,zZ (hgn _ e)]
     have h3:q x.dst.toNat=(g x.dst).toNat:=by
      rw[hq];show(g ((x.dst.toNat:Nat):Int)).toNat=_;rw[show((x.dst.toNat:Nat):Int)=x.dst by omega]
     rw[←h3,hmS]
    simp only[zQ e]
   rw[jv]at ha hb;show vZ _ (toI g x)=_;unfold vZ toI;simp only[ha,hb,hs,hd]
  have hp:(f.blocks[b].phis.map (toP g)).map (fun p=>({ dst:=(kO (toF g f)).1 p.dst.toNat,src:=p.src.map (xw (kO (toF g f)).1) }:PhiL))=f.blocks[b].phis.map fun p=>{ dst:=(kO f).1 p.dst.toNat,src:=p.src.map (xw (kO f).1) }:=by
   rw[yy];refine ya fun p hp=>?_;obtain⟨d0,s0⟩:=v2 p hp
   have hs:(p.src.map (toW g)).map (xw (kO (toF g f)).1)=p.src.map (xw (kO f).1):=by
    rw[yy];exact ya fun v hv=>hrv (s0 v hv)
   have h3:q p.dst.toNat=(g p.dst).toNat:=by
    rw[hq];show(g ((p.dst.toNat:Nat):Int)).toNat=_;rw[show((p.dst.toNat:Nat):Int)=p.dst by omega]
   show({ dst:=(kO (toF g f)).1 (g p.dst).toNat,src:=(p.src.map (toW g)).map _ }:PhiL)=_;rw[hs,←h3,hmS]
  have he:=hrv (v:=(f.blocks[b].fin.onr,f.blocks[b].fin.onn)) v1;rw[jv]at he;have e1:(toB g f.blocks[b]).list=f.blocks[b].list.map (toI g):=rfl;have e2:(toB g f.blocks[b]).fin=toE g f.blocks[b].fin:=rfl;have e3:(toB g f.blocks[b]).phis=f.blocks[b].phis.map (toP g):=rfl;unfold KH;rw[e1,e2,e3,hl,hp];unfold toE;simp only[he]
 unfold xO;rw[haD,hbl];rfl

theorem Yc {A B:Int}:(if A=0 then B else A)=0↔A=0/\B=0:=by
 by_cases h:A=0
 ·rw[zZ h];exact⟨fun g=>⟨h,g⟩,fun g=>g.2⟩
 rw[zQ h];exact⟨fun g=>absurd g h,fun g=>absurd g.1 h⟩
theorem body_iff {u:UniL} {f:FunL}:bodyE u f=0↔(∀b∈f.blocks,X6 f b.fin=0)/\∀i (hi:i<f.blocks.length),(∀p∈f.blocks[i].phis,X3 f i (zw (xq f) i).length p=0)/\∀x∈f.blocks[i].list,JD u f x=0:=by
 unfold bodyE;rw[Yc,jt,jt];have h1:(∀x∈f.blocks.map fun b=>X6 f b.fin,x=0)↔∀b∈f.blocks,X6 f b.fin=0:=by simp
 have h2:(∀x∈(List.range f.blocks.length).map (Z6 u f),x=0)↔∀i (hi:i<f.blocks.length),(∀p∈f.blocks[i].phis,X3 f i (zw (xq f) i).length p=0)/\∀x∈f.blocks[i].list,JD u f x=0:=by
  have h3:∀i (hi:i<f.blocks.length),Z6 u f i=0↔(∀p∈f.blocks[i].phis,X3 f i (zw (xq f) i).length p=0)/\∀x∈f.blocks[i].list,JD u f x=0:=fun i hi=>by
   rw[QM hi];unfold Yi;rw[Yc,jt,jt];simp
  constructor
  ·intro h i hi;exact(h3 i hi).1 (h _ (yD.2 ⟨i,yR.2 hi,rfl⟩))
  intro h x hx;obtain⟨i,hi,rfl⟩:=yD.1 hx;exact(h3 i (yR.1 hi)).2 (h i (yR.1 hi))
 rw[h1,h2]
def BodyZ (xs:List FunL):Prop:=∀f∈xs,bodyE { globals:=[],funcs:=xs } f=0
theorem ZW {gl:List GloL} {xs:List FunL} {k:Nat} (hk:k<xs.length):vm { globals:=gl,funcs:=xs } k=xs[k].params:=by
 unfold vm;simp[hk]
theorem Zl {gl:List GloL} {xs:List FunL} {k:Nat} (hk:xs.length<=k):vm { globals:=gl,funcs:=xs } k=0:=by
 unfold vm;simp[hk]
theorem Perm.ren {L:List Nat} {n:Nat} {m:Int} (h:Perm L n) (hm:(n:Int)<=m):Ren 0 m (gL L) (hL L):=
 ⟨Int.le_refl _,h.lr,h.rl,fun _ hx=>Z4 h (.inl hx),fun _ hx=>Z4 h (.inr bO)⟩
theorem BodyZ.pick {xs:List FunL} (h:BodyZ xs) (hg:Good xs) {k n:Nat} (hk:k<xs.length) (hn:xs[k].params=n) {K T:List Nat} (hp:Perm (K++T) n):BodyZ (zS k K T xs):=fun f hf=>by
 obtain⟨i,hi,rfl⟩:=yp.1 hf;have hi':i<xs.length:=by rwa [qP]at hi
 rw[xP hi hi'];obtain⟨f1,hf1⟩:=nZ (if k=i then pickF K T xs[i]else xs[i]);rw[←hf1]
 have hb1:bodyE { globals:=[],funcs:=xs } f1=0:=by
  have h0:=h _ (zP hi');rw[hf1]
  split
  ·next e=>
   subst e;have:=Yb (u:={ globals:=[],funcs:=xs }) (u':={ globals:=[],funcs:=xs }) (f:=xs[k]) (hp.ren (m:=xs[k].regs) (by rw[←hn];exact hg.reg _ (zP hk))) rfl rfl;rw[h0]at this;exact this
  exact h0
 have ham:∀j:Nat,vm { globals:=[],funcs:=zS k K T xs } j=if k=j then(K.length:Int)else vm { globals:=[],funcs:=xs } j:=fun j=>by
  by_cases hj:j<xs.length
  ·have hj2:j<(zS k K T xs).length:=(by rwa [qP]);rw[ZW hj2,ZW hj,xP hj2 hj];show(if k=j then pickF K T xs[j]else xs[j]).params=_
   split<;>rfl
  rw[Zl (by rw[qP];omega),Zl bO,zQ bO]
 obtain⟨h1,h2⟩:=body_iff.1 hb1
 have hw:xq (pickC k K f1)=xq f1:=by
  have:kE (pickC k K f1)=kE f1:=by
   unfold kE pickC;rw[yy];rfl
  unfold xq;rw[this];simp[pickC]
 have hlen:(pickC k K f1).blocks.length=f1.blocks.length:=by simp[pickC]
 refine body_iff.2 ⟨fun b hb=>?_,fun j hj=>?_⟩
 ·obtain⟨b0,hb0,rfl⟩:=yD.1 hb;have:=h1 b0 hb0;unfold X6 at this ⊢;rw[hlen];exact this
 have hj':j<f1.blocks.length:=by rwa [hlen]at hj
 have eb:(pickC k K f1).blocks[j]={ f1.blocks[j]with list:=f1.blocks[j].list.map (xM k K) }:=by simp[pickC]
 rw[eb,hw];obtain⟨a,b⟩:=h2 j hj';refine⟨a,fun x hx=>?_⟩;obtain⟨y,hy,rfl⟩:=yD.1 hx;have hc:InsC f1.regs xs.length (vm { globals:=[],funcs:=xs }) y:=insC_iff.1 (b y hy);show jX f1.regs (zS k K T xs).length (vm { globals:=[],funcs:=zS k K T xs }) _ _ _ _ _ _ _ _=0;rw[insC_iff,qP];unfold xM
 by_cases e:y.op=20/\y.fn=(k:Int)
 ·rw[zZ e];obtain⟨c1,c2,c3⟩:=hc.call e.1;refine⟨hc.op,hc.d0,hc.a0,hc.b0,fun h=>absurd e.1 h,hc.d1,hc.a,hc.b,fun _=>⟨c1,?_,fun v hv=>?_⟩⟩
  ·show(((K.map _).length:Nat):Int)=vm _ y.fn.toNat;rw[ham,zZ (by have:=e.2;omega),yT]
  obtain⟨a,_,rfl⟩:=yD.1 hv;rw[yO];cases e3:y.args[a]? with
  | none=>exact fun h=>by cases h
  | some w=>exact c3 w (List.mem_of_getElem? e3)
 rw[zQ e];refine⟨hc.op,hc.d0,hc.a0,hc.b0,hc.c0,hc.d1,hc.a,hc.b,fun h=>?_⟩;obtain⟨c1,c2,c3⟩:=hc.call h;refine⟨c1,?_,c3⟩;rw[ham,zQ (fun h2=>e ⟨h,by omega⟩)];exact c2
theorem BodyZ.drop {xs:List FunL} (h:BodyZ xs) (hg:Good xs) {k p:Nat} (hk:k<xs.length) (hp:(p:Int)<xs[k].params):BodyZ (zC k p xs):=by
 obtain⟨n,hn⟩:∃n:Nat,xs[k].params=n:=⟨xs[k].params.toNat,by omega⟩;have hpn:p<n:=by omega
 rw[kw hg.call hk hn hpn];refine h.pick hg hk hn ?_;have h1:=jd (K:=List.range n) (p:=p) (by rw[List.length_range];exact hpn) [];have h2:(List.range n)[p]'(by rw[List.length_range];exact hpn)=p:=by simp
 rw[h2,List.append_nil]at h1;exact(Perm.range n).of h1
def CopOk (regs:Int) (hd:List InsL):Prop:=∀x∈hd,∃d n,x=j8 d n/\0<=d/\d<regs
theorem copy_ins {regs:Int} {nf:Nat} {P:Nat->Int} {d n:Int} (h0:0<=d) (h1:d<regs):jX regs nf P 1 d n 0 0 false false []=0:=by
 have a:shD 1=true:=by decide
 have b:shA 1=true:=by decide
 have c:k7 regs d=0:=dstE_iff.2 ⟨h0,h1⟩;have e:((1:Int) == 20)=false:=by decide
 simp[jX,a,b,c,e,xt,jf,qD]
theorem BodyZ.head {xs:List FunL} (h:BodyZ xs) {k:Nat} {hd:List InsL} (hh:∀(hk:k<xs.length),CopOk xs[k].regs hd):BodyZ (xs.modify k (zF hd)):=fun f hf=>by
 obtain⟨i,hi,rfl⟩:=yp.1 hf;have hi':i<xs.length:=by simpa using hi
 have ham:vm { globals:=[],funcs:=xs.modify k (zF hd) }=vm { globals:=[],funcs:=xs }:=by
  funext j
  by_cases hj:j<xs.length
  ·have hj2:j<(xs.modify k (zF hd)).length:=(by simpa using hj);rw[ZW hj2,ZW hj,List.getElem_modify]
   split<;>rfl
  rw[Zl bW,Zl bO]
 have hu:∀g,bodyE { globals:=[],funcs:=xs.modify k (zF hd) } g=bodyE { globals:=[],funcs:=xs } g:=fun g=>by
  unfold bodyE
  have:Z6 { globals:=[],funcs:=xs.modify k (zF hd) } g=Z6 { globals:=[],funcs:=xs } g:=by
   funext i;unfold Z6 Yi JD;rw[ham];simp only[List.length_modify]
  rw[this]
 rw[hu,List.getElem_modify];have h0:=h _ (zP hi')
 split
 ·next e=>
  subst e;obtain⟨h1,h2⟩:=body_iff.1 h0;obtain⟨g,hg⟩:=nZ (xs[k]);have hc:=hh hi';rw[←hg]at h1 h2 hc ⊢;have hlen:(zF hd g).blocks.length=g.blocks.length:=by simp[zF]
  have hs:xq (zF hd g)=xq g:=by
   have hS:=Shp.head hd g
   have:kE (zF hd g)=kE g:=by
    unfold kE;refine yV (by simp[hlen]) fun i h1 h2=>?_;simp only[xE];exact(hS.blk i (by simpa using h1) (by simpa using h2)).1
   unfold xq;rw[this,hlen]
  refine body_iff.2 ⟨fun b hb=>?_,fun j hj=>?_⟩
  ·obtain⟨j,hj,rfl⟩:=yp.1 hb;have hj':j<g.blocks.length:=(by rwa [hlen]at hj);have h3:=h1 _ (zP hj');rw[ZQ hj hj'];unfold X6 at h3 ⊢;rw[hlen]
   split<;>exact h3
  have hj':j<g.blocks.length:=by rwa [hlen]at hj
  obtain⟨a,b⟩:=h2 j hj';rw[ZQ hj hj',hs]
  split
  ·refine⟨a,fun x hx=>?_⟩;rcases yH.1 hx with hx|hx
   ·obtain⟨d,n,rfl,d0,d1⟩:=hc x hx;show jX g.regs xs.length _ 1 d n 0 0 false false []=0;exact copy_ins d0 d1
   exact b x hx
  exact⟨a,b⟩
 exact h0
theorem Dr.bodyZ {t xs:List FunL} (h:Dr t xs) (hg:Good t) (h0:BodyZ t):BodyZ xs/\Good xs:=by
 induction h with
 | start=>exact⟨h0,hg⟩
 | step _ hk hp _ _ ih=>exact⟨ih.1.drop ih.2 hk hp,ih.2.drop hk hp⟩
theorem Al.bodyZ {t xs:List FunL} {k p:Nat} {hd:List InsL} (h:Al t k p xs hd) (hg:Good t) (h0:BodyZ t):BodyZ xs/\∀(hk:k<xs.length),CopOk xs[k].regs hd:=by
 induction h with
 | start=>exact⟨h0,fun _ x hx=>by cases hx⟩
 | skip _ _ _ _ ih=>exact ih
 | @drop k p xs hd n hal hk hp ha ih=>
  have hgx:=hal.good hg;refine⟨ih.1.drop hgx hk hp,fun hk'=>?_⟩
  have e:(zC k p xs)[k].regs=xs[k].regs:=by
   rw[j5 hk',zZ rfl];rfl
  rw[e];intro x hx;rcases yH.1 hx with hx|hx
  ·exact ih.2 hk x hx
  obtain rfl:=yI.1 hx;have:=hgx.reg _ (zP hk);exact⟨_,_,rfl,by omega,by omega⟩
 | next _ _ _ ih=>exact⟨ih.1.head ih.2,fun _ x hx=>by cases hx⟩

structure Fit (k:Nat) (xs:List FunL):Prop where
 good:Good xs
 body:BodyZ xs
 n10:xs.length<=10
 blk:∀f∈xs,f.blocks.length<=40
 reg:∀f∈xs,f.regs<=100
 lst:∀i (h:i<xs.length),∀b∈xs[i].blocks,b.list.length<=if i<k then 306 else 300
theorem Fit.l400 {k:Nat} {xs:List FunL} (h:Fit k xs):∀f∈xs,∀b∈f.blocks,b.list.length<=400:=fun f hf b hb=>by
 obtain⟨i,hi,rfl⟩:=yp.1 hf;have:=h.lst i hi b hb
 split at this<;>omega
theorem Fit.pick {k0:Nat} {xs:List FunL} (h:Fit k0 xs) {k n:Nat} (hk:k<xs.length) (hn:xs[k].params=n) {K T:List Nat} (hp:Perm (K++T) n):Fit k0 (zS k K T xs):=by
 have hKl:K.length<=n:=by have:=hp.len;rw[yN]at this;omega
 have hat:∀i (hi:i<(zS k K T xs).length),∃hi':i<xs.length,(zS k K T xs)[i].blocks.length=xs[i].blocks.length/\(zS k K T xs)[i].regs=xs[i].regs/\∀b∈(zS k K T xs)[i].blocks,∃b0∈xs[i].blocks,b.list.length=b0.list.length:=fun i hi=>by
  have hi':i<xs.length:=by rwa [qP]at hi
  refine⟨hi',?_⟩;rw[xP hi hi']
  by_cases e:k=i
  ·rw[zZ e];refine⟨by simp[pickC,pickF,toF],rfl,fun b hb=>?_⟩;obtain⟨b1,hb1,rfl⟩:=yD.1 hb;obtain⟨b0,hb0,rfl⟩:=yD.1 hb1;exact⟨b0,hb0,by simp[toB]⟩
  rw[zQ e];refine⟨by simp[pickC],rfl,fun b hb=>?_⟩;obtain⟨b0,hb0,rfl⟩:=yD.1 hb;exact⟨b0,hb0,by simp⟩
 refine⟨h.good.pick hk hn hKl,h.body.pick h.good hk hn hp,by rw[qP];exact h.n10,fun f hf=>?_,fun f hf=>?_,fun i hi b hb=>?_⟩
 ·obtain⟨i,hi,rfl⟩:=yp.1 hf;obtain⟨hi',a,_⟩:=hat i hi;rw[a];exact h.blk _ (zP hi')
 ·obtain⟨i,hi,rfl⟩:=yp.1 hf;obtain⟨hi',_,a,_⟩:=hat i hi;rw[a];exact h.reg _ (zP hi')
 obtain⟨hi',_,_,a⟩:=hat i hi;obtain⟨b0,hb0,e⟩:=a b hb;rw[e];exact h.lst i hi' b0 hb0
theorem Fit.next {k:Nat} {xs:List FunL} (h:Fit k xs) {D:List Nat} {num:Nat->Int} (hD:∀o∈D,∀(hk:k<xs.length),(o:Int)<xs[k].params) (hl:D.length<=6):Fit (k+1) (xs.modify k (zF (K8 D num))):=by
 have hc:∀x∈K8 D num,x.op≠20:=kW D (fun o=>(o:Int)) num
 have hat:∀i (hi:i<(xs.modify k (zF (K8 D num))).length),∃hi':i<xs.length,(xs.modify k (zF (K8 D num)))[i]=if k=i then zF (K8 D num) xs[i]else xs[i]:=fun i hi=>by
  have hi':i<xs.length:=by simpa using hi
  exact⟨hi',List.getElem_modify ..⟩
 refine⟨h.good.head k hc,h.body.head fun hk x hx=>?_,by simpa using h.n10,fun f hf=>?_,fun f hf=>?_,fun i hi b hb=>?_⟩
 ·obtain⟨o,ho,rfl⟩:=yD.1 hx;have:=hD o ho hk;have:=h.good.reg _ (zP hk);exact⟨_,_,rfl,by omega,by omega⟩
 ·obtain⟨i,hi,rfl⟩:=yp.1 hf;obtain⟨hi',e⟩:=hat i hi;have:=h.blk _ (zP hi');rw[e]
  split
  ·simpa[zF]using this
  exact this
 ·obtain⟨i,hi,rfl⟩:=yp.1 hf;obtain⟨hi',e⟩:=hat i hi;have:=h.reg _ (zP hi');rw[e]
  split
  ·exact this
  exact this
 obtain⟨hi',e⟩:=hat i hi;rw[e]at hb
 by_cases ek:k=i
 ·subst ek;rw[zZ rfl]at hb;rw[zZ bO];obtain⟨j,hj,rfl⟩:=yp.1 hb;have hj2:j<xs[k].blocks.length:=by simpa[zF]using hj
  have h1:=h.lst k hi' _ (zP hj2);rw[zQ bO]at h1;rw[ZQ hj hj2]
  split
  ·show(K8 D num++_).length<=306;rw[yN];have:(K8 D num).length=D.length:=(by simp[K8]);omega
  omega
 rw[zQ ek]at hb;have:=h.lst i hi' b hb
 by_cases e2:i<k
 ·rw[zZ e2]at this;rw[zZ bO];exact this
 rw[zQ e2]at this;rw[zQ bO];exact this
theorem ChkOk.fit {u:UniL} (h:ChkOk u):Fit 0 u.funcs:=by
 refine⟨⟨h.callN,fun f hf=>?_⟩,fun f hf=>?_,h.nf,fun f hf=>?_,fun f hf=>?_,fun i hi b hb=>by rw[zQ bO];exact h.small _ (zP hi) b hb⟩
 ·obtain⟨k,hk,rfl⟩:=yp.1 hf;exact(h.funC hk).reg.1
 ·obtain⟨k,hk,rfl⟩:=yp.1 hf;have:=h.body k hk;rw[kH hk]at this;exact this
 ·obtain⟨k,hk,rfl⟩:=yp.1 hf;exact(h.funC hk).n40
 obtain⟨k,hk,rfl⟩:=yp.1 hf;exact(h.funC hk).reg.2
theorem Fit.fn {k0:Nat} {xs:List FunL} (h:Fit k0 xs) {k:Nat} (hk:k<xs.length):∃n m:Nat,xs[k].params=n/\xs[k].regs=m/\n<=m/\n<=6/\m<=1000/\0<xs[k].blocks.length/\∀b∈xs[k].blocks,RegB m b:=by
 have hm:=zP hk;have a:=h.good.call.par _ hm;have b:=h.good.reg _ hm;have c:=h.reg _ hm;have hr:xs[k].regs=(xs[k].regs.toNat:Nat):=by omega
 exact⟨xs[k].params.toNat,xs[k].regs.toNat,by omega,hr,by omega,by omega,by omega,h.good.call.blk _ hm,regB_of hr (h.body _ hm)⟩
theorem Fit.turned {k0:Nat} {xs:List FunL} (h:Fit k0 xs) {k n:Nat} (hk:k<xs.length) (hn:xs[k].params=n) (g:Int->Int):(∀f∈xs.set k (toF g xs[k]),0<f.blocks.length/\f.blocks.length<=40)/\(∀f∈xs.set k (toF g xs[k]),∀b∈f.blocks,b.list.length<=400)/\∀f∈xs.set k (toF g xs[k]),∀b∈f.blocks,∀x∈b.list,x.op=20->x.fn=(k:Int)->x.args.length=n:=by
 have hm:=zP hk;have key:∀f∈xs.set k (toF g xs[k]),f∈xs\/f=toF g xs[k]:=fun f hf=>(List.mem_or_eq_of_mem_set hf);have hc:=h.good.call.nat hk hn;refine⟨fun f hf=>?_,fun f hf b hb=>?_,fun f hf b hb x hx h1 h2=>?_⟩
 ·rcases key f hf with e|e
  ·exact⟨h.good.call.blk _ e,h.blk _ e⟩
  rw[e,vh];exact⟨h.good.call.blk _ hm,h.blk _ hm⟩
 ·rcases key f hf with e|e
  ·exact h.l400 f e b hb
  rw[e]at hb;obtain⟨b0,hb0,rfl⟩:=yD.1 hb;have:=h.l400 _ hm b0 hb0;simpa[toB]using this
 rcases key f hf with e|e
 ·exact hc f e b hb x hx h1 h2
 rw[e]at hb;obtain⟨b0,hb0,rfl⟩:=yD.1 hb;obtain⟨x0,hx0,rfl⟩:=yD.1 hx;have:=hc _ hm b0 hb0 x0 hx0 h1 h2;simpa[toI]using this

theorem seen_bd2 {cc m i n a b c:Nat} (h:n<=cc*16000+m*400+i) (h1:cc<a) (h2:a<=10) (h3:m<b) (h4:b<=40) (h5:i<c) (h6:c<=400):n+1<=maxLen/\(n+1)*16<=140737488355328:=by
 unfold maxLen;omega
theorem seen_len {n a:Nat} (h:n<=a*16000) (h2:a<=10):n<=140737488355328:=by omega
theorem seen_alw {k p:Nat} {V:List FunL} {xs:List (Bool×Int)} (hs:xs=V.flatMap (Vf k p)) (h0:0<xs.length) (ha:∀j (hj:j<xs.length),xs[j].1=false/\xs[j]=xs[0]):jy k p V=some xs[0].2:=by
 cases e:jy k p V with
 | none=>exact(seen_no e hs h0 ha).elim
 | some m=>
  have h1:=(alwL_iff.1 e).2 (yj xs[0]) (by rw[←Jg,←hs];exact yD.2 ⟨xs[0],zP h0,rfl⟩);unfold yj at h1;rw[zQ (by rw[(ha 0 h0).1];decide)]at h1;exact h1.symm
theorem seen_nil {k p:Nat} {V:List FunL} {xs:List (Bool×Int)} (hs:xs=V.flatMap (Vf k p)) (h0:xs.length=0):jy k p V=none:=by
 cases e:jy k p V with
 | none=>rfl
 | some m=>
  have h1:=(alwL_iff.1 e).1;rw[←Jg,←hs,List.eq_nil_of_length_eq_zero h0]at h1;exact absurd rfl h1
theorem Yd {k p:Nat} {V:List FunL} {xs:List (Bool×Int)} (hs:xs=V.flatMap (Vf k p)) {i:Nat} (hi:i<xs.length) (hb:xs[i].1=true\/xs[i]≠xs[0]'bO):jy k p V=none:=by
 cases e:jy k p V with
 | none=>rfl
 | some m=>
  have h1:∀j (hj:j<xs.length),xs[j]=(false,m):=fun j hj=>by
   have h2:=(alwL_iff.1 e).2 (yj xs[j]) (by rw[←Jg,←hs];exact yD.2 ⟨xs[j],zP hj,rfl⟩);unfold yj at h2
   split at h2
   ·cases h2
   next h3=>exact Prod.ext (by simpa using h3) (by injection h2)
  rcases hb with hb|hb
  ·rw[h1 i hi]at hb;cases hb
  exact absurd ((h1 i hi).trans (h1 0 bO).symm) hb

theorem Ka (V:List FunL) (k p:Nat) (q1 fp:Option Addr) (n1 c1 fc:Nat) (w:World) (hmT:V.length<=10) (hsz:(∀f∈V,f.blocks.length<=40)/\∀f∈V,∀b∈f.blocks,b.list.length<=400) (hcall:∀f∈V,∀b∈f.blocks,∀x∈b.list,x.op=20->x.fn=(k:Int)->p<x.args.length) (hF:SliceAt w 4 (FunR w) fp V) :
  Calls Tryz.prog 37 #[.agg #[.slice q1 n1 c1,.slice fp V.length fc],Z k,Z p] w fun e w'=>e = .returned (.tuple #[Z ((jy k p V).getD 0),.bool (jy k p V).isSome])/\Below w.heap.size w w':=by
 obtain⟨iV,r1,r2,r3,r4⟩:=info_parts vU;have HF:=q8 hF;have HSz:=q8 hsz;have hbU:=q8 hcall;have hwC:Hid (∀v,jy k p V=v->jy k p V=v):=q8 fun _ h=>h;clear hF hsz hcall
 go_enter Tryz.func37,Tryz.ntmps37
 go_wp2_with fail
 obtain⟨wq,hwq⟩:=nZ (w.alloc (.cells #[.slice q1 n1 c1,.slice fp V.length fc] 25));rw[←hwq];have HB0:Hid (Below w.heap.size w wq):=q8 (by rw[hwq];exact bZ);have HOq:Hid (wq.heap[w.heap.size]?=some (.cells #[.slice q1 n1 c1,.slice fp V.length fc] 25 (0,0))):=q8 (by rw[hwq];exact qr rfl);have zx:=qd HOq.out;have hzq:=HB0.out.size;clear hwq
 go_loopg [8,9] V.length (fun q s8 s9 wr=>∃(c:Nat) (xs:List (Bool×Int)) (pv:Option Addr) (vc:Nat),c<=V.length/\q=V.length - c/\s9=Z c/\s8 = .slice pv xs.length vc/\SeenR wq wr pv vc xs/\Hid (xs=(V.take c).flatMap (Vf k p))/\xs.length<=c*16000)
 case atStart=>exact⟨0,[],none,0,by omega,rfl,rfl,rfl,SeenR.nil (zI _ _),q8 (by rw[List.take_zero];rfl),by simp⟩
 case round=>
  obtain⟨wc,hwc⟩:=nZ wr;subst hwc;obtain⟨cc,xs,pv,vc,hcc,rfl,rfl,rfl,hS,HXs,hxl⟩:=hrel;have HS:=q8 hS;have hb:Below wq.heap.size wq wc:=by obtain⟨_,_,_,h⟩:=hS;exact h
  have HBc:=q8 hb;have hzc:=hb.size;have HOc:=q8 ((hb.block _ zx).trans HOq.out);have o1:wc.cell? (J w.heap.size 1)=some (.slice fp V.length fc):=(blk HOc.out).1 1;have zo:=qd HOc.out;have HXl:=q8 hxl;clear hS hb hxl
  by_cases hlc:cc<V.length
  rotate_left
  ·obtain rfl:cc=V.length:=(by omega);have HXa:Hid (xs=V.flatMap (Vf k p)):=q8 (by rw[HXs.out,List.take_of_length_le (zK _)])
   have hRd:SliceAt wc 2 kc pv xs:=by
    obtain⟨Sv,h,_⟩:=HS.out;obtain⟨p',c',e,_,_,h⟩:=h.read (R':=kc) zq bO fun _ _ _ h=>h;cases e;exact h
   have HRd:=q8 hRd;have hwD:=seen_len HXl.out hmT;have HBw:Hid (Below w.heap.size w wc):=q8 (HB0.out.trans (HBc.out.mono hzq));clear hRd
   by_cases hx0:xs.length=0
   ·have hxb:((xs.length:Int) == 0)=true:=(by simp[hx0]);have HA:=q8 (seen_nil HXa.out hx0);clear hx0
    go_wp2_with fail
    refine zk (v:=.tuple #[Z (0),.bool false]) ?_ rfl ⟨by rw[HA.out];rfl,HBw.out⟩;simp[results,Tryz.results37,go_sem]
   have hxb:((xs.length:Int) == 0)=false:=(by simp[hx0]);have hpos:0<xs.length:=(by omega);obtain⟨vb,vo,rfl,z0,z1,_⟩:=Z1 HRd.out (zI _ _) (i:=0) hpos;simp only[Nat.zero_mul,yJ]at z0 z1;obtain⟨Zq,hZ⟩:=nZ (xs[0]);rw[←hZ]at z0 z1;have HZe:=q8 hZ;have zz:=q9 z0;clear hx0 hZ
   go_wp2_with fail
   clear o1
   go_loopg [13] xs.length (fun q s13 wr=>∃i:Nat,i<=xs.length/\q=xs.length - i/\s13=Z i/\Below wc.heap.size wc wr/\Hid (∀j (hj:j<xs.length),j<i->xs[j].1=false/\xs[j]=xs[0]))
   case atStart=>exact⟨0,by omega,rfl,rfl,zI _ _,q8 fun _ _ h=>absurd h bO⟩
   case round=>
    obtain⟨wi,hwi⟩:=nZ wr;subst hwi;obtain⟨i,hi,rfl,rfl,hb,HSb⟩:=hrel;have HBi:=q8 hb;have hzi:=hb.size;have y0:=(hb.cell (p:=(J vb vo)) zz).trans z0;have y1:=(hb.cell (p:=(J vb (vo+1))) zz).trans z1;have zy:=q9 y0;have hfq:Hid (Below w.heap.size w wi):=q8 (HBw.out.trans (hb.mono HBw.out.size));clear hb
    by_cases hli:i<xs.length
    rotate_left
    ·obtain rfl:i=xs.length:=(by omega);have HA:=q8 (seen_alw HXa.out hpos fun j hj=>HSb.out j hj hj);have i2:(0:Int)<xs.length:=by omega
     go_wp2_with fail
     refine zk (v:=.tuple #[Z (Zq.2),.bool true]) ?_ rfl ⟨by rw[HA.out,←HZe.out];rfl,hfq.out⟩;simp[results,Tryz.results37,go_sem]
    obtain⟨vb',vo',he,a0,a1,_⟩:=Z1 HRd.out HBi.out hli;simp only[Option.some.injEq,Addr.mk.injEq,and_true]at he;obtain⟨rfl,rfl⟩:=he;obtain⟨Y,hY⟩:=nZ (xs[i]);rw[←hY]at a0 a1;have hq:=Zn Y.1 Zq.1 Y.2 Zq.2;have HYe:=q8 hY;have vz:=q9 a0;have i0:(0:Int)<=(i:Int):=(by omega);have i1:(i:Int)<xs.length:=(by omega);have i2:(0:Int)<xs.length:=(by omega);clear hY;obtain⟨Y1,Y2⟩:=Y;cases Y1
    ·by_cases hE:((false,Y2):Bool×Int)=Zq
     ·have hE2:(!(false == Zq.1&&Y2 == Zq.2))=false:=(by rw[←hE];simp);rw[hE2]at hq;have HE:=q8 hE;clear hE hE2
      go_wp2_with fail
      go_quiet (fail)
      go_wp2_with fail
      go_roundg (xs.length - (i+1))
      case measure=>omega
      case rel=>
       refine⟨i+1,by omega,rfl,by go_num,by exact bZ,q8 fun j hj hji=>?_⟩
       by_cases e:j=i
       ·subst e;rw[←HYe.out,←HZe.out];exact⟨rfl,HE.out⟩
       exact HSb.out j hj bO
     have hE2:(!(false == Zq.1&&Y2 == Zq.2))=true:=by
      cases e:(false == Zq.1&&Y2 == Zq.2) with
      | false=>rfl
      | true=>
       have h4:=(Bool.and_eq_true _ _).mp e;exact absurd (Prod.ext (eq_of_beq h4.1) (eq_of_beq h4.2)) hE
     rw[hE2]at hq;have HA:=q8 (Yd HXa.out hli (.inr (by rw[←HYe.out,←HZe.out];exact hE)));clear hE hE2
     go_wp2_with fail
     go_quiet (fail)
     go_wp2_with fail
     refine zk (v:=.tuple #[Z (0),.bool false]) ?_ rfl ⟨by rw[HA.out];rfl,by have:=hfq.out;exact bZ⟩;simp[results,Tryz.results37,go_sem]
    have HA:=q8 (Yd HXa.out hli (.inl (by rw[←HYe.out])))
    go_wp2_with fail
    go_quiet (fail)
    go_wp2_with fail
    refine zk (v:=.tuple #[Z (0),.bool false]) ?_ rfl ⟨by rw[HA.out];rfl,by have:=hfq.out;exact bZ⟩;simp[results,Tryz.results37,go_sem]
  have hcV:cc<V.length:=hlc;obtain⟨fb,fo,qf,cf,rfl,_,_,_,e3,_,_,_,_,hbl⟩:=Q1 HF.out HB0.out hcV;obtain⟨f,hf⟩:=nZ (V[cc]);rw[←hf]at e3 hbl;have hfm:f∈V:=by rw[hf];exact zP hcV
  have hdD:f.blocks.length<=40:=by rw[hf];exact HSz.out.1 _ (zP hcV)
  have HFe:=q8 hf;have HFm:=q8 hfm;have HBl:=q8 hbl;have ez:=q9 e3;have c0:(0:Int)<=(cc:Int):=by omega
  have c1':(cc:Int)<V.length:=by omega
  clear hf hfm hbl
  go_wp2_with fail
  clear o1
  go_loopg [8,10] f.blocks.length (fun q s8 s10 wr=>∃(m:Nat) (ys:List (Bool×Int)) (pv:Option Addr) (vc:Nat),m<=f.blocks.length/\q=f.blocks.length - m/\s10=Z m/\s8 = .slice pv ys.length vc/\SeenR wq wr pv vc ys/\Hid (ys=xs++(f.blocks.take m).flatMap (seenB k p))/\ys.length<=cc*16000+m*400)
  case atStart=>exact⟨0,xs,pv,vc,by omega,rfl,rfl,rfl,HS.out,q8 (by rw[List.take_zero,List.flatMap_nil,List.append_nil]),by have:=HXl.out;omega⟩
  case round=>
   obtain⟨wm,hwm⟩:=nZ wr;subst hwm;obtain⟨m,ys,pv,vc,hm,rfl,rfl,rfl,hS,HYs,hyl⟩:=hrel;have HS:=q8 hS;have hb:Below wq.heap.size wq wm:=(by obtain⟨_,_,_,h⟩:=hS;exact h);have HBm:=q8 hb;have hzm:=hb.size;have HOm:=q8 ((hb.block _ zx).trans HOq.out);have o1:wm.cell? (J w.heap.size 1)=some (.slice (some (J fb fo)) V.length fc):=(blk HOm.out).1 1;have zo:=qd HOm.out;have e3m:wm.cell? (J fb (fo+cc*4+3))=some (.slice qf f.blocks.length cf):=(hb.cell (p:=(J fb (fo+cc*4+3))) ez).trans e3;have ezm:=q9 e3m;have HYl:=q8 hyl;clear hS hb hyl
   by_cases hlm:m<f.blocks.length
   rotate_left
   ·obtain rfl:m=f.blocks.length:=by omega
    go_wp2_with fail
    go_roundg (V.length - (cc+1))
    case measure=>omega
    case rel=>
     refine⟨cc+1,ys,pv,vc,by omega,rfl,by go_num,rfl,HS.out,q8 ?_,by have:=HYl.out;omega⟩;rw[HYs.out,HXs.out,yP,ZS hcV,HFe.out];rfl
   obtain⟨bb,bo,q1,d1,q2,d2,q3,d3,rfl,_,b1,_,_,_,_,_,_,_,_,_,_,hli,_⟩:=vw HBl.out (zI _ _) hlm;obtain⟨x,hx⟩:=nZ (f.blocks[m]);rw[←hx]at b1 hli;have hxm:x∈f.blocks:=(by rw[hx];exact zP hlm);have hiN:x.list.length<=400:=HSz.out.2 f HFm.out x hxm;have HXe:=q8 hx;have HXm:=q8 hxm;have HLi:=q8 hli;have b1m:wm.cell? (J bb (bo+m*6+1))=some (.slice q2 x.list.length d2):=(HBm.out.cell (p:=(J bb (bo+m*6+1))) (q9 b1)).trans b1;have bz:=q9 b1m;have m0:(0:Int)<=(m:Int):=(by omega);have m1:(m:Int)<f.blocks.length:=(by omega);clear hx hxm hli b1
   go_wp2_with fail
   clear o1 e3m b1m
   go_loopg [8,12] x.list.length (fun q s8 s12 wr=>∃(i:Nat) (zs:List (Bool×Int)) (pv:Option Addr) (vc:Nat),i<=x.list.length/\q=x.list.length - i/\s12=Z i/\s8 = .slice pv zs.length vc/\SeenR wq wr pv vc zs/\Hid (zs=ys++(x.list.take i).flatMap (Xa k p))/\zs.length<=cc*16000+m*400+i)
   case atStart=>exact⟨0,ys,pv,vc,by omega,rfl,rfl,rfl,HS.out,q8 (by rw[List.take_zero,List.flatMap_nil,List.append_nil]),by have:=HYl.out;omega⟩
   case round=>
    obtain⟨wi,hwi⟩:=nZ wr;subst hwi;obtain⟨i,zs,pv,vc,hi,rfl,rfl,rfl,hS,HZs,hzl⟩:=hrel;have HS:=q8 hS;have hb:Below wq.heap.size wq wi:=(by obtain⟨_,_,_,h⟩:=hS;exact h);have HBi:=q8 hb;have hzi:=hb.size;have HZl:=q8 hzl;clear hS hb hzl
    by_cases hli:i<x.list.length
    rotate_left
    ·obtain rfl:i=x.list.length:=by omega
     go_wp2_with fail
     go_roundg (f.blocks.length - (m+1))
     case measure=>omega
     case rel=>
      refine⟨m+1,zs,pv,vc,by omega,rfl,by go_num,rfl,HS.out,q8 ?_,by have:=HZl.out;omega⟩;rw[HZs.out,HYs.out,yP,ZS hlm,yF,HXe.out];rfl
    obtain⟨ib,io,qa,ca,rfl,n0,_,_,_,_,_,n6,n7,_,_,_,_,_,_,hsr⟩:=Zp HLi.out HBi.out hli;obtain⟨y,hy⟩:=nZ (x.list[i]);rw[←hy]at n0 n6 n7 hsr;have hst:(x.list.take (i+1)).flatMap (Xa k p)=(x.list.take i).flatMap (Xa k p)++Xa k p y:=(by rw[hy];exact ZS hli);have hym:y∈x.list:=(by rw[hy];exact zP hli);have HSt:=q8 hst;have HYm:=q8 hym;have HSr:=q8 hsr;have nz:=q9 n0;have i0:(0:Int)<=(i:Int):=(by omega);have i1:(i:Int)<x.list.length:=(by omega);clear hy hst hym hsr
    by_cases h20:y.op=20
    rotate_left
    ·have huj:(y.op == 20)=false:=(by simp[h20]);have HSy:=q8 (Y5 (k:=k) (p:=p) (x:=y) (fun h=>h20 h.1));clear h20
     go_wp2_with fail
     go_roundg (x.list.length - (i+1))
     case measure=>omega
     case rel=>exact⟨i+1,zs,pv,vc,by omega,rfl,by go_num,rfl,HS.out,q8 (by rw[HSt.out,HSy.out,List.append_nil];exact HZs.out),by have:=HZl.out;omega⟩
    have huj:(y.op == 20)=true:=by simp[h20]
    by_cases hfn:y.fn=(k:Int)
    rotate_left
    ·have huk:(y.fn == (k:Int))=false:=(by simp[hfn]);have HSy:=q8 (Y5 (p:=p) (x:=y) (fun h=>hfn h.2));clear h20 hfn
     go_wp2_with fail
     go_roundg (x.list.length - (i+1))
     case measure=>omega
     case rel=>exact⟨i+1,zs,pv,vc,by omega,rfl,by go_num,rfl,HS.out,q8 (by rw[HSt.out,HSy.out,List.append_nil];exact HZs.out),by have:=HZl.out;omega⟩
    have huk:(y.fn == (k:Int))=true:=(by simp[hfn]);have hpl:=hbU.out f HFm.out x HXm.out y HYm.out h20 hfn;have hdp:decide ((p:Int)<y.args.length)=true:=decide_eq_true bO;have HSy:=q8 (seenI_yes (k:=k) (p:=p) ⟨h20,hfn⟩ hpl);obtain⟨ab,ao,rfl,a0,a1,hfk⟩:=Z1 HSr.out (zI _ _) hpl;obtain⟨Y,hY⟩:=nZ (y.args[p]);rw[←hY]at a0 a1 hfk;have HYe:=q8 hY;have hhQ:=q8 hfk;have az:=q9 a0;have p0:(0:Int)<=(p:Int):=(by omega);have p1':(p:Int)<y.args.length:=(by omega);have hsn:∃Sv,SlO 44 2 jV wi (.slice pv zs.length vc) zs Sv/\(∀g,Sv g->wq.heap.size<=g)/\Below wq.heap.size wq wi:=HS.out;obtain⟨Sv,hSv,hLv,hBv⟩:=hsn;have HSv:=q8 hSv;have HLv:=q8 hLv;have HBd:=q8 (seen_bd2 HZl.out hlc hmT hlm hdD hli hiN);clear h20 hfn hY hfk hSv hLv hBv
    go_wp2_with (at_builtin;refine qH _ rfl _ _ 40 rfl 44 iV _ 2 16 Tryz.underlying40 r1 r2 r3 r4 rfl (by decide) zq rfl (HSv.out.below zq ((zI _ wi).alloc (zK _) _)) ⟨wi.heap.size,0,none⟩ 1 [.bool Y.1,Z Y.2] Y rfl rfl ?hn ?ho (T:=fun _=>False) ⟨rfl,hhQ.out⟩ ?ha ?ht ?hm ?hb ?_)
    case hn=>exact zW _ _ _ bV
    case ho=>intro u hu;simp only[yC,yG,yl]at hu;rcases hu with rfl|rfl<;>rfl
    case ha=>exact fun k h1 h2=>h2
    case ht=>exact fun k h=>h.elim
    case hm=>exact(HBd.out).1
    case hb=>exact(HBd.out).2
    intro v' w' hsn;obtain⟨pv',vc',rfl,hS2⟩:=SeenR.snoc HLv.out HBi.out hsn;have HS2:=q8 hS2;clear hsn hS2
    go_wp2_with fail
    go_roundg (x.list.length - (i+1))
    case measure=>omega
    case rel=>exact⟨i+1,zs++[Y],pv',vc',by omega,rfl,by go_num,rfl,HS2.out,q8 (by rw[HSt.out,HSy.out,←HYe.out,←yF,←HZs.out]),by rw[yN];exact Nat.succ_le_succ HZl.out⟩

theorem ZX {α:Type} {P:Program} {R:List Value->α->Prop} {RO:ElemO α} {w:World} {ops:Array Oper} {rest:List Oper} {o:Oper} {a:Act} {Q:Exit->Act->World->Prop} (hgd:o.guard=none) (s x:Operand) (t:TypeId)
  (ho:o.op = .call { callee:=.builtin .append,args:=#[s,x],argTypes:=#[t,t] }) (hs:a.eval s = .slice none 0 0)
  (e:TypeId) (i:TypeInfo) (z:Value) (size bytes:Nat) (ht:P.underlying t=some (.slice e)) (hi:P.info? e=some i) (hz:i.zero=some z) (hsize:i.size=size) (hby:i.bytes=bytes) (hzs:z.cells.size=size) (hsz:0<size)
  (xs:List α) (csf:Nat->List Value) (hlen:∀i,i<xs.length->(csf i).length=size) (hone:∀i,i<xs.length->∀u∈csf i,u.oneCell'=true) (hcs:∀i (hi:i<xs.length) c,R c xs[i]->c=csf i) (hro:∀w i (hi:i<xs.length),R (csf i) xs[i]->RO w (csf i) xs[i] fun _=>False)
  (p:Option Addr) (c:Nat) (hx:a.eval x = .slice p xs.length c) (h:SliceAt w size R p xs) (hp:p=none->xs.length=0/\c=0) (hl:xs.length*bytes<=reachBytes) (hm:xs.length<=maxLen)
  (hk:∀p' c' w',(∃S,SlQ e size bytes RO w' (.slice p' xs.length c') xs S/\LoB w.heap.size S)->Below w.heap.size w w'->wpList P ops Q rest (a.put o.dst (.slice p' xs.length c')) w'):wpList P ops Q (o::rest) a w:=by
 rcases p with _|ad
 ·obtain⟨h0,rfl⟩:=hp rfl;obtain rfl:=yd.1 h0;exact wpList_append_own_none hgd s x t ho 0 e i size ht hi (.slice none 0 0) 0 [] hs (World.ownsRow_nil _ _ _ _) hx (hk none 0 w ⟨fun _=>False,⟨SlO.nil _ _ _ _ (fun _ h=>h.elim),by simp⟩,fun _ h=>h.elim⟩ (zI _ _))
 refine wpList_append_own w hgd s x t ho w.heap.size e i z size bytes ht hi hz hsize hby hzs hsz (.slice none 0 0) 0 [] hs (World.ownsRow_nil _ _ _ _) ad xs.length c ((List.range xs.length).flatMap csf) hx (zR _ hlen) (QO h hsz hlen hcs) (ji fun i hi=>hone i hi) bO (by rw[yx];unfold reachBytes at hl;omega) (zK _) fun v' w' hown hg _=>?_
 have hval:∃p' c',v' = .slice p' xs.length c':=by
  rcases hown.2 with⟨h1,h2⟩|⟨g,cap,cur,h1,_⟩
  ·exact⟨none,0,by rw[h1,show xs.length=0 by omega]⟩
  exact⟨some (J g 0),cap,by rw[h1];congr 1;omega⟩
 obtain⟨p',c',rfl⟩:=hval;rw[yx,List.nil_append]at hown
 have hel:∀i (hi:i<xs.length),R (csf i) xs[i]:=fun i hi=>by
  rcases h with rfl|⟨b,o,_,h⟩
  ·simp at hi
  obtain⟨cs,_,_,hr⟩:=h i hi;rw[←hcs i hi cs hr];exact hr
 exact hk p' c' w' ⟨_,⟨SlO.flat (base:=w.heap.size) (cs:=csf) hown hlen hone (fun i hi=>hro _ i hi (hel i hi)),hl⟩,fun k hk=>(hown.lt k hk).1⟩ (Below.grown (zI _ _) hg (zK _) (fun b e=>by cases e))
theorem valCs_eq {xs:List (Bool×Int)} {i:Nat} (hi:i<xs.length) {c:List Value} (h:kc c xs[i]):c=Qn xs i:=by
 obtain⟨e,_⟩:=h;rw[e];unfold Qn;simp[List.getD,hi]
theorem intCs_eq {xs:List Int} {i:Nat} (hi:i<xs.length) {c:List Value} (h:jM c xs[i]):c=Zt xs i:=by
 obtain⟨e,_⟩:=h;rw[e];unfold Zt;simp[List.getD,hi]
theorem ky {w:World} {ops:Array Oper} {rest:List Oper} {o:Oper} {a:Act} {Q:Exit->Act->World->Prop} (hgd:o.guard=none) (s x:Operand)
  (ho:o.op = .call { callee:=.builtin .append,args:=#[s,x],argTypes:=#[40,40] }) (hs:a.eval s = .slice none 0 0) (xs:List (Bool×Int))
  (p:Option Addr) (c:Nat) (hx:a.eval x = .slice p xs.length c) (h:SliceAt w 2 kc p xs) (hp:p=none->xs.length=0/\c=0) (hl:xs.length*16<=reachBytes)
  (hk:∀p' c' w',(∃S,SlQ 44 2 16 jV w' (.slice p' xs.length c') xs S/\LoB w.heap.size S)->Below w.heap.size w w'->wpList Tryz.prog ops Q rest (a.put o.dst (.slice p' xs.length c')) w'):wpList Tryz.prog ops Q (o::rest) a w:=by
 obtain⟨i1,k1,k2,k3,k4⟩:=info_parts vU;exact ZX (R:=kc) hgd s x _ ho hs 44 i1 _ 2 16 Tryz.underlying40 k1 k2 k3 k4 rfl (by decide) xs (Qn xs) (fun _ _=>rfl) (fun i _=>XL xs i) (fun i hi c h=>valCs_eq hi h) (fun _ _ _ h=>h) p c hx h hp hl (by unfold reachBytes at hl;unfold maxLen;omega) hk
theorem kB {w:World} {ops:Array Oper} {rest:List Oper} {o:Oper} {a:Act} {Q:Exit->Act->World->Prop} (hgd:o.guard=none) (s x:Operand)
  (ho:o.op = .call { callee:=.builtin .append,args:=#[s,x],argTypes:=#[45,45] }) (hs:a.eval s = .slice none 0 0) (xs:List Int)
  (p:Option Addr) (c:Nat) (hx:a.eval x = .slice p xs.length c) (h:SliceAt w 1 jM p xs) (hp:p=none->xs.length=0/\c=0) (hl:xs.length*8<=reachBytes)
  (hk:∀p' c' w',(∃S,SlQ 3 1 8 IntO w' (.slice p' xs.length c') xs S/\LoB w.heap.size S)->Below w.heap.size w w'->wpList Tryz.prog ops Q rest (a.put o.dst (.slice p' xs.length c')) w'):wpList Tryz.prog ops Q (o::rest) a w:=by
 obtain⟨i1,k1,k2,k3,k4⟩:=info_parts Ks;exact ZX (R:=jM) hgd s x _ ho hs 3 i1 _ 1 8 Tryz.underlying45 k1 k2 k3 k4 rfl (by decide) xs (Zt xs) (fun _ _=>rfl) (fun i _=>VD xs i) (fun i hi c h=>intCs_eq hi h) (fun _ _ _ h=>h) p c hx h hp hl (by unfold reachBytes at hl;unfold maxLen;omega) hk

theorem Vk (b:BlkL) (q1 q2 q3:Option Addr) (e1 e2 e3:Nat) (w:World) (hn:SlF w 2 32 (PhiR w) (.slice q1 b.phis.length e1) b.phis) (hI:SlF w 8 80 (InsR w) (.slice q2 b.list.length e2) b.list) (hT:SlF w 1 8 jM (.slice q3 b.fin.to.length e3) b.fin.to) (i1:I64 b.fin.kind) (i2:I64 b.fin.onn) :
  Calls Tryz.prog 69 #[.agg #[.slice q1 b.phis.length e1,.slice q2 b.list.length e2,Z b.fin.kind,.bool b.fin.onr,Z b.fin.onn,.slice q3 b.fin.to.length e3]] w fun e w'=>(∃p1 c1 p2 c2 p3 c3,e = .returned (.agg #[.slice p1 b.phis.length c1,.slice p2 b.list.length c2,Z b.fin.kind,.bool b.fin.onr,Z b.fin.onn,.slice p3 b.fin.to.length c3])/\
   ∃S,BlkO w' [.slice p1 b.phis.length c1,.slice p2 b.list.length c2,Z b.fin.kind,.bool b.fin.onr,Z b.fin.onn,.slice p3 b.fin.to.length c3] b S/\LoB w.heap.size S)/\Below w.heap.size w w':=by
 obtain⟨iP,k1,k2,k3,k4⟩:=info_parts XM;obtain⟨iI,l1,l2,l3,l4⟩:=info_parts v6;have hlp:b.phis.length*32<=140737488351232:=hn.bdC;have hli:b.list.length*80<=140737488351232:=hI.bdC;have HBd:=q8 (zh hn.bdC (zh hI.bdC hT.bdC));have hnp:SliceAt w 2 (PhiR w) q1 b.phis:=by obtain⟨_,_,e,_,_,h⟩:=hn.outC;cases e;exact h
 have hni:SliceAt w 8 (InsR w) q2 b.list:=by obtain⟨_,_,e,_,_,h⟩:=hI.outC;cases e;exact h
 obtain⟨q3',e3',hq3,hqn,_,hqs⟩:=hT.outC;cases hq3;have HN:=q8 hnp;have HI:=q8 hni;have HT:=q8 (zh hqn hqs);have HI1:=q8 i1;have HI2:=q8 i2;clear hn hI hT i1 i2 hnp hni hqn hqs
 go_enter Tryz.func69,Tryz.ntmps69
 go_wp2_with (at_builtin;refine kB rfl _ _ rfl rfl b.fin.to q3 e3 rfl ?hsl HT.out.1 HBd.out.2.2 ?_)
 case hsl=>exact HT.out.2.mono bZ bO fun _ _ g=>g
 intro p3 c3 w3 S3 hS3 hL3 hb3;have hz3:w.heap.size+1+1+1<=w3.heap.size:=by have:=hb3.size;simpa using this
 have hB3:Below w.heap.size w w3:=yo bZ (hb3.mono (by first|omega|(simp;omega)|simp));have hP3:=qg hb3 (k:=w.heap.size) (by first|omega|(simp;omega)|simp) (qh (qh (qr (w:=w) (o:=.cells #[.slice q1 b.phis.length e1,.slice q2 b.list.length e2,Z b.fin.kind,.bool b.fin.onr,Z b.fin.onn,.slice q3 b.fin.to.length e3] 49) rfl)));have hZ3:=qg hb3 (k:=w.heap.size+1) (by first|omega|(simp;omega)|simp) (qh (qr (w:=w.alloc (.cells #[.slice q1 b.phis.length e1,.slice q2 b.list.length e2,Z b.fin.kind,.bool b.fin.onr,Z b.fin.onn,.slice q3 b.fin.to.length e3] 49)) (o:=.cells #[.slice none 0 0,.slice none 0 0,Z 0,.bool false,Z 0,.slice none 0 0] 49) bV));have hO3:=qg hb3 (k:=w.heap.size+1+1) (by first|omega|(simp;omega)|simp) (qr (w:=(w.alloc (.cells #[.slice q1 b.phis.length e1,.slice q2 b.list.length e2,Z b.fin.kind,.bool b.fin.onr,Z b.fin.onn,.slice q3 b.fin.to.length e3] 49)).alloc (.cells #[.slice none 0 0,.slice none 0 0,Z 0,.bool false,Z 0,.slice none 0 0] 49)) (o:=.cells #[.slice none 0 0,.slice none 0 0,Z b.fin.kind,.bool b.fin.onr,Z b.fin.onn,.slice q3 b.fin.to.length e3] 49) bV);have o5:w3.cell? (J (w.heap.size+1+1) 5)=some (.slice q3 b.fin.to.length e3):=(blk hO3).1 5;have of:=(blk hO3).2;have oz:=qd hO3;have pc:w3.cell? (J w.heap.size 0)=some (.slice q1 b.phis.length e1):=(blk hP3).1 0;have pz:=qd hP3;have HL3:Hid (∀k,S3 k->w.heap.size+1+1+1<=k):=q8 fun k h=>by have:=hL3 k h;simpa using this
 have HB3:=q8 hB3;have HP3:=q8 hP3;have HZ3:=q8 hZ3;have HO3:=q8 hO3;have hqD:=q8 hS3;clear hS3 hL3 hb3 hB3 hP3 hZ3 hO3;have hwE:¬ w.heap.size=w.heap.size+1+1:=by omega
 go_wp2_with fail
 obtain⟨W0,hW0⟩:=nZ (w3.setCell (J (w.heap.size+1+1) 5) (.slice p3 b.fin.to.length c3));rw[←hW0];have hz0:W0.heap.size=w3.heap.size:=by rw[hW0,yK]
 have hjN:∀k,k≠w.heap.size+1+1->W0.heap[k]?=w3.heap[k]?:=fun k hk=>by rw[hW0];exact zJ _ ⟨w.heap.size+1+1,5,none⟩ _ k hk
 have hmU:Hid (Below w.heap.size w W0):=q8 (by rw[hW0];exact HB3.out.setCell (by show w.heap.size<=w.heap.size+1+1;omega) _);have HO:Hid (W0.heap[w.heap.size+1+1]?=some (.cells #[.slice none 0 0,.slice none 0 0,Z b.fin.kind,.bool b.fin.onr,Z b.fin.onn,.slice p3 b.fin.to.length c3] 49 (0,0))):=q8 (by rw[hW0,qj HO3.out 5 _];rfl);have hdq:=q8 ((hjN w.heap.size bO).trans HP3.out);have HZ:=q8 ((hjN (w.heap.size+1) bO).trans HZ3.out);have HS3:=q8 (SlQ.loc xk hqD.out (fun _ h=>h) (fun k hk=>hjN k (fun e=>by have:=HL3.out k hk;omega)) bO);clear hW0 hjN o5 of oz pc pz HP3 HZ3 HO3 hqD
 go_loopw [4] (fun i wr=>∃(k:Nat) (v:Value),k<=b.phis.length/\i=Z k/\(∃S,SlO 84 2 PhiO wr v (b.phis.take k) S/\LoB W0.heap.size S)/\wr.heap[w.heap.size+1+1]?=some (.cells #[v,.slice none 0 0,Z b.fin.kind,.bool b.fin.onr,Z b.fin.onn,.slice p3 b.fin.to.length c3] 49 (0,0))/\Kept (fun k=>k=w.heap.size+1+1) W0 wr) (fun i _=>b.phis.length - (intOf i).toNat)
 case atStart=>exact⟨0,.slice none 0 0,by omega,rfl,⟨fun _=>False,SlO.nil _ _ _ _ (fun _ h=>h.elim),fun _ h=>h.elim⟩,HO.out,Kept.refl _ _⟩
 case round=>
  obtain⟨k,v,hk,rfl,⟨S,hO,hL⟩,hA,hK⟩:=hrel;obtain⟨p,c,hv,_⟩:=hO.val;rw[List.length_take_of_le hk]at hv;subst hv;have HO:=q8 hO;have HL:=q8 hL;have HK:=q8 hK;have HA1:=q8 hA;have hsz:=hK.size;have HBw:Hid (Below w.heap.size w wr):=hmU.out.trans (hK.below bO (fun _ e=>by omega));have hPa:=(HK.out.block w.heap.size bO bO).trans hdq.out;have pc:wr.cell? (J w.heap.size 0)=some (.slice q1 b.phis.length e1):=(blk hPa).1 0;have pz:=qd hPa;clear hO hL hK hA hPa
  by_cases hlt:k<b.phis.length
  ·obtain⟨bp,op,cs,hp,_,hc,pv,rfl,hd,hs⟩:=HN.out.get hlt;subst hp;obtain⟨qi,di,rfl,hq0,_,hql,hqs⟩:=hs;have hc0:=hc 0 bO;have hc1:=hc 1 bO;have hbp:=q9 hc0;have x0:=(HBw.out.cell (p:=(J bp _)) hbp).trans hc0;have x1:=(HBw.out.cell (p:=(J bp _)) hbp).trans hc1;simp only[zB,zD,yJ]at x0 x1;have HQ:=q8 (zh hq0 (zh hql hqs));have HD:=q8 hd;clear hc hc0 hc1 hq0 hql hqs hd;have hoz:=qd HA1.out;have g1:(0:Int)<=(k:Int):=(by omega);have g2:(k:Int)<b.phis.length:=by omega
   go_wp2_with (at_builtin;refine ky rfl _ _ rfl rfl b.phis[k].src qi di rfl ?hsl HQ.out.1 HQ.out.2.1 ?_)
   case hsl=>exact HQ.out.2.2.mono (HBw.out.trans bZ) bO fun _ _ g=>g
   intro p' c' w5 S2 hS2 hL2 hb5;have hr5:Below wr.heap.size wr w5:=yo bZ (hb5.mono bV);have hu:=qg hb5 (k:=wr.heap.size) bV (qB wr _);obtain⟨hu0,hu1⟩:=blk hu;have zu:=(yL.1 hu).1;have hA5:=qg hr5 (k:=w.heap.size+1+1) hoz HA1.out;have ho0:w5.cell? (J (w.heap.size+1+1) 0)=some (.slice p k c):=(blk hA5).1 0;have hof:=(blk hA5).2;have zo:=qd hA5;have HA5:=q8 hA5;have hL2':∀k,S2 k->wr.heap.size+1<=k:=fun k h=>by have:=hL2 k h;simpa using this
   have HS2:=q8 hS2;have HL2:=q8 hL2';have HR5:=q8 hr5;have hgM:=hr5.size;have hne:w.heap.size+1+1≠wr.heap.size:=(by omega);have hN5:¬ S wr.heap.size:=fun h=>by have:=HO.out.inb _ h;omega
   have hN2:¬ S2 wr.heap.size:=fun h=>by have:=HL2.out _ h;omega
   have HO5:=q8 ((HO.out.below x8 HR5.out).set_alloc x8 (n:=wr.heap.size) (j:=1) hN5 (.slice p' b.phis[k].src.length c') (.cells #[Z b.phis[k].dst,.slice p' b.phis[k].src.length c'] 84));have HS5:=q8 (HS2.out.set_alloc zq (n:=wr.heap.size) (j:=1) hN2 (.slice p' b.phis[k].src.length c') (.cells #[Z b.phis[k].dst,.slice p' b.phis[k].src.length c'] 84))
   have HA8:=q8 (show((w5.setCell (J wr.heap.size 1) (.slice p' b.phis[k].src.length c')).alloc (.cells #[Z b.phis[k].dst,.slice p' b.phis[k].src.length c'] 84)).heap[w.heap.size+1+1]?=some (.cells #[.slice p k c,.slice none 0 0,Z b.fin.kind,.bool b.fin.onr,Z b.fin.onn,.slice p3 b.fin.to.length c3] 49 (0,0)) from
    qh ((zJ w5 ⟨wr.heap.size,1,none⟩ _ (w.heap.size+1+1) hne).trans HA5.out))
   clear hb5 hr5 hu hS2 hL2 hL2' hA5 hN5 hN2
   go_wp2_with (at_builtin;refine qH _ rfl _ _ 41 rfl 84 iP _ 2 32 Tryz.underlying41 k1 k2 k3 k4 rfl (by decide) x8 rfl HO5.out ⟨w5.heap.size,0,none⟩ 1 [Z b.phis[k].dst,.slice p' b.phis[k].src.length c'] b.phis[k] rfl rfl ?hn ?ho (T:=S2) ⟨_,rfl,HD.out,HS5.out⟩ ?ha ?ht ?hm ?hb ?_)
   case hn=>exact zW _ _ _ (by simp[World.setCell])
   case ho=>intro u hu;simp only[yC,yG,yl]at hu;rcases hu with rfl|rfl<;>rfl
   case ha=>exact fun k h1 h2=>by have:=HO.out.inb k h1;have:=HL2.out k h2;omega
   case ht=>exact HS2.out.sl.inb.set_alloc _ _ _
   case hm=>unfold maxLen;simp;omega
   case hb=>simp;omega
   intro v2 w8 ⟨S',hO8,hsub,hK8⟩;obtain⟨pv,cv,hv2,_⟩:=hO8.val;have hv3:v2 = .slice pv (k+1) cv:=(by rw[hv2];congr 1;simp;omega);clear hv2;subst hv3;have hSn:∀i,i<W0.heap.size->¬ S i:=fun i hi h=>by have:=HL.out i h;omega
   have hA9:=(hK8.block (w.heap.size+1+1) (qd HA8.out) (hSn _ bO)).trans HA8.out;have ho0:w8.cell? (J (w.heap.size+1+1) 0)=some (.slice p k c):=(blk hA9).1 0;have hof:=(blk hA9).2;have zo:=qd hA9
   have hrel:(∃S,SlO 84 2 PhiO (w8.setCell (J (w.heap.size+1+1) 0) (.slice pv (k+1) cv)) (.slice pv (k+1) cv) (b.phis.take (k+1)) S/\LoB W0.heap.size S)/\(w8.setCell (J (w.heap.size+1+1) 0) (.slice pv (k+1) cv)).heap[w.heap.size+1+1]?=some (.cells #[.slice pv (k+1) cv,.slice none 0 0,Z b.fin.kind,.bool b.fin.onr,Z b.fin.onn,.slice p3 b.fin.to.length c3] 49 (0,0))/\Kept (fun k=>k=w.heap.size+1+1) W0 (w8.setCell (J (w.heap.size+1+1) 0) (.slice pv (k+1) cv)):=by
    have hlo:LoB W0.heap.size S':=fun i hi=>by
     rcases hsub i hi with h|h|h
     ·exact HL.out i h
     ·have:=HL2.out i h;omega
     simp[World.setCell]at h;omega
    refine⟨⟨S',?_,hlo⟩,?_,?_⟩
    ·have hO9:SlO 84 2 PhiO w8 (.slice pv (k+1) cv) (b.phis.take (k+1)) S':=by first|exact hO8|(rw[yA hlt];exact hO8)
     exact hO9.loc x8 (fun i hi=>zJ _ _ _ _ (fun e=>by have:=hlo i hi;have e2:i=w.heap.size+1+1:=e;omega)) (by simp[World.setCell])
    ·rw[qj hA9 0 _];rfl
    have kA:Kept (fun k=>k=w.heap.size+1+1) W0 ((w5.setCell (J wr.heap.size 1) (.slice p' b.phis[k].src.length c')).alloc (.cells #[Z b.phis[k].dst,.slice p' b.phis[k].src.length c'] 84)):=HK.out.trans (Kept.of_below (S:=fun _=>False) ((HR5.out.setCell bV _).alloc (by simp[World.setCell];omega) _)) (fun _ _ h=>h.elim);exact(kA.trans hK8 (fun i hi h=>absurd h (hSn i hi))).setCell rfl _
   have ha7:=q8 hrel;clear hA9 hO8 hsub hK8 hrel
   go_wp2_with fail
   exact⟨⟨k+1,.slice pv (k+1) cv,by omega,by go_num,ha7.out.1,ha7.out.2.1,ha7.out.2.2⟩,by simp[intOf];omega⟩
  obtain rfl:k=b.phis.length:=by omega
  rw[yP]at HO;obtain⟨W1,hW1⟩:=nZ wr;obtain⟨S1,hS1⟩:=nZ S;obtain⟨p5,hp5⟩:=nZ p;obtain⟨c5,hc5⟩:=nZ c;rw[←hp5,←hc5]at HO HA1;clear hp5 hc5;obtain⟨vA,hvA⟩:=nZ (Value.slice p5 b.phis.length c5);have hiO:=q8 HBw.out;have hbH:=q8 ((HK.out.block w.heap.size bO bO).trans hdq.out);have HOp:=q8 HO.out;have HLp:=q8 HL.out;have HK1:=q8 HK.out;have HA2:=q8 HA1.out;have pc2:wr.cell? (J w.heap.size 1)=some (.slice q2 b.list.length e2):=(blk hbH.out).1 1;rw[←hS1]at HOp HLp
  go_wp2_with fail
  rw[←hW1];rw[←hW1]at hiO hbH HOp HK1 HA2 hsz;rw[←hvA]at HA2;clear pc2 pc pz HBw HO HL HK HA1 hW1 hS1
  go_loopw [6] (fun i wr=>∃(k:Nat) (v:Value),k<=b.list.length/\i=Z k/\(∃S,SlO 51 8 InsO wr v (b.list.take k) S/\LoB W1.heap.size S)/\wr.heap[w.heap.size+1+1]?=some (.cells #[vA,v,Z b.fin.kind,.bool b.fin.onr,Z b.fin.onn,.slice p3 b.fin.to.length c3] 49 (0,0))/\Kept (fun k=>k=w.heap.size+1+1) W1 wr) (fun i _=>b.list.length - (intOf i).toNat)
  case atStart=>exact⟨0,.slice none 0 0,by omega,rfl,⟨fun _=>False,SlO.nil _ _ _ _ (fun _ h=>h.elim),fun _ h=>h.elim⟩,HA2.out,Kept.refl _ _⟩
  case round=>
   obtain⟨k,v,hk,rfl,⟨S,hO,hL⟩,hA,hK⟩:=hrel;obtain⟨p,c,hv,_⟩:=hO.val;rw[List.length_take_of_le hk]at hv;subst hv;have HO:=q8 hO;have HL:=q8 hL;have HK:=q8 hK;have HA1:=q8 hA;have hsz:=hK.size;have HBw:Hid (Below w.heap.size w wr):=hiO.out.trans (hK.below bO (fun _ e=>by omega));have hPa:=(HK.out.block w.heap.size bO bO).trans hbH.out;have pc:wr.cell? (J w.heap.size 1)=some (.slice q2 b.list.length e2):=(blk hPa).1 1;have pz:=qd hPa;clear hO hL hK hA hPa
   by_cases hlt:k<b.list.length
   rotate_left
   ·obtain rfl:k=b.list.length:=(by omega);rw[yP]at HO;subst hvA;have hOf:=HA1.out;have r0:wr.cell? (J (w.heap.size+1+1) 0)=some (.slice p5 b.phis.length c5):=(blk hOf).1 0;have r1:wr.cell? (J (w.heap.size+1+1) 1)=some (.slice p b.list.length c):=(blk hOf).1 1;have r2:wr.cell? (J (w.heap.size+1+1) 2)=some (Z b.fin.kind):=(blk hOf).1 2;have r3:wr.cell? (J (w.heap.size+1+1) 3)=some (.bool b.fin.onr):=(blk hOf).1 3;have r4:wr.cell? (J (w.heap.size+1+1) 4)=some (Z b.fin.onn):=(blk hOf).1 4;have r5:wr.cell? (J (w.heap.size+1+1) 5)=some (.slice p3 b.fin.to.length c3):=(blk hOf).1 5;have hZ:=(HK.out.block (w.heap.size+1) bO bO).trans ((HK1.out.block (w.heap.size+1) bO bO).trans HZ.out);have rf:=(blk hZ).2;have rz:=fun j=>(blk hZ).1 j;have rl:=qd hZ;have z0:wr.cell? (J (w.heap.size+1) 0)=some (.slice none 0 0):=rz 0;have z1:wr.cell? (J (w.heap.size+1) 1)=some (.slice none 0 0):=rz 1;have z2:wr.cell? (J (w.heap.size+1) 2)=some (Z 0):=rz 2;have z3:wr.cell? (J (w.heap.size+1) 3)=some (.bool false):=rz 3;have z4:wr.cell? (J (w.heap.size+1) 4)=some (Z 0):=rz 4;have z5:wr.cell? (J (w.heap.size+1) 5)=some (.slice none 0 0):=rz 5;clear rz
    go_wp2_with fail
    obtain⟨WF,hWF⟩:=nZ ((((((wr.setCell (J (w.heap.size+1) 0) (.slice p5 b.phis.length c5)).setCell (J (w.heap.size+1) 1) (.slice p b.list.length c)).setCell (J (w.heap.size+1) 2) (Z b.fin.kind)).setCell (J (w.heap.size+1) 3) (.bool b.fin.onr)).setCell (J (w.heap.size+1) 4) (Z b.fin.onn)).setCell (J (w.heap.size+1) 5) (.slice p3 b.fin.to.length c3));rw[←hWF]
    have hF1:WF.heap[w.heap.size+1]?=some (.cells #[.slice p5 b.phis.length c5,.slice p b.list.length c,Z b.fin.kind,.bool b.fin.onr,Z b.fin.onn,.slice p3 b.fin.to.length c3] 49 (0,0)):=by
     rw[hWF,qj (qj (qj (qj (qj (qj hZ 0 _) 1 _) 2 _) 3 _) 4 _) 5 _];rfl
    have hFo:∀k,k≠w.heap.size+1->WF.heap[k]?=wr.heap[k]?:=fun k h1=>by
     rw[hWF]
     repeat rw[zJ _ _ _ _ (by assumption)]
    have hFs:WF.heap.size=wr.heap.size:=by rw[hWF];simp[World.setCell]
    have hFb:Below w.heap.size w WF:=by
     rw[hWF];exact(((((HBw.out.setCell bV _).setCell bV _).setCell bV _).setCell bV _).setCell bV _).setCell bV _
    clear hWF;have k0:=(blk hF1).1 0;have k1':=(blk hF1).1 1;have k2':=(blk hF1).1 2;have k3':=(blk hF1).1 3;have k4':=(blk hF1).1 4;have k5':=(blk hF1).1 5;have hOp:=(HOp.out.kept x8 HK.out (fun i e hi=>by have:=HLp.out i hi;omega)).loc (w':=WF) x8 (fun i hi=>hFo i (fun e=>by have:=HLp.out i hi;omega)) bO;have hOl:=HO.out.loc (w':=WF) qT (fun i hi=>hFo i (fun e=>by have:=HL.out i hi;omega)) bO;have hO3:=((HS3.out.sl.kept xk HK1.out (fun i e hi=>by have:=HS3.out.sl.inb i hi;have:=HL3.out i hi;omega)).kept xk HK.out (fun i e hi=>by have:=HL3.out i hi;omega)).loc (w':=WF) xk (fun i hi=>hFo i (fun e=>by have:=HL3.out i hi;omega)) bO;refine zk (v:=.agg #[.slice p5 b.phis.length c5,.slice p b.list.length c,Z b.fin.kind,.bool b.fin.onr,Z b.fin.onn,.slice p3 b.fin.to.length c3]) ?_ rfl ⟨⟨p5,c5,p,c,p3,c3,rfl,fun k=>S1 k\/S k\/S3 k,⟨_,_,_,S1,S,S3,rfl,HI1.out,HI2.out,⟨hOp,HBd.out.1⟩,⟨hOl,HBd.out.2.1⟩,⟨hO3,HBd.out.2.2⟩,fun k x y=>?_,fun k x y=>?_,fun k x y=>?_,fun _ h=>.inl h,fun _ h=>.inr (.inl h),fun _ h=>.inr (.inr h)⟩,fun i hi=>?_⟩,hFb⟩
    ·simp[results,Tryz.results69,go_sem,k0,k1',k2',k3',k4',k5']
    ·have:=HOp.out.inb k x;have:=HL.out k y;omega
    ·have:=HLp.out k x;have:=HS3.out.sl.inb k y;omega
    ·have:=HL.out k x;have:=HS3.out.sl.inb k y;omega
    rcases hi with h|h|h
    ·have:=HLp.out i h;omega
    ·have:=HL.out i h;omega
    have:=HL3.out i h;omega
   obtain⟨bp,op,cs,hp,_,hc,pv,rfl,hd1,hd2,hd3,hd4,hd5,hs⟩:=HI.out.get hlt;subst hp;obtain⟨qi,di,rfl,hq0,_,hql,hqs⟩:=hs;have hc0:=hc 0 bO;have hc1:=hc 1 bO;have hc2:=hc 2 bO;have hc3:=hc 3 bO;have hc4:=hc 4 bO;have hc5:=hc 5 bO;have hc6:=hc 6 bO;have hc7:=hc 7 bO;have hbp:=q9 hc0;have x0:=(HBw.out.cell (p:=(J bp _)) hbp).trans hc0;have x1:=(HBw.out.cell (p:=(J bp _)) hbp).trans hc1;have x2:=(HBw.out.cell (p:=(J bp _)) hbp).trans hc2;have x3:=(HBw.out.cell (p:=(J bp _)) hbp).trans hc3;have x4:=(HBw.out.cell (p:=(J bp _)) hbp).trans hc4;have x5:=(HBw.out.cell (p:=(J bp _)) hbp).trans hc5;have x6:=(HBw.out.cell (p:=(J bp _)) hbp).trans hc6;have x7:=(HBw.out.cell (p:=(J bp _)) hbp).trans hc7;simp only[zB,zD,yJ]at x0 x1 x2 x3 x4 x5 x6 x7;have HQ:=q8 (zh hq0 (zh hql hqs));have HD:=q8 (zh hd1 (zh hd2 (zh hd3 (zh hd4 hd5))));clear hc hc0 hc1 hc2 hc3 hc4 hc5 hc6 hc7 hq0 hql hqs hd1 hd2 hd3 hd4 hd5;have hoz:=qd HA1.out;have g1:(0:Int)<=(k:Int):=(by omega);have g2:(k:Int)<b.list.length:=by omega
   go_wp2_with (at_builtin;refine ky rfl _ _ rfl rfl b.list[k].args qi di rfl ?hsl HQ.out.1 HQ.out.2.1 ?_)
   case hsl=>exact HQ.out.2.2.mono (HBw.out.trans bZ) bO fun _ _ g=>g
   intro p' c' w5 S2 hS2 hL2 hb5;have hr5:Below wr.heap.size wr w5:=yo bZ (hb5.mono bV);have hu:=qg hb5 (k:=wr.heap.size) bV (qB wr _);obtain⟨hu0,hu1⟩:=blk hu;have zu:=(yL.1 hu).1;have hA5:=qg hr5 (k:=w.heap.size+1+1) hoz HA1.out;have ho0:w5.cell? (J (w.heap.size+1+1) 1)=some (.slice p k c):=(blk hA5).1 1;have hof:=(blk hA5).2;have zo:=qd hA5;have HA5:=q8 hA5;have hL2':∀k,S2 k->wr.heap.size+1<=k:=fun k h=>by have:=hL2 k h;simpa using this
   have HS2:=q8 hS2;have HL2:=q8 hL2';have HR5:=q8 hr5;have hgM:=hr5.size;have hne:w.heap.size+1+1≠wr.heap.size:=(by omega);have hN5:¬ S wr.heap.size:=fun h=>by have:=HO.out.inb _ h;omega
   have hN2:¬ S2 wr.heap.size:=fun h=>by have:=HL2.out _ h;omega
   have HO5:=q8 ((HO.out.below qT HR5.out).set_alloc qT (n:=wr.heap.size) (j:=7) hN5 (.slice p' b.list[k].args.length c') (.cells #[Z b.list[k].op,Z b.list[k].dst,.bool b.list[k].ar,Z b.list[k].an,.bool b.list[k].br,Z b.list[k].bn,Z b.list[k].fn,.slice p' b.list[k].args.length c'] 51));have HS5:=q8 (HS2.out.set_alloc zq (n:=wr.heap.size) (j:=7) hN2 (.slice p' b.list[k].args.length c') (.cells #[Z b.list[k].op,Z b.list[k].dst,.bool b.list[k].ar,Z b.list[k].an,.bool b.list[k].br,Z b.list[k].bn,Z b.list[k].fn,.slice p' b.list[k].args.length c'] 51))
   have HA8:=q8 (show((w5.setCell (J wr.heap.size 7) (.slice p' b.list[k].args.length c')).alloc (.cells #[Z b.list[k].op,Z b.list[k].dst,.bool b.list[k].ar,Z b.list[k].an,.bool b.list[k].br,Z b.list[k].bn,Z b.list[k].fn,.slice p' b.list[k].args.length c'] 51)).heap[w.heap.size+1+1]?=some (.cells #[vA,.slice p k c,Z b.fin.kind,.bool b.fin.onr,Z b.fin.onn,.slice p3 b.fin.to.length c3] 49 (0,0)) from
    qh ((zJ w5 ⟨wr.heap.size,7,none⟩ _ (w.heap.size+1+1) hne).trans HA5.out))
   clear hb5 hr5 hu hS2 hL2 hL2' hA5 hN5 hN2
   go_wp2_with (at_builtin;refine qH _ rfl _ _ 42 rfl 51 iI _ 8 80 Tryz.underlying42 l1 l2 l3 l4 rfl (by decide) qT rfl HO5.out ⟨w5.heap.size,0,none⟩ 1 [Z b.list[k].op,Z b.list[k].dst,.bool b.list[k].ar,Z b.list[k].an,.bool b.list[k].br,Z b.list[k].bn,Z b.list[k].fn,.slice p' b.list[k].args.length c'] b.list[k] rfl rfl ?hn ?ho (T:=S2) ⟨_,rfl,HD.out.1,HD.out.2.1,HD.out.2.2.1,HD.out.2.2.2.1,HD.out.2.2.2.2,HS5.out⟩ ?ha ?ht ?hm ?hb ?_)
   case hn=>exact zW _ _ _ (by simp[World.setCell])
   case ho=>intro u hu;simp only[yC,yG,yl]at hu;rcases hu with rfl|rfl|rfl|rfl|rfl|rfl|rfl|rfl<;>rfl
   case ha=>exact fun k h1 h2=>by have:=HO.out.inb k h1;have:=HL2.out k h2;omega
   case ht=>exact HS2.out.sl.inb.set_alloc _ _ _
   case hm=>unfold maxLen;simp;omega
   case hb=>simp;omega
   intro v2 w8 ⟨S',hO8,hsub,hK8⟩;obtain⟨pv,cv,hv2,_⟩:=hO8.val;have hv3:v2 = .slice pv (k+1) cv:=(by rw[hv2];congr 1;simp;omega);clear hv2;subst hv3;have hSn:∀i,i<W1.heap.size->¬ S i:=fun i hi h=>by have:=HL.out i h;omega
   have hA9:=(hK8.block (w.heap.size+1+1) (qd HA8.out) (hSn _ bO)).trans HA8.out;have ho0:w8.cell? (J (w.heap.size+1+1) 1)=some (.slice p k c):=(blk hA9).1 1;have hof:=(blk hA9).2;have zo:=qd hA9
   have hrel:(∃S,SlO 51 8 InsO (w8.setCell (J (w.heap.size+1+1) 1) (.slice pv (k+1) cv)) (.slice pv (k+1) cv) (b.list.take (k+1)) S/\LoB W1.heap.size S)/\(w8.setCell (J (w.heap.size+1+1) 1) (.slice pv (k+1) cv)).heap[w.heap.size+1+1]?=some (.cells #[vA,.slice pv (k+1) cv,Z b.fin.kind,.bool b.fin.onr,Z b.fin.onn,.slice p3 b.fin.to.length c3] 49 (0,0))/\Kept (fun k=>k=w.heap.size+1+1) W1 (w8.setCell (J (w.heap.size+1+1) 1) (.slice pv (k+1) cv)):=by
    have hlo:LoB W1.heap.size S':=fun i hi=>by
     rcases hsub i hi with h|h|h
     ·exact HL.out i h
     ·have:=HL2.out i h;omega
     simp[World.setCell]at h;omega
    refine⟨⟨S',?_,hlo⟩,?_,?_⟩
    ·have hO9:SlO 51 8 InsO w8 (.slice pv (k+1) cv) (b.list.take (k+1)) S':=by first|exact hO8|(rw[yA hlt];exact hO8)
     exact hO9.loc qT (fun i hi=>zJ _ _ _ _ (fun e=>by have:=hlo i hi;have e2:i=w.heap.size+1+1:=e;omega)) (by simp[World.setCell])
    ·rw[qj hA9 1 _];rfl
    have kA:Kept (fun k=>k=w.heap.size+1+1) W1 ((w5.setCell (J wr.heap.size 7) (.slice p' b.list[k].args.length c')).alloc (.cells #[Z b.list[k].op,Z b.list[k].dst,.bool b.list[k].ar,Z b.list[k].an,.bool b.list[k].br,Z b.list[k].bn,Z b.list[k].fn,.slice p' b.list[k].args.length c'] 51)):=HK.out.trans (Kept.of_below (S:=fun _=>False) ((HR5.out.setCell bV _).alloc (by simp[World.setCell];omega) _)) (fun _ _ h=>h.elim);exact(kA.trans hK8 (fun i hi h=>absurd h (hSn i hi))).setCell rfl _
   have ha7:=q8 hrel;clear hA9 hO8 hsub hK8 hrel
   go_wp2_with fail
   exact⟨⟨k+1,.slice pv (k+1) cv,by omega,by go_num,ha7.out.1,ha7.out.2.1,ha7.out.2.2⟩,by simp[intOf];omega⟩
end Go.Proofs.YtgjjhadbjmcnpaaGreatDoor
