/-
  Plain: a function's blocks and their lists, apart; a block that goes into another one.
-/
import Derived.Test.YtbnnhmcloecijaaGreatDoorJTidH
namespace Go.Proofs.YtbnnhmcloecijaaGreatDoor
open Go.RowKit

structure InsC (regs:Int) (nf:Nat) (P:Nat→Int) (x:InsL):Prop where
 op:1≤x.op∧x.op≤22
 d0:shD x.op=false→x.dst = -1
 a0:shA x.op=false→x.ar=false∧x.an=0
 b0:shB x.op=false→x.br=false∧x.bn=0
 c0:x.op≠20→x.fn=0∧x.args.length=0
 d1:shD x.op=true→¬(x.op=20∧x.dst = -1)→0≤x.dst∧x.dst<regs
 a:vh regs x.ar x.an
 b:vh regs x.br x.bn
 call:x.op=20→(0≤x.fn∧x.fn<(nf:Int))∧(x.args.length:Int)=P x.fn.toNat∧∀v∈x.args,vh regs v.1 v.2
theorem dstE_iff {regs n:Int}:ko regs n=0↔0≤n∧n<regs:=by
 unfold ko
 split
 ·exact ⟨fun _=>by omega,fun _=>rfl⟩
 exact ⟨fun g=>absurd g (by decide),fun g=>by omega⟩
theorem callE_iff {regs:Int} {nf:Nat} {P:Nat→Int} {op fn:Int} {L:List (Bool×Int)}:jw regs nf P (op == 20) fn L=0↔(op=20→(0≤fn∧fn<(nf:Int))∧(L.length:Int)=P fn.toNat∧∀v∈L,vh regs v.1 v.2):=by
 unfold jw
 by_cases h:op=20
 ·rw [zQ (by simp [h])]
  by_cases h1:0≤fn∧fn<(nf:Int)
  ·rw [zQ (by simpa using h1)]
   by_cases h2:(L.length:Int)=P fn.toNat
   ·rw [zQ (by simpa using h2)]
    unfold valsE
    rw [Z3]
    exact ⟨fun g _=>⟨h1,h2,fun v hv=>valE_iff.1 (g _ (yD.2 ⟨v,hv,rfl⟩))⟩,fun g y hy=>by
     obtain ⟨v,hv,rfl⟩:=yD.1 hy
     exact valE_iff.2 ((g h).2.2 v hv)⟩
   rw [zZ h2]
   exact ⟨fun g=>absurd g (by decide),fun g=>absurd (g h).2.1 h2⟩
  rw [zZ h1]
  exact ⟨fun g=>absurd g (by decide),fun g=>absurd (g h).1 h1⟩
 rw [zZ (by simpa using h)]
 exact ⟨fun _ g=>absurd g h,fun _=>rfl⟩
theorem insC_iff {regs:Int} {nf:Nat} {P:Nat→Int} {x:InsL}:vS regs nf P x.op x.dst x.an x.bn x.fn x.ar x.br x.args=0↔InsC regs nf P x:=by
 unfold vS
 by_cases h1:1≤x.op∧x.op≤22
 rotate_left
 ·rw [zZ h1]
  exact ⟨fun g=>absurd g (by decide),fun g=>absurd g.op h1⟩
 rw [zQ (by simpa using h1)]
 by_cases h2:(shD x.op=false∧x.dst≠-1)∨(shA x.op=false∧¬(x.ar=false∧x.an=0))∨(shB x.op=false∧¬(x.br=false∧x.bn=0))∨(x.op≠20∧(x.fn≠0∨0<x.args.length))
 ·rw [zZ h2]
  refine ⟨fun g=>absurd g (by decide),fun g=>?_⟩
  rcases h2 with h|h|h|h
  ·exact absurd (g.d0 h.1) h.2
  ·exact absurd (g.a0 h.1) h.2
  ·exact absurd (g.b0 h.1) h.2
  have:=g.c0 h.1
  have:=h.2
  omega
 rw [zQ h2]
 by_cases h3:shD x.op=true∧¬(x.op=20∧x.dst = -1)∧ko regs x.dst≠0
 ·rw [zZ h3]
  exact ⟨fun g=>absurd g h3.2.2,fun g=>absurd (dstE_iff.2 (g.d1 h3.1 h3.2.1)) h3.2.2⟩
 rw [zQ h3,Z3]
 constructor
 ·intro g
  refine ⟨h1,fun e=>?_,fun e=>?_,fun e=>?_,fun e=>?_,fun e1 e2=>?_,valE_iff.1 (g _ (by simp)),valE_iff.1 (g _ (by simp)),callE_iff.1 (g _ (by simp))⟩
  ·exact xF fun k=>h2 (.inl ⟨e,k⟩)
  ·exact xF fun k=>h2 (.inr (.inl ⟨e,k⟩))
  ·exact xF fun k=>h2 (.inr (.inr (.inl ⟨e,k⟩)))
  ·refine xF fun k=>h2 (.inr (.inr (.inr ⟨e,?_⟩)))
   omega
  exact dstE_iff.1 (xF fun k=>h3 ⟨e1,e2,k⟩)
 intro g y hy
 simp only [yC,yG,yl] at hy
 rcases hy with rfl|rfl|rfl
 ·exact valE_iff.2 g.a
 ·exact valE_iff.2 g.b
 exact callE_iff.2 g.call
/-! ## names as registers are met -/

def Vv (L:List Nat):List Nat:=L.foldl (fun D r=>if r∈D then D else D++[r]) []
def stD (D:List Nat):NamS:=(qF D,(D.length:Int))
theorem nameS_st {D:List Nat} {r:Nat}:vw (stD D) r=stD (if r∈D then D else D++[r]):=by
 unfold vw stD
 by_cases h:r∈D
 ·rw [zQ (by show ¬ qF D r<0;rw [jc h];omega),zZ h]
 have e:qF D r = -1:=by unfold qF;rw [zQ h]
 rw [zZ (by show qF D r<0;omega),zQ h]
 refine Prod.ext (funext fun i=>?_) (by simp)
 show (if i=r then (D.length:Int) else qF D i)=qF (D++[r]) i
 unfold qF
 by_cases e2:i=r
 ·subst e2
  rw [zZ rfl,zZ (by simp),List.idxOf_append,zQ h]
  simp
 rw [zQ e2]
 by_cases e3:i∈D
 ·rw [zZ e3,zZ (by simp [e3]),List.idxOf_append,zZ e3]
 rw [zQ e3,zQ (by simp [e2,e3])]
theorem XU (L:List Nat):∀D,L.foldl vw (stD D)=stD (L.foldl (fun D r=>if r∈D then D else D++[r]) D):=by
 induction L with
 | nil=>intro D;rfl
 | cons r L ih=>intro D;rw [List.foldl_cons,List.foldl_cons,nameS_st,ih]
theorem vP {L:List Nat}:∀{D:List Nat},D.Nodup→(L.foldl (fun D r=>if r∈D then D else D++[r]) D).Nodup∧(∃E,L.foldl (fun D r=>if r∈D then D else D++[r]) D=D++E)∧∀r,r∈L.foldl (fun D r=>if r∈D then D else D++[r]) D↔r∈D∨r∈L:=by
 induction L with
 | nil=>intro D h;exact ⟨h,⟨[],by simp⟩,by simp⟩
 | cons x L ih=>
  intro D h
  rw [List.foldl_cons]
  by_cases hx:x∈D
  ·rw [zZ hx]
   obtain ⟨h1,h2,h3⟩:=ih h
   refine ⟨h1,h2,fun r=>?_⟩
   rw [h3,yC]
   constructor
   ·rintro (g|g);exact .inl g;exact .inr (.inr g)
   rintro (g|g|g);exact .inl g;exact .inl (g ▸ hx);exact .inr g
  rw [zQ hx]
  obtain ⟨h1,⟨E,h2⟩,h3⟩:=ih (D:=D++[x]) (List.nodup_append.2 ⟨h,by simp,fun a ha b hb e=>by rw [yI] at hb;exact hx (hb ▸ e ▸ ha)⟩)
  refine ⟨h1,⟨x::E,by rw [h2];simp⟩,fun r=>?_⟩
  rw [h3]
  simp [or_assoc]
theorem Zm (n:Nat) (M:List Nat):∃E,Vv (List.range n++M)=List.range n++E:=by
 unfold Vv
 rw [yh]
 have e:∀n,(List.range n).foldl (fun D r=>if r∈D then D else D++[r]) []=List.range n:=by
  intro n
  induction n with
  | zero=>rfl
  | succ n ih=>rw [yt,yh,ih,List.foldl_cons,List.foldl_nil,zQ (by simp)]
 rw [e]
 exact (vP List.nodup_range).2.1
theorem nam0_st:nam0=stD []:=by
 unfold nam0 stD qF
 simp
def Qr (f:FunL):List Nat:=Vv (Zu f++JS f)
theorem Kw (f:FunL):Zv f=stD (Qr f):=by
 unfold Zv Qr Vv
 rw [nam0_st,XU]
theorem mt (f:FunL):(Qr f).Nodup:=(vP (D:=[]) List.nodup_nil).1
theorem metL_mem {f:FunL} {r:Nat}:r∈Qr f↔r∈Zu f++JS f:=by
 have:=(vP (L:=Zu f++JS f) (D:=[]) List.nodup_nil).2.2 r
 simpa [Qr,Vv] using this

theorem jn {f:FunL} {b:Nat} (hb:b<f.blocks.length) {r:Nat} (h:r∈ml f.blocks[b]):r∈Qr f:=
 metL_mem.2 (yM _ (yU.2 ⟨_,zP hb,h⟩))
theorem jR {v:Bool×Int} (h:v.1=true):v.2.toNat∈je v:=by unfold je;rw [zZ h];simp
theorem metV_is {v:Bool×Int} {r:Nat} (h:r∈je v):v.1=true∧r=v.2.toNat:=by
 unfold je at h
 split at h
 ·rename_i e;exact ⟨e,yI.1 h⟩
 cases h
theorem Yo {x:BlkL} (h:x.fin.onr=true):x.fin.onn.toNat∈ml x:=yM _ (jR (v:=(x.fin.onr,x.fin.onn)) h)
theorem Jw {x:BlkL} {p:PhiL} (h:p∈x.phis):p.dst.toNat∈ml x:=yE _ (yE _ (yU.2 ⟨p,h,yg⟩))
theorem Yp {x:BlkL} {p:PhiL} (h:p∈x.phis) {v:Bool×Int} (hv:v∈p.src) (e:v.1=true):v.2.toNat∈ml x:=
 yE _ (yE _ (yU.2 ⟨p,h,yc _ (yU.2 ⟨v,hv,jR e⟩)⟩))
theorem ZE {x:BlkL} {i:InsL} (h:i∈x.list) {r:Nat} (hr:r∈QY i++vt i.dst):r∈ml x:=
 yE _ (yM _ (yU.2 ⟨i,h,hr⟩))

theorem FunC.met {nf:Nat} {P:Nat→Int} {f:FunL} (h:FunC nf P f) {r:Nat} (hr:r∈Qr f):(r:Int)<f.regs:=by
 have hp:=h.par
 have hg:=h.reg
 have val:∀{v:Bool×Int},vh f.regs v.1 v.2→r∈je v→(r:Int)<f.regs:=fun hv hm=>by
  obtain ⟨e1,e2⟩:=metV_is hm
  have:=hv e1
  omega
 have dst:∀{d:Int},d<f.regs→r∈vt d→(r:Int)<f.regs:=fun hd hm=>by
  unfold vt at hm
  split at hm
  ·have:=yI.1 hm;omega
  cases hm
 have ins:∀b (hb:b<f.blocks.length),∀i∈f.blocks[b].list,r∈QY i++vt i.dst→(r:Int)<f.regs:=fun b hb i hi hm=>by
  have hc:=insC_iff.1 (h.ins b hb i hi)
  have hdst:i.dst<f.regs:=by
   by_cases e:shD i.op=true∧¬(i.op=20∧i.dst = -1)
   ·exact (hc.d1 e.1 e.2).2
   by_cases e2:shD i.op=true
   ·have e3:i.op=20∧i.dst = -1:=xF fun g=>e ⟨e2,g⟩
    omega
   have:=hc.d0 (by simpa using e2)
   omega
  rcases yH.1 hm with g|g
  ·unfold QY at g
   rcases yH.1 g with g|g
   ·rcases yH.1 g with g|g
    ·exact val hc.a g
    exact val hc.b g
   obtain ⟨v,hv,g⟩:=yU.1 g
   by_cases e:i.op=20
   ·exact val ((hc.call e).2.2 v hv) g
   have:=(hc.c0 e).2
   rw [List.eq_nil_of_length_eq_zero this] at hv
   cases hv
  exact dst hdst g
 have phi:∀b (hb:b<f.blocks.length),∀p∈f.blocks[b].phis,(p.dst<f.regs∧0≤p.dst)∧∀v∈p.src,vh f.regs v.1 v.2:=fun b hb p hp=>⟨⟨(h.phi b hb p hp).dst.2,(h.phi b hb p hp).dst.1⟩,(h.phi b hb p hp).src⟩
 rcases yH.1 (metL_mem.1 hr) with g|g
 ·unfold Zu at g
  rcases yH.1 g with g|g
  ·have:=yR.1 g;omega
  obtain ⟨x,hx,g⟩:=yU.1 g
  obtain ⟨b,hb,rfl⟩:=yp.1 hx
  unfold metB at g
  rcases yH.1 g with g|g
  ·rcases yH.1 g with g|g
   ·obtain ⟨p,hp,rfl⟩:=yD.1 g
    have:=(phi b hb p hp).1
    omega
   obtain ⟨i,hi,g⟩:=yU.1 g
   exact ins b hb i hi g
  exact val (h.fin b hb).on g
 unfold JS at g
 obtain ⟨x,hx,g⟩:=yU.1 g
 obtain ⟨b,hb,rfl⟩:=yp.1 hx
 unfold ml at g
 rcases yH.1 g with g|g
 ·rcases yH.1 g with g|g
  ·obtain ⟨p,hp,g⟩:=yU.1 g
   rcases yC.1 g with rfl|g
   ·have:=(phi b hb p hp).1
    omega
   obtain ⟨v,hv,g⟩:=yU.1 g
   exact val ((phi b hb p hp).2 v hv) g
  obtain ⟨i,hi,g⟩:=yU.1 g
  exact ins b hb i hi g
 exact val (h.fin b hb).on g

theorem zd (f:FunL):(xq f).blocks.length=f.blocks.length:=by simp [xq]
theorem Z4 {f:FunL} {b:Nat} (h:b<(xq f).blocks.length):(xq f).blocks[b]=mn (Zv f).1 (f.blocks[b]'(by rw [←zd f];exact h)):=by simp [xq]
theorem Yq (f:FunL) (c:Nat):insN (xq f) c=insN f c:=by
 have e:Qh (xq f)=Qh f:=by
  unfold Qh xq
  rw [yy]
  rfl
 unfold insN xV
 rw [e,zd]
theorem Xc (f:FunL):(xq f).regs=((Qr f).length:Int):=by
 show (Zv f).2=_
 rw [Kw];rfl
theorem Jy {f:FunL} {r:Nat} (h:r∈Qr f):0≤(Zv f).1 r∧(Zv f).1 r<(xq f).regs:=by
 rw [Xc,Kw]
 obtain ⟨h1,_⟩:=j3 h
 show 0≤qF (Qr f) r∧qF (Qr f) r<_
 rw [jc h]
 omega

theorem FunC.name {nf:Nat} {P:Nat→Int} {f:FunL} (h:FunC nf P f):FunC nf P (xq f):=by
 have hp:=h.par
 have hg:=h.reg
 have hle:((Qr f).length:Int)≤f.regs:=by
  have:=ji f.regs.toNat (Qr f) (mt f) (fun x hx=>by have:=h.met hx;omega)
  omega
 have hge:f.params≤((Qr f).length:Int):=by
  obtain ⟨E,hE⟩:=Zm f.params.toNat (f.blocks.flatMap metB++JS f)
  have:Qr f=List.range f.params.toNat++E:=by
   unfold Qr Zu
   rw [yF]
   exact hE
  rw [this,yN,List.length_range]
  omega
 have ren:∀{v:Bool×Int},(v.1=true→v.2.toNat∈Qr f)→vh (xq f).regs (xe (Zv f).1 v).1 (xe (Zv f).1 v).2:=fun {v} hv e=>by
  unfold xe at e ⊢
  by_cases e1:v.1=true
  ·rw [zZ e1] at e ⊢
   exact Jy (hv e1)
  rw [zQ e1] at e
  exact absurd e e1
 have many:j6 (xq f)=j6 f:=by
  unfold j6 xq
  rw [yy]
  congr 1
  exact ya fun b _=>by simp [mn]
 have eq1:∀(r:Bool) (n:Int),(xe (Zv f).1 (r,n)).1=r:=fun r n=>by
  unfold xe
  cases r<;>rfl
 refine ⟨by rw [zd];exact h.n1,by rw [zd];exact h.n40,hp,⟨by rw [Xc];exact hge,by rw [Xc];omega⟩,by rw [many];exact h.many,fun b hb=>?_,fun b hb p hp=>?_,fun b hb x hx=>?_⟩
 ·have hb':b<f.blocks.length:=by rw [←zd f];exact hb
  have hf:=h.fin b hb'
  rw [Z4 hb]
  refine ⟨hf.kind,hf.len,fun t ht=>by have e:=hf.to t ht;have e2:=zd f;exact ⟨e.1,by omega⟩,hf.two,fun e=>?_,?_⟩
  ·have:=hf.jump e
   refine ⟨this.1,?_⟩
   show (xe _ (_,_)).2=0
   unfold xe
   rw [zQ (by rw [this.1];simp)]
   exact this.2
  have:=ren (v:=(f.blocks[b].fin.onr,f.blocks[b].fin.onn)) fun e=>jn hb' (Yo e)
  rw [eq1] at this
  exact this
 ·have hb':b<f.blocks.length:=by rw [←zd f];exact hb
  rw [Z4 hb] at hp
  obtain ⟨q,hq,rfl⟩:=yD.1 hp
  have hc:=h.phi b hb' q hq
  refine ⟨hc.blk,Jy (jn hb' (Jw hq)),by rw [Yq];simpa using hc.len,fun v hv=>?_⟩
  obtain ⟨w,hw,rfl⟩:=yD.1 hv
  exact ren fun e=>jn hb' (Yp hq hw e)
 have hb':b<f.blocks.length:=by rw [←zd f];exact hb
 rw [Z4 hb] at hx
 obtain ⟨y,hy,rfl⟩:=yD.1 hx
 have hc:=insC_iff.1 (h.ins b hb' y hy)
 have mem:∀{r:Nat},r∈QY y++vt y.dst→r∈Qr f:=fun hr=>jn hb' (ZE hy hr)
 refine insC_iff.2 ⟨hc.op,fun e=>?_,fun e=>?_,fun e=>?_,fun e=>?_,fun e1 e2=>?_,?_,?_,fun e=>?_⟩
 ·show (if 0≤y.dst then _ else y.dst) = -1
  have:=hc.d0 e
  rw [zQ (by omega)]
  exact this
 ·have:=hc.a0 e
  refine ⟨this.1,?_⟩
  show (xe _ (_,_)).2=0
  unfold xe
  rw [zQ (by rw [this.1];simp)]
  exact this.2
 ·have:=hc.b0 e
  refine ⟨this.1,?_⟩
  show (xe _ (_,_)).2=0
  unfold xe
  rw [zQ (by rw [this.1];simp)]
  exact this.2
 ·have:=hc.c0 e
  exact ⟨this.1,by simpa [ky] using this.2⟩
 ·show 0≤(if 0≤y.dst then _ else y.dst)∧(if 0≤y.dst then _ else y.dst)<_
  by_cases e3:0≤y.dst
  ·rw [zZ e3]
   exact Jy (mem (yM _ (by unfold vt;rw [zZ e3];simp)))
  refine absurd (hc.d1 e1 fun g=>e2 ⟨g.1,?_⟩).1 e3
  show (if 0≤y.dst then _ else y.dst) = -1
  rw [zQ e3]
  exact g.2
 ·have:=ren (v:=(y.ar,y.an)) fun e=>mem (yE _ (yE _ (yE _ (jR e))))
  rw [eq1] at this
  exact this
 ·have:=ren (v:=(y.br,y.bn)) fun e=>mem (yE _ (yE _ (yM _ (jR e))))
  rw [eq1] at this
  exact this
 have:=hc.call e
 refine ⟨this.1,by simpa [ky] using this.2.1,fun v hv=>?_⟩
 obtain ⟨w,hw,rfl⟩:=yD.1 hv
 exact ren fun e=>mem (yE _ (yM _ (yU.2 ⟨w,hw,jR e⟩)))

theorem FunC.order {nf:Nat} {P:Nat→Int} {f:FunL} (h:FunC nf P f):FunC nf P (QZ f):=h.keep h.funD.toFunS.ordC
theorem FunC.names {nf:Nat} {P:Nat→Int} {f:FunL} (h:FunC nf P f):FunC nf P (v8 f):=h.order.name
theorem FunC.done {nf:Nat} {P:Nat→Int} {f:FunL} (h:FunC nf P f):FunC nf P (doT f):=h.order.chains.names

theorem ChkOk.funC {u:UniL} (h:ChkOk u) {k:Nat} (hk:k<u.funcs.length):FunC u.funcs.length (Xs u) u.funcs[k]:=by
 obtain ⟨h1,h2,h3,h4⟩:=h.fn hk
 refine ⟨by omega,by omega,h1,h2,h4,fun b hb=>endC_iff.1 (QE (h.bodyZ hk) hb),fun b hb p hp=>phiC_iff.1 ((QF (h.bodyZ hk) hb).1 p hp),fun b hb x hx=>(QF (h.bodyZ hk) hb).2 x hx⟩
theorem FunC.body {u:UniL} {f:FunL} (h:FunC u.funcs.length (Xs u) f):ki u f=0:=by
 have h1:qD (f.blocks.map fun b=>VY f b.fin)=0:=x7 fun x hx=>by
  obtain ⟨b,hb,rfl⟩:=yD.1 hx
  obtain ⟨i,hi,rfl⟩:=yp.1 hb
  exact endC_iff.2 (h.fin i hi)
 unfold ki
 rw [zZ h1]
 refine x7 fun x hx=>?_
 obtain ⟨i,hi,rfl⟩:=yD.1 hx
 have hi:=yR.1 hi
 rw [ZM hi]
 have h2:qD (f.blocks[i].phis.map (Ja f i (qU (xV f) i).length))=0:=x7 fun x hx=>by
  obtain ⟨p,hp,rfl⟩:=yD.1 hx
  exact phiC_iff.2 (h.phi i hi p hp)
 unfold blkE
 rw [zZ h2]
 refine x7 fun x hx=>?_
 obtain ⟨p,hp,rfl⟩:=yD.1 hx
 exact h.ins i hi p hp
theorem headE_of {names:List ByteArray} {f g:FunL} (h:ks names f=0) (hn:g.name=f.name) {nf:Nat} {P:Nat→Int} (hg:FunC nf P g):ks names g=0:=by
 unfold ks at h ⊢
 rw [hn]
 by_cases a:kp f.name=false
 ·rw [zZ a] at h;cases h
 rw [zQ a] at h ⊢
 by_cases b:VX names f.name=true
 ·rw [zZ b] at h;cases h
 rw [zQ b]
 have h1:=hg.par
 have h2:=hg.reg
 have h3:=hg.n1
 have h4:=hg.n40
 have h5:=hg.many
 rw [zQ (by omega),zQ (by omega)]

def mainO (o:Option FunL):Bool:=match o with|some f=>QQ f|none=>false
theorem mainI_o (xs:List FunL):Q2 xs=(List.range xs.length).find? fun i=>mainO xs[i]?:=rfl
theorem ChkOk.same {u v:UniL} (h:ChkOk u) (hg:v.globals=u.globals) (hl:v.funcs.length=u.funcs.length) (hf:∀k (hk:k<u.funcs.length),v.funcs[k].name=u.funcs[k].name∧v.funcs[k].params=u.funcs[k].params∧FunC u.funcs.length (Xs u) v.funcs[k]):chk v=(0,0)∧ChkOk v:=by
 have hp:Xs v=Xs u:=by
  funext k
  unfold Xs
  congr 1
  refine yV (by simp [hl]) fun i h1 h2=>?_
  simp only [xE]
  exact (hf i (by simpa using h2)).2.1
 have hN:∀k,k≤u.funcs.length→jB v k=jB u k:=fun k hk=>by
  unfold jB
  rw [hg]
  congr 1
  refine yV (by simp [hl]) fun i h1 h2=>?_
  simp only [xE,List.getElem_take]
  exact (hf i (by simp at h2;omega)).1
 have e1:∀j,j<v.globals.length→V5 v j=0:=fun j hj=>by
  have:V5 v j=V5 u j:=by
   unfold V5 jZ jY
   rw [hg]
  rw [this]
  exact h.glo j (by rw [←hg];exact hj)
 have e2:∀j,j<v.funcs.length→Qv v j=0:=fun j hj=>by
  have hj':j<u.funcs.length:=by omega
  rw [Qx hj,hN j (by omega)]
  exact headE_of ((Qx hj').symm.trans (h.head j hj')) (hf j hj').1 (hf j hj').2.2
 have e3:∀j,j<v.funcs.length→QP v j=0:=fun j hj=>by
  have hj':j<u.funcs.length:=by omega
  rw [Jc hj]
  refine FunC.body ?_
  rw [hp,hl]
  exact (hf j hj').2.2
 have e4:Q2 v.funcs=Q2 u.funcs:=by
  rw [mainI_o,mainI_o,hl]
  congr 1
  funext i
  by_cases hi:i<u.funcs.length
  ·rw [zj hi,zj (by omega)]
   show QQ _=QQ _
   unfold QQ
   rw [(hf i hi).1]
  rw [yk (by omega),yk (by omega)]
 obtain ⟨m,hm,hm2⟩:=h.main
 have hv:ChkOk v:=⟨by rw [hg];exact h.ng,by rw [hl];exact h.nf,e1,e2,e3,m,e4.trans hm,by rw [hp];exact hm2⟩
 refine ⟨?_,hv⟩
 rcases V9 v with g|g
 ·exact g.1
 exfalso
 apply g
 unfold chk chkO
 rw [zQ (by have:=hv.ng;have:=hv.nf;omega),zi e1,zi e2,zi e3]
 simp only [ZN]
 rw [e4.trans hm]
 simp only
 rw [zQ (by rw [hp];omega)]
 rfl

theorem Jz (f:FunL):(doT f).name=f.name∧(doT f).params=f.params:=by
 have hj:∀(f:FunL) (b t:Nat),(xg f b t).name=f.name∧(xg f b t).params=f.params:=fun f b t=>⟨rfl,rfl⟩
 have hc:∀(c:Nat) (f:FunL) (b:Nat),(zl c f b).name=f.name∧(zl c f b).params=f.params:=by
  intro c
  induction c with
  | zero=>intro f b;exact ⟨rfl,rfl⟩
  | succ c ih=>
   intro f b
   unfold zl
   split
   ·exact ⟨rfl,rfl⟩
   rename_i t _
   exact ⟨(ih _ b).1.trans (hj f b t).1,(ih _ b).2.trans (hj f b t).2⟩
 have hs:∀f:FunL,(qY f).name=f.name∧(qY f).params=f.params:=fun f=>by
  unfold qY
  generalize f.blocks.length+1=c
  have key:∀(l:List Nat) (g:FunL),(l.foldl (fun g b=>zl c g b) g).name=g.name∧(l.foldl (fun g b=>zl c g b) g).params=g.params:=by
   intro l
   induction l with
   | nil=>intro g;exact ⟨rfl,rfl⟩
   | cons b l ih=>intro g;rw [List.foldl_cons];exact ⟨(ih _).1.trans (hc c g b).1,(ih _).2.trans (hc c g b).2⟩
  exact key _ f
 have ho:∀g:FunL,(QZ g).name=g.name∧(QZ g).params=g.params:=fun g=>by unfold QZ qX;exact ⟨rfl,rfl⟩
 have hn:∀g:FunL,(xq g).name=g.name∧(xq g).params=g.params:=fun g=>by unfold xq;exact ⟨rfl,rfl⟩
 unfold doT v8
 rw [(hn _).1,(hn _).2,(ho _).1,(ho _).2,(hs _).1,(hs _).2,(ho _).1,(ho _).2]
 exact ⟨rfl,rfl⟩

theorem ChkOk.tidy {u:UniL} (h:ChkOk u):chk (xl u)=(0,0)∧ChkOk (xl u):=
 h.same rfl (by simp [xl]) fun k hk=>by
  have e:(xl u).funcs[k]'(by simp [xl];exact hk)=doT u.funcs[k]:=by simp [xl]
  rw [e]
  exact ⟨(Jz _).1,(Jz _).2,(h.funC hk).done⟩

def Qf (f:FunL):Nat:=((List.range f.blocks.length).map fun i=>if (atF f i).fin.kind=2 then 1 else 0).sum
theorem jumps_le (f:FunL):Qf f≤f.blocks.length:=by
 unfold Qf
 have:∀n,((List.range n).map fun i=>if (atF f i).fin.kind=2 then 1 else 0).sum≤n:=by
  intro n
  induction n with
  | zero=>simp
  | succ n ih=>
   rw [yt,yW,List.sum_append]
   simp only [yS,yw,List.sum_cons,List.sum_nil]
   split<;>omega
 exact this _
theorem Vw {f:FunL} {b t:Nat} (h:Xy f b=some t):(atF f b).fin.kind=2:=by
 unfold Xy at h
 dsimp only at h
 split at h
 ·rename_i hc;exact hc.1
 cases h
theorem XV {f:FunL} {b t:Nat} (h:MayJ f b t) (hk:(atF f b).fin.kind=2):Qf (xg f b t)+1=Qf f:=by
 unfold Qf
 rw [qJ]
 obtain ⟨u,hu⟩:∃u:Nat→Nat,u=fun i=>if (atF f i).fin.kind=2 then 1 else 0:=⟨_,rfl⟩
 have e1:((List.range f.blocks.length).map fun i=>if (atF (xg f b t) i).fin.kind=2 then 1 else 0)=(List.range f.blocks.length).map fun j=>if j=t then 0 else if j=b then u t else u j:=by
  refine ya fun i hi=>?_
  have hi:=yR.1 hi
  rw [jK hi h.hb h.ht]
  by_cases e:i=t
  ·rw [zZ e,zZ e];rfl
  rw [zQ e,zQ e]
  by_cases e2:i=b
  ·simp only [zZ e2,hu]
  simp only [zQ e2,hu]
 have e2:((List.range f.blocks.length).map fun i=>if (atF f i).fin.kind=2 then 1 else 0)=(List.range f.blocks.length).map u:=by rw [hu]
 rw [e1,e2]
 have s1:=Xb (fun j=>if j=b then u t else u j) 0 t f.blocks.length
 have s2:=Xb u (u t) b f.blocks.length
 have ub:u b=1:=by rw [hu];exact zZ hk
 rw [zZ h.ht,zZ h.ht,zQ h.ne] at s1
 rw [zZ h.hb,zZ h.hb,ub] at s2
 omega
theorem FunC.last {nf:Nat} {P:Nat→Int}:∀(c:Nat) {f:FunL} {b:Nat},FunC nf P f→b<f.blocks.length→Qf f<c→Xy (zl c f b) b=none
 | 0,_,_,_,_,h=>by omega
 | c+1,f,b,h,hb,hj=>by
  unfold zl
  cases e:Xy f b with
  | none=>exact e
  | some t=>
   have hm:=mayJ h hb e
   have:=XV hm (Vw e)
   exact FunC.last c (h.join hm) (by rw [qJ];exact hb) (by omega)


structure ChS (w:World) (gq c:Nat) (bs:List BlkL) (V:Nat→Value) (N:Blks) (L:Nat→Blks):Prop where
 row:SlO 45 6 Ku w (.slice (some ⟨gq,0,none⟩) bs.length c) (kf V bs) N
 lst:∀i (h:i<bs.length),SlQ 57 8 80 InsO w (V i) bs[i].list (L i)
 two:∀i j,i<bs.length→j<bs.length→i≠j→Apart (L i) (L j)
 off:∀i,i<bs.length→Apart N (L i)
theorem ChS.of {w:World} {gq c:Nat} {bs:List BlkL} {S:Blks} (h:SlO 45 6 BlkO w (.slice (some ⟨gq,0,none⟩) bs.length c) bs S) (_h0:0<bs.length):∃V N L,ChS w gq c bs V N L∧(∀k,N k→S k)∧∀i,i<bs.length→∀k,L i k→S k:=by
 obtain ⟨cs,T,hW⟩:=h
 have key:∀i,∃v:Value,∃A B:Blks,∀(h:i<bs.length),Ku w (cs i) (v,bs[i]) A∧SlQ 57 8 80 InsO w v bs[i].list B∧Apart A B∧(∀k,A k→T i k)∧∀k,B k→T i k:=fun i=>by
  by_cases h:i<bs.length
  ·obtain ⟨v1,v2,v3,S1,S2,S3,hcs,j1,j2,h3,h4,h5,a1,a2,a3,g1,g2,g3⟩:=hW.el i h
   obtain ⟨p,cc,hv,_⟩:=h4.sl.val
   exact ⟨v2,fun k=>S1 k∨S3 k,S2,fun _=>⟨⟨v1,v3,S1,S3,hcs,⟨p,_,cc,hv⟩,j1,j2,h3,h5,a2,fun _ h=>.inl h,fun _ h=>.inr h⟩,h4,fun k a b=>a.elim (fun a=>a1 k a b) (fun a=>a3 k b a),fun k a=>a.elim (g1 k) (g3 k),g2⟩⟩
  exact ⟨.slice none 0 0,fun _=>False,fun _=>False,fun h'=>absurd h' h⟩
 obtain ⟨V,hV⟩:=Classical.axiomOfChoice key
 obtain ⟨A,hA⟩:=Classical.axiomOfChoice hV
 obtain ⟨L,hL⟩:=Classical.axiomOfChoice hA
 have hlen:(kf V bs).length=bs.length:=xS V bs
 refine ⟨V,fun k=>k=gq∨∃i,i<bs.length∧A i k,L,⟨⟨cs,A,?_⟩,fun i h=>(hL i h).2.1,fun i j hi hj hij k a b=>hW.two i j hi hj hij k ((hL i hi).2.2.2.2 k a) ((hL j hj).2.2.2.2 k b),fun i hi k a b=>?_⟩,fun k hk=>?_,fun i hi k hk=>hW.sub i hi k ((hL i hi).2.2.2.2 k hk)⟩
 ·refine ⟨?_,?_,?_,fun i hi=>?_,?_,?_,fun g hg=>.inl (Option.some.inj hg).symm,?_,?_⟩
  ·rw [hlen];exact hW.own
  ·rw [hlen];exact hW.len
  ·rw [hlen];exact hW.one
  ·rw [j8 hi]
   exact (hL i (by rw [←hlen];exact hi)).1
  ·rw [hlen]
   exact fun i j hi hj hij k a b=>hW.two i j hi hj hij k ((hL i hi).2.2.2.1 k a) ((hL j hj).2.2.2.1 k b)
  ·rw [hlen]
   exact fun i hi g hg a=>hW.off i hi g hg ((hL i hi).2.2.2.1 g a)
  ·rw [hlen]
   exact fun i hi k a=>.inr ⟨i,hi,a⟩
  rintro k (rfl|⟨i,hi,a⟩)
  ·exact (hW.own.lt k rfl).2
  exact hW.inb k (hW.sub i hi k ((hL i hi).2.2.2.1 k a))
 ·rcases a with rfl|⟨j,hj,a⟩
  ·exact hW.off i hi k rfl ((hL i hi).2.2.2.2 k b)
  by_cases e:j=i
  ·subst e
   exact (hL j hj).2.2.1 k a b
  exact hW.two j i hj hi e k ((hL j hj).2.2.2.1 k a) ((hL i hi).2.2.2.2 k b)
 rcases hk with rfl|⟨i,hi,a⟩
 ·exact hW.blk k rfl
 exact hW.sub i hi k ((hL i hi).2.2.2.1 k a)
theorem ChS.to {w:World} {gq c:Nat} {bs:List BlkL} {V:Nat→Value} {N:Blks} {L:Nat→Blks} (h:ChS w gq c bs V N L):SlO 45 6 BlkO w (.slice (some ⟨gq,0,none⟩) bs.length c) bs (fun k=>N k∨∃i,i<bs.length∧L i k):=by
 obtain ⟨⟨cs,T,hW⟩,hl,h2,ho⟩:=h
 have hlen:(kf V bs).length=bs.length:=xS V bs
 have hT:∀i,i<bs.length→∀k,T i k→N k:=fun i hi=>hW.sub i (by rw [hlen];exact hi)
 have hhH:=hW.two
 have hoff:=hW.off
 have hown:=hW.own
 have hle:=hW.len
 have hone:=hW.one
 rw [hlen] at hhH hoff hown hle hone
 refine ⟨cs,fun i k=>T i k∨L i k,⟨hown,hle,hone,fun i hi=>?_,fun i j hi hj hij k a b=>?_,fun i hi g hg a=>?_,fun g hg=>.inl (hW.blk g hg),fun i hi k a=>?_,?_⟩⟩
 ·have hi2:i<(kf V bs).length:=by rw [hlen];exact hi
  have he:=hW.el i hi2
  rw [j8 hi2] at he
  obtain ⟨v1,v3,S1,S3,hcs,_,j1,j2,h3,h5,a2,g1,g3⟩:=he
  exact ⟨v1,V i,v3,S1,L i,S3,hcs,j1,j2,h3,hl i hi,h5,fun k a b=>ho i hi k (hT i hi k (g1 k a)) b,a2,fun k a b=>ho i hi k (hT i hi k (g3 k b)) a,fun k a=>.inl (g1 k a),fun k a=>.inr a,fun k a=>.inl (g3 k a)⟩
 ·rcases a with a|a<;>rcases b with b|b
  ·exact hhH i j hi hj hij k a b
  ·exact ho j hj k (hT i hi k a) b
  ·exact ho i hi k (hT j hj k b) a
  exact h2 i j hi hj hij k a b
 ·rcases a with a|a
  ·exact hoff i hi g hg a
  exact ho i hi g (hW.blk g hg) a
 ·rcases a with a|a
  ·exact .inl (hT i hi k a)
  exact .inr ⟨i,hi,a⟩
 rintro k (a|⟨i,hi,a⟩)
 ·exact hW.inb k a
 exact (hl i hi).sl.inb k a
theorem ChS.kept {U:Blks} {w w':World} {gq c:Nat} {bs:List BlkL} {V:Nat→Value} {N:Blks} {L:Nat→Blks} (h:ChS w gq c bs V N L) (hk:Kept U w w') (hN:Apart U N) (hL:∀i,i<bs.length→Apart U (L i)):ChS w' gq c bs V N L:=
 ⟨h.row.kept vy hk hN,fun i hi=>⟨(h.lst i hi).sl.kept xt hk (hL i hi),(h.lst i hi).bd⟩,h.two,h.off⟩
theorem ChS.below {w w':World} {gq c:Nat} {bs:List BlkL} {V:Nat→Value} {N:Blks} {L:Nat→Blks} (h:ChS w gq c bs V N L) (hb:Below w.heap.size w w'):ChS w' gq c bs V N L:=h.kept (U:=fun _=>False) (Kept.of_below hb) (fun _ a _=>a) (fun _ _ _ a _=>a)
theorem XW:∀{l:List Nat} {x:Nat},x∈l→x≤l.sum
 | y::l,x,h=>by
  rw [List.sum_cons]
  rcases yC.1 h with rfl|h
  ·omega
  have:=XW h
  omega
theorem Vx {f:FunL} {b:Nat} (h:b<f.blocks.length):f.blocks[b].list.length≤j6 f:=by
 rw [k7]
 have:=XW (l:=(List.range f.blocks.length).map fun b=>(atF f b).phis.length+(atF f b).list.length) (yD.2 ⟨b,yR.2 h,rfl⟩)
 rw [qC h] at this
 omega
theorem ChS.at {w:World} {gq c:Nat} {bs:List BlkL} {V:Nat→Value} {N:Blks} {L:Nat→Blks} (h:ChS w gq c bs V N L) {i:Nat} (hi:i<bs.length):∃q1 d1 p2 d2 q3 d3,V i = .slice p2 bs[i].list.length d2∧(∀j,j<6→w.cell? ⟨gq,i*6+j,none⟩=[Value.slice q1 bs[i].phis.length d1,.slice p2 bs[i].list.length d2,.int .i64 bs[i].fin.kind,.bool bs[i].fin.onr,.int .i64 bs[i].fin.onn,.slice q3 bs[i].fin.to.length d3][j]?)∧N gq∧gq<w.heap.size∧(∀o,w.frozen? ⟨gq,o,none⟩=false)∧
  SliceAt w 1 kh q3 bs[i].fin.to:=by
 obtain ⟨p2,d2,hv,_⟩:=(h.lst i hi).sl.val
 have hi2:i<(kf V bs).length:=by rw [xS];exact hi
 obtain ⟨g,cc,cs,T,hgv,hg,hS,hl,hx,_,_,hc,hf,_⟩:=h.row.focus vy (by omega) hi2
 have hgg:g=gq:=by
  injection hgv with a _ _
  injection a with a
  injection a with a
  exact a.symm
 subst hgg
 rw [j8 hi2] at hx
 obtain ⟨v1,v3,S1,S3,rfl,_,_,_,h3,h5,_⟩:=hx
 obtain ⟨q1,d1,rfl,_⟩:=h3.sl.val
 obtain ⟨q3,d3,rfl,_⟩:=h5.sl.val
 dsimp only at hc h5
 rw [hv] at hc
 have hr:=h5.read (R':=kh) xr (by omega) fun _ _ _ h=>h
 refine ⟨q1,d1,p2,d2,q3,d3,hv,hc,hS,hg,hf,?_⟩
 obtain ⟨_,_,e,_,_,hh⟩:=hr.outC
 cases e
 exact hh
end Go.Proofs.YtbnnhmcloecijaaGreatDoor
