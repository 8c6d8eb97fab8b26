/-
  Plain: phis of a function whose blocks are put into their order: each takes the same from 
-/
import Derived.Test.YtbnnhmcloecijaaGreatDoorJDomN
namespace Go.Proofs.YtbnnhmcloecijaaGreatDoor
open Go.RowKit

theorem ChkOk.bodyZ {u:UniL} (h:ChkOk u) {k:Nat} (hk:k<u.funcs.length):ki u u.funcs[k]=0:=(Jc hk).symm.trans (h.body k hk)
theorem XK {u:UniL} {f:FunL} (h:ki u f=0):qD (f.blocks.map fun b=>VY f b.fin)=0∧qD ((List.range f.blocks.length).map (K6 u f))=0:=by
 unfold ki at h
 by_cases e:qD (f.blocks.map fun b=>VY f b.fin)=0
 ·rw [zZ e] at h;exact ⟨e,h⟩
 rw [zQ e] at h;exact absurd h e
theorem QE {u:UniL} {f:FunL} (h:ki u f=0) {b:Nat} (hb:b<f.blocks.length):VY f f.blocks[b].fin=0:=
 zm (XK h).1 _ (yD.2 ⟨_,zP hb,rfl⟩)
theorem QF {u:UniL} {f:FunL} (h:ki u f=0) {b:Nat} (hb:b<f.blocks.length) :
  (∀p∈f.blocks[b].phis,Ja f b (qU (xV f) b).length p=0)∧∀x∈f.blocks[b].list,YT u f x=0:=by
 have h1:=zm (XK h).2 (K6 u f b) (yD.2 ⟨b,yR.2 hb,rfl⟩)
 rw [ZM hb] at h1
 unfold blkE at h1
 by_cases e:qD (f.blocks[b].phis.map (Ja f b (qU (xV f) b).length))=0
 ·rw [zZ e] at h1
  exact ⟨fun p hp=>zm e _ (yD.2 ⟨p,hp,rfl⟩),fun x hx=>zm h1 _ (yD.2 ⟨x,hx,rfl⟩)⟩
 rw [zQ e] at h1;exact absurd h1 e
def vh (regs:Int) (r:Bool) (n:Int):Prop:=r=true→0≤n∧n<regs
theorem vM {regs:Int} {r:Bool} {n:Int} (h:xP regs r n=0):vh regs r n:=by
 intro hr
 unfold xP at h
 by_cases e:r=true∧¬(0≤n∧n≤regs - 1)
 ·rw [zZ e] at h;cases h
 rcases Decidable.em (0≤n∧n≤regs - 1) with g|g
 ·omega
 exact absurd ⟨hr,g⟩ e
theorem Vi {regs n:Int} (h:ko regs n=0):0≤n∧n<regs:=by
 unfold ko at h
 split at h
 ·omega
 cases h
structure EndOk (f:FunL) (x:EndL):Prop where
 kind:x.kind=1∨x.kind=2∨x.kind=3
 len:(x.to.length:Int)=x.kind - 1
 «to»:∀t∈x.to,1≤t∧t<f.blocks.length
 on:vh f.regs x.onr x.onn
theorem X3 {f:FunL} {x:EndL} (h:VY f x=0):EndOk f x:=by
 have h0:=(ZL h).2
 unfold VY Qa at h
 by_cases a:1≤x.kind∧x.kind≤3
 ·rw [zQ (by simpa using a)] at h
  by_cases b:(x.to.length:Int)=x.kind - 1
  ·rw [zQ (by simpa using b)] at h
   by_cases c:x.to.any (fun t=>!xT t 1 ((f.blocks.length:Int) - 1))=true
   ·rw [zZ c] at h;cases h
   rw [zQ c] at h
   split at h
   ·cases h
   exact ⟨by omega,b,h0,vM h⟩
  rw [zZ (by simpa using b)] at h;cases h
 rw [zZ (by simpa using a)] at h;cases h
structure PhiOk (f:FunL) (b:Nat) (p:PhiL):Prop where
 dst:0≤p.dst∧p.dst<f.regs
 len:p.src.length=(qU (xV f) b).length
 src:∀v∈p.src,vh f.regs v.1 v.2
theorem phiL_zero {f:FunL} {b:Nat} {p:PhiL} (h:Ja f b (qU (xV f) b).length p=0):PhiOk f b p:=by
 unfold Ja XC at h
 split at h
 ·cases h
 split at h
 ·rename_i h1 h2;exact absurd h h2
 split at h
 ·cases h
 rename_i h1 h2 h3
 exact ⟨Vi (by simpa using h2),by simpa using h3,fun v hv=>vM (zm h _ (yD.2 ⟨v,hv,rfl⟩))⟩
structure InsOk (u:UniL) (f:FunL) (x:InsL):Prop where
 op:1≤x.op∧x.op≤22
 dst:-1≤x.dst∧(x.dst<f.regs∨x.dst = -1)
 dst0:x.op≠19→x.op≠20→x.op≠22→0≤x.dst
 a:vh f.regs x.ar x.an
 b:vh f.regs x.br x.bn
 call:x.op=20→(0≤x.fn∧x.fn<u.funcs.length)∧(x.args.length:Int)=Xs u x.fn.toNat
 arg:∀v∈x.args,vh f.regs v.1 v.2
theorem insL_zero {u:UniL} {f:FunL} {x:InsL} (h:YT u f x=0):InsOk u f x:=by
 unfold YT vS at h
 split at h
 ·cases h
 split at h
 ·cases h
 split at h
 ·rename_i h1 h2 h3;exact absurd h h3.2.2
 rename_i h1 h2 h3
 have h1:1≤x.op∧x.op≤22:=by omega
 have ha:=zm h (xP f.regs x.ar x.an) (by simp)
 have hb:=zm h (xP f.regs x.br x.bn) (by simp)
 have hc:=zm h (jw f.regs u.funcs.length (Xs u) (x.op == 20) x.fn x.args) (by simp)
 have hd:(shD x.op=true∧¬(x.op=20∧x.dst = -1)→0≤x.dst∧x.dst<f.regs):=fun hh=>by
  refine Vi ?_
  rcases Decidable.em (ko f.regs x.dst=0) with g|g
  ·exact g
  exact absurd ⟨hh.1,hh.2,g⟩ h3
 have hs:shD x.op=false→x.dst = -1:=fun hh=>by
  rcases Decidable.em (x.dst = -1) with g|g
  ·exact g
  exact absurd (.inl ⟨hh,g⟩) h2
 have hca:x.op=20→((0≤x.fn∧x.fn<u.funcs.length)∧(x.args.length:Int)=Xs u x.fn.toNat)∧valsE f.regs x.args=0:=fun hh=>by
  unfold jw at hc
  rw [zQ (by simp [hh])] at hc
  split at hc
  ·cases hc
  split at hc
  ·cases hc
  rename_i g1 g2
  exact ⟨⟨by omega,by omega⟩,hc⟩
 refine ⟨h1,?_,fun h19 h20 h22=>?_,vM ha,vM hb,fun hh=>(hca hh).1,fun v hv=>?_⟩
 ·cases hD:shD x.op
  ·have:=hs hD;omega
  rcases Decidable.em (x.op=20∧x.dst = -1) with g|g
  ·omega
  have:=hd ⟨hD,g⟩;omega
 ·have hD:shD x.op=true:=by unfold shD;rw [yY];omega
  exact (hd ⟨hD,by omega⟩).1
 rcases Decidable.em (x.op=20) with g|g
 ·exact vM (zm (hca g).2 _ (yD.2 ⟨v,hv,rfl⟩))
 have:¬(x.fn≠0∨0<x.args.length):=fun hh=>h2 (.inr (.inr (.inr ⟨g,hh⟩)))
 have:x.args.length=0:=by omega
 rw [yd] at this
 rw [this] at hv
 cases hv
theorem XL (T:List (List Int)):∀(n i:Nat) (t:Int),i<n→t∈T.getD i []→(t.toNat,i)∈qQ T n
 | 0,i,t,h,_=>by omega
 | n+1,i,t,h,ht=>by
  unfold qQ
  rcases yq i n with g|g
  ·exact yE _ (XL T n i t g ht)
  obtain rfl:i=n:=by omega
  exact yM _ (yD.2 ⟨t,ht,rfl⟩)
theorem rowOf_mem {ps:List (Nat×Nat)} {t i:Nat} (h:(t,i)∈ps):i∈qU ps t:=by
 unfold qU
 exact yD.2 ⟨(t,i),yu.2 ⟨h,by simp⟩,rfl⟩
theorem row_mem {f:FunL} {b:Nat} (hb:b<f.blocks.length) {t:Int} (ht:t∈f.blocks[b].fin.to):b∈qU (xV f) t.toNat:=
 rowOf_mem (XL _ _ _ _ hb (by rw [kO f b hb];exact ht))

structure FunS (f:FunL):Prop where
 n1:0<f.blocks.length
 n40:f.blocks.length≤40
 two:∀k (h:k<f.blocks.length),f.blocks[k].fin.to.length≤2
 tos:∀k (h:k<f.blocks.length),∀t∈f.blocks[k].fin.to,1≤t∧t<(f.blocks.length:Int)
theorem ChkOk.funS {u:UniL} (h:ChkOk u) {k:Nat} (hk:k<u.funcs.length):FunS u.funcs[k]:=by
 obtain ⟨_,_,⟨h3,h4⟩,_⟩:=h.fn hk
 refine ⟨by omega,by omega,fun b hb=>?_,fun b hb=>?_⟩
 ·have e:=X3 (QE (h.bodyZ hk) hb)
  have:=e.len
  have:=e.kind
  omega
 exact (X3 (QE (h.bodyZ hk) hb)).to
theorem FunS.tosB {f:FunL} (h:FunS f):∀b,b<f.blocks.length→∀x∈tosB f.blocks b,0≤x∧x<(f.blocks.length:Int):=fun b hb x hx=>by
 rw [qM hb] at hx
 have:=h.tos b hb x hx
 omega
theorem FunS.tosD {f:FunL} (h:FunS f):∀i,i<f.blocks.length→((Qh f).getD i []).length≤2∧∀t∈(Qh f).getD i [],1≤t∧t<(f.blocks.length:Int):=fun i hi=>by
 rw [kO f i hi]
 exact ⟨h.two i hi,h.tos i hi⟩
theorem ji:∀(n:Nat) (l:List Nat),l.Nodup→(∀x∈l,x<n)→l.length≤n
 | 0,l,_,h=>by
  cases l with
  | nil=>simp
  | cons x l=>have:=h x yg;omega
 | n+1,l,hd,h=>by
  by_cases hn:n∈l
  ·have h1:=ji n (l.erase n) (hd.erase n) (fun x hx=>by
    have h2:=hd.mem_erase_iff.1 hx
    have:=h x h2.2
    have:=h2.1
    omega)
   rw [List.length_erase_of_mem hn] at h1
   omega
  have h1:=ji n l hd (fun x hx=>by
   have:=h x hx
   have:x≠n:=fun e=>hn (e ▸ hx)
   omega)
  omega
theorem Vj {T:List (List Int)}:∀{n:Nat} {p:Nat×Nat},p∈qQ T n→p.2<n∧∃t∈T.getD p.2 [],p.1=t.toNat
 | 0,p,h=>by unfold qQ at h;cases h
 | n+1,p,h=>by
  unfold qQ at h
  rcases yH.1 h with h|h
  ·obtain ⟨h1,h2⟩:=Vj h
   exact ⟨by omega,h2⟩
  obtain ⟨t,ht,rfl⟩:=yD.1 h
  exact ⟨by simp,t,ht,rfl⟩
theorem Vk {f:FunL} {c p:Nat} (h:p∈qU (xV f) c):p<f.blocks.length:=by
 unfold qU at h
 obtain ⟨q,hq,rfl⟩:=yD.1 h
 exact (Vj (yu.1 hq).1).1
def insN (f:FunL) (c:Nat):List Nat:=qU (xV f) c
theorem Vl {f:FunL} (b c:Nat) (hb:b<f.blocks.length) (h:(c:Int)∈tosB f.blocks b):b∈insN f c:=by
 rw [qM hb] at h
 have:=row_mem hb h
 rw [xC] at this
 exact this
theorem ZA {f:FunL} (h:FunS f) (c:Nat):(insN f c).length≤80:=by
 have h1:=Zx (xV f) c
 have h2:(xV f).length≤2*f.blocks.length:=Qt (Qh f) _ _ (zK _) (fun i hi=>(h.tosD i hi).1)
 have:=h.n40
 show (qU _ _).length≤_
 omega
theorem FunS.ord {f:FunL} (h:FunS f):OrdOk f.blocks (zq f.blocks):=by
 obtain ⟨o,ho⟩:=orderB_ok h.n1 h.tosB
 rw [ho.nats]
 exact ho
theorem FunS.ordLen {f:FunL} (h:FunS f):(zq f.blocks).length≤f.blocks.length:=ji _ _ h.ord.once h.ord.inb
theorem FunS.postLen {f:FunL} (h:FunS f):(vv f.blocks).length≤1000000:=by
 have h1:(jG f.blocks).length=(zq f.blocks).length:=by unfold zq;simp
 have h2:(jG f.blocks).length=(vv f.blocks).length:=by unfold jG;simp
 have:=h.ordLen
 have:=h.n40
 omega

def plK (o:List Nat) (k c:Nat):Nat:=if c∈o.take k then o.idxOf c else 0
theorem plK_zero (o:List Nat) (c:Nat):plK o 0 c=0:=by simp [plK]
theorem plK_full (o:List Nat) (c:Nat):plK o o.length c=plN o c:=by simp [plK,plN]
theorem plK_succ {o:List Nat} (ho:o.Nodup) {k:Nat} (hk:k<o.length) (c:Nat):plK o (k+1) c=if c=o[k] then k else plK o k c:=by
 have em:c∈o.take (k+1)↔c∈o.take k∨c=o[k]:=by
  rw [yA hk,yH,yI]
 unfold plK
 by_cases e:c=o[k]
 ·rw [zZ (em.2 (.inr e)),zZ e,e]
  exact ho.idxOf_getElem k hk
 rw [zQ e]
 by_cases h:c∈o.take k
 ·rw [zZ (em.2 (.inl h)),zZ h]
 rw [zQ h,zQ (fun g=>(em.1 g).elim h e)]

theorem DomI.step_mk {R:Nat→Prop} {pl:Nat→Nat} {u:Nat→Int} (h:DomI R pl (mkN u) (upN u)) {b:Int} {p:Nat} (h1:-1≤b) (hb:0≤b→mkN u b.toNat):-1≤jq u pl b p∧(0≤jq u pl b p→mkN u (jq u pl b p).toNat):=by
 unfold jq
 by_cases hp:u p<0
 ·rw [zZ hp];exact ⟨h1,hb⟩
 rw [zQ hp]
 have hm:mkN u p:=by unfold mkN;omega
 by_cases h0:b<0
 ·rw [zZ h0];exact ⟨by omega,fun _=>by simpa using hm⟩
 rw [zQ h0]
 have hmb:=hb (by omega)
 have haV:=h.meet (pl b.toNat+pl p+1) b.toNat p (by omega) hmb hm
 exact ⟨by omega,fun _=>by simpa using (h.ch haV.right hm).1⟩

def qF (o:List Nat) (b:Nat):Int:=if b∈o then (o.idxOf b:Int) else -1
def Yf (at_:Nat→Int) (ah:List Nat) (src:List (Bool×Int)):List (Int×(Bool×Int)):=
 ((ah.zip src).map fun e=>(at_ e.1,e.2)).filter fun e=>decide (0≤e.1)
def sortK (l:List (Int×(Bool×Int))):List (Int×(Bool×Int)):=l.mergeSort fun a b=>decide (a.1≤b.1)
def srcK (at_:Nat→Int) (ah:List Nat) (src:List (Bool×Int)):List (Bool×Int):=(sortK (Yf at_ ah src)).map (·.2)
def endK (at_:Nat→Int) (x:EndL):EndL:={ x with «to»:=x.to.map fun t=>at_ t.toNat }
def mL (at_:Nat→Int) (ah:List Nat) (x:BlkL):BlkL:=
 { phis:=x.phis.map fun p=>{ p with src:=srcK at_ ah p.src },list:=x.list,fin:=endK at_ x.fin }
def QG:BlkL:=⟨[],[],⟨1,false,0,[]⟩⟩
def atF (f:FunL) (b:Nat):BlkL:=f.blocks.getD b QG
theorem qC {f:FunL} {b:Nat} (h:b<f.blocks.length):atF f b=f.blocks[b]:=by
 unfold atF
 simp [h]
def qX (o:List Nat) (f:FunL):FunL:={ f with blocks:=o.map fun b=>mL (qF o) (insN f b) (atF f b) }

def Vm (ah:List Nat) (old now:Nat):Nat:=(ah.filter fun a=>decide (a<now∧a≠old)).length
def QX (ah:List Nat) (old now:Nat) (src:List (Bool×Int)):List (Bool×Int):=
 ((src.eraseIdx (ah.idxOf old)).take (Vm ah old now))++src.getD (ah.idxOf old) (false,0)::((src.eraseIdx (ah.idxOf old)).drop (Vm ah old now))
def qR (f:FunL) (old now:Nat):FunL:=
 { f with blocks:=f.blocks.mapIdx fun i x=>if (i:Int)∈(atF f old).fin.to then { x with phis:=x.phis.map fun p=>{ p with src:=QX (insN f i) old now p.src } } else x }
def xg (f:FunL) (b t:Nat):FunL:=
 let g:=qR f t b
 { g with blocks:=(g.blocks.set b { phis:=(atF g b).phis,list:=(atF g b).list++(atF g t).list,fin:=(atF g t).fin }).set t QG }
def Xy (f:FunL) (b:Nat):Option Nat:=
 let t:=((atF f b).fin.to.getD 0 0).toNat
 if (atF f b).fin.kind=2∧¬(t=b∨0<(atF f t).phis.length∨1<(insN f t).length) then some t else none
def zl:Nat→FunL→Nat→FunL
 | 0,f,_=>f
 | c+1,f,b=>match Xy f b with
  | none=>f
  | some t=>zl c (xg f b t) b
def qY (f:FunL):FunL:=(List.range f.blocks.length).foldl (fun g b=>zl (f.blocks.length+1) g b) f

abbrev NamS:=(Nat→Int)×Int
def vw (s:NamS) (r:Nat):NamS:=if s.1 r<0 then (fun i=>if i=r then s.2 else s.1 i,s.2+1) else s
def je (v:Bool×Int):List Nat:=if v.1=true then [v.2.toNat] else []
def QY (x:InsL):List Nat:=je (x.ar,x.an)++je (x.br,x.bn)++x.args.flatMap je
def vt (d:Int):List Nat:=if 0≤d then [d.toNat] else []
def metB (x:BlkL):List Nat:=x.phis.map (fun p=>p.dst.toNat)++x.list.flatMap (fun i=>QY i++vt i.dst)++je (x.fin.onr,x.fin.onn)
def ml (x:BlkL):List Nat:=x.phis.flatMap (fun p=>p.dst.toNat::p.src.flatMap je)++x.list.flatMap (fun i=>QY i++vt i.dst)++je (x.fin.onr,x.fin.onn)
def Zu (f:FunL):List Nat:=List.range f.params.toNat++f.blocks.flatMap metB
def JS (f:FunL):List Nat:=f.blocks.flatMap ml
def nam0:NamS:=(fun _=>-1,0)
def Zv (f:FunL):NamS:=(Zu f++JS f).foldl vw nam0
def xe (m:Nat→Int) (v:Bool×Int):Bool×Int:=if v.1=true then (true,m v.2.toNat) else v
def ky (m:Nat→Int) (x:InsL):InsL:=
 { x with dst:=if 0≤x.dst then m x.dst.toNat else x.dst,an:=(xe m (x.ar,x.an)).2,bn:=(xe m (x.br,x.bn)).2,args:=x.args.map (xe m) }
def mn (m:Nat→Int) (x:BlkL):BlkL:=
 { phis:=x.phis.map fun p=>{ dst:=m p.dst.toNat,src:=p.src.map (xe m) },list:=x.list.map (ky m),fin:={ x.fin with onn:=(xe m (x.fin.onr,x.fin.onn)).2 } }
def xq (f:FunL):FunL:={ f with regs:=(Zv f).2,blocks:=f.blocks.map (mn (Zv f).1) }
def QZ (f:FunL):FunL:=qX (zq f.blocks) f
def v8 (f:FunL):FunL:=xq (QZ f)
def doT (f:FunL):FunL:=v8 (qY (QZ f))
def xl (u:UniL):UniL:={ u with funcs:=u.funcs.map doT }
structure FunD (f:FunL):Prop extends FunS f where
 once:∀k (h:k<f.blocks.length),(f.blocks[k].fin.to).Nodup

theorem rowWays {T:List (List Int)} {t:Nat} (h0:∀i,∀x∈T.getD i [],0≤x) (h1:∀i,(T.getD i []).Nodup):∀n:Nat,qU (qQ T n) t=(List.range n).filter fun i=>decide ((t:Int)∈T.getD i [])
 | 0=>rfl
 | n+1=>by
  have ih:=rowWays (t:=t) h0 h1 n
  rw [yt,List.filter_append,←ih]
  show qU (qQ T n++_) t=_
  unfold qU
  rw [List.filter_append,yW]
  congr 1
  have a0:=h0 n
  have a1:=h1 n
  rw [show ([n].filter fun i=>decide ((t:Int)∈T.getD i []))=if (t:Int)∈T.getD n [] then [n] else [] by by_cases e:(t:Int)∈T.getD n []<;>simp only [List.filter_cons,List.filter_nil,e,decide_true,decide_false,if_true,if_false,Bool.false_eq_true]]
  generalize T.getD n []=l at a0 a1
  have key:∀l:List Int,(∀x∈l,0≤x)→l.Nodup→((l.map fun x=>(x.toNat,n)).filter fun x=>x.1 == t).map (·.2)=if (t:Int)∈l then [n] else []:=by
   intro l
   induction l with
   | nil=>intro _ _;rfl
   | cons x l ih=>
    intro b0 b1
    obtain ⟨c1,c2⟩:=List.nodup_cons.1 b1
    have ih:=ih (fun y hy=>b0 y (.tail _ hy)) c2
    have hx:=b0 x (.head _)
    rw [yS,List.filter_cons]
    by_cases e:x.toNat=t
    ·have e2:x=(t:Int):=by omega
     subst e2
     rw [zQ c1] at ih
     simp only [e,beq_self_eq_true,if_true,yS,ih,yC,true_or]
    have e2:(t:Int)≠x:=by omega
    have e3:(x.toNat == t)=false:=by simpa using e
    rw [zQ (by simp [e3]),ih]
    simp [e2]
  exact key l a0 a1

theorem X4 (f:FunL) (i:Nat):(Qh f).getD i []=tosB f.blocks i:=by
 unfold Qh tosB
 by_cases h:i<f.blocks.length
 ·simp [h]
 simp [h]
theorem FunD.insN {f:FunL} (h:FunD f) (c:Nat):insN f c=(List.range f.blocks.length).filter fun i=>decide ((c:Int)∈tosB f.blocks i):=by
 have:=rowWays (T:=Qh f) (t:=c) (fun i x hx=>by
  rw [X4] at hx
  by_cases hi:i<f.blocks.length
  ·exact (h.tosB i hi x hx).1
  ·simp [Go.Proofs.YtbnnhmcloecijaaGreatDoor.tosB,hi] at hx) (fun i=>by
  rw [X4]
  by_cases hi:i<f.blocks.length
  ·rw [qM hi];exact h.once i hi
  simp [Go.Proofs.YtbnnhmcloecijaaGreatDoor.tosB,hi]) f.blocks.length
 unfold Go.Proofs.YtbnnhmcloecijaaGreatDoor.insN xV
 rw [this]
 simp only [X4]
theorem FunD.insD {f:FunL} (h:FunD f) (c:Nat):(Go.Proofs.YtbnnhmcloecijaaGreatDoor.insN f c).Nodup:=by
 rw [h.insN]
 exact List.nodup_range.filter _
theorem FunD.mem {f:FunL} (h:FunD f) {c b:Nat}:b∈Go.Proofs.YtbnnhmcloecijaaGreatDoor.insN f c↔b<f.blocks.length∧(c:Int)∈tosB f.blocks b:=by
 rw [h.insN,yu,yR]
 simp

def CloV (tos:Nat→List Int) (s s':PostS):Prop:=(∀x,s.1 x=true→s'.1 x=true)∧∀x,s'.1 x=true→s.1 x=true∨∀t∈tos x,s'.1 t.toNat=true
theorem CloV.refl (tos:Nat→List Int) (s:PostS):CloV tos s s:=⟨fun _ h=>h,fun _ h=>.inl h⟩
theorem CloV.trans {tos:Nat→List Int} {a b c:PostS} (h:CloV tos a b) (k:CloV tos b c):CloV tos a c:=
 ⟨fun x e=>k.1 x (h.1 x e),fun x e=>(k.2 x e).elim (fun e=>(h.2 x e).imp id fun g t ht=>k.1 _ (g t ht)) .inr⟩

theorem visTo_c {n:Nat} {tos:Nat→List Int} {rec:Nat→PostS→PostS} {xs:List Int} (hx:∀x∈xs,0≤x∧x<(n:Int)) {s:PostS}
  (h:∀b s',b<n→s'.1 b=false→j4 n s'.1≤j4 n s.1→CloV tos s' (rec b s')∧(rec b s').1 b=true):∀i,i≤xs.length→CloV tos s (xL rec xs s i)∧∀j (hj:j<xs.length),xs.length - i≤j→(xL rec xs s i).1 xs[j].toNat=true
 | 0,_=>⟨.refl _ _,fun j hj g=>by omega⟩
 | i+1,hi=>by
  obtain ⟨ih,i2⟩:=visTo_c hx h i (by omega)
  show CloV tos s (xD rec (xL rec xs s i) (xs.getD (xs.length - 1 - i) 0))∧∀j (hj:j<xs.length),_→(xD rec (xL rec xs s i) (xs.getD (xs.length - 1 - i) 0)).1 _=true
  have hk:xs.length - 1 - i<xs.length:=by omega
  have hm:=hx _ (zP hk)
  have hg:xs.getD (xs.length - 1 - i) 0=xs[xs.length - 1 - i]:=by
   rw [yO,zj hk];rfl
  rw [hg]
  unfold xD
  cases e:(xL rec xs s i).1 (xs[xs.length - 1 - i]).toNat
  ·obtain ⟨h1,h2⟩:=h (xs[xs.length - 1 - i]).toNat _ (by omega) e (QW ih.1)
   refine ⟨ih.trans h1,fun j hj g=>?_⟩
   by_cases ej:j=xs.length - 1 - i
   ·subst ej;exact h2
   exact h1.1 _ (i2 j hj (by omega))
  refine ⟨ih,fun j hj g=>?_⟩
  by_cases ej:j=xs.length - 1 - i
  ·subst ej;exact e
  exact i2 j hj (by omega)
theorem visF_c {n:Nat} {tos:Nat→List Int} (hT:∀b,b<n→∀x∈tos b,0≤x∧x<(n:Int)):∀(c b:Nat) (s:PostS),j4 n s.1<c→b<n→s.1 b=false→CloV tos s (vQ tos c b s)∧(vQ tos c b s).1 b=true
 | 0,_,_,h,_,_=>by omega
 | c+1,b,s,hc,hb,hs=>by
  have h1:=vK (n:=n) hb hs
  obtain ⟨h2,h3⟩:=visTo_c (n:=n) (tos:=tos) (rec:=vQ tos c) (xs:=tos b) (hT b hb) (s:=xZ b s) (fun b' s' hb' h' hle=>visF_c hT c b' s' (by omega) hb' h') (tos b).length (zK _)
  have hb1:(xZ b s).1 b=true:=by show (if b=b then true else _)=true;simp
  refine ⟨⟨fun x e=>h2.1 x (Jo e),fun x e=>?_⟩,h2.1 b hb1⟩
  rcases h2.2 x e with g|g
  ·by_cases ex:x=b
   ·subst ex
    refine .inr fun t ht=>?_
    obtain ⟨j,hj,rfl⟩:=yp.1 ht
    exact h3 j hj (by omega)
   have g:(if x=b then true else s.1 x)=true:=g
   rw [zQ ex] at g
   exact .inl g
  exact .inr g

theorem FunS.closed {f:FunL} (h:FunS f) {b:Nat} (hb:b∈zq f.blocks) {t:Int} (ht:t∈Go.Proofs.YtbnnhmcloecijaaGreatDoor.tosB f.blocks b):t.toNat∈zq f.blocks:=by
 obtain ⟨l,hp⟩:=Yb (n:=f.blocks.length) h.tosB (f.blocks.length+1) 0 (fun _=>false,[]) (Nat.lt_succ_of_le (k5 _ _)) h.n1 rfl
 obtain ⟨hc,_⟩:=visF_c (n:=f.blocks.length) h.tosB (f.blocks.length+1) 0 (fun _=>false,[]) (Nat.lt_succ_of_le (k5 _ _)) h.n1 rfl
 have he:∀x,x∈zq f.blocks↔(vQ (Go.Proofs.YtbnnhmcloecijaaGreatDoor.tosB f.blocks) (f.blocks.length+1) 0 (fun _=>false,[])).1 x=true:=fun x=>by
  rw [hp.seen x]
  unfold zq jG vv
  rw [hp.left]
  simp [or_comm]
 rw [he] at hb ⊢
 rcases hc.2 b hb with g|g
 ·cases g
 exact g t ht
/-! ## renamed graphs -/

theorem Yg {n:Nat} {r1 r2:Nat→PostS→PostS} {xs:List Int} (hx:∀x∈xs,0≤x∧x<(n:Int)) {s:PostS}
  (h:∀b s',b<n→s'.1 b=false→j4 n s'.1≤j4 n s.1→r1 b s'=r2 b s'∧j4 n (r1 b s').1≤j4 n s'.1):∀i,i≤xs.length→xL r1 xs s i=xL r2 xs s i∧j4 n (xL r1 xs s i).1≤j4 n s.1
 | 0,_=>⟨rfl,zK _⟩
 | i+1,hi=>by
  obtain ⟨ih,i2⟩:=Yg hx h i (by omega)
  show xD r1 (xL r1 xs s i) (xs.getD (xs.length - 1 - i) 0)=xD r2 (xL r2 xs s i) (xs.getD (xs.length - 1 - i) 0)∧j4 n (xD r1 (xL r1 xs s i) (xs.getD (xs.length - 1 - i) 0)).1≤_
  rw [←ih]
  have hk:xs.length - 1 - i<xs.length:=by omega
  have hm:=hx _ (zP hk)
  have hg:xs.getD (xs.length - 1 - i) 0=xs[xs.length - 1 - i]:=by
   rw [yO,zj hk];rfl
  rw [hg]
  unfold xD
  cases e:(xL r1 xs s i).1 (xs[xs.length - 1 - i]).toNat
  ·obtain ⟨h1,h2⟩:=h (xs[xs.length - 1 - i]).toNat _ (by omega) e i2
   exact ⟨h1,yv h2 i2⟩
  exact ⟨rfl,i2⟩
theorem Vn {n:Nat} {tos:Nat→List Int} (hT:∀b,b<n→∀x∈tos b,0≤x∧x<(n:Int)):∀(c d b:Nat) (s:PostS),j4 n s.1<c→j4 n s.1<d→b<n→s.1 b=false→vQ tos c b s=vQ tos d b s
 | 0,_,_,_,h,_,_,_=>by omega
 | _+1,0,_,_,_,h,_,_=>by omega
 | c+1,d+1,b,s,hc,hd,hb,hs=>by
  have h1:=vK (n:=n) hb hs
  obtain ⟨h2,_⟩:=Yg (n:=n) (r1:=vQ tos c) (r2:=vQ tos d) (xs:=tos b) (hT b hb) (s:=xZ b s) (fun b' s' hb' h' hle=>⟨Vn hT c d b' s' (by omega) (by omega) hb' h',by
   obtain ⟨l,hl⟩:=Yb hT c b' s' (by omega) hb' h'
   exact hl.up⟩) (tos b).length (zK _)
  show ((xL (vQ tos c) (tos b) (xZ b s) (tos b).length).1,_)=((xL (vQ tos d) (tos b) (xZ b s) (tos b).length).1,_)
  rw [h2]

structure IsoV (R:Nat→Prop) (p:Nat→Nat) (s s':PostS):Prop where
 seen:∀x,R x→s'.1 (p x)=s.1 x
 left:s'.2=s.2.map fun x=>(p x.toNat:Int)
theorem Vo {R:Nat→Prop} {p:Nat→Nat} {r1 r2:Nat→PostS→PostS} (hr:∀b a a',R b→IsoV R p a a'→IsoV R p (r1 b a) (r2 (p b) a')) {xs:List Int} (hx:∀x∈xs,R x.toNat) {s s':PostS} (h:IsoV R p s s'):∀i,i≤xs.length→IsoV R p (xL r1 xs s i) (xL r2 (xs.map fun x=>(p x.toNat:Int)) s' i)
 | 0,_=>h
 | i+1,hi=>by
  have ih:=Vo hr hx h i (by omega)
  show IsoV R p (xD r1 _ (xs.getD (xs.length - 1 - i) 0)) (xD r2 _ ((xs.map fun x=>(p x.toNat:Int)).getD ((xs.map fun x=>(p x.toNat:Int)).length - 1 - i) 0))
  have hk:xs.length - 1 - i<xs.length:=by omega
  have hg:xs.getD (xs.length - 1 - i) 0=xs[xs.length - 1 - i]:=by
   rw [yO,zj hk];rfl
  have hg2:(xs.map fun x=>(p x.toNat:Int)).getD ((xs.map fun x=>(p x.toNat:Int)).length - 1 - i) 0=(p (xs[xs.length - 1 - i]).toNat:Int):=by
   rw [yT,yO,List.getElem?_map,zj hk];rfl
  rw [hg,hg2]
  have hR:=hx _ (zP hk)
  unfold xD
  rw [xC,ih.seen _ hR]
  split
  ·exact ih
  exact hr _ _ _ hR ih
theorem Yh {R:Nat→Prop} {p:Nat→Nat} {t1 t2:Nat→List Int} (hinj:∀x y,R x→R y→p x=p y→x=y) (hT:∀x,R x→(∀t∈t1 x,R t.toNat)∧t2 (p x)=(t1 x).map fun t=>(p t.toNat:Int)):∀(c b:Nat) (s s':PostS),R b→IsoV R p s s'→IsoV R p (vQ t1 c b s) (vQ t2 c (p b) s')
 | 0,_,_,_,_,h=>h
 | c+1,b,s,s',hb,h=>by
  have hm:IsoV R p (xZ b s) (xZ (p b) s'):=⟨fun x hx=>by
   show (if p x=p b then true else s'.1 (p x))=(if x=b then true else s.1 x)
   rw [h.seen x hx]
   by_cases e:x=b
   ·subst e;simp
   rw [zQ e,zQ fun g=>e (hinj x b hx hb g)],h.left⟩
  have h2:=Vo (r1:=vQ t1 c) (r2:=vQ t2 c) (fun b' a a' hb' ha=>Yh hinj hT c b' a a' hb' ha) (hT b hb).1 hm (t1 b).length (zK _)
  have e2:vQ t2 (c+1) (p b) s'=((xL (vQ t2 c) (t2 (p b)) (xZ (p b) s') (t2 (p b)).length).1,(xL (vQ t2 c) (t2 (p b)) (xZ (p b) s') (t2 (p b)).length).2++[((p b:Nat):Int)]):=rfl
  rw [e2,(hT b hb).2,yT]
  refine ⟨h2.seen,?_⟩
  show _++[((p b:Nat):Int)]=(_++[(b:Int)]).map _
  rw [yW,h2.left]
  simp

structure OrdC (f:FunL) (o:List Nat):Prop where
 once:o.Nodup
 root:∃l,o=0::l
 inb:∀x∈o,x<f.blocks.length
 closed:∀b∈o,∀t∈tosB f.blocks b,t.toNat∈o
theorem FunS.ordC {f:FunL} (h:FunS f):OrdC f (zq f.blocks):=⟨h.ord.once,h.ord.root,h.ord.inb,fun _ hb _ ht=>h.closed hb ht⟩

theorem jc {o:List Nat} {b:Nat} (h:b∈o):qF o b=(o.idxOf b:Int):=by unfold qF;rw [zZ h]
theorem j3 {o:List Nat} {b:Nat} (h:b∈o):∃hi:o.idxOf b<o.length,o[o.idxOf b]=b:=⟨List.idxOf_lt_length_of_mem h,List.getElem_idxOf (List.idxOf_lt_length_of_mem h)⟩
theorem Z0 {o:List Nat} {a b:Nat} (ha:a∈o) (hb:b∈o) (e:o.idxOf a=o.idxOf b):a=b:=by
 obtain ⟨h1,e1⟩:=j3 ha
 obtain ⟨h2,e2⟩:=j3 hb
 rw [←e1,←e2]
 simp only [e]
theorem OrdC.pos {f:FunL} {o:List Nat} (h:OrdC f o):0<o.length∧o.idxOf 0=0∧0∈o:=by
 obtain ⟨l,rfl⟩:=h.root
 simp

theorem zS (o:List Nat) (f:FunL):(qX o f).blocks.length=o.length:=by simp [qX]
theorem X5 (o:List Nat) (f:FunL) {i:Nat} (hi:i<o.length):(qX o f).blocks[i]'(by rw [zS];exact hi)=mL (qF o) (insN f o[i]) (atF f o[i]):=by simp [qX]
theorem QH {o:List Nat} {f:FunL} (h:OrdC f o) {i:Nat} (hi:i<o.length):tosB (qX o f).blocks i=(tosB f.blocks o[i]).map fun t=>(o.idxOf t.toNat:Int):=by
 have h1:=h.inb _ (zP hi)
 rw [qM (by rw [zS];exact hi),X5 o f hi,qM h1]
 unfold mL endK
 rw [qC h1]
 refine ya fun t ht=>?_
 rw [←qM h1] at ht
 exact jc (h.closed _ (zP hi) t ht)
theorem Kr {o:List Nat} {f:FunL} (h:OrdC f o) {b:Nat} (hb:b∈o):tosB (qX o f).blocks (o.idxOf b)=(tosB f.blocks b).map fun t=>(o.idxOf t.toNat:Int):=by
 obtain ⟨h1,h2⟩:=j3 hb
 rw [QH h h1,h2]

theorem FunD.keep {f:FunL} (hf:FunD f) {o:List Nat} (h:OrdC f o):FunD (qX o f):=by
 have hle:o.length≤f.blocks.length:=ji _ _ h.once h.inb
 have ht:∀(k:Nat) (hk:k<(qX o f).blocks.length),((qX o f).blocks[k]).fin.to=(tosB f.blocks (o[k]'(by rw [←zS o f];exact hk))).map fun t=>(o.idxOf t.toNat:Int):=fun k hk=>by
  rw [←qM hk]
  exact QH h _
 have hin:∀(k:Nat) (hk:k<(qX o f).blocks.length),(o[k]'(by rw [←zS o f];exact hk))<f.blocks.length:=fun k hk=>h.inb _ (zP _)
 refine ⟨⟨by rw [zS];exact h.pos.1,by rw [zS];have:=hf.n40;omega,fun k hk=>?_,fun k hk t hm=>?_⟩,fun k hk=>?_⟩
 ·rw [ht k hk,yT,qM (hin k hk)]
  exact hf.two _ _
 ·rw [ht k hk] at hm
  obtain ⟨s,hs,rfl⟩:=yD.1 hm
  have h1:=h.closed _ (zP (by rw [←zS o f];exact hk)) s hs
  rw [qM (hin k hk)] at hs
  have h2:=hf.tos _ _ s hs
  obtain ⟨h3,h4⟩:=j3 h1
  rw [zS]
  refine ⟨?_,by omega⟩
  have:o.idxOf s.toNat≠0:=fun e=>by
   have:=Z0 h1 h.pos.2.2 (e.trans h.pos.2.1.symm)
   omega
  omega
 rw [ht k hk,qM (hin k hk)]
 refine List.pairwise_map.2 (List.Pairwise.imp_of_mem (fun {x y} hx hy ne e=>ne ?_) (hf.once _ (hin k hk)))
 have hx':=h.closed _ (zP (by rw [←zS o f];exact hk)) x (by rw [qM (hin k hk)];exact hx)
 have hy':=h.closed _ (zP (by rw [←zS o f];exact hk)) y (by rw [qM (hin k hk)];exact hy)
 have h1:=hf.tos _ _ x hx
 have h2:=hf.tos _ _ y hy
 have:=Z0 hx' hy' (by omega)
 omega

theorem FunD.order {f:FunL} (hf:FunD f):zq (QZ f).blocks=List.range (zq f.blocks).length:=by
 have h:=hf.toFunS.ordC
 have hd:=hf.keep h
 obtain ⟨o,ho⟩:∃o,o=zq f.blocks:=⟨_,rfl⟩
 have hle:o.length≤f.blocks.length:=by rw [ho];exact ji _ _ h.once h.inb
 unfold QZ
 rw [←ho] at h hd ⊢
 have hI:=Yh (R:=fun b=>b∈o) (p:=fun b=>o.idxOf b) (t1:=tosB f.blocks) (t2:=tosB (qX o f).blocks) (fun x y hx hy e=>Z0 hx hy e) (fun x hx=>⟨h.closed x hx,Kr h hx⟩) (f.blocks.length+1) 0 (fun _=>false,[]) (fun _=>false,[]) h.pos.2.2 ⟨fun _ _=>rfl,rfl⟩
 rw [h.pos.2.1] at hI
 have hm:=Vn (n:=(qX o f).blocks.length) hd.tosB (f.blocks.length+1) ((qX o f).blocks.length+1) 0 (fun _=>false,[]) (by have h5:j4 (qX o f).blocks.length (fun _=>false)≤_:=k5 (qX o f).blocks.length (fun _=>false);have h6:=zS o f;show j4 _ (fun _=>false)<_;omega) (Nat.lt_succ_of_le (k5 _ _)) hd.n1 rfl
 have e1:vv (qX o f).blocks=(vv f.blocks).map fun x=>(o.idxOf x.toNat:Int):=by
  unfold vv
  rw [←hm,hI.left]
 have e2:zq (qX o f).blocks=o.map fun x=>o.idxOf x:=by
  have e3:zq (qX o f).blocks=(zq f.blocks).map fun x=>o.idxOf x:=by
   unfold zq jG
   rw [e1,←List.map_reverse,yy,yy]
   exact ya fun x _=>by simp
  rw [e3,←ho]
 rw [e2]
 refine yV (by simp) fun i h1 h2=>?_
 simp only [xE,List.getElem_range]
 exact h.once.idxOf_getElem i (by simpa using h1)

theorem Yi {l m:List (Int×(Bool×Int))} (hp:l.Perm m) (hm:m.Pairwise fun a b=>a.1<b.1):sortK l=m:=by
 refine List.Perm.eq_of_pairwise (le:=fun a b=>decide (a.1≤b.1)=true) (fun a b ha hb h1 h2=>?_) ?_ ?_ ((List.mergeSort_perm _ _).trans hp)
 ·have ha':a∈m:=hp.mem_iff.1 ((List.mergeSort_perm _ _).mem_iff.1 ha)
  have h1:=of_decide_eq_true h1
  have h2:=of_decide_eq_true h2
  obtain ⟨i,hi,e1⟩:=yp.1 ha'
  obtain ⟨j,hj,e2⟩:=yp.1 hb
  rw [List.pairwise_iff_getElem] at hm
  by_cases e:i=j
  ·subst e;rw [←e1,←e2]
  rcases Nat.lt_or_gt_of_ne e with g|g
  ·have:=hm i j hi hj g
   rw [e1,e2] at this
   omega
  have:=hm j i hj hi g
  rw [e1,e2] at this
  omega
 ·exact List.pairwise_mergeSort (fun a b c h1 h2=>by simp only [yY] at h1 h2 ⊢;omega) (fun a b=>by simp only [Bool.or_eq_true,yY];omega) l
 exact hm.imp fun h=>by simp only [yY];omega

theorem Yj {o:List Nat} (ah:List Nat) (g:Nat→Bool×Int):Yf (qF o) ah (ah.map g)=(ah.filter fun a=>decide (a∈o)).map fun a=>((o.idxOf a:Int),g a):=by
 unfold Yf
 induction ah with
 | nil=>rfl
 | cons a l ih=>
  simp only [yS,List.zip_cons_cons,List.filter_cons]
  by_cases h:a∈o
  ·rw [zZ (by rw [jc h];simp),zZ (by simpa using h),yS,ih,jc h]
  have e:qF o a = -1:=by unfold qF;rw [zQ h]
  rw [zQ (by rw [e];simp),zQ (by simpa using h),ih]

theorem ZB {f:FunL} (hf:FunD f) {o:List Nat} (h:OrdC f o) {b:Nat} (hb:b∈o) {j:Nat}:j∈insN (qX o f) (o.idxOf b)↔∃hj:j<o.length,o[j]∈insN f b:=by
 rw [(hf.keep h).mem,zS]
 constructor
 ·rintro ⟨hj,hm⟩
  refine ⟨hj,hf.mem.2 ⟨h.inb _ (zP hj),?_⟩⟩
  rw [QH h hj] at hm
  obtain ⟨t,ht,e⟩:=yD.1 hm
  have h1:=h.closed _ (zP hj) t ht
  have h2:=Z0 h1 hb (by omega)
  have h3:=hf.tosB _ (h.inb _ (zP hj)) t ht
  rw [←h2,show ((t.toNat:Nat):Int)=t by omega]
  exact ht
 rintro ⟨hj,hm⟩
 refine ⟨hj,?_⟩
 rw [QH h hj]
 exact yD.2 ⟨_,(hf.mem.1 hm).2,by simp⟩
theorem xm {f:FunL} (hf:FunD f) (c:Nat):(insN f c).Pairwise (·<·):=by
 rw [hf.insN]
 exact List.pairwise_lt_range.filter _

theorem Vp {f:FunL} (hf:FunD f) {o:List Nat} (h:OrdC f o) {b:Nat} (hb:b∈o) (g:Nat→Bool×Int):srcK (qF o) (insN f b) ((insN f b).map g)=(insN (qX o f) (o.idxOf b)).map fun j=>g (o.getD j 0):=by
 have hd:=hf.keep h
 unfold srcK
 rw [Yj,Yi (m:=(insN (qX o f) (o.idxOf b)).map fun (j:Nat)=>((j:Int),g (o.getD j 0)))]
 ·rw [yy];rfl
 ·have hg:∀j,j∈insN (qX o f) (o.idxOf b)→∃hj:j<o.length,o.getD j 0=o[j]∧o.idxOf o[j]=j∧o[j]∈insN f b:=fun j hj=>by
   obtain ⟨h1,h2⟩:=(ZB hf h hb).1 hj
   exact ⟨h1,by simp [h1],h.once.idxOf_getElem j h1,h2⟩
  have e1:((insN (qX o f) (o.idxOf b)).map fun (j:Nat)=>((j:Int),g (o.getD j 0)))=((insN (qX o f) (o.idxOf b)).map fun j=>o.getD j 0).map fun a=>((o.idxOf a:Int),g a):=by
   rw [yy]
   refine ya fun j hj=>?_
   obtain ⟨h1,h2,h3,_⟩:=hg j hj
   show _=((o.idxOf (o.getD j 0):Int),g (o.getD j 0))
   rw [h2,h3]
  rw [e1]
  refine List.Perm.map _ ?_
  refine (List.perm_ext_iff_of_nodup ((hf.insD b).filter _) ?_).2 fun a=>?_
  ·refine List.pairwise_map.2 (List.Pairwise.imp_of_mem (fun {x y} hx hy ne e=>ne ?_) (hd.insD (o.idxOf b)))
   obtain ⟨h1,h2,h3,_⟩:=hg x hx
   obtain ⟨k1,k2,k3,_⟩:=hg y hy
   rw [h2,k2] at e
   rw [←h3,←k3,e]
  rw [yu,yD]
  constructor
  ·rintro ⟨h1,h2⟩
   have h2:a∈o:=by simpa using h2
   obtain ⟨h3,h4⟩:=j3 h2
   refine ⟨o.idxOf a,(ZB hf h hb).2 ⟨h3,by rw [h4];exact h1⟩,by simp [h3,h4]⟩
  rintro ⟨j,hj,rfl⟩
  obtain ⟨h1,h2,h3,h4⟩:=hg j hj
  rw [h2]
  exact ⟨h4,by simp⟩
 exact List.pairwise_map.2 ((xm hd _).imp fun h=>by show (_:Int)<_;omega)

def xK (ah:List Nat) (src:List (Bool×Int)) (a:Nat):Bool×Int:=src.getD (ah.idxOf a) (false,0)
theorem fromR_row {ah:List Nat} (hd:ah.Nodup) {src:List (Bool×Int)} (h:src.length=ah.length):src=ah.map (xK ah src):=by
 refine yV (by simp [h]) fun i h1 h2=>?_
 simp only [xE]
 unfold xK
 rw [hd.idxOf_getElem i (by omega)]
 simp [h1]
theorem kB {ah:List Nat} (g:Nat→Bool×Int) {a:Nat} (h:a∈ah):xK ah (ah.map g) a=g a:=by
 obtain ⟨h1,h2⟩:=j3 h
 unfold xK
 simp [h1,h2]
end Go.Proofs.YtbnnhmcloecijaaGreatDoor
