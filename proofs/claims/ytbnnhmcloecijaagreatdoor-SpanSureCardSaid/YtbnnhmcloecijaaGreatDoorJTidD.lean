/-
  Plain: phis of a function whose blocks are put into their order: each takes the same from 
-/
import Derived.Test.YtbnnhmcloecijaaGreatDoorJDomN
namespace Go.Proofs.YtbnnhmcloecijaaGreatDoor
open Go.RowKit

theorem ChkOk.bodyZ {u:UniL} (h:ChkOk u) {k:Nat} (hk:k<u.funcs.length):vj u u.funcs[k]=0:=(Xg hk).symm.trans (h.body k hk)
theorem ZP {u:UniL} {f:FunL} (h:vj u f=0):qC (f.blocks.map fun b=>JW f b.fin)=0∧qC ((List.range f.blocks.length).map (V3 u f))=0:=by
 unfold vj at h
 by_cases e:qC (f.blocks.map fun b=>JW f b.fin)=0
 ·rw [if_pos e] at h;exact ⟨e,h⟩
 rw [if_neg e] at h;exact absurd h e
theorem kW {u:UniL} {f:FunL} (h:vj u f=0) {b:Nat} (hb:b<f.blocks.length):JW f f.blocks[b].fin=0:=
 qY (ZP h).1 _ (List.mem_map.2 ⟨_,List.getElem_mem hb,rfl⟩)
theorem kX {u:UniL} {f:FunL} (h:vj u f=0) {b:Nat} (hb:b<f.blocks.length) :
  (∀p∈f.blocks[b].phis,Xe f b (qS (xm f) b).length p=0)∧∀x∈f.blocks[b].list,KK u f x=0:=by
 have h1:=qY (ZP h).2 (V3 u f b) (List.mem_map.2 ⟨b,List.mem_range.2 hb,rfl⟩)
 rw [QW hb] at h1
 unfold blkE at h1
 by_cases e:qC (f.blocks[b].phis.map (Xe f b (qS (xm f) b).length))=0
 ·rw [if_pos e] at h1
  exact ⟨fun p hp=>qY e _ (List.mem_map.2 ⟨p,hp,rfl⟩),fun x hx=>qY h1 _ (List.mem_map.2 ⟨x,hx,rfl⟩)⟩
 rw [if_neg e] at h1;exact absurd h1 e
def ju (regs:Int) (r:Bool) (n:Int):Prop:=r=true→0≤n∧n<regs
theorem jO {regs:Int} {r:Bool} {n:Int} (h:x9 regs r n=0):ju regs r n:=by
 intro hr
 unfold x9 at h
 by_cases e:r=true∧¬(0≤n∧n≤regs - 1)
 ·rw [if_pos e] at h;cases h
 rcases Decidable.em (0≤n∧n≤regs - 1) with g|g
 ·omega
 exact absurd ⟨hr,g⟩ e
theorem Jl {regs n:Int} (h:vx regs n=0):0≤n∧n<regs:=by
 unfold vx at h
 split at h
 ·omega
 cases h
structure EndOk (f:FunL) (x:EndL):Prop where
 kind:x.kind=1∨x.kind=2∨x.kind=3
 len:(x.to.length:Int)=x.kind - 1
 «to»:∀t∈x.to,1≤t∧t<f.blocks.length
 on:ju f.regs x.onr x.onn
theorem Zc {f:FunL} {x:EndL} (h:JW f x=0):EndOk f x:=by
 have h0:=(QV h).2
 unfold JW ki at h
 by_cases a:1≤x.kind∧x.kind≤3
 ·rw [if_neg (by simpa using a)] at h
  by_cases b:(x.to.length:Int)=x.kind - 1
  ·rw [if_neg (by simpa using b)] at h
   by_cases c:x.to.any (fun t=>!xh t 1 ((f.blocks.length:Int) - 1))=true
   ·rw [if_pos c] at h;cases h
   rw [if_neg c] at h
   split at h
   ·cases h
   exact ⟨by omega,b,h0,jO h⟩
  rw [if_pos (by simpa using b)] at h;cases h
 rw [if_pos (by simpa using a)] at h;cases h
structure PhiOk (f:FunL) (b:Nat) (p:PhiL):Prop where
 dst:0≤p.dst∧p.dst<f.regs
 len:p.src.length=(qS (xm f) b).length
 src:∀v∈p.src,ju f.regs v.1 v.2
theorem phiL_zero {f:FunL} {b:Nat} {p:PhiL} (h:Xe f b (qS (xm f) b).length p=0):PhiOk f b p:=by
 unfold Xe ZH at h
 split at h
 ·cases h
 split at h
 ·rename_i h1 h2;exact absurd h h2
 split at h
 ·cases h
 rename_i h1 h2 h3
 exact ⟨Jl (by simpa using h2),by simpa using h3,fun v hv=>jO (qY h _ (List.mem_map.2 ⟨v,hv,rfl⟩))⟩
structure InsOk (u:UniL) (f:FunL) (x:InsL):Prop where
 op:1≤x.op∧x.op≤22
 dst:-1≤x.dst∧(x.dst<f.regs∨x.dst = -1)
 dst0:x.op≠19→x.op≠20→x.op≠22→0≤x.dst
 a:ju f.regs x.ar x.an
 b:ju f.regs x.br x.bn
 call:x.op=20→(0≤x.fn∧x.fn<u.funcs.length)∧(x.args.length:Int)=Zx u x.fn.toNat
 arg:∀v∈x.args,ju f.regs v.1 v.2
theorem insL_zero {u:UniL} {f:FunL} {x:InsL} (h:KK u f x=0):InsOk u f x:=by
 unfold KK jT at h
 split at h
 ·cases h
 split at h
 ·cases h
 split at h
 ·rename_i h1 h2 h3;exact absurd h h3.2.2
 rename_i h1 h2 h3
 have h1:1≤x.op∧x.op≤22:=by omega
 have ha:=qY h (x9 f.regs x.ar x.an) (by simp)
 have hb:=qY h (x9 f.regs x.br x.bn) (by simp)
 have hc:=qY h (xS f.regs u.funcs.length (Zx u) (x.op == 20) x.fn x.args) (by simp)
 have hd:(shD x.op=true∧¬(x.op=20∧x.dst = -1)→0≤x.dst∧x.dst<f.regs):=fun hh=>by
  refine Jl ?_
  rcases Decidable.em (vx f.regs x.dst=0) with g|g
  ·exact g
  exact absurd ⟨hh.1,hh.2,g⟩ h3
 have hs:shD x.op=false→x.dst = -1:=fun hh=>by
  rcases Decidable.em (x.dst = -1) with g|g
  ·exact g
  exact absurd (.inl ⟨hh,g⟩) h2
 have hca:x.op=20→((0≤x.fn∧x.fn<u.funcs.length)∧(x.args.length:Int)=Zx u x.fn.toNat)∧valsE f.regs x.args=0:=fun hh=>by
  unfold xS at hc
  rw [if_neg (by simp [hh])] at hc
  split at hc
  ·cases hc
  split at hc
  ·cases hc
  rename_i g1 g2
  exact ⟨⟨by omega,by omega⟩,hc⟩
 refine ⟨h1,?_,fun h19 h20 h22=>?_,jO ha,jO hb,fun hh=>(hca hh).1,fun v hv=>?_⟩
 ·cases hD:shD x.op
  ·have:=hs hD;omega
  rcases Decidable.em (x.op=20∧x.dst = -1) with g|g
  ·omega
  have:=hd ⟨hD,g⟩;omega
 ·have hD:shD x.op=true:=by unfold shD;rw [decide_eq_true_eq];omega
  exact (hd ⟨hD,by omega⟩).1
 rcases Decidable.em (x.op=20) with g|g
 ·exact jO (qY (hca g).2 _ (List.mem_map.2 ⟨v,hv,rfl⟩))
 have:¬(x.fn≠0∨0<x.args.length):=fun hh=>h2 (.inr (.inr (.inr ⟨g,hh⟩)))
 have:x.args.length=0:=by omega
 rw [List.length_eq_zero_iff] at this
 rw [this] at hv
 cases hv
theorem ZQ (T:List (List Int)):∀(n i:Nat) (t:Int),i<n→t∈T.getD i []→(t.toNat,i)∈qM T n
 | 0,i,t,h,_=>by omega
 | n+1,i,t,h,ht=>by
  unfold qM
  rcases Nat.lt_or_ge i n with g|g
  ·exact List.mem_append_left _ (ZQ T n i t g ht)
  obtain rfl:i=n:=by omega
  exact List.mem_append_right _ (List.mem_map.2 ⟨t,ht,rfl⟩)
theorem rowOf_mem {ps:List (Nat×Nat)} {t i:Nat} (h:(t,i)∈ps):i∈qS ps t:=by
 unfold qS
 exact List.mem_map.2 ⟨(t,i),List.mem_filter.2 ⟨h,by simp⟩,rfl⟩
theorem row_mem {f:FunL} {b:Nat} (hb:b<f.blocks.length) {t:Int} (ht:t∈f.blocks[b].fin.to):b∈qS (xm f) t.toNat:=
 rowOf_mem (ZQ _ _ _ _ hb (by rw [vT f b hb];exact ht))

structure FunS (f:FunL):Prop where
 n1:0<f.blocks.length
 n40:f.blocks.length≤40
 two:∀k (h:k<f.blocks.length),f.blocks[k].fin.to.length≤2
 tos:∀k (h:k<f.blocks.length),∀t∈f.blocks[k].fin.to,1≤t∧t<(f.blocks.length:Int)
theorem ChkOk.funS {u:UniL} (h:ChkOk u) {k:Nat} (hk:k<u.funcs.length):FunS u.funcs[k]:=by
 obtain ⟨_,_,⟨h3,h4⟩,_⟩:=h.fn hk
 refine ⟨by omega,by omega,fun b hb=>?_,fun b hb=>?_⟩
 ·have e:=Zc (kW (h.bodyZ hk) hb)
  have:=e.len
  have:=e.kind
  omega
 exact (Zc (kW (h.bodyZ hk) hb)).to
theorem FunS.tosB {f:FunL} (h:FunS f):∀b,b<f.blocks.length→∀x∈tosB f.blocks b,0≤x∧x<(f.blocks.length:Int):=fun b hb x hx=>by
 rw [qP hb] at hx
 have:=h.tos b hb x hx
 omega
theorem FunS.tosD {f:FunL} (h:FunS f):∀i,i<f.blocks.length→((kt f).getD i []).length≤2∧∀t∈(kt f).getD i [],1≤t∧t<(f.blocks.length:Int):=fun i hi=>by
 rw [vT f i hi]
 exact ⟨h.two i hi,h.tos i hi⟩
theorem xM:∀(n:Nat) (l:List Nat),l.Nodup→(∀x∈l,x<n)→l.length≤n
 | 0,l,_,h=>by
  cases l with
  | nil=>simp
  | cons x l=>have:=h x List.mem_cons_self;omega
 | n+1,l,hd,h=>by
  by_cases hn:n∈l
  ·have h1:=xM n (l.erase n) (hd.erase n) (fun x hx=>by
    have h2:=hd.mem_erase_iff.1 hx
    have:=h x h2.2
    have:=h2.1
    omega)
   rw [List.length_erase_of_mem hn] at h1
   omega
  have h1:=xM n l hd (fun x hx=>by
   have:=h x hx
   have:x≠n:=fun e=>hn (e ▸ hx)
   omega)
  omega
theorem Jm {T:List (List Int)}:∀{n:Nat} {p:Nat×Nat},p∈qM T n→p.2<n∧∃t∈T.getD p.2 [],p.1=t.toNat
 | 0,p,h=>by unfold qM at h;cases h
 | n+1,p,h=>by
  unfold qM at h
  rcases List.mem_append.1 h with h|h
  ·obtain ⟨h1,h2⟩:=Jm h
   exact ⟨by omega,h2⟩
  obtain ⟨t,ht,rfl⟩:=List.mem_map.1 h
  exact ⟨by simp,t,ht,rfl⟩
theorem Kb {f:FunL} {c p:Nat} (h:p∈qS (xm f) c):p<f.blocks.length:=by
 unfold qS at h
 obtain ⟨q,hq,rfl⟩:=List.mem_map.1 h
 exact (Jm (List.mem_filter.1 hq).1).1
def insN (f:FunL) (c:Nat):List Nat:=qS (xm f) c
theorem Kc {f:FunL} (b c:Nat) (hb:b<f.blocks.length) (h:(c:Int)∈tosB f.blocks b):b∈insN f c:=by
 rw [qP hb] at h
 have:=row_mem hb h
 rw [Int.toNat_natCast] at this
 exact this
theorem QK {f:FunL} (h:FunS f) (c:Nat):(insN f c).length≤80:=by
 have h1:=QH (xm f) c
 have h2:(xm f).length≤2*f.blocks.length:=kJ (kt f) _ _ (Nat.le_refl _) (fun i hi=>(h.tosD i hi).1)
 have:=h.n40
 show (qS _ _).length≤_
 omega
theorem FunS.ord {f:FunL} (h:FunS f):OrdOk f.blocks (jR f.blocks):=by
 obtain ⟨o,ho⟩:=orderB_ok h.n1 h.tosB
 rw [ho.nats]
 exact ho
theorem FunS.ordLen {f:FunL} (h:FunS f):(jR f.blocks).length≤f.blocks.length:=xM _ _ h.ord.once h.ord.inb
theorem FunS.postLen {f:FunL} (h:FunS f):(vk f.blocks).length≤1000000:=by
 have h1:(jM f.blocks).length=(jR f.blocks).length:=by unfold jR;simp
 have h2:(jM f.blocks).length=(vk f.blocks).length:=by unfold jM;simp
 have:=h.ordLen
 have:=h.n40
 omega

def plK (o:List Nat) (k c:Nat):Nat:=if c∈o.take k then o.idxOf c else 0
theorem plK_zero (o:List Nat) (c:Nat):plK o 0 c=0:=by simp [plK]
theorem plK_full (o:List Nat) (c:Nat):plK o o.length c=plN o c:=by simp [plK,plN]
theorem plK_succ {o:List Nat} (ho:o.Nodup) {k:Nat} (hk:k<o.length) (c:Nat):plK o (k+1) c=if c=o[k] then k else plK o k c:=by
 have em:c∈o.take (k+1)↔c∈o.take k∨c=o[k]:=by
  rw [List.take_succ_eq_append_getElem hk,List.mem_append,List.mem_singleton]
 unfold plK
 by_cases e:c=o[k]
 ·rw [if_pos (em.2 (.inr e)),if_pos e,e]
  exact ho.idxOf_getElem k hk
 rw [if_neg e]
 by_cases h:c∈o.take k
 ·rw [if_pos (em.2 (.inl h)),if_pos h]
 rw [if_neg h,if_neg (fun g=>(em.1 g).elim h e)]

theorem DomI.step_mk {R:Nat→Prop} {pl:Nat→Nat} {u:Nat→Int} (h:DomI R pl (mkN u) (upN u)) {b:Int} {p:Nat} (h1:-1≤b) (hb:0≤b→mkN u b.toNat):-1≤jp u pl b p∧(0≤jp u pl b p→mkN u (jp u pl b p).toNat):=by
 unfold jp
 by_cases hp:u p<0
 ·rw [if_pos hp];exact ⟨h1,hb⟩
 rw [if_neg hp]
 have hm:mkN u p:=by unfold mkN;omega
 by_cases h0:b<0
 ·rw [if_pos h0];exact ⟨by omega,fun _=>by simpa using hm⟩
 rw [if_neg h0]
 have hmb:=hb (by omega)
 have haU:=h.meet (pl b.toNat+pl p+1) b.toNat p (by omega) hmb hm
 exact ⟨by omega,fun _=>by simpa using (h.ch haU.right hm).1⟩

def qE (o:List Nat) (b:Nat):Int:=if b∈o then (o.idxOf b:Int) else -1
def Kd (at_:Nat→Int) (ah:List Nat) (src:List (Bool×Int)):List (Int×(Bool×Int)):=
 ((ah.zip src).map fun e=>(at_ e.1,e.2)).filter fun e=>decide (0≤e.1)
def sortK (l:List (Int×(Bool×Int))):List (Int×(Bool×Int)):=l.mergeSort fun a b=>decide (a.1≤b.1)
def srcK (at_:Nat→Int) (ah:List Nat) (src:List (Bool×Int)):List (Bool×Int):=(sortK (Kd at_ ah src)).map (·.2)
def endK (at_:Nat→Int) (x:EndL):EndL:={ x with «to»:=x.to.map fun t=>at_ t.toNat }
def blkK (at_:Nat→Int) (ah:List Nat) (x:BlkL):BlkL:=
 { phis:=x.phis.map fun p=>{ p with src:=srcK at_ ah p.src },list:=x.list,fin:=endK at_ x.fin }
def kY:BlkL:=⟨[],[],⟨1,false,0,[]⟩⟩
def atF (f:FunL) (b:Nat):BlkL:=f.blocks.getD b kY
theorem qN {f:FunL} {b:Nat} (h:b<f.blocks.length):atF f b=f.blocks[b]:=by
 unfold atF
 simp [h]
def zm (o:List Nat) (f:FunL):FunL:={ f with blocks:=o.map fun b=>blkK (qE o) (insN f b) (atF f b) }

def Jn (ah:List Nat) (old now:Nat):Nat:=(ah.filter fun a=>decide (a<now∧a≠old)).length
def QF (ah:List Nat) (old now:Nat) (src:List (Bool×Int)):List (Bool×Int):=
 ((src.eraseIdx (ah.idxOf old)).take (Jn ah old now))++src.getD (ah.idxOf old) (false,0)::((src.eraseIdx (ah.idxOf old)).drop (Jn ah old now))
def qQ (f:FunL) (old now:Nat):FunL:=
 { f with blocks:=f.blocks.mapIdx fun i x=>if (i:Int)∈(atF f old).fin.to then { x with phis:=x.phis.map fun p=>{ p with src:=QF (insN f i) old now p.src } } else x }
def xB (f:FunL) (b t:Nat):FunL:=
 let g:=qQ f t b
 { g with blocks:=(g.blocks.set b { phis:=(atF g b).phis,list:=(atF g b).list++(atF g t).list,fin:=(atF g t).fin }).set t kY }
def ZR (f:FunL) (b:Nat):Option Nat:=
 let t:=((atF f b).fin.to.getD 0 0).toNat
 if (atF f b).fin.kind=2∧¬(t=b∨0<(atF f t).phis.length∨1<(insN f t).length) then some t else none
def zj:Nat→FunL→Nat→FunL
 | 0,f,_=>f
 | c+1,f,b=>match ZR f b with
  | none=>f
  | some t=>zj c (xB f b t) b
def zh (f:FunL):FunL:=(List.range f.blocks.length).foldl (fun g b=>zj (f.blocks.length+1) g b) f

abbrev NamS:=(Nat→Int)×Int
def jz (s:NamS) (r:Nat):NamS:=if s.1 r<0 then (fun i=>if i=r then s.2 else s.1 i,s.2+1) else s
def xJ (v:Bool×Int):List Nat:=if v.1=true then [v.2.toNat] else []
def Qv (x:InsL):List Nat:=xJ (x.ar,x.an)++xJ (x.br,x.bn)++x.args.flatMap xJ
def vW (d:Int):List Nat:=if 0≤d then [d.toNat] else []
def metB (x:BlkL):List Nat:=x.phis.map (fun p=>p.dst.toNat)++x.list.flatMap (fun i=>Qv i++vW i.dst)++xJ (x.fin.onr,x.fin.onn)
def yc (x:BlkL):List Nat:=x.phis.flatMap (fun p=>p.dst.toNat::p.src.flatMap xJ)++x.list.flatMap (fun i=>Qv i++vW i.dst)++xJ (x.fin.onr,x.fin.onn)
def QL (f:FunL):List Nat:=List.range f.params.toNat++f.blocks.flatMap metB
def Jo (f:FunL):List Nat:=f.blocks.flatMap yc
def nam0:NamS:=(fun _=>-1,0)
def namF (f:FunL):NamS:=(QL f++Jo f).foldl jz nam0
def xk (m:Nat→Int) (v:Bool×Int):Bool×Int:=if v.1=true then (true,m v.2.toNat) else v
def kZ (m:Nat→Int) (x:InsL):InsL:=
 { x with dst:=if 0≤x.dst then m x.dst.toNat else x.dst,an:=(xk m (x.ar,x.an)).2,bn:=(xk m (x.br,x.bn)).2,args:=x.args.map (xk m) }
def renB (m:Nat→Int) (x:BlkL):BlkL:=
 { phis:=x.phis.map fun p=>{ dst:=m p.dst.toNat,src:=p.src.map (xk m) },list:=x.list.map (kZ m),fin:={ x.fin with onn:=(xk m (x.fin.onr,x.fin.onn)).2 } }
def ja (f:FunL):FunL:={ f with regs:=(namF f).2,blocks:=f.blocks.map (renB (namF f).1) }
def Zy (f:FunL):FunL:=zm (jR f.blocks) f
def jq (f:FunL):FunL:=ja (Zy f)
def doT (f:FunL):FunL:=jq (zh (Zy f))
def xV (u:UniL):UniL:={ u with funcs:=u.funcs.map doT }
structure FunD (f:FunL):Prop extends FunS f where
 once:∀k (h:k<f.blocks.length),(f.blocks[k].fin.to).Nodup

theorem rowWays {T:List (List Int)} {t:Nat} (h0:∀i,∀x∈T.getD i [],0≤x) (h1:∀i,(T.getD i []).Nodup):∀n:Nat,qS (qM T n) t=(List.range n).filter fun i=>decide ((t:Int)∈T.getD i [])
 | 0=>rfl
 | n+1=>by
  have ih:=rowWays (t:=t) h0 h1 n
  rw [List.range_succ,List.filter_append,←ih]
  show qS (qM T n++_) t=_
  unfold qS
  rw [List.filter_append,List.map_append]
  congr 1
  have a0:=h0 n
  have a1:=h1 n
  rw [show ([n].filter fun i=>decide ((t:Int)∈T.getD i []))=if (t:Int)∈T.getD n [] then [n] else [] by by_cases e:(t:Int)∈T.getD n []<;>simp only [List.filter_cons,List.filter_nil,e,decide_true,decide_false,if_true,if_false,Bool.false_eq_true]]
  generalize T.getD n []=l at a0 a1
  have key:∀l:List Int,(∀x∈l,0≤x)→l.Nodup→((l.map fun x=>(x.toNat,n)).filter fun x=>x.1 == t).map (·.2)=if (t:Int)∈l then [n] else []:=by
   intro l
   induction l with
   | nil=>intro _ _;rfl
   | cons x l ih=>
    intro b0 b1
    obtain ⟨c1,c2⟩:=List.nodup_cons.1 b1
    have ih:=ih (fun y hy=>b0 y (.tail _ hy)) c2
    have hx:=b0 x (.head _)
    rw [List.map_cons,List.filter_cons]
    by_cases e:x.toNat=t
    ·have e2:x=(t:Int):=by omega
     subst e2
     rw [if_neg c1] at ih
     simp only [e,beq_self_eq_true,if_true,List.map_cons,ih,List.mem_cons,true_or]
    have e2:(t:Int)≠x:=by omega
    have e3:(x.toNat == t)=false:=by simpa using e
    rw [if_neg (by simp [e3]),ih]
    simp [e2]
  exact key l a0 a1

theorem Zd (f:FunL) (i:Nat):(kt f).getD i []=tosB f.blocks i:=by
 unfold kt tosB
 by_cases h:i<f.blocks.length
 ·simp [h]
 simp [h]
theorem FunD.insN {f:FunL} (h:FunD f) (c:Nat):insN f c=(List.range f.blocks.length).filter fun i=>decide ((c:Int)∈tosB f.blocks i):=by
 have:=rowWays (T:=kt f) (t:=c) (fun i x hx=>by
  rw [Zd] at hx
  by_cases hi:i<f.blocks.length
  ·exact (h.tosB i hi x hx).1
  ·simp [Go.Proofs.YtbnnhmcloecijaaGreatDoor.tosB,hi] at hx) (fun i=>by
  rw [Zd]
  by_cases hi:i<f.blocks.length
  ·rw [qP hi];exact h.once i hi
  simp [Go.Proofs.YtbnnhmcloecijaaGreatDoor.tosB,hi]) f.blocks.length
 unfold Go.Proofs.YtbnnhmcloecijaaGreatDoor.insN xm
 rw [this]
 simp only [Zd]
theorem FunD.insD {f:FunL} (h:FunD f) (c:Nat):(Go.Proofs.YtbnnhmcloecijaaGreatDoor.insN f c).Nodup:=by
 rw [h.insN]
 exact List.nodup_range.filter _
theorem FunD.mem {f:FunL} (h:FunD f) {c b:Nat}:b∈Go.Proofs.YtbnnhmcloecijaaGreatDoor.insN f c↔b<f.blocks.length∧(c:Int)∈tosB f.blocks b:=by
 rw [h.insN,List.mem_filter,List.mem_range]
 simp

def CloV (tos:Nat→List Int) (s s':PostS):Prop:=(∀x,s.1 x=true→s'.1 x=true)∧∀x,s'.1 x=true→s.1 x=true∨∀t∈tos x,s'.1 t.toNat=true
theorem CloV.refl (tos:Nat→List Int) (s:PostS):CloV tos s s:=⟨fun _ h=>h,fun _ h=>.inl h⟩
theorem CloV.trans {tos:Nat→List Int} {a b c:PostS} (h:CloV tos a b) (k:CloV tos b c):CloV tos a c:=
 ⟨fun x e=>k.1 x (h.1 x e),fun x e=>(k.2 x e).elim (fun e=>(h.2 x e).imp id fun g t ht=>k.1 _ (g t ht)) .inr⟩

theorem visTo_c {n:Nat} {tos:Nat→List Int} {rec:Nat→PostS→PostS} {xs:List Int} (hx:∀x∈xs,0≤x∧x<(n:Int)) {s:PostS}
  (h:∀b s',b<n→s'.1 b=false→xu n s'.1≤xu n s.1→CloV tos s' (rec b s')∧(rec b s').1 b=true):∀i,i≤xs.length→CloV tos s (zZ rec xs s i)∧∀j (hj:j<xs.length),xs.length - i≤j→(zZ rec xs s i).1 xs[j].toNat=true
 | 0,_=>⟨.refl _ _,fun j hj g=>by omega⟩
 | i+1,hi=>by
  obtain ⟨ih,i2⟩:=visTo_c hx h i (by omega)
  show CloV tos s (zS rec (zZ rec xs s i) (xs.getD (xs.length - 1 - i) 0))∧∀j (hj:j<xs.length),_→(zS rec (zZ rec xs s i) (xs.getD (xs.length - 1 - i) 0)).1 _=true
  have hk:xs.length - 1 - i<xs.length:=by omega
  have hm:=hx _ (List.getElem_mem hk)
  have hg:xs.getD (xs.length - 1 - i) 0=xs[xs.length - 1 - i]:=by
   rw [List.getD_eq_getElem?_getD,List.getElem?_eq_getElem hk];rfl
  rw [hg]
  unfold zS
  cases e:(zZ rec xs s i).1 (xs[xs.length - 1 - i]).toNat
  ·obtain ⟨h1,h2⟩:=h (xs[xs.length - 1 - i]).toNat _ (by omega) e (Qe ih.1)
   refine ⟨ih.trans h1,fun j hj g=>?_⟩
   by_cases ej:j=xs.length - 1 - i
   ·subst ej;exact h2
   exact h1.1 _ (i2 j hj (by omega))
  refine ⟨ih,fun j hj g=>?_⟩
  by_cases ej:j=xs.length - 1 - i
  ·subst ej;exact e
  exact i2 j hj (by omega)
theorem visF_c {n:Nat} {tos:Nat→List Int} (hT:∀b,b<n→∀x∈tos b,0≤x∧x<(n:Int)):∀(c b:Nat) (s:PostS),xu n s.1<c→b<n→s.1 b=false→CloV tos s (jQ tos c b s)∧(jQ tos c b s).1 b=true
 | 0,_,_,h,_,_=>by omega
 | c+1,b,s,hc,hb,hs=>by
  have h1:=jL (n:=n) hb hs
  obtain ⟨h2,h3⟩:=visTo_c (n:=n) (tos:=tos) (rec:=jQ tos c) (xs:=tos b) (hT b hb) (s:=xr b s) (fun b' s' hb' h' hle=>visF_c hT c b' s' (by omega) hb' h') (tos b).length (Nat.le_refl _)
  have hb1:(xr b s).1 b=true:=by show (if b=b then true else _)=true;simp
  refine ⟨⟨fun x e=>h2.1 x (Xs e),fun x e=>?_⟩,h2.1 b hb1⟩
  rcases h2.2 x e with g|g
  ·by_cases ex:x=b
   ·subst ex
    refine .inr fun t ht=>?_
    obtain ⟨j,hj,rfl⟩:=List.mem_iff_getElem.1 ht
    exact h3 j hj (by omega)
   have g:(if x=b then true else s.1 x)=true:=g
   rw [if_neg ex] at g
   exact .inl g
  exact .inr g

theorem FunS.closed {f:FunL} (h:FunS f) {b:Nat} (hb:b∈jR f.blocks) {t:Int} (ht:t∈Go.Proofs.YtbnnhmcloecijaaGreatDoor.tosB f.blocks b):t.toNat∈jR f.blocks:=by
 obtain ⟨l,hp⟩:=K8 (n:=f.blocks.length) h.tosB (f.blocks.length+1) 0 (fun _=>false,[]) (Nat.lt_succ_of_le (jY _ _)) h.n1 rfl
 obtain ⟨hc,_⟩:=visF_c (n:=f.blocks.length) h.tosB (f.blocks.length+1) 0 (fun _=>false,[]) (Nat.lt_succ_of_le (jY _ _)) h.n1 rfl
 have he:∀x,x∈jR f.blocks↔(jQ (Go.Proofs.YtbnnhmcloecijaaGreatDoor.tosB f.blocks) (f.blocks.length+1) 0 (fun _=>false,[])).1 x=true:=fun x=>by
  rw [hp.seen x]
  unfold jR jM vk
  rw [hp.left]
  simp [or_comm]
 rw [he] at hb ⊢
 rcases hc.2 b hb with g|g
 ·cases g
 exact g t ht
/-! ## renamed graphs -/

theorem Ke {n:Nat} {r1 r2:Nat→PostS→PostS} {xs:List Int} (hx:∀x∈xs,0≤x∧x<(n:Int)) {s:PostS}
  (h:∀b s',b<n→s'.1 b=false→xu n s'.1≤xu n s.1→r1 b s'=r2 b s'∧xu n (r1 b s').1≤xu n s'.1):∀i,i≤xs.length→zZ r1 xs s i=zZ r2 xs s i∧xu n (zZ r1 xs s i).1≤xu n s.1
 | 0,_=>⟨rfl,Nat.le_refl _⟩
 | i+1,hi=>by
  obtain ⟨ih,i2⟩:=Ke hx h i (by omega)
  show zS r1 (zZ r1 xs s i) (xs.getD (xs.length - 1 - i) 0)=zS r2 (zZ r2 xs s i) (xs.getD (xs.length - 1 - i) 0)∧xu n (zS r1 (zZ r1 xs s i) (xs.getD (xs.length - 1 - i) 0)).1≤_
  rw [←ih]
  have hk:xs.length - 1 - i<xs.length:=by omega
  have hm:=hx _ (List.getElem_mem hk)
  have hg:xs.getD (xs.length - 1 - i) 0=xs[xs.length - 1 - i]:=by
   rw [List.getD_eq_getElem?_getD,List.getElem?_eq_getElem hk];rfl
  rw [hg]
  unfold zS
  cases e:(zZ r1 xs s i).1 (xs[xs.length - 1 - i]).toNat
  ·obtain ⟨h1,h2⟩:=h (xs[xs.length - 1 - i]).toNat _ (by omega) e i2
   exact ⟨h1,Nat.le_trans h2 i2⟩
  exact ⟨rfl,i2⟩
theorem Jp {n:Nat} {tos:Nat→List Int} (hT:∀b,b<n→∀x∈tos b,0≤x∧x<(n:Int)):∀(c d b:Nat) (s:PostS),xu n s.1<c→xu n s.1<d→b<n→s.1 b=false→jQ tos c b s=jQ tos d b s
 | 0,_,_,_,h,_,_,_=>by omega
 | _+1,0,_,_,_,h,_,_=>by omega
 | c+1,d+1,b,s,hc,hd,hb,hs=>by
  have h1:=jL (n:=n) hb hs
  obtain ⟨h2,_⟩:=Ke (n:=n) (r1:=jQ tos c) (r2:=jQ tos d) (xs:=tos b) (hT b hb) (s:=xr b s) (fun b' s' hb' h' hle=>⟨Jp hT c d b' s' (by omega) (by omega) hb' h',by
   obtain ⟨l,hl⟩:=K8 hT c b' s' (by omega) hb' h'
   exact hl.up⟩) (tos b).length (Nat.le_refl _)
  show ((zZ (jQ tos c) (tos b) (xr b s) (tos b).length).1,_)=((zZ (jQ tos d) (tos b) (xr b s) (tos b).length).1,_)
  rw [h2]

structure IsoV (R:Nat→Prop) (p:Nat→Nat) (s s':PostS):Prop where
 seen:∀x,R x→s'.1 (p x)=s.1 x
 left:s'.2=s.2.map fun x=>(p x.toNat:Int)
theorem Jq {R:Nat→Prop} {p:Nat→Nat} {r1 r2:Nat→PostS→PostS} (hr:∀b a a',R b→IsoV R p a a'→IsoV R p (r1 b a) (r2 (p b) a')) {xs:List Int} (hx:∀x∈xs,R x.toNat) {s s':PostS} (h:IsoV R p s s'):∀i,i≤xs.length→IsoV R p (zZ r1 xs s i) (zZ r2 (xs.map fun x=>(p x.toNat:Int)) s' i)
 | 0,_=>h
 | i+1,hi=>by
  have ih:=Jq hr hx h i (by omega)
  show IsoV R p (zS r1 _ (xs.getD (xs.length - 1 - i) 0)) (zS r2 _ ((xs.map fun x=>(p x.toNat:Int)).getD ((xs.map fun x=>(p x.toNat:Int)).length - 1 - i) 0))
  have hk:xs.length - 1 - i<xs.length:=by omega
  have hg:xs.getD (xs.length - 1 - i) 0=xs[xs.length - 1 - i]:=by
   rw [List.getD_eq_getElem?_getD,List.getElem?_eq_getElem hk];rfl
  have hg2:(xs.map fun x=>(p x.toNat:Int)).getD ((xs.map fun x=>(p x.toNat:Int)).length - 1 - i) 0=(p (xs[xs.length - 1 - i]).toNat:Int):=by
   rw [List.length_map,List.getD_eq_getElem?_getD,List.getElem?_map,List.getElem?_eq_getElem hk];rfl
  rw [hg,hg2]
  have hR:=hx _ (List.getElem_mem hk)
  unfold zS
  rw [Int.toNat_natCast,ih.seen _ hR]
  split
  ·exact ih
  exact hr _ _ _ hR ih
theorem Kf {R:Nat→Prop} {p:Nat→Nat} {t1 t2:Nat→List Int} (hinj:∀x y,R x→R y→p x=p y→x=y) (hT:∀x,R x→(∀t∈t1 x,R t.toNat)∧t2 (p x)=(t1 x).map fun t=>(p t.toNat:Int)):∀(c b:Nat) (s s':PostS),R b→IsoV R p s s'→IsoV R p (jQ t1 c b s) (jQ t2 c (p b) s')
 | 0,_,_,_,_,h=>h
 | c+1,b,s,s',hb,h=>by
  have hm:IsoV R p (xr b s) (xr (p b) s'):=⟨fun x hx=>by
   show (if p x=p b then true else s'.1 (p x))=(if x=b then true else s.1 x)
   rw [h.seen x hx]
   by_cases e:x=b
   ·subst e;simp
   rw [if_neg e,if_neg fun g=>e (hinj x b hx hb g)],h.left⟩
  have h2:=Jq (r1:=jQ t1 c) (r2:=jQ t2 c) (fun b' a a' hb' ha=>Kf hinj hT c b' a a' hb' ha) (hT b hb).1 hm (t1 b).length (Nat.le_refl _)
  have e2:jQ t2 (c+1) (p b) s'=((zZ (jQ t2 c) (t2 (p b)) (xr (p b) s') (t2 (p b)).length).1,(zZ (jQ t2 c) (t2 (p b)) (xr (p b) s') (t2 (p b)).length).2++[((p b:Nat):Int)]):=rfl
  rw [e2,(hT b hb).2,List.length_map]
  refine ⟨h2.seen,?_⟩
  show _++[((p b:Nat):Int)]=(_++[(b:Int)]).map _
  rw [List.map_append,h2.left]
  simp

structure OrdC (f:FunL) (o:List Nat):Prop where
 once:o.Nodup
 root:∃l,o=0::l
 inb:∀x∈o,x<f.blocks.length
 closed:∀b∈o,∀t∈tosB f.blocks b,t.toNat∈o
theorem FunS.ordC {f:FunL} (h:FunS f):OrdC f (jR f.blocks):=⟨h.ord.once,h.ord.root,h.ord.inb,fun _ hb _ ht=>h.closed hb ht⟩

theorem xW {o:List Nat} {b:Nat} (h:b∈o):qE o b=(o.idxOf b:Int):=by unfold qE;rw [if_pos h]
theorem xE {o:List Nat} {b:Nat} (h:b∈o):∃hi:o.idxOf b<o.length,o[o.idxOf b]=b:=⟨List.idxOf_lt_length_of_mem h,List.getElem_idxOf (List.idxOf_lt_length_of_mem h)⟩
theorem Ze {o:List Nat} {a b:Nat} (ha:a∈o) (hb:b∈o) (e:o.idxOf a=o.idxOf b):a=b:=by
 obtain ⟨h1,e1⟩:=xE ha
 obtain ⟨h2,e2⟩:=xE hb
 rw [←e1,←e2]
 simp only [e]
theorem OrdC.pos {f:FunL} {o:List Nat} (h:OrdC f o):0<o.length∧o.idxOf 0=0∧0∈o:=by
 obtain ⟨l,rfl⟩:=h.root
 simp

theorem zF (o:List Nat) (f:FunL):(zm o f).blocks.length=o.length:=by simp [zm]
theorem Xw (o:List Nat) (f:FunL) {i:Nat} (hi:i<o.length):(zm o f).blocks[i]'(by rw [zF];exact hi)=blkK (qE o) (insN f o[i]) (atF f o[i]):=by simp [zm]
theorem QM {o:List Nat} {f:FunL} (h:OrdC f o) {i:Nat} (hi:i<o.length):tosB (zm o f).blocks i=(tosB f.blocks o[i]).map fun t=>(o.idxOf t.toNat:Int):=by
 have h1:=h.inb _ (List.getElem_mem hi)
 rw [qP (by rw [zF];exact hi),Xw o f hi,qP h1]
 unfold blkK endK
 rw [qN h1]
 refine List.map_congr_left fun t ht=>?_
 rw [←qP h1] at ht
 exact xW (h.closed _ (List.getElem_mem hi) t ht)
theorem Vo {o:List Nat} {f:FunL} (h:OrdC f o) {b:Nat} (hb:b∈o):tosB (zm o f).blocks (o.idxOf b)=(tosB f.blocks b).map fun t=>(o.idxOf t.toNat:Int):=by
 obtain ⟨h1,h2⟩:=xE hb
 rw [QM h h1,h2]

theorem FunD.keep {f:FunL} (hf:FunD f) {o:List Nat} (h:OrdC f o):FunD (zm o f):=by
 have hle:o.length≤f.blocks.length:=xM _ _ h.once h.inb
 have ht:∀(k:Nat) (hk:k<(zm o f).blocks.length),((zm o f).blocks[k]).fin.to=(tosB f.blocks (o[k]'(by rw [←zF o f];exact hk))).map fun t=>(o.idxOf t.toNat:Int):=fun k hk=>by
  rw [←qP hk]
  exact QM h _
 have hin:∀(k:Nat) (hk:k<(zm o f).blocks.length),(o[k]'(by rw [←zF o f];exact hk))<f.blocks.length:=fun k hk=>h.inb _ (List.getElem_mem _)
 refine ⟨⟨by rw [zF];exact h.pos.1,by rw [zF];have:=hf.n40;omega,fun k hk=>?_,fun k hk t hm=>?_⟩,fun k hk=>?_⟩
 ·rw [ht k hk,List.length_map,qP (hin k hk)]
  exact hf.two _ _
 ·rw [ht k hk] at hm
  obtain ⟨s,hs,rfl⟩:=List.mem_map.1 hm
  have h1:=h.closed _ (List.getElem_mem (by rw [←zF o f];exact hk)) s hs
  rw [qP (hin k hk)] at hs
  have h2:=hf.tos _ _ s hs
  obtain ⟨h3,h4⟩:=xE h1
  rw [zF]
  refine ⟨?_,by omega⟩
  have:o.idxOf s.toNat≠0:=fun e=>by
   have:=Ze h1 h.pos.2.2 (e.trans h.pos.2.1.symm)
   omega
  omega
 rw [ht k hk,qP (hin k hk)]
 refine List.pairwise_map.2 (List.Pairwise.imp_of_mem (fun {x y} hx hy ne e=>ne ?_) (hf.once _ (hin k hk)))
 have hx':=h.closed _ (List.getElem_mem (by rw [←zF o f];exact hk)) x (by rw [qP (hin k hk)];exact hx)
 have hy':=h.closed _ (List.getElem_mem (by rw [←zF o f];exact hk)) y (by rw [qP (hin k hk)];exact hy)
 have h1:=hf.tos _ _ x hx
 have h2:=hf.tos _ _ y hy
 have:=Ze hx' hy' (by omega)
 omega

theorem FunD.order {f:FunL} (hf:FunD f):jR (Zy f).blocks=List.range (jR f.blocks).length:=by
 have h:=hf.toFunS.ordC
 have hd:=hf.keep h
 obtain ⟨o,ho⟩:∃o,o=jR f.blocks:=⟨_,rfl⟩
 have hle:o.length≤f.blocks.length:=by rw [ho];exact xM _ _ h.once h.inb
 unfold Zy
 rw [←ho] at h hd ⊢
 have hI:=Kf (R:=fun b=>b∈o) (p:=fun b=>o.idxOf b) (t1:=tosB f.blocks) (t2:=tosB (zm o f).blocks) (fun x y hx hy e=>Ze hx hy e) (fun x hx=>⟨h.closed x hx,Vo h hx⟩) (f.blocks.length+1) 0 (fun _=>false,[]) (fun _=>false,[]) h.pos.2.2 ⟨fun _ _=>rfl,rfl⟩
 rw [h.pos.2.1] at hI
 have hm:=Jp (n:=(zm o f).blocks.length) hd.tosB (f.blocks.length+1) ((zm o f).blocks.length+1) 0 (fun _=>false,[]) (by have h5:xu (zm o f).blocks.length (fun _=>false)≤_:=jY (zm o f).blocks.length (fun _=>false);have h6:=zF o f;show xu _ (fun _=>false)<_;omega) (Nat.lt_succ_of_le (jY _ _)) hd.n1 rfl
 have e1:vk (zm o f).blocks=(vk f.blocks).map fun x=>(o.idxOf x.toNat:Int):=by
  unfold vk
  rw [←hm,hI.left]
 have e2:jR (zm o f).blocks=o.map fun x=>o.idxOf x:=by
  have e3:jR (zm o f).blocks=(jR f.blocks).map fun x=>o.idxOf x:=by
   unfold jR jM
   rw [e1,←List.map_reverse,List.map_map,List.map_map]
   exact List.map_congr_left fun x _=>by simp
  rw [e3,←ho]
 rw [e2]
 refine List.ext_getElem (by simp) fun i h1 h2=>?_
 simp only [List.getElem_map,List.getElem_range]
 exact h.once.idxOf_getElem i (by simpa using h1)

theorem Kg {l m:List (Int×(Bool×Int))} (hp:l.Perm m) (hm:m.Pairwise fun a b=>a.1<b.1):sortK l=m:=by
 refine List.Perm.eq_of_pairwise (le:=fun a b=>decide (a.1≤b.1)=true) (fun a b ha hb h1 h2=>?_) ?_ ?_ ((List.mergeSort_perm _ _).trans hp)
 ·have ha':a∈m:=hp.mem_iff.1 ((List.mergeSort_perm _ _).mem_iff.1 ha)
  have h1:=of_decide_eq_true h1
  have h2:=of_decide_eq_true h2
  obtain ⟨i,hi,e1⟩:=List.mem_iff_getElem.1 ha'
  obtain ⟨j,hj,e2⟩:=List.mem_iff_getElem.1 hb
  rw [List.pairwise_iff_getElem] at hm
  by_cases e:i=j
  ·subst e;rw [←e1,←e2]
  rcases Nat.lt_or_gt_of_ne e with g|g
  ·have:=hm i j hi hj g
   rw [e1,e2] at this
   omega
  have:=hm j i hj hi g
  rw [e1,e2] at this
  omega
 ·exact List.pairwise_mergeSort (fun a b c h1 h2=>by simp only [decide_eq_true_eq] at h1 h2 ⊢;omega) (fun a b=>by simp only [Bool.or_eq_true,decide_eq_true_eq];omega) l
 exact hm.imp fun h=>by simp only [decide_eq_true_eq];omega

theorem Kh {o:List Nat} (ah:List Nat) (g:Nat→Bool×Int):Kd (qE o) ah (ah.map g)=(ah.filter fun a=>decide (a∈o)).map fun a=>((o.idxOf a:Int),g a):=by
 unfold Kd
 induction ah with
 | nil=>rfl
 | cons a l ih=>
  simp only [List.map_cons,List.zip_cons_cons,List.filter_cons]
  by_cases h:a∈o
  ·rw [if_pos (by rw [xW h];simp),if_pos (by simpa using h),List.map_cons,ih,xW h]
  have e:qE o a = -1:=by unfold qE;rw [if_neg h]
  rw [if_neg (by rw [e];simp),if_neg (by simpa using h),ih]

theorem Xx {f:FunL} (hf:FunD f) {o:List Nat} (h:OrdC f o) {b:Nat} (hb:b∈o) {j:Nat}:j∈insN (zm o f) (o.idxOf b)↔∃hj:j<o.length,o[j]∈insN f b:=by
 rw [(hf.keep h).mem,zF]
 constructor
 ·rintro ⟨hj,hm⟩
  refine ⟨hj,hf.mem.2 ⟨h.inb _ (List.getElem_mem hj),?_⟩⟩
  rw [QM h hj] at hm
  obtain ⟨t,ht,e⟩:=List.mem_map.1 hm
  have h1:=h.closed _ (List.getElem_mem hj) t ht
  have h2:=Ze h1 hb (by omega)
  have h3:=hf.tosB _ (h.inb _ (List.getElem_mem hj)) t ht
  rw [←h2,show ((t.toNat:Nat):Int)=t by omega]
  exact ht
 rintro ⟨hj,hm⟩
 refine ⟨hj,?_⟩
 rw [QM h hj]
 exact List.mem_map.2 ⟨_,(hf.mem.1 hm).2,by simp⟩
theorem xN {f:FunL} (hf:FunD f) (c:Nat):(insN f c).Pairwise (·<·):=by
 rw [hf.insN]
 exact List.pairwise_lt_range.filter _

theorem srcK_keep {f:FunL} (hf:FunD f) {o:List Nat} (h:OrdC f o) {b:Nat} (hb:b∈o) (g:Nat→Bool×Int):srcK (qE o) (insN f b) ((insN f b).map g)=(insN (zm o f) (o.idxOf b)).map fun j=>g (o.getD j 0):=by
 have hd:=hf.keep h
 unfold srcK
 rw [Kh,Kg (m:=(insN (zm o f) (o.idxOf b)).map fun (j:Nat)=>((j:Int),g (o.getD j 0)))]
 ·rw [List.map_map];rfl
 ·have hg:∀j,j∈insN (zm o f) (o.idxOf b)→∃hj:j<o.length,o.getD j 0=o[j]∧o.idxOf o[j]=j∧o[j]∈insN f b:=fun j hj=>by
   obtain ⟨h1,h2⟩:=(Xx hf h hb).1 hj
   exact ⟨h1,by simp [h1],h.once.idxOf_getElem j h1,h2⟩
  have e1:((insN (zm o f) (o.idxOf b)).map fun (j:Nat)=>((j:Int),g (o.getD j 0)))=((insN (zm o f) (o.idxOf b)).map fun j=>o.getD j 0).map fun a=>((o.idxOf a:Int),g a):=by
   rw [List.map_map]
   refine List.map_congr_left fun j hj=>?_
   obtain ⟨h1,h2,h3,_⟩:=hg j hj
   show _=((o.idxOf (o.getD j 0):Int),g (o.getD j 0))
   rw [h2,h3]
  rw [e1]
  refine List.Perm.map _ ?_
  refine (List.perm_ext_iff_of_nodup ((hf.insD b).filter _) ?_).2 fun a=>?_
  ·refine List.pairwise_map.2 (List.Pairwise.imp_of_mem (fun {x y} hx hy ne e=>ne ?_) (hd.insD (o.idxOf b)))
   obtain ⟨h1,h2,h3,_⟩:=hg x hx
   obtain ⟨k1,k2,k3,_⟩:=hg y hy
   rw [h2,k2] at e
   rw [←h3,←k3,e]
  rw [List.mem_filter,List.mem_map]
  constructor
  ·rintro ⟨h1,h2⟩
   have h2:a∈o:=by simpa using h2
   obtain ⟨h3,h4⟩:=xE h2
   refine ⟨o.idxOf a,(Xx hf h hb).2 ⟨h3,by rw [h4];exact h1⟩,by simp [h3,h4]⟩
  rintro ⟨j,hj,rfl⟩
  obtain ⟨h1,h2,h3,h4⟩:=hg j hj
  rw [h2]
  exact ⟨h4,by simp⟩
 exact List.pairwise_map.2 ((xN hd _).imp fun h=>by show (_:Int)<_;omega)

def ZE (ah:List Nat) (src:List (Bool×Int)) (a:Nat):Bool×Int:=src.getD (ah.idxOf a) (false,0)
theorem fromR_row {ah:List Nat} (hd:ah.Nodup) {src:List (Bool×Int)} (h:src.length=ah.length):src=ah.map (ZE ah src):=by
 refine List.ext_getElem (by simp [h]) fun i h1 h2=>?_
 simp only [List.getElem_map]
 unfold ZE
 rw [hd.idxOf_getElem i (by omega)]
 simp [h1]
theorem fromR_map {ah:List Nat} (g:Nat→Bool×Int) {a:Nat} (h:a∈ah):ZE ah (ah.map g) a=g a:=by
 obtain ⟨h1,h2⟩:=xE h
 unfold ZE
 simp [h1,h2]
end Go.Proofs.YtbnnhmcloecijaaGreatDoor
