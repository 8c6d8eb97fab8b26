/-
  Plain: what zM makes of a function, and that the check's demands stay.
-/
import Derived.Test.YtecdphhdmjmmnaaGreatDoorJDomN
namespace Go.Proofs.YtecdphhdmjmmnaaGreatDoor
open Go.RowKit

theorem ChkOk.bodyZ {u:UniL} (h:ChkOk u) {k:Nat} (hk:k<u.funcs.length):jG u u.funcs[k]=0:=(Zl hk).symm.trans (h.body k hk)
theorem Z0 {u:UniL} {f:FunL} (h:jG u f=0):qr (f.blocks.map fun b=>JH f b.fin)=0∧qr ((List.range f.blocks.length).map (J0 u f))=0:=by
 unfold jG at h
 by_cases e:qr (f.blocks.map fun b=>JH f b.fin)=0
 ·rw[if_pos e]at h;exact⟨e,h⟩
 rw[if_neg e]at h;exact absurd h e
theorem bodyE_end {u:UniL} {f:FunL} (h:jG u f=0) {b:Nat} (hb:b<f.blocks.length):JH f f.blocks[b].fin=0:=
 zX (Z0 h).1 _ (List.mem_map.2 ⟨_,List.getElem_mem hb,rfl⟩)
theorem Xk {u:UniL} {f:FunL} (h:jG u f=0) {b:Nat} (hb:b<f.blocks.length) :
  (∀p∈f.blocks[b].phis,X2 f b (qN (xe f) b).length p=0)∧∀x∈f.blocks[b].list,insL u f x=0:=by
 have h1:=zX (Z0 h).2 (J0 u f b) (List.mem_map.2 ⟨b,List.mem_range.2 hb,rfl⟩)
 rw[Qa hb]at h1
 unfold blkE at h1
 by_cases e:qr (f.blocks[b].phis.map (X2 f b (qN (xe f) b).length))=0
 ·rw[if_pos e]at h1
  exact⟨fun p hp=>zX e _ (List.mem_map.2 ⟨p,hp,rfl⟩),fun x hx=>zX h1 _ (List.mem_map.2 ⟨x,hx,rfl⟩)⟩
 rw[if_neg e]at h1;exact absurd h1 e
def ValOk (regs:Int) (r:Bool) (n:Int):Prop:=r=true→0≤n∧n<regs
theorem valE_zero {regs:Int} {r:Bool} {n:Int} (h:zP regs r n=0):ValOk regs r n:=by
 intro hr
 unfold zP at h
 by_cases e:r=true∧¬(0≤n∧n≤regs - 1)
 ·rw[if_pos e]at h;cases h
 rcases Decidable.em (0≤n∧n≤regs - 1)with g|g
 ·omega
 exact absurd ⟨hr,g⟩ e
theorem Z1 (T:List (List Int)):∀(n i:Nat) (t:Int),i<n→t∈T.getD i []→(t.toNat,i)∈qG T n
 | 0,i,t,h,_=>by omega
 | n+1,i,t,h,ht=>by
  unfold qG
  rcases Nat.lt_or_ge i n with g|g
  ·exact List.mem_append_left _ (Z1 T n i t g ht)
  obtain rfl:i=n:=by omega
  exact List.mem_append_right _ (List.mem_map.2 ⟨t,ht,rfl⟩)
theorem rowOf_mem {ps:List (Nat×Nat)} {t i:Nat} (h:(t,i)∈ps):i∈qN ps t:=by
 unfold qN
 exact List.mem_map.2 ⟨(t,i),List.mem_filter.2 ⟨h,by simp⟩,rfl⟩
theorem row_mem {f:FunL} {b:Nat} (hb:b<f.blocks.length) {t:Int} (ht:t∈f.blocks[b].fin.to):b∈qN (xe f) t.toNat:=
 rowOf_mem (Z1 _ _ _ _ hb (by rw[jZ f b hb];exact ht))

structure FunS (f:FunL):Prop where
 n1:0<f.blocks.length
 n40:f.blocks.length≤40
 two:∀k (h:k<f.blocks.length),f.blocks[k].fin.to.length≤2
 tos:∀k (h:k<f.blocks.length),∀t∈f.blocks[k].fin.to,1≤t∧t<(f.blocks.length:Int)
theorem FunS.tosB {f:FunL} (h:FunS f):∀b,b<f.blocks.length→∀x∈tosB f.blocks b,0≤x∧x<(f.blocks.length:Int):=fun b hb x hx=>by
 rw[qT hb]at hx
 have:=h.tos b hb x hx
 omega
theorem FunS.tosD {f:FunL} (h:FunS f):∀i,i<f.blocks.length→((ku f).getD i []).length≤2∧∀t∈(ku f).getD i [],1≤t∧t<(f.blocks.length:Int):=fun i hi=>by
 rw[jZ f i hi]
 exact⟨h.two i hi,h.tos i hi⟩
theorem x9:∀(n:Nat) (l:List Nat),l.Nodup→(∀x∈l,x<n)→l.length≤n
 | 0,l,_,h=>by
  cases l with
  | nil=>simp
  | cons x l=>have:=h x List.mem_cons_self;omega
 | n+1,l,hd,h=>by
  by_cases hn:n∈l
  ·have h1:=x9 n (l.erase n) (hd.erase n) (fun x hx=>by
    have h2:=hd.mem_erase_iff.1 hx
    have:=h x h2.2
    have:=h2.1
    omega)
   rw[List.length_erase_of_mem hn]at h1
   omega
  have h1:=x9 n l hd (fun x hx=>by
   have:=h x hx
   have:x≠n:=fun e=>hn (e ▸ hx)
   omega)
  omega
theorem Xl {T:List (List Int)}:∀{n:Nat} {p:Nat×Nat},p∈qG T n→p.2<n∧∃t∈T.getD p.2 [],p.1=t.toNat
 | 0,p,h=>by unfold qG at h;cases h
 | n+1,p,h=>by
  unfold qG at h
  rcases List.mem_append.1 h with h|h
  ·obtain⟨h1,h2⟩:=Xl h
   exact⟨by omega,h2⟩
  obtain⟨t,ht,rfl⟩:=List.mem_map.1 h
  exact⟨by simp,t,ht,rfl⟩
theorem row_lt {f:FunL} {c p:Nat} (h:p∈qN (xe f) c):p<f.blocks.length:=by
 unfold qN at h
 obtain⟨q,hq,rfl⟩:=List.mem_map.1 h
 exact(Xl (List.mem_filter.1 hq).1).1
def insN (f:FunL) (c:Nat):List Nat:=qN (xe f) c
theorem ins_of {f:FunL} (b c:Nat) (hb:b<f.blocks.length) (h:(c:Int)∈tosB f.blocks b):b∈insN f c:=by
 rw[qT hb]at h
 have:=row_mem hb h
 rw[Int.toNat_natCast]at this
 exact this
theorem JU {f:FunL} (h:FunS f) (c:Nat):(insN f c).length≤80:=by
 have h1:=kY (xe f) c
 have h2:(xe f).length≤2*f.blocks.length:=vV (ku f) _ _ (Nat.le_refl _) (fun i hi=>(h.tosD i hi).1)
 have:=h.n40
 show(qN _ _).length≤_
 omega
theorem FunS.ord {f:FunL} (h:FunS f):OrdOk f.blocks (j8 f.blocks):=by
 obtain⟨o,ho⟩:=orderB_ok h.n1 h.tosB
 rw[ho.nats]
 exact ho
theorem FunS.ordLen {f:FunL} (h:FunS f):(j8 f.blocks).length≤f.blocks.length:=x9 _ _ h.ord.once h.ord.inb
theorem FunS.postLen {f:FunL} (h:FunS f):(vB f.blocks).length≤1000000:=by
 have h1:(jb f.blocks).length=(j8 f.blocks).length:=by unfold j8;simp
 have h2:(jb f.blocks).length=(vB f.blocks).length:=by unfold jb;simp
 have:=h.ordLen
 have:=h.n40
 omega


def qt (o:List Nat) (b:Nat):Int:=if b∈o then(o.idxOf b:Int)else -1
def JV (at_:Nat→Int) (ah:List Nat) (src:List (Bool×Int)):List (Int×(Bool×Int)):=
 ((ah.zip src).map fun e=>(at_ e.1,e.2)).filter fun e=>decide (0≤e.1)
def sortK (l:List (Int×(Bool×Int))):List (Int×(Bool×Int)):=l.mergeSort fun a b=>decide (a.1≤b.1)
def srcK (at_:Nat→Int) (ah:List Nat) (src:List (Bool×Int)):List (Bool×Int):=(sortK (JV at_ ah src)).map (·.2)
def endK (at_:Nat→Int) (x:EndL):EndL:={ x with «to»:=x.to.map fun t=>at_ t.toNat }
def K7 (at_:Nat→Int) (ah:List Nat) (x:BlkL):BlkL:=
 { phis:=x.phis.map fun p=>{ p with src:=srcK at_ ah p.src },list:=x.list,fin:=endK at_ x.fin }
def kd:BlkL:=⟨[],[],⟨1,false,0,[]⟩⟩
def atF (f:FunL) (b:Nat):BlkL:=f.blocks.getD b kd
theorem qD {f:FunL} {b:Nat} (h:b<f.blocks.length):atF f b=f.blocks[b]:=by
 unfold atF
 simp[h]
def qR (o:List Nat) (f:FunL):FunL:={ f with blocks:=o.map fun b=>K7 (qt o) (insN f b) (atF f b) }

def Xm (ah:List Nat) (old now:Nat):Nat:=(ah.filter fun a=>decide (a<now∧a≠old)).length
def kT (ah:List Nat) (old now:Nat) (src:List (Bool×Int)):List (Bool×Int):=
 ((src.eraseIdx (ah.idxOf old)).take (Xm ah old now))++src.getD (ah.idxOf old) (false,0)::((src.eraseIdx (ah.idxOf old)).drop (Xm ah old now))
def qJ (f:FunL) (old now:Nat):FunL:=
 { f with blocks:=f.blocks.mapIdx fun i x=>if(i:Int)∈(atF f old).fin.to then { x with phis:=x.phis.map fun p=>{ p with src:=kT (insN f i) old now p.src } } else x }
def zM (f:FunL) (b t:Nat):FunL:=
 let g:=qJ f t b
 { g with blocks:=(g.blocks.set b { phis:=(atF g b).phis,list:=(atF g b).list++(atF g t).list,fin:=(atF g t).fin }).set t kd }
def jm (f:FunL) (b:Nat):Option Nat:=
 let t:=((atF f b).fin.to.getD 0 0).toNat
 if(atF f b).fin.kind=2∧¬(t=b∨0<(atF f t).phis.length∨1<(insN f t).length)then some t else none
def qM:Nat→FunL→Nat→FunL
 | 0,f,_=>f
 | c+1,f,b=>match jm f b with
  | none=>f
  | some t=>qM c (zM f b t) b
def qP (f:FunL):FunL:=(List.range f.blocks.length).foldl (fun g b=>qM (f.blocks.length+1) g b) f

abbrev NamS:=(Nat→Int)×Int
def je (s:NamS) (r:Nat):NamS:=if s.1 r<0 then(fun i=>if i=r then s.2 else s.1 i,s.2+1)else s
def xm (v:Bool×Int):List Nat:=if v.1=true then[v.2.toNat] else[]
def kO (x:InsL):List Nat:=xm (x.ar,x.an)++xm (x.br,x.bn)++x.args.flatMap xm
def jP (d:Int):List Nat:=if 0≤d then[d.toNat] else[]
def metB (x:BlkL):List Nat:=x.phis.map (fun p=>p.dst.toNat)++x.list.flatMap (fun i=>kO i++jP i.dst)++xm (x.fin.onr,x.fin.onn)
def VB (x:BlkL):List Nat:=x.phis.flatMap (fun p=>p.dst.toNat::p.src.flatMap xm)++x.list.flatMap (fun i=>kO i++jP i.dst)++xm (x.fin.onr,x.fin.onn)
def Q2 (f:FunL):List Nat:=List.range f.params.toNat++f.blocks.flatMap metB
def Xn (f:FunL):List Nat:=f.blocks.flatMap VB
def nam0:NamS:=(fun _=>-1,0)
def Xo (f:FunL):NamS:=(Q2 f++Xn f).foldl je nam0
def zN (m:Nat→Int) (v:Bool×Int):Bool×Int:=if v.1=true then(true,m v.2.toNat)else v
def vR (m:Nat→Int) (x:InsL):InsL:=
 { x with dst:=if 0≤x.dst then m x.dst.toNat else x.dst,an:=(zN m (x.ar,x.an)).2,bn:=(zN m (x.br,x.bn)).2,args:=x.args.map (zN m) }
def K8 (m:Nat→Int) (x:BlkL):BlkL:=
 { phis:=x.phis.map fun p=>{ dst:=m p.dst.toNat,src:=p.src.map (zN m) },list:=x.list.map (vR m),fin:={ x.fin with onn:=(zN m (x.fin.onr,x.fin.onn)).2 } }
def zZ (f:FunL):FunL:={ f with regs:=(Xo f).2,blocks:=f.blocks.map (K8 (Xo f).1) }
def jt (f:FunL):FunL:=qR (j8 f.blocks) f
def xP (f:FunL):FunL:=zZ (jt f)
def doT (f:FunL):FunL:=xP (qP (jt f))
def xt (u:UniL):UniL:={ u with funcs:=u.funcs.map doT }
structure FunD (f:FunL):Prop extends FunS f where
 once:∀k (h:k<f.blocks.length),(f.blocks[k].fin.to).Nodup

theorem rowWays {T:List (List Int)} {t:Nat} (h0:∀i,∀x∈T.getD i [],0≤x) (h1:∀i,(T.getD i []).Nodup):∀n:Nat,qN (qG T n) t=(List.range n).filter fun i=>decide ((t:Int)∈T.getD i [])
 | 0=>rfl
 | n+1=>by
  have ih:=rowWays (t:=t) h0 h1 n
  rw[List.range_succ,List.filter_append,←ih]
  show qN (qG T n++_) t=_
  unfold qN
  rw[List.filter_append,List.map_append]
  congr 1
  have a0:=h0 n
  have a1:=h1 n
  rw[show([n].filter fun i=>decide ((t:Int)∈T.getD i []))=if(t:Int)∈T.getD n [] then[n] else[] by by_cases e:(t:Int)∈T.getD n []<;>simp only[List.filter_cons,List.filter_nil,e,decide_true,decide_false,if_true,if_false,Bool.false_eq_true]]
  generalize T.getD n []=l at a0 a1
  have key:∀l:List Int,(∀x∈l,0≤x)→l.Nodup→((l.map fun x=>(x.toNat,n)).filter fun x=>x.1 == t).map (·.2)=if(t:Int)∈l then[n] else[]:=by
   intro l
   induction l with
   | nil=>intro _ _;rfl
   | cons x l ih=>
    intro b0 b1
    obtain⟨c1,c2⟩:=List.nodup_cons.1 b1
    have ih:=ih (fun y hy=>b0 y (.tail _ hy)) c2
    have hx:=b0 x (.head _)
    rw[List.map_cons,List.filter_cons]
    by_cases e:x.toNat=t
    ·have e2:x=(t:Int):=by omega
     subst e2
     rw[if_neg c1]at ih
     simp only[e,beq_self_eq_true,if_true,List.map_cons,ih,List.mem_cons,true_or]
    have e2:(t:Int)≠x:=by omega
    have e3:(x.toNat == t)=false:=by simpa using e
    rw[if_neg (by simp[e3]),ih]
    simp[e2]
  exact key l a0 a1

theorem Qr (f:FunL) (i:Nat):(ku f).getD i []=tosB f.blocks i:=by
 unfold ku tosB
 by_cases h:i<f.blocks.length
 ·simp[h]
 simp[h]
theorem FunD.insN {f:FunL} (h:FunD f) (c:Nat):insN f c=(List.range f.blocks.length).filter fun i=>decide ((c:Int)∈tosB f.blocks i):=by
 have:=rowWays (T:=ku f) (t:=c) (fun i x hx=>by
  rw[Qr]at hx
  by_cases hi:i<f.blocks.length
  ·exact(h.tosB i hi x hx).1
  ·simp[Go.Proofs.YtecdphhdmjmmnaaGreatDoor.tosB,hi]at hx) (fun i=>by
  rw[Qr]
  by_cases hi:i<f.blocks.length
  ·rw[qT hi];exact h.once i hi
  simp[Go.Proofs.YtecdphhdmjmmnaaGreatDoor.tosB,hi]) f.blocks.length
 unfold Go.Proofs.YtecdphhdmjmmnaaGreatDoor.insN xe
 rw[this]
 simp only[Qr]
theorem FunD.insD {f:FunL} (h:FunD f) (c:Nat):(Go.Proofs.YtecdphhdmjmmnaaGreatDoor.insN f c).Nodup:=by
 rw[h.insN]
 exact List.nodup_range.filter _
theorem FunD.mem {f:FunL} (h:FunD f) {c b:Nat}:b∈Go.Proofs.YtecdphhdmjmmnaaGreatDoor.insN f c↔b<f.blocks.length∧(c:Int)∈tosB f.blocks b:=by
 rw[h.insN,List.mem_filter,List.mem_range]
 simp

def CloV (tos:Nat→List Int) (s s':PostS):Prop:=(∀x,s.1 x=true→s'.1 x=true)∧∀x,s'.1 x=true→s.1 x=true∨∀t∈tos x,s'.1 t.toNat=true
theorem CloV.refl (tos:Nat→List Int) (s:PostS):CloV tos s s:=⟨fun _ h=>h,fun _ h=>.inl h⟩
theorem CloV.trans {tos:Nat→List Int} {a b c:PostS} (h:CloV tos a b) (k:CloV tos b c):CloV tos a c:=
 ⟨fun x e=>k.1 x (h.1 x e),fun x e=>(k.2 x e).elim (fun e=>(h.2 x e).imp id fun g t ht=>k.1 _ (g t ht)) .inr⟩

theorem visTo_c {n:Nat} {tos:Nat→List Int} {rec:Nat→PostS→PostS} {xs:List Int} (hx:∀x∈xs,0≤x∧x<(n:Int)) {s:PostS}
  (h:∀b s',b<n→s'.1 b=false→zY n s'.1≤zY n s.1→CloV tos s' (rec b s')∧(rec b s').1 b=true):∀i,i≤xs.length→CloV tos s (zB rec xs s i)∧∀j (hj:j<xs.length),xs.length - i≤j→(zB rec xs s i).1 xs[j].toNat=true
 | 0,_=>⟨.refl _ _,fun j hj g=>by omega⟩
 | i+1,hi=>by
  obtain⟨ih,i2⟩:=visTo_c hx h i (by omega)
  show CloV tos s (zw rec (zB rec xs s i) (xs.getD (xs.length - 1 - i) 0))∧∀j (hj:j<xs.length),_→(zw rec (zB rec xs s i) (xs.getD (xs.length - 1 - i) 0)).1 _=true
  have hk:xs.length - 1 - i<xs.length:=by omega
  have hm:=hx _ (List.getElem_mem hk)
  have hg:xs.getD (xs.length - 1 - i) 0=xs[xs.length - 1 - i]:=by
   rw[List.getD_eq_getElem?_getD,List.getElem?_eq_getElem hk];rfl
  rw[hg]
  unfold zw
  cases e:(zB rec xs s i).1 (xs[xs.length - 1 - i]).toNat
  ·obtain⟨h1,h2⟩:=h (xs[xs.length - 1 - i]).toNat _ (by omega) e (kC ih.1)
   refine⟨ih.trans h1,fun j hj g=>?_⟩
   by_cases ej:j=xs.length - 1 - i
   ·subst ej;exact h2
   exact h1.1 _ (i2 j hj (by omega))
  refine⟨ih,fun j hj g=>?_⟩
  by_cases ej:j=xs.length - 1 - i
  ·subst ej;exact e
  exact i2 j hj (by omega)
theorem visF_c {n:Nat} {tos:Nat→List Int} (hT:∀b,b<n→∀x∈tos b,0≤x∧x<(n:Int)):∀(c b:Nat) (s:PostS),zY n s.1<c→b<n→s.1 b=false→CloV tos s (js tos c b s)∧(js tos c b s).1 b=true
 | 0,_,_,h,_,_=>by omega
 | c+1,b,s,hc,hb,hs=>by
  have h1:=jk (n:=n) hb hs
  obtain⟨h2,h3⟩:=visTo_c (n:=n) (tos:=tos) (rec:=js tos c) (xs:=tos b) (hT b hb) (s:=zR b s) (fun b' s' hb' h' hle=>visF_c hT c b' s' (by omega) hb' h') (tos b).length (Nat.le_refl _)
  have hb1:(zR b s).1 b=true:=by show(if b=b then true else _)=true;simp
  refine⟨⟨fun x e=>h2.1 x (Zu e),fun x e=>?_⟩,h2.1 b hb1⟩
  rcases h2.2 x e with g|g
  ·by_cases ex:x=b
   ·subst ex
    refine .inr fun t ht=>?_
    obtain⟨j,hj,rfl⟩:=List.mem_iff_getElem.1 ht
    exact h3 j hj (by omega)
   have g:(if x=b then true else s.1 x)=true:=g
   rw[if_neg ex]at g
   exact .inl g
  exact .inr g

theorem FunS.closed {f:FunL} (h:FunS f) {b:Nat} (hb:b∈j8 f.blocks) {t:Int} (ht:t∈Go.Proofs.YtecdphhdmjmmnaaGreatDoor.tosB f.blocks b):t.toNat∈j8 f.blocks:=by
 obtain⟨l,hp⟩:=JR (n:=f.blocks.length) h.tosB (f.blocks.length+1) 0 (fun _=>false,[]) (Nat.lt_succ_of_le (jA _ _)) h.n1 rfl
 obtain⟨hc,_⟩:=visF_c (n:=f.blocks.length) h.tosB (f.blocks.length+1) 0 (fun _=>false,[]) (Nat.lt_succ_of_le (jA _ _)) h.n1 rfl
 have he:∀x,x∈j8 f.blocks↔(js (Go.Proofs.YtecdphhdmjmmnaaGreatDoor.tosB f.blocks) (f.blocks.length+1) 0 (fun _=>false,[])).1 x=true:=fun x=>by
  rw[hp.seen x]
  unfold j8 jb vB
  rw[hp.left]
  simp[or_comm]
 rw[he]at hb ⊢
 rcases hc.2 b hb with g|g
 ·cases g
 exact g t ht
/-! ## renamed graphs -/

theorem JW {n:Nat} {r1 r2:Nat→PostS→PostS} {xs:List Int} (hx:∀x∈xs,0≤x∧x<(n:Int)) {s:PostS}
  (h:∀b s',b<n→s'.1 b=false→zY n s'.1≤zY n s.1→r1 b s'=r2 b s'∧zY n (r1 b s').1≤zY n s'.1):∀i,i≤xs.length→zB r1 xs s i=zB r2 xs s i∧zY n (zB r1 xs s i).1≤zY n s.1
 | 0,_=>⟨rfl,Nat.le_refl _⟩
 | i+1,hi=>by
  obtain⟨ih,i2⟩:=JW hx h i (by omega)
  show zw r1 (zB r1 xs s i) (xs.getD (xs.length - 1 - i) 0)=zw r2 (zB r2 xs s i) (xs.getD (xs.length - 1 - i) 0)∧zY n (zw r1 (zB r1 xs s i) (xs.getD (xs.length - 1 - i) 0)).1≤_
  rw[←ih]
  have hk:xs.length - 1 - i<xs.length:=by omega
  have hm:=hx _ (List.getElem_mem hk)
  have hg:xs.getD (xs.length - 1 - i) 0=xs[xs.length - 1 - i]:=by
   rw[List.getD_eq_getElem?_getD,List.getElem?_eq_getElem hk];rfl
  rw[hg]
  unfold zw
  cases e:(zB r1 xs s i).1 (xs[xs.length - 1 - i]).toNat
  ·obtain⟨h1,h2⟩:=h (xs[xs.length - 1 - i]).toNat _ (by omega) e i2
   exact⟨h1,Nat.le_trans h2 i2⟩
  exact⟨rfl,i2⟩
theorem Xp {n:Nat} {tos:Nat→List Int} (hT:∀b,b<n→∀x∈tos b,0≤x∧x<(n:Int)):∀(c d b:Nat) (s:PostS),zY n s.1<c→zY n s.1<d→b<n→s.1 b=false→js tos c b s=js tos d b s
 | 0,_,_,_,h,_,_,_=>by omega
 | _+1,0,_,_,_,h,_,_=>by omega
 | c+1,d+1,b,s,hc,hd,hb,hs=>by
  have h1:=jk (n:=n) hb hs
  obtain⟨h2,_⟩:=JW (n:=n) (r1:=js tos c) (r2:=js tos d) (xs:=tos b) (hT b hb) (s:=zR b s) (fun b' s' hb' h' hle=>⟨Xp hT c d b' s' (by omega) (by omega) hb' h',by
   obtain⟨l,hl⟩:=JR hT c b' s' (by omega) hb' h'
   exact hl.up⟩) (tos b).length (Nat.le_refl _)
  show((zB (js tos c) (tos b) (zR b s) (tos b).length).1,_)=((zB (js tos d) (tos b) (zR b s) (tos b).length).1,_)
  rw[h2]

structure IsoV (R:Nat→Prop) (p:Nat→Nat) (s s':PostS):Prop where
 seen:∀x,R x→s'.1 (p x)=s.1 x
 left:s'.2=s.2.map fun x=>(p x.toNat:Int)
theorem Xq {R:Nat→Prop} {p:Nat→Nat} {r1 r2:Nat→PostS→PostS} (hr:∀b a a',R b→IsoV R p a a'→IsoV R p (r1 b a) (r2 (p b) a')) {xs:List Int} (hx:∀x∈xs,R x.toNat) {s s':PostS} (h:IsoV R p s s'):∀i,i≤xs.length→IsoV R p (zB r1 xs s i) (zB r2 (xs.map fun x=>(p x.toNat:Int)) s' i)
 | 0,_=>h
 | i+1,hi=>by
  have ih:=Xq hr hx h i (by omega)
  show IsoV R p (zw r1 _ (xs.getD (xs.length - 1 - i) 0)) (zw r2 _ ((xs.map fun x=>(p x.toNat:Int)).getD ((xs.map fun x=>(p x.toNat:Int)).length - 1 - i) 0))
  have hk:xs.length - 1 - i<xs.length:=by omega
  have hg:xs.getD (xs.length - 1 - i) 0=xs[xs.length - 1 - i]:=by
   rw[List.getD_eq_getElem?_getD,List.getElem?_eq_getElem hk];rfl
  have hg2:(xs.map fun x=>(p x.toNat:Int)).getD ((xs.map fun x=>(p x.toNat:Int)).length - 1 - i) 0=(p (xs[xs.length - 1 - i]).toNat:Int):=by
   rw[List.length_map,List.getD_eq_getElem?_getD,List.getElem?_map,List.getElem?_eq_getElem hk];rfl
  rw[hg,hg2]
  have hR:=hx _ (List.getElem_mem hk)
  unfold zw
  rw[Int.toNat_natCast,ih.seen _ hR]
  split
  ·exact ih
  exact hr _ _ _ hR ih
theorem JX {R:Nat→Prop} {p:Nat→Nat} {t1 t2:Nat→List Int} (hinj:∀x y,R x→R y→p x=p y→x=y) (hT:∀x,R x→(∀t∈t1 x,R t.toNat)∧t2 (p x)=(t1 x).map fun t=>(p t.toNat:Int)):∀(c b:Nat) (s s':PostS),R b→IsoV R p s s'→IsoV R p (js t1 c b s) (js t2 c (p b) s')
 | 0,_,_,_,_,h=>h
 | c+1,b,s,s',hb,h=>by
  have hm:IsoV R p (zR b s) (zR (p b) s'):=⟨fun x hx=>by
   show(if p x=p b then true else s'.1 (p x))=(if x=b then true else s.1 x)
   rw[h.seen x hx]
   by_cases e:x=b
   ·subst e;simp
   rw[if_neg e,if_neg fun g=>e (hinj x b hx hb g)],h.left⟩
  have h2:=Xq (r1:=js t1 c) (r2:=js t2 c) (fun b' a a' hb' ha=>JX hinj hT c b' a a' hb' ha) (hT b hb).1 hm (t1 b).length (Nat.le_refl _)
  have e2:js t2 (c+1) (p b) s'=((zB (js t2 c) (t2 (p b)) (zR (p b) s') (t2 (p b)).length).1,(zB (js t2 c) (t2 (p b)) (zR (p b) s') (t2 (p b)).length).2++[((p b:Nat):Int)]):=rfl
  rw[e2,(hT b hb).2,List.length_map]
  refine⟨h2.seen,?_⟩
  show _++[((p b:Nat):Int)]=(_++[(b:Int)]).map _
  rw[List.map_append,h2.left]
  simp

structure OrdC (f:FunL) (o:List Nat):Prop where
 once:o.Nodup
 root:∃l,o=0::l
 inb:∀x∈o,x<f.blocks.length
 closed:∀b∈o,∀t∈tosB f.blocks b,t.toNat∈o
theorem FunS.ordC {f:FunL} (h:FunS f):OrdC f (j8 f.blocks):=⟨h.ord.once,h.ord.root,h.ord.inb,fun _ hb _ ht=>h.closed hb ht⟩

theorem x7 {o:List Nat} {b:Nat} (h:b∈o):qt o b=(o.idxOf b:Int):=by unfold qt;rw[if_pos h]
theorem xu {o:List Nat} {b:Nat} (h:b∈o):∃hi:o.idxOf b<o.length,o[o.idxOf b]=b:=⟨List.idxOf_lt_length_of_mem h,List.getElem_idxOf (List.idxOf_lt_length_of_mem h)⟩
theorem kD {o:List Nat} {a b:Nat} (ha:a∈o) (hb:b∈o) (e:o.idxOf a=o.idxOf b):a=b:=by
 obtain⟨h1,e1⟩:=xu ha
 obtain⟨h2,e2⟩:=xu hb
 rw[←e1,←e2]
 simp only[e]
theorem OrdC.pos {f:FunL} {o:List Nat} (h:OrdC f o):0<o.length∧o.idxOf 0=0∧0∈o:=by
 obtain⟨l,rfl⟩:=h.root
 simp

theorem qV (o:List Nat) (f:FunL):(qR o f).blocks.length=o.length:=by simp[qR]
theorem Qs (o:List Nat) (f:FunL) {i:Nat} (hi:i<o.length):(qR o f).blocks[i]'(by rw[qV];exact hi)=K7 (qt o) (insN f o[i]) (atF f o[i]):=by simp[qR]
theorem ke {o:List Nat} {f:FunL} (h:OrdC f o) {i:Nat} (hi:i<o.length):tosB (qR o f).blocks i=(tosB f.blocks o[i]).map fun t=>(o.idxOf t.toNat:Int):=by
 have h1:=h.inb _ (List.getElem_mem hi)
 rw[qT (by rw[qV];exact hi),Qs o f hi,qT h1]
 unfold K7 endK
 rw[qD h1]
 refine List.map_congr_left fun t ht=>?_
 rw[←qT h1]at ht
 exact x7 (h.closed _ (List.getElem_mem hi) t ht)
theorem Jg {o:List Nat} {f:FunL} (h:OrdC f o) {b:Nat} (hb:b∈o):tosB (qR o f).blocks (o.idxOf b)=(tosB f.blocks b).map fun t=>(o.idxOf t.toNat:Int):=by
 obtain⟨h1,h2⟩:=xu hb
 rw[ke h h1,h2]

theorem FunD.keep {f:FunL} (hf:FunD f) {o:List Nat} (h:OrdC f o):FunD (qR o f):=by
 have hle:o.length≤f.blocks.length:=x9 _ _ h.once h.inb
 have ht:∀(k:Nat) (hk:k<(qR o f).blocks.length),((qR o f).blocks[k]).fin.to=(tosB f.blocks (o[k]'(by rw[←qV o f];exact hk))).map fun t=>(o.idxOf t.toNat:Int):=fun k hk=>by
  rw[←qT hk]
  exact ke h _
 have hin:∀(k:Nat) (hk:k<(qR o f).blocks.length),(o[k]'(by rw[←qV o f];exact hk))<f.blocks.length:=fun k hk=>h.inb _ (List.getElem_mem _)
 refine⟨⟨by rw[qV];exact h.pos.1,by rw[qV];have:=hf.n40;omega,fun k hk=>?_,fun k hk t hm=>?_⟩,fun k hk=>?_⟩
 ·rw[ht k hk,List.length_map,qT (hin k hk)]
  exact hf.two _ _
 ·rw[ht k hk]at hm
  obtain⟨s,hs,rfl⟩:=List.mem_map.1 hm
  have h1:=h.closed _ (List.getElem_mem (by rw[←qV o f];exact hk)) s hs
  rw[qT (hin k hk)]at hs
  have h2:=hf.tos _ _ s hs
  obtain⟨h3,h4⟩:=xu h1
  rw[qV]
  refine⟨?_,by omega⟩
  have:o.idxOf s.toNat≠0:=fun e=>by
   have:=kD h1 h.pos.2.2 (e.trans h.pos.2.1.symm)
   omega
  omega
 rw[ht k hk,qT (hin k hk)]
 refine List.pairwise_map.2 (List.Pairwise.imp_of_mem (fun {x y} hx hy ne e=>ne ?_) (hf.once _ (hin k hk)))
 have hx':=h.closed _ (List.getElem_mem (by rw[←qV o f];exact hk)) x (by rw[qT (hin k hk)];exact hx)
 have hy':=h.closed _ (List.getElem_mem (by rw[←qV o f];exact hk)) y (by rw[qT (hin k hk)];exact hy)
 have h1:=hf.tos _ _ x hx
 have h2:=hf.tos _ _ y hy
 have:=kD hx' hy' (by omega)
 omega

theorem FunD.order {f:FunL} (hf:FunD f):j8 (jt f).blocks=List.range (j8 f.blocks).length:=by
 have h:=hf.toFunS.ordC
 have hd:=hf.keep h
 obtain⟨o,ho⟩:∃o,o=j8 f.blocks:=⟨_,rfl⟩
 have hle:o.length≤f.blocks.length:=by rw[ho];exact x9 _ _ h.once h.inb
 unfold jt
 rw[←ho]at h hd ⊢
 have hI:=JX (R:=fun b=>b∈o) (p:=fun b=>o.idxOf b) (t1:=tosB f.blocks) (t2:=tosB (qR o f).blocks) (fun x y hx hy e=>kD hx hy e) (fun x hx=>⟨h.closed x hx,Jg h hx⟩) (f.blocks.length+1) 0 (fun _=>false,[]) (fun _=>false,[]) h.pos.2.2 ⟨fun _ _=>rfl,rfl⟩
 rw[h.pos.2.1]at hI
 have hm:=Xp (n:=(qR o f).blocks.length) hd.tosB (f.blocks.length+1) ((qR o f).blocks.length+1) 0 (fun _=>false,[]) (by have h5:zY (qR o f).blocks.length (fun _=>false)≤_:=jA (qR o f).blocks.length (fun _=>false);have h6:=qV o f;show zY _ (fun _=>false)<_;omega) (Nat.lt_succ_of_le (jA _ _)) hd.n1 rfl
 have e1:vB (qR o f).blocks=(vB f.blocks).map fun x=>(o.idxOf x.toNat:Int):=by
  unfold vB
  rw[←hm,hI.left]
 have e2:j8 (qR o f).blocks=o.map fun x=>o.idxOf x:=by
  have e3:j8 (qR o f).blocks=(j8 f.blocks).map fun x=>o.idxOf x:=by
   unfold j8 jb
   rw[e1,←List.map_reverse,List.map_map,List.map_map]
   exact List.map_congr_left fun x _=>by simp
  rw[e3,←ho]
 rw[e2]
 refine List.ext_getElem (by simp) fun i h1 h2=>?_
 simp only[List.getElem_map,List.getElem_range]
 exact h.once.idxOf_getElem i (by simpa using h1)

theorem JY {l m:List (Int×(Bool×Int))} (hp:l.Perm m) (hm:m.Pairwise fun a b=>a.1<b.1):sortK l=m:=by
 refine List.Perm.eq_of_pairwise (le:=fun a b=>decide (a.1≤b.1)=true) (fun a b ha hb h1 h2=>?_) ?_ ?_ ((List.mergeSort_perm _ _).trans hp)
 ·have ha':a∈m:=hp.mem_iff.1 ((List.mergeSort_perm _ _).mem_iff.1 ha)
  have h1:=of_decide_eq_true h1
  have h2:=of_decide_eq_true h2
  obtain⟨i,hi,e1⟩:=List.mem_iff_getElem.1 ha'
  obtain⟨j,hj,e2⟩:=List.mem_iff_getElem.1 hb
  rw[List.pairwise_iff_getElem]at hm
  by_cases e:i=j
  ·subst e;rw[←e1,←e2]
  rcases Nat.lt_or_gt_of_ne e with g|g
  ·have:=hm i j hi hj g
   rw[e1,e2]at this
   omega
  have:=hm j i hj hi g
  rw[e1,e2]at this
  omega
 ·exact List.pairwise_mergeSort (fun a b c h1 h2=>by simp only[decide_eq_true_eq]at h1 h2 ⊢;omega) (fun a b=>by simp only[Bool.or_eq_true,decide_eq_true_eq];omega) l
 exact hm.imp fun h=>by simp only[decide_eq_true_eq];omega

theorem JZ {o:List Nat} (ah:List Nat) (g:Nat→Bool×Int):JV (qt o) ah (ah.map g)=(ah.filter fun a=>decide (a∈o)).map fun a=>((o.idxOf a:Int),g a):=by
 unfold JV
 induction ah with
 | nil=>rfl
 | cons a l ih=>
  simp only[List.map_cons,List.zip_cons_cons,List.filter_cons]
  by_cases h:a∈o
  ·rw[if_pos (by rw[x7 h];simp),if_pos (by simpa using h),List.map_cons,ih,x7 h]
  have e:qt o a = -1:=by unfold qt;rw[if_neg h]
  rw[if_neg (by rw[e];simp),if_neg (by simpa using h),ih]

theorem kf {f:FunL} (hf:FunD f) {o:List Nat} (h:OrdC f o) {b:Nat} (hb:b∈o) {j:Nat}:j∈insN (qR o f) (o.idxOf b)↔∃hj:j<o.length,o[j]∈insN f b:=by
 rw[(hf.keep h).mem,qV]
 constructor
 ·rintro⟨hj,hm⟩
  refine⟨hj,hf.mem.2 ⟨h.inb _ (List.getElem_mem hj),?_⟩⟩
  rw[ke h hj]at hm
  obtain⟨t,ht,e⟩:=List.mem_map.1 hm
  have h1:=h.closed _ (List.getElem_mem hj) t ht
  have h2:=kD h1 hb (by omega)
  have h3:=hf.tosB _ (h.inb _ (List.getElem_mem hj)) t ht
  rw[←h2,show((t.toNat:Nat):Int)=t by omega]
  exact ht
 rintro⟨hj,hm⟩
 refine⟨hj,?_⟩
 rw[ke h hj]
 exact List.mem_map.2 ⟨_,(hf.mem.1 hm).2,by simp⟩
theorem xw {f:FunL} (hf:FunD f) (c:Nat):(insN f c).Pairwise (·<·):=by
 rw[hf.insN]
 exact List.pairwise_lt_range.filter _

theorem Xr {f:FunL} (hf:FunD f) {o:List Nat} (h:OrdC f o) {b:Nat} (hb:b∈o) (g:Nat→Bool×Int):srcK (qt o) (insN f b) ((insN f b).map g)=(insN (qR o f) (o.idxOf b)).map fun j=>g (o.getD j 0):=by
 have hd:=hf.keep h
 unfold srcK
 rw[JZ,JY (m:=(insN (qR o f) (o.idxOf b)).map fun(j:Nat)=>((j:Int),g (o.getD j 0)))]
 ·rw[List.map_map];rfl
 ·have hg:∀j,j∈insN (qR o f) (o.idxOf b)→∃hj:j<o.length,o.getD j 0=o[j]∧o.idxOf o[j]=j∧o[j]∈insN f b:=fun j hj=>by
   obtain⟨h1,h2⟩:=(kf hf h hb).1 hj
   exact⟨h1,by simp[h1],h.once.idxOf_getElem j h1,h2⟩
  have e1:((insN (qR o f) (o.idxOf b)).map fun(j:Nat)=>((j:Int),g (o.getD j 0)))=((insN (qR o f) (o.idxOf b)).map fun j=>o.getD j 0).map fun a=>((o.idxOf a:Int),g a):=by
   rw[List.map_map]
   refine List.map_congr_left fun j hj=>?_
   obtain⟨h1,h2,h3,_⟩:=hg j hj
   show _=((o.idxOf (o.getD j 0):Int),g (o.getD j 0))
   rw[h2,h3]
  rw[e1]
  refine List.Perm.map _ ?_
  refine(List.perm_ext_iff_of_nodup ((hf.insD b).filter _) ?_).2 fun a=>?_
  ·refine List.pairwise_map.2 (List.Pairwise.imp_of_mem (fun {x y} hx hy ne e=>ne ?_) (hd.insD (o.idxOf b)))
   obtain⟨h1,h2,h3,_⟩:=hg x hx
   obtain⟨k1,k2,k3,_⟩:=hg y hy
   rw[h2,k2]at e
   rw[←h3,←k3,e]
  rw[List.mem_filter,List.mem_map]
  constructor
  ·rintro⟨h1,h2⟩
   have h2:a∈o:=by simpa using h2
   obtain⟨h3,h4⟩:=xu h2
   refine⟨o.idxOf a,(kf hf h hb).2 ⟨h3,by rw[h4];exact h1⟩,by simp[h3,h4]⟩
  rintro⟨j,hj,rfl⟩
  obtain⟨h1,h2,h3,h4⟩:=hg j hj
  rw[h2]
  exact⟨h4,by simp⟩
 exact List.pairwise_map.2 ((xw hd _).imp fun h=>by show(_:Int)<_;omega)

def kU (ah:List Nat) (src:List (Bool×Int)) (a:Nat):Bool×Int:=src.getD (ah.idxOf a) (false,0)
theorem fromR_row {ah:List Nat} (hd:ah.Nodup) {src:List (Bool×Int)} (h:src.length=ah.length):src=ah.map (kU ah src):=by
 refine List.ext_getElem (by simp[h]) fun i h1 h2=>?_
 simp only[List.getElem_map]
 unfold kU
 rw[hd.idxOf_getElem i (by omega)]
 simp[h1]
theorem fromR_map {ah:List Nat} (g:Nat→Bool×Int) {a:Nat} (h:a∈ah):kU ah (ah.map g) a=g a:=by
 obtain⟨h1,h2⟩:=xu h
 unfold kU
 simp[h1,h2]

def qI (x:InsL):List (Bool×Int):=(if shA x.op=true then[(x.ar,x.an)] else[])++(if shB x.op=true then[(x.br,x.bn)] else[])++x.args


structure EndC (regs:Int) (nb:Nat) (x:EndL):Prop where
 kind:1≤x.kind∧x.kind≤3
 len:(x.to.length:Int)=x.kind - 1
 «to»:∀t∈x.to,1≤t∧t<(nb:Int)
 two:x.to.Nodup
 jump:x.kind=2→x.onr=false∧x.onn=0
 on:ValOk regs x.onr x.onn
structure PhiC (regs:Int) (block cnt:Nat) (p:PhiL):Prop where
 blk:block≠0
 dst:0≤p.dst∧p.dst<regs
 len:p.src.length=cnt
 src:∀v∈p.src,ValOk regs v.1 v.2

theorem valE_iff {regs:Int} {r:Bool} {n:Int}:zP regs r n=0↔ValOk regs r n:=by
 refine⟨valE_zero,fun h=>?_⟩
 unfold zP
 rw[if_neg]
 rintro⟨h1,h2⟩
 have:=h h1
 omega
theorem endC_iff {regs:Int} {nb:Nat} {x:EndL}:vM regs nb x.kind x.onr x.onn x.to=0↔EndC regs nb x:=by
 unfold vM
 by_cases h1:1≤x.kind∧x.kind≤3
 rotate_left
 ·rw[if_pos h1]
  exact⟨fun g=>absurd g (by decide),fun g=>absurd g.kind h1⟩
 rw[if_neg (by simpa using h1)]
 by_cases h2:(x.to.length:Int)=x.kind - 1
 rotate_left
 ·rw[if_pos h2]
  exact⟨fun g=>absurd g (by decide),fun g=>absurd g.len h2⟩
 rw[if_neg (by simpa using h2)]
 by_cases h3:∀t∈x.to,1≤t∧t<(nb:Int)
 ·rw[if_neg (by
   simp only[List.any_eq_true,Bool.not_eq_true',not_exists,not_and,Bool.not_eq_false,zJ,decide_eq_true_eq]
   intro t ht
   have:=h3 t ht
   omega)]
  have h4:(x.kind=3∧x.to.getD 0 0=x.to.getD 1 0)↔¬ x.to.Nodup:=by
   rcases hx:x.to with _|⟨a,_|⟨b,_|⟨c,l⟩⟩⟩
   ·simp[hx]at h2 ⊢;omega
   ·simp[hx]at h2 ⊢;omega
   ·simp[hx]at h2 ⊢;omega
   simp[hx]at h2;omega
  by_cases h5:x.to.Nodup
  ·by_cases h6:x.kind=2→x.onr=false∧x.onn=0
   ·rw[if_neg (fun g=>g.elim (fun g=>h4.1 g h5) fun g=>g.2 (h6 g.1)),valE_iff]
    exact⟨fun g=>⟨h1,h2,h3,h5,h6,g⟩,fun g=>g.on⟩
   rw[if_pos (.inr (by simpa using h6))]
   exact⟨fun g=>absurd g (by decide),fun g=>absurd g.jump h6⟩
  rw[if_pos (.inl (h4.2 h5))]
  exact⟨fun g=>absurd g (by decide),fun g=>absurd g.two h5⟩
 rw[if_pos (by
  refine Classical.byContradiction fun g=>h3 fun t ht=>?_
  simp only[List.any_eq_true,Bool.not_eq_true',not_exists,not_and,Bool.not_eq_false,zJ,decide_eq_true_eq]at g
  have:=g t ht
  omega)]
 exact⟨fun g=>absurd g (by decide),fun g=>absurd g.to h3⟩
theorem kE {l:List Int}:qr l=0↔∀x∈l,x=0:=⟨zX,qZ⟩
theorem phiC_iff {regs:Int} {block cnt:Nat} {p:PhiL}:Zi regs block cnt p.dst p.src=0↔PhiC regs block cnt p:=by
 unfold Zi
 by_cases h1:block=0
 ·rw[if_pos h1]
  exact⟨fun g=>absurd g (by decide),fun g=>absurd h1 g.blk⟩
 rw[if_neg h1]
 have h2:vE regs p.dst=0↔0≤p.dst∧p.dst<regs:=by
  unfold vE
  split
  ·exact⟨fun _=>by omega,fun _=>rfl⟩
  exact⟨fun g=>absurd g (by decide),fun g=>by omega⟩
 by_cases h3:vE regs p.dst=0
 ·rw[if_neg (by simpa using h3)]
  by_cases h4:p.src.length=cnt
  ·rw[if_neg (by simpa using h4)]
   unfold valsE
   rw[kE]
   exact⟨fun g=>⟨h1,h2.1 h3,h4,fun v hv=>valE_iff.1 (g _ (List.mem_map.2 ⟨v,hv,rfl⟩))⟩,fun g y hy=>by
    obtain⟨v,hv,rfl⟩:=List.mem_map.1 hy
    exact valE_iff.2 (g.src v hv)⟩
  rw[if_pos h4]
  exact⟨fun g=>absurd g (by decide),fun g=>absurd g.len h4⟩
 rw[if_pos h3]
 exact⟨fun g=>absurd g h3,fun g=>absurd (h2.2 g.dst) h3⟩

structure FunC (nf:Nat) (P:Nat→Int) (f:FunL):Prop where
 n1:0<f.blocks.length
 n40:f.blocks.length≤40
 par:0≤f.params∧f.params≤6
 reg:f.params≤f.regs∧f.regs≤100
 many:z6 f≤300
 fin:∀b (h:b<f.blocks.length),EndC f.regs f.blocks.length f.blocks[b].fin
 phi:∀b (h:b<f.blocks.length),∀p∈f.blocks[b].phis,PhiC f.regs b (insN f b).length p
 ins:∀b (h:b<f.blocks.length),∀x∈f.blocks[b].list,jF f.regs nf P x.op x.dst x.an x.bn x.fn x.ar x.br x.args=0
theorem FunC.funD {nf:Nat} {P:Nat→Int} {f:FunL} (h:FunC nf P f):FunD f:=by
 refine⟨⟨h.n1,h.n40,fun k hk=>?_,fun k hk=>(h.fin k hk).to⟩,fun k hk=>(h.fin k hk).two⟩
 have h1:=(h.fin k hk).len
 have h2:=(h.fin k hk).kind
 omega

theorem Jh (g:Nat→Nat):∀(n:Nat) (o:List Nat),o.Nodup→(∀x∈o,x<n)→(o.map g).sum≤((List.range n).map g).sum
 | 0,o,_,h=>by
  cases o with
  | nil=>simp
  | cons x l=>have:=h x List.mem_cons_self;omega
 | n+1,o,hd,h=>by
  rw[List.range_succ,List.map_append,List.sum_append]
  by_cases hn:n∈o
  ·have h1:=Jh g n (o.erase n) (hd.erase n) (fun x hx=>by
    have h2:=hd.mem_erase_iff.1 hx
    have:=h x h2.2
    have:=h2.1
    omega)
   have h2:=((List.perm_cons_erase hn).map g).sum_nat
   rw[h2]
   simp only[List.map_cons,List.sum_cons,List.map_nil,List.sum_nil]
   omega
  have h1:=Jh g n o hd (fun x hx=>by
   have:=h x hx
   have:x≠n:=fun e=>hn (e ▸ hx)
   omega)
  omega
theorem jB (f:FunL):z6 f=((List.range f.blocks.length).map fun b=>(atF f b).phis.length+(atF f b).list.length).sum:=by
 unfold z6
 congr 1
 refine List.ext_getElem (by simp) fun i h1 h2=>?_
 simp only[List.getElem_map,List.getElem_range]
 rw[qD (by simpa using h1)]
theorem many_keep {f:FunL} {o:List Nat} (h:OrdC f o):z6 (qR o f)≤z6 f:=by
 have h1:=Jh (fun b=>(atF f b).phis.length+(atF f b).list.length) f.blocks.length o h.once h.inb
 rw[←jB]at h1
 refine Nat.le_trans (Nat.le_of_eq ?_) h1
 unfold z6 qR
 rw[List.map_map]
 congr 1
 exact List.map_congr_left fun b _=>by simp[K7]

theorem FunC.keep {nf:Nat} {P:Nat→Int} {f:FunL} (h:FunC nf P f) {o:List Nat} (ho:OrdC f o):FunC nf P (qR o f):=by
 have hd:=h.funD
 have hk:=hd.keep ho
 have hin:∀b (hb:b<(qR o f).blocks.length),∃hb':b<o.length,∃hx:o[b]<f.blocks.length,(qR o f).blocks[b]=K7 (qt o) (insN f o[b]) f.blocks[o[b]]:=fun b hb=>by
  rw[qV]at hb
  have hx:=ho.inb _ (List.getElem_mem hb)
  exact⟨hb,hx,by rw[Qs o f hb,qD hx]⟩
 refine⟨hk.n1,hk.n40,h.par,h.reg,Nat.le_trans (many_keep ho) h.many,fun b hb=>?_,fun b hb p hp=>?_,fun b hb x hx=>?_⟩
 ·obtain⟨h1,h2,h3⟩:=hin b hb
  have hf:=h.fin _ h2
  have hl:(qR o f).blocks[b].fin.to.length=f.blocks[o[b]].fin.to.length:=by rw[h3];simp[K7,endK]
  refine⟨by rw[h3];exact hf.kind,?_,hk.tos b hb,hk.once b hb,by rw[h3];exact hf.jump,by rw[h3];exact hf.on⟩
  rw[hl,h3]
  exact hf.len
 ·obtain⟨h1,h2,h3⟩:=hin b hb
  rw[h3]at hp
  obtain⟨q,hq,rfl⟩:=List.mem_map.1 hp
  have hc:=h.phi _ h2 q hq
  have hmem:o[b]∈o:=List.getElem_mem h1
  have e:=Xr hd ho hmem (kU (insN f o[b]) q.src)
  rw[←fromR_row (hd.insD _) hc.len,ho.once.idxOf_getElem b h1]at e
  refine⟨fun e0=>hc.blk ?_,hc.dst,?_,fun v hv=>?_⟩
  ·subst e0
   obtain⟨l,hl⟩:=ho.root
   subst hl
   rfl
  ·show(srcK _ _ _).length=_
   rw[e,List.length_map]
  have hv:v∈srcK (qt o) (insN f o[b]) q.src:=hv
  rw[e]at hv
  obtain⟨j,hj,rfl⟩:=List.mem_map.1 hv
  have hj2:j∈insN (qR o f) (o.idxOf o[b]):=by rw[ho.once.idxOf_getElem b h1];exact hj
  obtain⟨g1,g2⟩:=(kf hd ho hmem).1 hj2
  obtain⟨k1,k2⟩:=xu g2
  refine hc.src _ ?_
  unfold kU
  have e2:o.getD j 0=o[j]:=by simp[g1]
  have hlt:(insN f o[b]).idxOf o[j]<q.src.length:=by rw[hc.len];exact k1
  rw[e2,List.getD_eq_getElem?_getD,List.getElem?_eq_getElem hlt]
  exact List.getElem_mem _
 obtain⟨h1,h2,h3⟩:=hin b hb
 rw[h3]at hx
 exact h.ins _ h2 x hx

theorem Xs {l m:List Nat} (hl:l.Pairwise (·<·)) (hm:m.Pairwise (·<·)) (h:∀a,a∈l↔a∈m):l=m:=by
 have nd:∀{l:List Nat},l.Pairwise (·<·)→l.Nodup:=fun h=>h.imp fun h=>by omega
 exact List.Perm.eq_of_pairwise (le:=fun a b=>a<b) (fun a b _ _ h1 h2=>by omega) hl hm ((List.perm_ext_iff_of_nodup (nd hl) (nd hm)).2 h)
theorem Xt (b:Nat):∀{l:List Nat},l.Pairwise (·<·)→l.take (l.filter fun a=>decide (a<b)).length=l.filter (fun a=>decide (a<b))∧l.drop (l.filter fun a=>decide (a<b)).length=l.filter fun a=>decide (b≤a)
 | [],_=>by simp
 | x::l,h=>by
  obtain⟨h1,h2⟩:=List.pairwise_cons.1 h
  by_cases hx:x<b
  ·obtain⟨i1,i2⟩:=Xt b h2
   rw[List.filter_cons,if_pos (by simpa using hx),List.filter_cons,if_neg (by simp;omega)]
   simp only[List.length_cons,List.take_succ_cons,List.drop_succ_cons]
   exact⟨by rw[i1],i2⟩
  have e:l.filter (fun a=>decide (a<b))=[]:=by
   rw[List.filter_eq_nil_iff]
   intro a ha
   have:=h1 a ha
   simp
   omega
  rw[List.filter_cons,if_neg (by simpa using hx),e,List.filter_cons,if_pos (by simp;omega)]
  simp only[List.length_nil,List.take_zero,List.drop_zero,true_and,List.cons.injEq]
  refine(List.filter_eq_self.2 fun a ha=>?_).symm
  have:=h1 a ha
  simp
  omega
theorem VC {b:Nat} {l:List Nat} (h:l.Pairwise (·<·)) (hb:b∉l):(l.take (l.filter fun a=>decide (a<b)).length++b::l.drop (l.filter fun a=>decide (a<b)).length).Pairwise (·<·):=by
 obtain⟨h1,h2⟩:=Xt b h
 rw[h1,h2]
 refine List.pairwise_append.2 ⟨h.filter _,List.pairwise_cons.2 ⟨fun a ha=>?_,h.filter _⟩,fun a ha c hc=>?_⟩
 ·obtain⟨g1,g2⟩:=List.mem_filter.1 ha
  have:b≤a:=by simpa using g2
  have:a≠b:=fun e=>hb (e ▸ g1)
  omega
 have g1:a<b:=by simpa using(List.mem_filter.1 ha).2
 rcases List.mem_cons.1 hc with rfl|hc
 ·exact g1
 have:b≤c:=by simpa using(List.mem_filter.1 hc).2
 omega
theorem Xu {α β:Type} (g:α→β):∀(l:List α) (i:Nat),(l.map g).eraseIdx i=(l.eraseIdx i).map g
 | [],_=>rfl
 | _::_,0=>rfl
 | x::l,i+1=>by simp[List.eraseIdx,Xu g l i]
theorem erase_asc {t:Nat} {l:List Nat} (hd:l.Nodup):l.eraseIdx (l.idxOf t)=l.filter fun a=>decide (a≠t):=by
 rw[←List.erase_eq_eraseIdx_of_idxOf (a:=t) (i:=l.idxOf t) (l:=l) rfl,hd.erase_eq_filter]
 exact List.filter_congr fun a _=>by simp[bne];rfl

theorem moveR_eq {ah am:List Nat} {old now:Nat} (hs:ah.Pairwise (·<·)) (hm:am.Pairwise (·<·)) (ho:old∈ah) (hn:now∉ah) (h:∀a,a∈am↔a=now∨(a≠old∧a∈ah)) (g:Nat→Bool×Int) :
  kT ah old now (ah.map g)=am.map fun a=>g (if a=now then old else a):=by
 have hd:ah.Nodup:=hs.imp fun h=>by omega
 obtain⟨L,hL⟩:∃L,L=ah.filter fun a=>decide (a≠old):=⟨_,rfl⟩
 have hLs:L.Pairwise (·<·):=by rw[hL];exact hs.filter _
 have hnL:now∉L:=fun e=>hn (by rw[hL]at e;exact(List.mem_filter.1 e).1)
 have e1:(ah.map g).eraseIdx (ah.idxOf old)=L.map g:=by rw[Xu,erase_asc hd,hL]
 have e2:Xm ah old now=(L.filter fun a=>decide (a<now)).length:=by
  unfold Xm
  rw[hL,List.filter_filter]
  congr 1
  exact List.filter_congr fun a _=>by simp
 have e3:(ah.map g).getD (ah.idxOf old) (false,0)=g old:=fromR_map g ho
 have e4:am=L.take (L.filter fun a=>decide (a<now)).length++now::L.drop (L.filter fun a=>decide (a<now)).length:=by
  refine Xs hm (VC hLs hnL) fun a=>?_
  rw[h,List.mem_append,List.mem_cons]
  have:a∈L↔a∈L.take (L.filter fun a=>decide (a<now)).length∨a∈L.drop (L.filter fun a=>decide (a<now)).length:=by
   rw[←List.mem_append,List.take_append_drop]
  have h2:a∈L↔a≠old∧a∈ah:=by rw[hL,List.mem_filter];simp[and_comm]
  rw[←h2,this]
  constructor
  ·rintro(g|g|g)
   ·exact .inr (.inl g)
   ·exact .inl g
   exact .inr (.inr g)
  rintro(g|g|g)
  ·exact .inr (.inl g)
  ·exact .inl g
  exact .inr (.inr g)
 have e5:∀a∈L,g (if a=now then old else a)=g a:=fun a ha=>by rw[if_neg fun(e:a=now)=>hnL (e ▸ ha)]
 unfold kT
 rw[e1,e2,e3,e4,List.map_append,List.map_cons,if_pos rfl,←List.map_take,←List.map_drop]
 congr 1
 ·exact List.map_congr_left fun a ha=>(e5 a (List.mem_of_mem_take ha)).symm
 congr 1
 exact List.map_congr_left fun a ha=>(e5 a (List.mem_of_mem_drop ha)).symm
/-! ## joining -/

structure MayJ (f:FunL) (b t:Nat):Prop where
 hb:b<f.blocks.length
 ht:t<f.blocks.length
 «to»:tosB f.blocks b=[(t:Int)]
 ne:t≠b
 phi:f.blocks[t].phis=[]
 one:insN f t=[b]
theorem mayJ {nf:Nat} {P:Nat→Int} {f:FunL} (h:FunC nf P f) {b t:Nat} (hb:b<f.blocks.length) (hm:jm f b=some t):MayJ f b t:=by
 unfold jm at hm
 dsimp only at hm
 split at hm
 ·rename_i hc
  injection hm with hm
  obtain⟨hk,hc⟩:=hc
  rw[qD hb]at hk hm hc
  have he:=h.fin b hb
  have hl:(f.blocks[b].fin.to).length=1:=by have:=he.len;omega
  obtain⟨x,hx⟩:∃x,f.blocks[b].fin.to=[x]:=by
   rcases e:f.blocks[b].fin.to with _|⟨x,_|⟨y,l⟩⟩
   ·simp[e]at hl
   ·exact⟨x,rfl⟩
   simp[e]at hl
  have hx1:=he.to x (by rw[hx];simp)
  rw[hx]at hm hc
  have hm:x.toNat=t:=hm
  have hxt:x=(t:Int):=by omega
  have ht:t<f.blocks.length:=by omega
  have hc:¬(x.toNat=b∨0<(atF f x.toNat).phis.length∨1<(insN f x.toNat).length):=hc
  rw[hm,qD ht]at hc
  have hto:tosB f.blocks b=[(t:Int)]:=by rw[qT hb,hx,hxt]
  have hbt:b∈insN f t:=h.funD.mem.2 ⟨hb,by rw[hto];simp⟩
  refine⟨hb,ht,hto,fun e=>hc (.inl e),?_,?_⟩
  ·exact List.eq_nil_of_length_eq_zero (by omega)
  rcases e:insN f t with _|⟨y,_|⟨z,l⟩⟩
  ·rw[e]at hbt;cases hbt
  ·rw[e]at hbt;rw[List.mem_singleton.1 hbt]
  exfalso;rw[e]at hc;simp at hc
 cases hm

def Xv (f:FunL) (b t i:Nat):List PhiL:=(atF f i).phis.map fun p=>if(i:Int)∈(atF f t).fin.to then { p with src:=kT (insN f i) t b p.src } else p
theorem vl (f:FunL) (b t:Nat):(qJ f t b).blocks.length=f.blocks.length:=by simp[qJ]
theorem jQ {f:FunL} {b t i:Nat} (hi:i<f.blocks.length):atF (qJ f t b) i={ phis:=Xv f b t i,list:=(atF f i).list,fin:=(atF f i).fin }:=by
 have e0:atF (qJ f t b) i=(fun(i:Nat) (x:BlkL)=>if(i:Int)∈(atF f t).fin.to then { x with phis:=x.phis.map fun p=>{ p with src:=kT (insN f i) t b p.src } } else x) i f.blocks[i]:=by
  show(f.blocks.mapIdx _).getD i kd=_
  rw[List.getD_eq_getElem?_getD,List.getElem?_mapIdx,List.getElem?_eq_getElem hi]
  rfl
 rw[e0]
 unfold Xv
 rw[qD hi]
 by_cases h:(i:Int)∈(atF f t).fin.to
 ·simp only[h,if_true]
 simp only[h,if_false]
 have e:(f.blocks[i].phis.map fun p=>p)=f.blocks[i].phis:=List.map_id' _
 rw[e]
theorem qH (f:FunL) (b t:Nat):(zM f b t).blocks.length=f.blocks.length:=by simp[zM,vl]
theorem jR {f:FunL} {b t i:Nat} (hi:i<f.blocks.length) (hb:b<f.blocks.length) (ht:t<f.blocks.length):atF (zM f b t) i=if i=t then kd else { phis:=Xv f b t i,list:=if i=b then(atF f b).list++(atF f t).list else(atF f i).list,fin:=if i=b then(atF f t).fin else(atF f i).fin }:=by
 have hlt:i<(qJ f t b).blocks.length:=by rw[vl];exact hi
 show(((qJ f t b).blocks.set b _).set t kd).getD i kd=_
 rw[List.getD_eq_getElem?_getD,List.getElem?_set,List.getElem?_set,List.length_set,vl]
 by_cases e:i=t
 ·rw[if_pos e.symm,if_pos e,if_pos ht];rfl
 rw[if_neg (fun g=>e g.symm),if_neg e]
 by_cases e2:i=b
 ·subst e2
  rw[if_pos rfl,if_pos hb]
  simp only[if_true,jQ hb,jQ ht,Option.getD_some]
 rw[if_neg (fun g=>e2 g.symm)]
 simp only[if_neg e2]
 rw[←jQ (b:=b) (t:=t) hi]
 unfold atF
 rw[List.getD_eq_getElem?_getD]
theorem kg (f:FunL) {i:Nat}:i<f.blocks.length→tosB f.blocks i=(atF f i).fin.to:=fun h=>by rw[qT h,qD h]
theorem vm {f:FunL} {b t:Nat} (h:MayJ f b t) {i:Nat} (hi:i<f.blocks.length):tosB (zM f b t).blocks i=if i=t then[]else if i=b then tosB f.blocks t else tosB f.blocks i:=by
 rw[kg _ (by rw[qH];exact hi),jR hi h.hb h.ht]
 by_cases e:i=t
 ·rw[if_pos e,if_pos e];rfl
 rw[if_neg e,if_neg e]
 by_cases e2:i=b
 ·simp only[if_pos e2]
  rw[kg f h.ht]
 simp only[if_neg e2]
 rw[kg f hi]

theorem FunD.join {f:FunL} (hf:FunD f) {b t:Nat} (h:MayJ f b t):FunD (zM f b t):=by
 have key:∀k,k<f.blocks.length→(tosB (zM f b t).blocks k).length≤2∧(∀x∈tosB (zM f b t).blocks k,1≤x∧x<(f.blocks.length:Int))∧(tosB (zM f b t).blocks k).Nodup:=fun k hk=>by
  have base:∀k,k<f.blocks.length→(tosB f.blocks k).length≤2∧(∀x∈tosB f.blocks k,1≤x∧x<(f.blocks.length:Int))∧(tosB f.blocks k).Nodup:=fun k hk=>by
   rw[qT hk]
   exact⟨hf.two k hk,hf.tos k hk,hf.once k hk⟩
  rw[vm h hk]
  split
  ·simp
  split
  ·exact base t h.ht
  exact base k hk
 refine⟨⟨by rw[qH];exact hf.n1,by rw[qH];exact hf.n40,fun k hk=>?_,fun k hk=>?_⟩,fun k hk=>?_⟩
 ·rw[←qT hk];exact(key k (by rw[←qH f b t];exact hk)).1
 ·rw[←qT hk,qH];exact(key k (by rw[←qH f b t];exact hk)).2.1
 rw[←qT hk];exact(key k (by rw[←qH f b t];exact hk)).2.2

theorem Q3 {f:FunL} (hf:FunD f) {b t:Nat} (h:MayJ f b t) {i a:Nat} (hi:i≠t):a∈insN (zM f b t) i↔if(i:Int)∈tosB f.blocks t then a=b∨(a≠t∧a∈insN f i)else a∈insN f i:=by
 have hbi:b∉insN f i:=fun g=>by
  have:=(hf.mem.1 g).2
  rw[h.to,List.mem_singleton]at this
  omega
 have hti:t∈insN f i↔(i:Int)∈tosB f.blocks t:=by rw[hf.mem];exact⟨fun g=>g.2,fun g=>⟨h.ht,g⟩⟩
 rw[(hf.join h).mem,qH]
 have hm:∀a,a∈insN f i↔a<f.blocks.length∧(i:Int)∈tosB f.blocks a:=fun a=>hf.mem
 by_cases ha:a<f.blocks.length
 ·rw[vm h ha]
  by_cases e1:a=t
  ·subst e1
   rw[if_pos rfl]
   split
   ·have:=h.ne;simp[this]
   rename_i g
   rw[hti]
   simp[g]
  rw[if_neg e1]
  by_cases e2:a=b
  ·subst e2
   rw[if_pos rfl]
   split
   ·rename_i g;simp[ha,g]
   rename_i g;simp[g,hbi]
  rw[if_neg e2,←hm]
  split<;>simp[e1,e2]
 have:a∉insN f i:=fun g=>ha ((hm a).1 g).1
 have hab:a≠b:=fun e=>ha (e ▸ h.hb)
 split<;>simp[ha,this,hab]
theorem join_phi {f:FunL} (hf:FunD f) {b t:Nat} (h:MayJ f b t) {i:Nat} (hi:i≠t) {src:List (Bool×Int)} (hl:src.length=(insN f i).length) :
  (if(i:Int)∈tosB f.blocks t then kT (insN f i) t b src else src)=(insN (zM f b t) i).map fun a=>kU (insN f i) src (if(i:Int)∈tosB f.blocks t∧a=b then t else a):=by
 have hj:=hf.join h
 by_cases hc:(i:Int)∈tosB f.blocks t
 ·rw[if_pos hc]
  have e:=fromR_row (hf.insD i) hl
  have hti:t∈insN f i:=hf.mem.2 ⟨h.ht,hc⟩
  have hbi:b∉insN f i:=fun g=>by
   have:=(hf.mem.1 g).2
   rw[h.to,List.mem_singleton]at this
   omega
  have e2:=moveR_eq (xw hf i) (xw hj i) hti hbi (fun a=>by rw[Q3 hf h hi,if_pos hc]) (kU (insN f i) src)
  rw[←e]at e2
  rw[e2]
  refine List.map_congr_left fun a _=>?_
  by_cases ea:a=b<;>simp[ea,hc]
 rw[if_neg hc]
 have e3:insN (zM f b t) i=insN f i:=Xs (xw hj i) (xw hf i) fun a=>by rw[Q3 hf h hi,if_neg hc]
 rw[e3]
 have e:=fromR_row (hf.insD i) hl
 refine e.trans (List.map_congr_left fun a _=>?_)
 simp[hc]
end Go.Proofs.YtecdphhdmjmmnaaGreatDoor
