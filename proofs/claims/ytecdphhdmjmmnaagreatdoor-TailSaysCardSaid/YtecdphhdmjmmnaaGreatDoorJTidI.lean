/-
  Plain: registers named as they are met (xh) keep what the check asks of a function.
-/
import Derived.Test.YtecdphhdmjmmnaaGreatDoorJDomO
namespace Go.Proofs.YtecdphhdmjmmnaaGreatDoor
open Go.RowKit

def qC (o:List Nat) (b:Nat):Int:=if b∈o then(o.idxOf b:Int)else -1
def Vc (at_:Nat→Int) (ah:List Nat) (src:List (Bool×Int)):List (Int×(Bool×Int)):=
 ((ah.zip src).map fun e=>(at_ e.1,e.2)).filter fun e=>decide (0≤e.1)
def sortK (l:List (Int×(Bool×Int))):List (Int×(Bool×Int)):=l.mergeSort fun a b=>decide (a.1≤b.1)
def srcK (at_:Nat→Int) (ah:List Nat) (src:List (Bool×Int)):List (Bool×Int):=(sortK (Vc at_ ah src)).map (·.2)
def endK (at_:Nat→Int) (x:EndL):EndL:={ x with «to»:=x.to.map fun t=>at_ t.toNat }
def Vd (at_:Nat→Int) (ah:List Nat) (x:BlkL):BlkL:=
 { phis:=x.phis.map fun p=>{ p with src:=srcK at_ ah p.src },list:=x.list,fin:=endK at_ x.fin }
def kr:BlkL:=⟨[],[],⟨1,false,0,[]⟩⟩
def atF (f:FunL) (b:Nat):BlkL:=f.blocks.getD b kr
theorem qG {f:FunL} {b:Nat} (h:b<f.blocks.length):atF f b=f.blocks[b]:=by
 unfold atF
 simp[h]
def zl (o:List Nat) (f:FunL):FunL:={ f with blocks:=o.map fun b=>Vd (qC o) (insN f b) (atF f b) }

def XH (ah:List Nat) (old now:Nat):Nat:=(ah.filter fun a=>decide (a<now∧a≠old)).length
def Q7 (ah:List Nat) (old now:Nat) (src:List (Bool×Int)):List (Bool×Int):=
 ((src.eraseIdx (ah.idxOf old)).take (XH ah old now))++src.getD (ah.idxOf old) (false,0)::((src.eraseIdx (ah.idxOf old)).drop (XH ah old now))
def qM (f:FunL) (old now:Nat):FunL:=
 { f with blocks:=f.blocks.mapIdx fun i x=>if(i:Int)∈(atF f old).fin.to then { x with phis:=x.phis.map fun p=>{ p with src:=Q7 (insN f i) old now p.src } } else x }
def x8 (f:FunL) (b t:Nat):FunL:=
 let g:=qM f t b
 { g with blocks:=(g.blocks.set b { phis:=(atF g b).phis,list:=(atF g b).list++(atF g t).list,fin:=(atF g t).fin }).set t kr }
def jL (f:FunL) (b:Nat):Option Nat:=
 let t:=((atF f b).fin.to.getD 0 0).toNat
 if(atF f b).fin.kind=2∧¬(t=b∨0<(atF f t).phis.length∨1<(insN f t).length)then some t else none
def qR:Nat→FunL→Nat→FunL
 | 0,f,_=>f
 | c+1,f,b=>match jL f b with
  | none=>f
  | some t=>qR c (x8 f b t) b
def qW (f:FunL):FunL:=(List.range f.blocks.length).foldl (fun g b=>qR (f.blocks.length+1) g b) f

abbrev NamS:=(Nat→Int)×Int
def jo (s:NamS) (r:Nat):NamS:=if s.1 r<0 then(fun i=>if i=r then s.2 else s.1 i,s.2+1)else s
def xw (v:Bool×Int):List Nat:=if v.1=true then[v.2.toNat] else[]
def Q3 (x:InsL):List Nat:=xw (x.ar,x.an)++xw (x.br,x.bn)++x.args.flatMap xw
def vE (d:Int):List Nat:=if 0≤d then[d.toNat] else[]
def metB (x:BlkL):List Nat:=x.phis.map (fun p=>p.dst.toNat)++x.list.flatMap (fun i=>Q3 i++vE i.dst)++xw (x.fin.onr,x.fin.onn)
def VT (x:BlkL):List Nat:=x.phis.flatMap (fun p=>p.dst.toNat::p.src.flatMap xw)++x.list.flatMap (fun i=>Q3 i++vE i.dst)++xw (x.fin.onr,x.fin.onn)
def Qc (f:FunL):List Nat:=List.range f.params.toNat++f.blocks.flatMap metB
def XI (f:FunL):List Nat:=f.blocks.flatMap VT
def nam0:NamS:=(fun _=>-1,0)
def namF (f:FunL):NamS:=(Qc f++XI f).foldl jo nam0
def x9 (m:Nat→Int) (v:Bool×Int):Bool×Int:=if v.1=true then(true,m v.2.toNat)else v
def ks (m:Nat→Int) (x:InsL):InsL:=
 { x with dst:=if 0≤x.dst then m x.dst.toNat else x.dst,an:=(x9 m (x.ar,x.an)).2,bn:=(x9 m (x.br,x.bn)).2,args:=x.args.map (x9 m) }
def renB (m:Nat→Int) (x:BlkL):BlkL:=
 { phis:=x.phis.map fun p=>{ dst:=m p.dst.toNat,src:=p.src.map (x9 m) },list:=x.list.map (ks m),fin:={ x.fin with onn:=(x9 m (x.fin.onr,x.fin.onn)).2 } }
def xh (f:FunL):FunL:={ f with regs:=(namF f).2,blocks:=f.blocks.map (renB (namF f).1) }
def ordT (f:FunL):FunL:=zl (xG f.blocks) f
def ja (f:FunL):FunL:=xh (ordT f)
def doT (f:FunL):FunL:=ja (qW (ordT f))
def xB (u:UniL):UniL:={ u with funcs:=u.funcs.map doT }
structure FunD (f:FunL):Prop extends FunS f where
 once:∀k (h:k<f.blocks.length),(f.blocks[k].fin.to).Nodup

theorem rowWays {T:List (List Int)} {t:Nat} (h0:∀i,∀x∈T.getD i [],0≤x) (h1:∀i,(T.getD i []).Nodup):∀n:Nat,qP (qJ T n) t=(List.range n).filter fun i=>decide ((t:Int)∈T.getD i [])
 | 0=>rfl
 | n+1=>by
  have ih:=rowWays (t:=t) h0 h1 n
  rw[List.range_succ,List.filter_append,←ih]
  show qP (qJ T n++_) t=_
  unfold qP
  rw[List.filter_append,List.map_append]
  congr 1
  have a0:=h0 n
  have a1:=h1 n
  rw[show([n].filter fun i=>decide ((t:Int)∈T.getD i []))=if(t:Int)∈T.getD n [] then[n] else[] by by_cases e:(t:Int)∈T.getD n []<;>simp only[List.filter_cons,List.filter_nil,e,decide_true,decide_false,if_true,if_false,Bool.false_eq_true]]
  generalize T.getD n []=l at a0 a1
  have key:∀l:List Int,(∀x∈l,0≤x)→l.Nodup→((l.map fun x=>(x.toNat,n)).filter fun x=>x.1 == t).map (·.2)=if(t:Int)∈l then[n] else[]:=by
   intro l
   induction l with
   | nil=>intro _ _;rfl
   | cons x l ih=>
    intro b0 b1
    obtain⟨c1,c2⟩:=List.nodup_cons.1 b1
    have ih:=ih (fun y hy=>b0 y (.tail _ hy)) c2
    have hx:=b0 x (.head _)
    rw[List.map_cons,List.filter_cons]
    by_cases e:x.toNat=t
    ·have e2:x=(t:Int):=by omega
     subst e2
     rw[if_neg c1]at ih
     simp only[e,beq_self_eq_true,if_true,List.map_cons,ih,List.mem_cons,true_or]
    have e2:(t:Int)≠x:=by omega
    have e3:(x.toNat == t)=false:=by simpa using e
    rw[if_neg (by simp[e3]),ih]
    simp[e2]
  exact key l a0 a1

theorem QE (f:FunL) (i:Nat):(kL f).getD i []=tosB f.blocks i:=by
 unfold kL tosB
 by_cases h:i<f.blocks.length
 ·simp[h]
 simp[h]
theorem FunD.insN {f:FunL} (h:FunD f) (c:Nat):insN f c=(List.range f.blocks.length).filter fun i=>decide ((c:Int)∈tosB f.blocks i):=by
 have:=rowWays (T:=kL f) (t:=c) (fun i x hx=>by
  rw[QE]at hx
  by_cases hi:i<f.blocks.length
  ·exact(h.tosB i hi x hx).1
  ·simp[Go.Proofs.YtecdphhdmjmmnaaGreatDoor.tosB,hi]at hx) (fun i=>by
  rw[QE]
  by_cases hi:i<f.blocks.length
  ·rw[zk hi];exact h.once i hi
  simp[Go.Proofs.YtecdphhdmjmmnaaGreatDoor.tosB,hi]) f.blocks.length
 unfold Go.Proofs.YtecdphhdmjmmnaaGreatDoor.insN xp
 rw[this]
 simp only[QE]
theorem FunD.insD {f:FunL} (h:FunD f) (c:Nat):(Go.Proofs.YtecdphhdmjmmnaaGreatDoor.insN f c).Nodup:=by
 rw[h.insN]
 exact List.nodup_range.filter _
theorem FunD.mem {f:FunL} (h:FunD f) {c b:Nat}:b∈Go.Proofs.YtecdphhdmjmmnaaGreatDoor.insN f c↔b<f.blocks.length∧(c:Int)∈tosB f.blocks b:=by
 rw[h.insN,List.mem_filter,List.mem_range]
 simp

def CloV (tos:Nat→List Int) (s s':PostS):Prop:=(∀x,s.1 x=true→s'.1 x=true)∧∀x,s'.1 x=true→s.1 x=true∨∀t∈tos x,s'.1 t.toNat=true
theorem CloV.refl (tos:Nat→List Int) (s:PostS):CloV tos s s:=⟨fun _ h=>h,fun _ h=>.inl h⟩
theorem CloV.trans {tos:Nat→List Int} {a b c:PostS} (h:CloV tos a b) (k:CloV tos b c):CloV tos a c:=
 ⟨fun x e=>k.1 x (h.1 x e),fun x e=>(k.2 x e).elim (fun e=>(h.2 x e).imp id fun g t ht=>k.1 _ (g t ht)) .inr⟩

theorem visTo_c {n:Nat} {tos:Nat→List Int} {rec:Nat→PostS→PostS} {xs:List Int} (hx:∀x∈xs,0≤x∧x<(n:Int)) {s:PostS}
  (h:∀b s',b<n→s'.1 b=false→xg n s'.1≤xg n s.1→CloV tos s' (rec b s')∧(rec b s').1 b=true):∀i,i≤xs.length→CloV tos s (zN rec xs s i)∧∀j (hj:j<xs.length),xs.length - i≤j→(zN rec xs s i).1 xs[j].toNat=true
 | 0,_=>⟨.refl _ _,fun j hj g=>by omega⟩
 | i+1,hi=>by
  obtain⟨ih,i2⟩:=visTo_c hx h i (by omega)
  show CloV tos s (zJ rec (zN rec xs s i) (xs.getD (xs.length - 1 - i) 0))∧∀j (hj:j<xs.length),_→(zJ rec (zN rec xs s i) (xs.getD (xs.length - 1 - i) 0)).1 _=true
  have hk:xs.length - 1 - i<xs.length:=by omega
  have hm:=hx _ (List.getElem_mem hk)
  have hg:xs.getD (xs.length - 1 - i) 0=xs[xs.length - 1 - i]:=by
   rw[List.getD_eq_getElem?_getD,List.getElem?_eq_getElem hk];rfl
  rw[hg]
  unfold zJ
  cases e:(zN rec xs s i).1 (xs[xs.length - 1 - i]).toNat
  ·obtain⟨h1,h2⟩:=h (xs[xs.length - 1 - i]).toNat _ (by omega) e (kT ih.1)
   refine⟨ih.trans h1,fun j hj g=>?_⟩
   by_cases ej:j=xs.length - 1 - i
   ·subst ej;exact h2
   exact h1.1 _ (i2 j hj (by omega))
  refine⟨ih,fun j hj g=>?_⟩
  by_cases ej:j=xs.length - 1 - i
  ·subst ej;exact e
  exact i2 j hj (by omega)
theorem visF_c {n:Nat} {tos:Nat→List Int} (hT:∀b,b<n→∀x∈tos b,0≤x∧x<(n:Int)):∀(c b:Nat) (s:PostS),xg n s.1<c→b<n→s.1 b=false→CloV tos s (jy tos c b s)∧(jy tos c b s).1 b=true
 | 0,_,_,h,_,_=>by omega
 | c+1,b,s,hc,hb,hs=>by
  have h1:=ju (n:=n) hb hs
  obtain⟨h2,h3⟩:=visTo_c (n:=n) (tos:=tos) (rec:=jy tos c) (xs:=tos b) (hT b hb) (s:=zY b s) (fun b' s' hb' h' hle=>visF_c hT c b' s' (by omega) hb' h') (tos b).length (Nat.le_refl _)
  have hb1:(zY b s).1 b=true:=by show(if b=b then true else _)=true;simp
  refine⟨⟨fun x e=>h2.1 x (ZK e),fun x e=>?_⟩,h2.1 b hb1⟩
  rcases h2.2 x e with g|g
  ·by_cases ex:x=b
   ·subst ex
    refine .inr fun t ht=>?_
    obtain⟨j,hj,rfl⟩:=List.mem_iff_getElem.1 ht
    exact h3 j hj (by omega)
   have g:(if x=b then true else s.1 x)=true:=g
   rw[if_neg ex]at g
   exact .inl g
  exact .inr g

theorem FunS.closed {f:FunL} (h:FunS f) {b:Nat} (hb:b∈xG f.blocks) {t:Int} (ht:t∈Go.Proofs.YtecdphhdmjmmnaaGreatDoor.tosB f.blocks b):t.toNat∈xG f.blocks:=by
 obtain⟨l,hp⟩:=V8 (n:=f.blocks.length) h.tosB (f.blocks.length+1) 0 (fun _=>false,[]) (Nat.lt_succ_of_le (jE _ _)) h.n1 rfl
 obtain⟨hc,_⟩:=visF_c (n:=f.blocks.length) h.tosB (f.blocks.length+1) 0 (fun _=>false,[]) (Nat.lt_succ_of_le (jE _ _)) h.n1 rfl
 have he:∀x,x∈xG f.blocks↔(jy (Go.Proofs.YtecdphhdmjmmnaaGreatDoor.tosB f.blocks) (f.blocks.length+1) 0 (fun _=>false,[])).1 x=true:=fun x=>by
  rw[hp.seen x]
  unfold xG j9 jD
  rw[hp.left]
  simp[or_comm]
 rw[he]at hb ⊢
 rcases hc.2 b hb with g|g
 ·cases g
 exact g t ht
/-! ## renamed graphs -/

theorem Ve {n:Nat} {r1 r2:Nat→PostS→PostS} {xs:List Int} (hx:∀x∈xs,0≤x∧x<(n:Int)) {s:PostS}
  (h:∀b s',b<n→s'.1 b=false→xg n s'.1≤xg n s.1→r1 b s'=r2 b s'∧xg n (r1 b s').1≤xg n s'.1):∀i,i≤xs.length→zN r1 xs s i=zN r2 xs s i∧xg n (zN r1 xs s i).1≤xg n s.1
 | 0,_=>⟨rfl,Nat.le_refl _⟩
 | i+1,hi=>by
  obtain⟨ih,i2⟩:=Ve hx h i (by omega)
  show zJ r1 (zN r1 xs s i) (xs.getD (xs.length - 1 - i) 0)=zJ r2 (zN r2 xs s i) (xs.getD (xs.length - 1 - i) 0)∧xg n (zJ r1 (zN r1 xs s i) (xs.getD (xs.length - 1 - i) 0)).1≤_
  rw[←ih]
  have hk:xs.length - 1 - i<xs.length:=by omega
  have hm:=hx _ (List.getElem_mem hk)
  have hg:xs.getD (xs.length - 1 - i) 0=xs[xs.length - 1 - i]:=by
   rw[List.getD_eq_getElem?_getD,List.getElem?_eq_getElem hk];rfl
  rw[hg]
  unfold zJ
  cases e:(zN r1 xs s i).1 (xs[xs.length - 1 - i]).toNat
  ·obtain⟨h1,h2⟩:=h (xs[xs.length - 1 - i]).toNat _ (by omega) e i2
   exact⟨h1,Nat.le_trans h2 i2⟩
  exact⟨rfl,i2⟩
theorem XJ {n:Nat} {tos:Nat→List Int} (hT:∀b,b<n→∀x∈tos b,0≤x∧x<(n:Int)):∀(c d b:Nat) (s:PostS),xg n s.1<c→xg n s.1<d→b<n→s.1 b=false→jy tos c b s=jy tos d b s
 | 0,_,_,_,h,_,_,_=>by omega
 | _+1,0,_,_,_,h,_,_=>by omega
 | c+1,d+1,b,s,hc,hd,hb,hs=>by
  have h1:=ju (n:=n) hb hs
  obtain⟨h2,_⟩:=Ve (n:=n) (r1:=jy tos c) (r2:=jy tos d) (xs:=tos b) (hT b hb) (s:=zY b s) (fun b' s' hb' h' hle=>⟨XJ hT c d b' s' (by omega) (by omega) hb' h',by
   obtain⟨l,hl⟩:=V8 hT c b' s' (by omega) hb' h'
   exact hl.up⟩) (tos b).length (Nat.le_refl _)
  show((zN (jy tos c) (tos b) (zY b s) (tos b).length).1,_)=((zN (jy tos d) (tos b) (zY b s) (tos b).length).1,_)
  rw[h2]

structure IsoV (R:Nat→Prop) (p:Nat→Nat) (s s':PostS):Prop where
 seen:∀x,R x→s'.1 (p x)=s.1 x
 left:s'.2=s.2.map fun x=>(p x.toNat:Int)
theorem XK {R:Nat→Prop} {p:Nat→Nat} {r1 r2:Nat→PostS→PostS} (hr:∀b a a',R b→IsoV R p a a'→IsoV R p (r1 b a) (r2 (p b) a')) {xs:List Int} (hx:∀x∈xs,R x.toNat) {s s':PostS} (h:IsoV R p s s'):∀i,i≤xs.length→IsoV R p (zN r1 xs s i) (zN r2 (xs.map fun x=>(p x.toNat:Int)) s' i)
 | 0,_=>h
 | i+1,hi=>by
  have ih:=XK hr hx h i (by omega)
  show IsoV R p (zJ r1 _ (xs.getD (xs.length - 1 - i) 0)) (zJ r2 _ ((xs.map fun x=>(p x.toNat:Int)).getD ((xs.map fun x=>(p x.toNat:Int)).length - 1 - i) 0))
  have hk:xs.length - 1 - i<xs.length:=by omega
  have hg:xs.getD (xs.length - 1 - i) 0=xs[xs.length - 1 - i]:=by
   rw[List.getD_eq_getElem?_getD,List.getElem?_eq_getElem hk];rfl
  have hg2:(xs.map fun x=>(p x.toNat:Int)).getD ((xs.map fun x=>(p x.toNat:Int)).length - 1 - i) 0=(p (xs[xs.length - 1 - i]).toNat:Int):=by
   rw[List.length_map,List.getD_eq_getElem?_getD,List.getElem?_map,List.getElem?_eq_getElem hk];rfl
  rw[hg,hg2]
  have hR:=hx _ (List.getElem_mem hk)
  unfold zJ
  rw[Int.toNat_natCast,ih.seen _ hR]
  split
  ·exact ih
  exact hr _ _ _ hR ih
theorem ZN {R:Nat→Prop} {p:Nat→Nat} {t1 t2:Nat→List Int} (hinj:∀x y,R x→R y→p x=p y→x=y) (hT:∀x,R x→(∀t∈t1 x,R t.toNat)∧t2 (p x)=(t1 x).map fun t=>(p t.toNat:Int)):∀(c b:Nat) (s s':PostS),R b→IsoV R p s s'→IsoV R p (jy t1 c b s) (jy t2 c (p b) s')
 | 0,_,_,_,_,h=>h
 | c+1,b,s,s',hb,h=>by
  have hm:IsoV R p (zY b s) (zY (p b) s'):=⟨fun x hx=>by
   show(if p x=p b then true else s'.1 (p x))=(if x=b then true else s.1 x)
   rw[h.seen x hx]
   by_cases e:x=b
   ·subst e;simp
   rw[if_neg e,if_neg fun g=>e (hinj x b hx hb g)],h.left⟩
  have h2:=XK (r1:=jy t1 c) (r2:=jy t2 c) (fun b' a a' hb' ha=>ZN hinj hT c b' a a' hb' ha) (hT b hb).1 hm (t1 b).length (Nat.le_refl _)
  have e2:jy t2 (c+1) (p b) s'=((zN (jy t2 c) (t2 (p b)) (zY (p b) s') (t2 (p b)).length).1,(zN (jy t2 c) (t2 (p b)) (zY (p b) s') (t2 (p b)).length).2++[((p b:Nat):Int)]):=rfl
  rw[e2,(hT b hb).2,List.length_map]
  refine⟨h2.seen,?_⟩
  show _++[((p b:Nat):Int)]=(_++[(b:Int)]).map _
  rw[List.map_append,h2.left]
  simp

structure OrdC (f:FunL) (o:List Nat):Prop where
 once:o.Nodup
 root:∃l,o=0::l
 inb:∀x∈o,x<f.blocks.length
 closed:∀b∈o,∀t∈tosB f.blocks b,t.toNat∈o
theorem FunS.ordC {f:FunL} (h:FunS f):OrdC f (xG f.blocks):=⟨h.ord.once,h.ord.root,h.ord.inb,fun _ hb _ ht=>h.closed hb ht⟩

theorem placeT_at {o:List Nat} (h:o.Nodup) {i:Nat} (hi:i<o.length):qC o o[i]=(i:Int):=by
 unfold qC
 rw[if_pos (List.getElem_mem hi),h.idxOf_getElem i hi]
theorem xu {o:List Nat} {b:Nat} (h:b∈o):qC o b=(o.idxOf b:Int):=by unfold qC;rw[if_pos h]
theorem xr {o:List Nat} {b:Nat} (h:b∈o):∃hi:o.idxOf b<o.length,o[o.idxOf b]=b:=⟨List.idxOf_lt_length_of_mem h,List.getElem_idxOf (List.idxOf_lt_length_of_mem h)⟩
theorem QF {o:List Nat} {a b:Nat} (ha:a∈o) (hb:b∈o) (e:o.idxOf a=o.idxOf b):a=b:=by
 obtain⟨h1,e1⟩:=xr ha
 obtain⟨h2,e2⟩:=xr hb
 rw[←e1,←e2]
 simp only[e]
theorem OrdC.pos {f:FunL} {o:List Nat} (h:OrdC f o):0<o.length∧o.idxOf 0=0∧0∈o:=by
 obtain⟨l,rfl⟩:=h.root
 simp

theorem zp (o:List Nat) (f:FunL):(zl o f).blocks.length=o.length:=by simp[zl]
theorem ZO (o:List Nat) (f:FunL) {i:Nat} (hi:i<o.length):(zl o f).blocks[i]'(by rw[zp];exact hi)=Vd (qC o) (insN f o[i]) (atF f o[i]):=by simp[zl]
theorem kt {o:List Nat} {f:FunL} (h:OrdC f o) {i:Nat} (hi:i<o.length):tosB (zl o f).blocks i=(tosB f.blocks o[i]).map fun t=>(o.idxOf t.toNat:Int):=by
 have h1:=h.inb _ (List.getElem_mem hi)
 rw[zk (by rw[zp];exact hi),ZO o f hi,zk h1]
 unfold Vd endK
 rw[qG h1]
 refine List.map_congr_left fun t ht=>?_
 rw[←zk h1]at ht
 exact xu (h.closed _ (List.getElem_mem hi) t ht)
theorem JF {o:List Nat} {f:FunL} (h:OrdC f o) {b:Nat} (hb:b∈o):tosB (zl o f).blocks (o.idxOf b)=(tosB f.blocks b).map fun t=>(o.idxOf t.toNat:Int):=by
 obtain⟨h1,h2⟩:=xr hb
 rw[kt h h1,h2]

theorem FunD.keep {f:FunL} (hf:FunD f) {o:List Nat} (h:OrdC f o):FunD (zl o f):=by
 have hle:o.length≤f.blocks.length:=xl _ _ h.once h.inb
 have ht:∀(k:Nat) (hk:k<(zl o f).blocks.length),((zl o f).blocks[k]).fin.to=(tosB f.blocks (o[k]'(by rw[←zp o f];exact hk))).map fun t=>(o.idxOf t.toNat:Int):=fun k hk=>by
  rw[←zk hk]
  exact kt h _
 have hin:∀(k:Nat) (hk:k<(zl o f).blocks.length),(o[k]'(by rw[←zp o f];exact hk))<f.blocks.length:=fun k hk=>h.inb _ (List.getElem_mem _)
 refine⟨⟨by rw[zp];exact h.pos.1,by rw[zp];have:=hf.n40;omega,fun k hk=>?_,fun k hk t hm=>?_⟩,fun k hk=>?_⟩
 ·rw[ht k hk,List.length_map,zk (hin k hk)]
  exact hf.two _ _
 ·rw[ht k hk]at hm
  obtain⟨s,hs,rfl⟩:=List.mem_map.1 hm
  have h1:=h.closed _ (List.getElem_mem (by rw[←zp o f];exact hk)) s hs
  rw[zk (hin k hk)]at hs
  have h2:=hf.tos _ _ s hs
  obtain⟨h3,h4⟩:=xr h1
  rw[zp]
  refine⟨?_,by omega⟩
  have:o.idxOf s.toNat≠0:=fun e=>by
   have:=QF h1 h.pos.2.2 (e.trans h.pos.2.1.symm)
   omega
  omega
 rw[ht k hk,zk (hin k hk)]
 refine List.pairwise_map.2 (List.Pairwise.imp_of_mem (fun {x y} hx hy ne e=>ne ?_) (hf.once _ (hin k hk)))
 have hx':=h.closed _ (List.getElem_mem (by rw[←zp o f];exact hk)) x (by rw[zk (hin k hk)];exact hx)
 have hy':=h.closed _ (List.getElem_mem (by rw[←zp o f];exact hk)) y (by rw[zk (hin k hk)];exact hy)
 have h1:=hf.tos _ _ x hx
 have h2:=hf.tos _ _ y hy
 have:=QF hx' hy' (by omega)
 omega

theorem FunD.order {f:FunL} (hf:FunD f):xG (ordT f).blocks=List.range (xG f.blocks).length:=by
 have h:=hf.toFunS.ordC
 have hd:=hf.keep h
 obtain⟨o,ho⟩:∃o,o=xG f.blocks:=⟨_,rfl⟩
 have hle:o.length≤f.blocks.length:=by rw[ho];exact xl _ _ h.once h.inb
 unfold ordT
 rw[←ho]at h hd ⊢
 have hI:=ZN (R:=fun b=>b∈o) (p:=fun b=>o.idxOf b) (t1:=tosB f.blocks) (t2:=tosB (zl o f).blocks) (fun x y hx hy e=>QF hx hy e) (fun x hx=>⟨h.closed x hx,JF h hx⟩) (f.blocks.length+1) 0 (fun _=>false,[]) (fun _=>false,[]) h.pos.2.2 ⟨fun _ _=>rfl,rfl⟩
 rw[h.pos.2.1]at hI
 have hm:=XJ (n:=(zl o f).blocks.length) hd.tosB (f.blocks.length+1) ((zl o f).blocks.length+1) 0 (fun _=>false,[]) (by have h5:xg (zl o f).blocks.length (fun _=>false)≤_:=jE (zl o f).blocks.length (fun _=>false);have h6:=zp o f;show xg _ (fun _=>false)<_;omega) (Nat.lt_succ_of_le (jE _ _)) hd.n1 rfl
 have e1:jD (zl o f).blocks=(jD f.blocks).map fun x=>(o.idxOf x.toNat:Int):=by
  unfold jD
  rw[←hm,hI.left]
 have e2:xG (zl o f).blocks=o.map fun x=>o.idxOf x:=by
  have e3:xG (zl o f).blocks=(xG f.blocks).map fun x=>o.idxOf x:=by
   unfold xG j9
   rw[e1,←List.map_reverse,List.map_map,List.map_map]
   exact List.map_congr_left fun x _=>by simp
  rw[e3,←ho]
 rw[e2]
 refine List.ext_getElem (by simp) fun i h1 h2=>?_
 simp only[List.getElem_map,List.getElem_range]
 exact h.once.idxOf_getElem i (by simpa using h1)

theorem Vf {l m:List (Int×(Bool×Int))} (hp:l.Perm m) (hm:m.Pairwise fun a b=>a.1<b.1):sortK l=m:=by
 refine List.Perm.eq_of_pairwise (le:=fun a b=>decide (a.1≤b.1)=true) (fun a b ha hb h1 h2=>?_) ?_ ?_ ((List.mergeSort_perm _ _).trans hp)
 ·have ha':a∈m:=hp.mem_iff.1 ((List.mergeSort_perm _ _).mem_iff.1 ha)
  have h1:=of_decide_eq_true h1
  have h2:=of_decide_eq_true h2
  obtain⟨i,hi,e1⟩:=List.mem_iff_getElem.1 ha'
  obtain⟨j,hj,e2⟩:=List.mem_iff_getElem.1 hb
  rw[List.pairwise_iff_getElem]at hm
  by_cases e:i=j
  ·subst e;rw[←e1,←e2]
  rcases Nat.lt_or_gt_of_ne e with g|g
  ·have:=hm i j hi hj g
   rw[e1,e2]at this
   omega
  have:=hm j i hj hi g
  rw[e1,e2]at this
  omega
 ·exact List.pairwise_mergeSort (fun a b c h1 h2=>by simp only[decide_eq_true_eq]at h1 h2 ⊢;omega) (fun a b=>by simp only[Bool.or_eq_true,decide_eq_true_eq];omega) l
 exact hm.imp fun h=>by simp only[decide_eq_true_eq];omega

theorem Vg {o:List Nat} (ah:List Nat) (g:Nat→Bool×Int):Vc (qC o) ah (ah.map g)=(ah.filter fun a=>decide (a∈o)).map fun a=>((o.idxOf a:Int),g a):=by
 unfold Vc
 induction ah with
 | nil=>rfl
 | cons a l ih=>
  simp only[List.map_cons,List.zip_cons_cons,List.filter_cons]
  by_cases h:a∈o
  ·rw[if_pos (by rw[xu h];simp),if_pos (by simpa using h),List.map_cons,ih,xu h]
  have e:qC o a = -1:=by unfold qC;rw[if_neg h]
  rw[if_neg (by rw[e];simp),if_neg (by simpa using h),ih]

theorem Qd {f:FunL} (hf:FunD f) {o:List Nat} (h:OrdC f o) {b:Nat} (hb:b∈o) {j:Nat}:j∈insN (zl o f) (o.idxOf b)↔∃hj:j<o.length,o[j]∈insN f b:=by
 rw[(hf.keep h).mem,zp]
 constructor
 ·rintro⟨hj,hm⟩
  refine⟨hj,hf.mem.2 ⟨h.inb _ (List.getElem_mem hj),?_⟩⟩
  rw[kt h hj]at hm
  obtain⟨t,ht,e⟩:=List.mem_map.1 hm
  have h1:=h.closed _ (List.getElem_mem hj) t ht
  have h2:=QF h1 hb (by omega)
  have h3:=hf.tosB _ (h.inb _ (List.getElem_mem hj)) t ht
  rw[←h2,show((t.toNat:Nat):Int)=t by omega]
  exact ht
 rintro⟨hj,hm⟩
 refine⟨hj,?_⟩
 rw[kt h hj]
 exact List.mem_map.2 ⟨_,(hf.mem.1 hm).2,by simp⟩
theorem jb {f:FunL} (hf:FunD f) (c:Nat):(insN f c).Pairwise (·<·):=by
 rw[hf.insN]
 exact List.pairwise_lt_range.filter _

theorem srcK_keep {f:FunL} (hf:FunD f) {o:List Nat} (h:OrdC f o) {b:Nat} (hb:b∈o) (g:Nat→Bool×Int):srcK (qC o) (insN f b) ((insN f b).map g)=(insN (zl o f) (o.idxOf b)).map fun j=>g (o.getD j 0):=by
 have hd:=hf.keep h
 unfold srcK
 rw[Vg,Vf (m:=(insN (zl o f) (o.idxOf b)).map fun(j:Nat)=>((j:Int),g (o.getD j 0)))]
 ·rw[List.map_map];rfl
 ·have hg:∀j,j∈insN (zl o f) (o.idxOf b)→∃hj:j<o.length,o.getD j 0=o[j]∧o.idxOf o[j]=j∧o[j]∈insN f b:=fun j hj=>by
   obtain⟨h1,h2⟩:=(Qd hf h hb).1 hj
   exact⟨h1,by simp[h1],h.once.idxOf_getElem j h1,h2⟩
  have e1:((insN (zl o f) (o.idxOf b)).map fun(j:Nat)=>((j:Int),g (o.getD j 0)))=((insN (zl o f) (o.idxOf b)).map fun j=>o.getD j 0).map fun a=>((o.idxOf a:Int),g a):=by
   rw[List.map_map]
   refine List.map_congr_left fun j hj=>?_
   obtain⟨h1,h2,h3,_⟩:=hg j hj
   show _=((o.idxOf (o.getD j 0):Int),g (o.getD j 0))
   rw[h2,h3]
  rw[e1]
  refine List.Perm.map _ ?_
  refine(List.perm_ext_iff_of_nodup ((hf.insD b).filter _) ?_).2 fun a=>?_
  ·refine List.pairwise_map.2 (List.Pairwise.imp_of_mem (fun {x y} hx hy ne e=>ne ?_) (hd.insD (o.idxOf b)))
   obtain⟨h1,h2,h3,_⟩:=hg x hx
   obtain⟨k1,k2,k3,_⟩:=hg y hy
   rw[h2,k2]at e
   rw[←h3,←k3,e]
  rw[List.mem_filter,List.mem_map]
  constructor
  ·rintro⟨h1,h2⟩
   have h2:a∈o:=by simpa using h2
   obtain⟨h3,h4⟩:=xr h2
   refine⟨o.idxOf a,(Qd hf h hb).2 ⟨h3,by rw[h4];exact h1⟩,by simp[h3,h4]⟩
  rintro⟨j,hj,rfl⟩
  obtain⟨h1,h2,h3,h4⟩:=hg j hj
  rw[h2]
  exact⟨h4,by simp⟩
 exact List.pairwise_map.2 ((jb hd _).imp fun h=>by show(_:Int)<_;omega)

def Z4 (ah:List Nat) (src:List (Bool×Int)) (a:Nat):Bool×Int:=src.getD (ah.idxOf a) (false,0)
theorem fromR_row {ah:List Nat} (hd:ah.Nodup) {src:List (Bool×Int)} (h:src.length=ah.length):src=ah.map (Z4 ah src):=by
 refine List.ext_getElem (by simp[h]) fun i h1 h2=>?_
 simp only[List.getElem_map]
 unfold Z4
 rw[hd.idxOf_getElem i (by omega)]
 simp[h1]
theorem fromR_map {ah:List Nat} (g:Nat→Bool×Int) {a:Nat} (h:a∈ah):Z4 ah (ah.map g) a=g a:=by
 obtain⟨h1,h2⟩:=xr h
 unfold Z4
 simp[h1,h2]

def qL (x:InsL):List (Bool×Int):=(if shA x.op=true then[(x.ar,x.an)] else[])++(if shB x.op=true then[(x.br,x.bn)] else[])++x.args


structure EndC (regs:Int) (nb:Nat) (x:EndL):Prop where
 kind:1≤x.kind∧x.kind≤3
 len:(x.to.length:Int)=x.kind - 1
 «to»:∀t∈x.to,1≤t∧t<(nb:Int)
 two:x.to.Nodup
 jump:x.kind=2→x.onr=false∧x.onn=0
 on:ValOk regs x.onr x.onn
structure PhiC (regs:Int) (block cnt:Nat) (p:PhiL):Prop where
 blk:block≠0
 dst:0≤p.dst∧p.dst<regs
 len:p.src.length=cnt
 src:∀v∈p.src,ValOk regs v.1 v.2

theorem valE_iff {regs:Int} {r:Bool} {n:Int}:zX regs r n=0↔ValOk regs r n:=by
 refine⟨valE_zero,fun h=>?_⟩
 unfold zX
 rw[if_neg]
 rintro⟨h1,h2⟩
 have:=h h1
 omega
theorem endC_iff {regs:Int} {nb:Nat} {x:EndL}:vZ regs nb x.kind x.onr x.onn x.to=0↔EndC regs nb x:=by
 unfold vZ
 by_cases h1:1≤x.kind∧x.kind≤3
 rotate_left
 ·rw[if_pos h1]
  exact⟨fun g=>absurd g (by decide),fun g=>absurd g.kind h1⟩
 rw[if_neg (by simpa using h1)]
 by_cases h2:(x.to.length:Int)=x.kind - 1
 rotate_left
 ·rw[if_pos h2]
  exact⟨fun g=>absurd g (by decide),fun g=>absurd g.len h2⟩
 rw[if_neg (by simpa using h2)]
 by_cases h3:∀t∈x.to,1≤t∧t<(nb:Int)
 ·rw[if_neg (by
   simp only[List.any_eq_true,Bool.not_eq_true',not_exists,not_and,Bool.not_eq_false,zR,decide_eq_true_eq]
   intro t ht
   have:=h3 t ht
   omega)]
  have h4:(x.kind=3∧x.to.getD 0 0=x.to.getD 1 0)↔¬ x.to.Nodup:=by
   rcases hx:x.to with _|⟨a,_|⟨b,_|⟨c,l⟩⟩⟩
   ·simp[hx]at h2 ⊢;omega
   ·simp[hx]at h2 ⊢;omega
   ·simp[hx]at h2 ⊢;omega
   simp[hx]at h2;omega
  by_cases h5:x.to.Nodup
  ·by_cases h6:x.kind=2→x.onr=false∧x.onn=0
   ·rw[if_neg (fun g=>g.elim (fun g=>h4.1 g h5) fun g=>g.2 (h6 g.1)),valE_iff]
    exact⟨fun g=>⟨h1,h2,h3,h5,h6,g⟩,fun g=>g.on⟩
   rw[if_pos (.inr (by simpa using h6))]
   exact⟨fun g=>absurd g (by decide),fun g=>absurd g.jump h6⟩
  rw[if_pos (.inl (h4.2 h5))]
  exact⟨fun g=>absurd g (by decide),fun g=>absurd g.two h5⟩
 rw[if_pos (by
  refine Classical.byContradiction fun g=>h3 fun t ht=>?_
  simp only[List.any_eq_true,Bool.not_eq_true',not_exists,not_and,Bool.not_eq_false,zR,decide_eq_true_eq]at g
  have:=g t ht
  omega)]
 exact⟨fun g=>absurd g (by decide),fun g=>absurd g.to h3⟩
theorem kU {l:List Int}:qA l=0↔∀x∈l,x=0:=⟨xe,zh⟩
theorem phiC_iff {regs:Int} {block cnt:Nat} {p:PhiL}:Zu regs block cnt p.dst p.src=0↔PhiC regs block cnt p:=by
 unfold Zu
 by_cases h1:block=0
 ·rw[if_pos h1]
  exact⟨fun g=>absurd g (by decide),fun g=>absurd h1 g.blk⟩
 rw[if_neg h1]
 have h2:vS regs p.dst=0↔0≤p.dst∧p.dst<regs:=by
  unfold vS
  split
  ·exact⟨fun _=>by omega,fun _=>rfl⟩
  exact⟨fun g=>absurd g (by decide),fun g=>by omega⟩
 by_cases h3:vS regs p.dst=0
 ·rw[if_neg (by simpa using h3)]
  by_cases h4:p.src.length=cnt
  ·rw[if_neg (by simpa using h4)]
   unfold valsE
   rw[kU]
   exact⟨fun g=>⟨h1,h2.1 h3,h4,fun v hv=>valE_iff.1 (g _ (List.mem_map.2 ⟨v,hv,rfl⟩))⟩,fun g y hy=>by
    obtain⟨v,hv,rfl⟩:=List.mem_map.1 hy
    exact valE_iff.2 (g.src v hv)⟩
  rw[if_pos h4]
  exact⟨fun g=>absurd g (by decide),fun g=>absurd g.len h4⟩
 rw[if_pos h3]
 exact⟨fun g=>absurd g h3,fun g=>absurd (h2.2 g.dst) h3⟩

structure FunC (nf:Nat) (P:Nat→Int) (f:FunL):Prop where
 n1:0<f.blocks.length
 n40:f.blocks.length≤40
 par:0≤f.params∧f.params≤6
 reg:f.params≤f.regs∧f.regs≤100
 many:zi f≤300
 fin:∀b (h:b<f.blocks.length),EndC f.regs f.blocks.length f.blocks[b].fin
 phi:∀b (h:b<f.blocks.length),∀p∈f.blocks[b].phis,PhiC f.regs b (insN f b).length p
 ins:∀b (h:b<f.blocks.length),∀x∈f.blocks[b].list,jJ f.regs nf P x.op x.dst x.an x.bn x.fn x.ar x.br x.args=0
theorem FunC.funD {nf:Nat} {P:Nat→Int} {f:FunL} (h:FunC nf P f):FunD f:=by
 refine⟨⟨h.n1,h.n40,fun k hk=>?_,fun k hk=>(h.fin k hk).to⟩,fun k hk=>(h.fin k hk).two⟩
 have h1:=(h.fin k hk).len
 have h2:=(h.fin k hk).kind
 omega

theorem ZP (g:Nat→Nat):∀(n:Nat) (o:List Nat),o.Nodup→(∀x∈o,x<n)→(o.map g).sum≤((List.range n).map g).sum
 | 0,o,_,h=>by
  cases o with
  | nil=>simp
  | cons x l=>have:=h x List.mem_cons_self;omega
 | n+1,o,hd,h=>by
  rw[List.range_succ,List.map_append,List.sum_append]
  by_cases hn:n∈o
  ·have h1:=ZP g n (o.erase n) (hd.erase n) (fun x hx=>by
    have h2:=hd.mem_erase_iff.1 hx
    have:=h x h2.2
    have:=h2.1
    omega)
   have h2:=((List.perm_cons_erase hn).map g).sum_nat
   rw[h2]
   simp only[List.map_cons,List.sum_cons,List.map_nil,List.sum_nil]
   omega
  have h1:=ZP g n o hd (fun x hx=>by
   have:=h x hx
   have:x≠n:=fun e=>hn (e ▸ hx)
   omega)
  omega
theorem xH (f:FunL):zi f=((List.range f.blocks.length).map fun b=>(atF f b).phis.length+(atF f b).list.length).sum:=by
 unfold zi
 congr 1
 refine List.ext_getElem (by simp) fun i h1 h2=>?_
 simp only[List.getElem_map,List.getElem_range]
 rw[qG (by simpa using h1)]
theorem many_keep {f:FunL} {o:List Nat} (h:OrdC f o):zi (zl o f)≤zi f:=by
 have h1:=ZP (fun b=>(atF f b).phis.length+(atF f b).list.length) f.blocks.length o h.once h.inb
 rw[←xH]at h1
 refine Nat.le_trans (Nat.le_of_eq ?_) h1
 unfold zi zl
 rw[List.map_map]
 congr 1
 exact List.map_congr_left fun b _=>by simp[Vd]

theorem FunC.keep {nf:Nat} {P:Nat→Int} {f:FunL} (h:FunC nf P f) {o:List Nat} (ho:OrdC f o):FunC nf P (zl o f):=by
 have hd:=h.funD
 have hk:=hd.keep ho
 have hin:∀b (hb:b<(zl o f).blocks.length),∃hb':b<o.length,∃hx:o[b]<f.blocks.length,(zl o f).blocks[b]=Vd (qC o) (insN f o[b]) f.blocks[o[b]]:=fun b hb=>by
  rw[zp]at hb
  have hx:=ho.inb _ (List.getElem_mem hb)
  exact⟨hb,hx,by rw[ZO o f hb,qG hx]⟩
 refine⟨hk.n1,hk.n40,h.par,h.reg,Nat.le_trans (many_keep ho) h.many,fun b hb=>?_,fun b hb p hp=>?_,fun b hb x hx=>?_⟩
 ·obtain⟨h1,h2,h3⟩:=hin b hb
  have hf:=h.fin _ h2
  have hl:(zl o f).blocks[b].fin.to.length=f.blocks[o[b]].fin.to.length:=by rw[h3];simp[Vd,endK]
  refine⟨by rw[h3];exact hf.kind,?_,hk.tos b hb,hk.once b hb,by rw[h3];exact hf.jump,by rw[h3];exact hf.on⟩
  rw[hl,h3]
  exact hf.len
 ·obtain⟨h1,h2,h3⟩:=hin b hb
  rw[h3]at hp
  obtain⟨q,hq,rfl⟩:=List.mem_map.1 hp
  have hc:=h.phi _ h2 q hq
  have hmem:o[b]∈o:=List.getElem_mem h1
  have e:=srcK_keep hd ho hmem (Z4 (insN f o[b]) q.src)
  rw[←fromR_row (hd.insD _) hc.len,ho.once.idxOf_getElem b h1]at e
  refine⟨fun e0=>hc.blk ?_,hc.dst,?_,fun v hv=>?_⟩
  ·subst e0
   obtain⟨l,hl⟩:=ho.root
   subst hl
   rfl
  ·show(srcK _ _ _).length=_
   rw[e,List.length_map]
  have hv:v∈srcK (qC o) (insN f o[b]) q.src:=hv
  rw[e]at hv
  obtain⟨j,hj,rfl⟩:=List.mem_map.1 hv
  have hj2:j∈insN (zl o f) (o.idxOf o[b]):=by rw[ho.once.idxOf_getElem b h1];exact hj
  obtain⟨g1,g2⟩:=(Qd hd ho hmem).1 hj2
  obtain⟨k1,k2⟩:=xr g2
  refine hc.src _ ?_
  unfold Z4
  have e2:o.getD j 0=o[j]:=by simp[g1]
  have hlt:(insN f o[b]).idxOf o[j]<q.src.length:=by rw[hc.len];exact k1
  rw[e2,List.getD_eq_getElem?_getD,List.getElem?_eq_getElem hlt]
  exact List.getElem_mem _
 obtain⟨h1,h2,h3⟩:=hin b hb
 rw[h3]at hx
 exact h.ins _ h2 x hx

theorem Vh {l m:List Nat} (hl:l.Pairwise (·<·)) (hm:m.Pairwise (·<·)) (h:∀a,a∈l↔a∈m):l=m:=by
 have nd:∀{l:List Nat},l.Pairwise (·<·)→l.Nodup:=fun h=>h.imp fun h=>by omega
 exact List.Perm.eq_of_pairwise (le:=fun a b=>a<b) (fun a b _ _ h1 h2=>by omega) hl hm ((List.perm_ext_iff_of_nodup (nd hl) (nd hm)).2 h)
theorem XL (b:Nat):∀{l:List Nat},l.Pairwise (·<·)→l.take (l.filter fun a=>decide (a<b)).length=l.filter (fun a=>decide (a<b))∧l.drop (l.filter fun a=>decide (a<b)).length=l.filter fun a=>decide (b≤a)
 | [],_=>by simp
 | x::l,h=>by
  obtain⟨h1,h2⟩:=List.pairwise_cons.1 h
  by_cases hx:x<b
  ·obtain⟨i1,i2⟩:=XL b h2
   rw[List.filter_cons,if_pos (by simpa using hx),List.filter_cons,if_neg (by simp;omega)]
   simp only[List.length_cons,List.take_succ_cons,List.drop_succ_cons]
   exact⟨by rw[i1],i2⟩
  have e:l.filter (fun a=>decide (a<b))=[]:=by
   rw[List.filter_eq_nil_iff]
   intro a ha
   have:=h1 a ha
   simp
   omega
  rw[List.filter_cons,if_neg (by simpa using hx),e,List.filter_cons,if_pos (by simp;omega)]
  simp only[List.length_nil,List.take_zero,List.drop_zero,true_and,List.cons.injEq]
  refine(List.filter_eq_self.2 fun a ha=>?_).symm
  have:=h1 a ha
  simp
  omega
theorem VU {b:Nat} {l:List Nat} (h:l.Pairwise (·<·)) (hb:b∉l):(l.take (l.filter fun a=>decide (a<b)).length++b::l.drop (l.filter fun a=>decide (a<b)).length).Pairwise (·<·):=by
 obtain⟨h1,h2⟩:=XL b h
 rw[h1,h2]
 refine List.pairwise_append.2 ⟨h.filter _,List.pairwise_cons.2 ⟨fun a ha=>?_,h.filter _⟩,fun a ha c hc=>?_⟩
 ·obtain⟨g1,g2⟩:=List.mem_filter.1 ha
  have:b≤a:=by simpa using g2
  have:a≠b:=fun e=>hb (e ▸ g1)
  omega
 have g1:a<b:=by simpa using(List.mem_filter.1 ha).2
 rcases List.mem_cons.1 hc with rfl|hc
 ·exact g1
 have:b≤c:=by simpa using(List.mem_filter.1 hc).2
 omega
theorem XM {α β:Type} (g:α→β):∀(l:List α) (i:Nat),(l.map g).eraseIdx i=(l.eraseIdx i).map g
 | [],_=>rfl
 | _::_,0=>rfl
 | x::l,i+1=>by simp[List.eraseIdx,XM g l i]
theorem erase_asc {t:Nat} {l:List Nat} (hd:l.Nodup):l.eraseIdx (l.idxOf t)=l.filter fun a=>decide (a≠t):=by
 rw[←List.erase_eq_eraseIdx_of_idxOf (a:=t) (i:=l.idxOf t) (l:=l) rfl,hd.erase_eq_filter]
 exact List.filter_congr fun a _=>by simp[bne];rfl

theorem moveR_eq {ah am:List Nat} {old now:Nat} (hs:ah.Pairwise (·<·)) (hm:am.Pairwise (·<·)) (ho:old∈ah) (hn:now∉ah) (h:∀a,a∈am↔a=now∨(a≠old∧a∈ah)) (g:Nat→Bool×Int) :
  Q7 ah old now (ah.map g)=am.map fun a=>g (if a=now then old else a):=by
 have hd:ah.Nodup:=hs.imp fun h=>by omega
 obtain⟨L,hL⟩:∃L,L=ah.filter fun a=>decide (a≠old):=⟨_,rfl⟩
 have hLs:L.Pairwise (·<·):=by rw[hL];exact hs.filter _
 have hnL:now∉L:=fun e=>hn (by rw[hL]at e;exact(List.mem_filter.1 e).1)
 have e1:(ah.map g).eraseIdx (ah.idxOf old)=L.map g:=by rw[XM,erase_asc hd,hL]
 have e2:XH ah old now=(L.filter fun a=>decide (a<now)).length:=by
  unfold XH
  rw[hL,List.filter_filter]
  congr 1
  exact List.filter_congr fun a _=>by simp
 have e3:(ah.map g).getD (ah.idxOf old) (false,0)=g old:=fromR_map g ho
 have e4:am=L.take (L.filter fun a=>decide (a<now)).length++now::L.drop (L.filter fun a=>decide (a<now)).length:=by
  refine Vh hm (VU hLs hnL) fun a=>?_
  rw[h,List.mem_append,List.mem_cons]
  have:a∈L↔a∈L.take (L.filter fun a=>decide (a<now)).length∨a∈L.drop (L.filter fun a=>decide (a<now)).length:=by
   rw[←List.mem_append,List.take_append_drop]
  have h2:a∈L↔a≠old∧a∈ah:=by rw[hL,List.mem_filter];simp[and_comm]
  rw[←h2,this]
  constructor
  ·rintro(g|g|g)
   ·exact .inr (.inl g)
   ·exact .inl g
   exact .inr (.inr g)
  rintro(g|g|g)
  ·exact .inr (.inl g)
  ·exact .inl g
  exact .inr (.inr g)
 have e5:∀a∈L,g (if a=now then old else a)=g a:=fun a ha=>by rw[if_neg fun(e:a=now)=>hnL (e ▸ ha)]
 unfold Q7
 rw[e1,e2,e3,e4,List.map_append,List.map_cons,if_pos rfl,←List.map_take,←List.map_drop]
 congr 1
 ·exact List.map_congr_left fun a ha=>(e5 a (List.mem_of_mem_take ha)).symm
 congr 1
 exact List.map_congr_left fun a ha=>(e5 a (List.mem_of_mem_drop ha)).symm
/-! ## joining -/

structure MayJ (f:FunL) (b t:Nat):Prop where
 hb:b<f.blocks.length
 ht:t<f.blocks.length
 «to»:tosB f.blocks b=[(t:Int)]
 ne:t≠b
 phi:f.blocks[t].phis=[]
 one:insN f t=[b]
theorem mayJ {nf:Nat} {P:Nat→Int} {f:FunL} (h:FunC nf P f) {b t:Nat} (hb:b<f.blocks.length) (hm:jL f b=some t):MayJ f b t:=by
 unfold jL at hm
 dsimp only at hm
 split at hm
 ·rename_i hc
  injection hm with hm
  obtain⟨hk,hc⟩:=hc
  rw[qG hb]at hk hm hc
  have he:=h.fin b hb
  have hl:(f.blocks[b].fin.to).length=1:=by have:=he.len;omega
  obtain⟨x,hx⟩:∃x,f.blocks[b].fin.to=[x]:=by
   rcases e:f.blocks[b].fin.to with _|⟨x,_|⟨y,l⟩⟩
   ·simp[e]at hl
   ·exact⟨x,rfl⟩
   simp[e]at hl
  have hx1:=he.to x (by rw[hx];simp)
  rw[hx]at hm hc
  have hm:x.toNat=t:=hm
  have hxt:x=(t:Int):=by omega
  have ht:t<f.blocks.length:=by omega
  have hc:¬(x.toNat=b∨0<(atF f x.toNat).phis.length∨1<(insN f x.toNat).length):=hc
  rw[hm,qG ht]at hc
  have hto:tosB f.blocks b=[(t:Int)]:=by rw[zk hb,hx,hxt]
  have hbt:b∈insN f t:=h.funD.mem.2 ⟨hb,by rw[hto];simp⟩
  refine⟨hb,ht,hto,fun e=>hc (.inl e),?_,?_⟩
  ·exact List.eq_nil_of_length_eq_zero (by omega)
  rcases e:insN f t with _|⟨y,_|⟨z,l⟩⟩
  ·rw[e]at hbt;cases hbt
  ·rw[e]at hbt;rw[List.mem_singleton.1 hbt]
  exfalso;rw[e]at hc;simp at hc
 cases hm

def XN (f:FunL) (b t i:Nat):List PhiL:=(atF f i).phis.map fun p=>if(i:Int)∈(atF f t).fin.to then { p with src:=Q7 (insN f i) t b p.src } else p
theorem vF (f:FunL) (b t:Nat):(qM f t b).blocks.length=f.blocks.length:=by simp[qM]
theorem jV {f:FunL} {b t i:Nat} (hi:i<f.blocks.length):atF (qM f t b) i={ phis:=XN f b t i,list:=(atF f i).list,fin:=(atF f i).fin }:=by
 have e0:atF (qM f t b) i=(fun(i:Nat) (x:BlkL)=>if(i:Int)∈(atF f t).fin.to then { x with phis:=x.phis.map fun p=>{ p with src:=Q7 (insN f i) t b p.src } } else x) i f.blocks[i]:=by
  show(f.blocks.mapIdx _).getD i kr=_
  rw[List.getD_eq_getElem?_getD,List.getElem?_mapIdx,List.getElem?_eq_getElem hi]
  rfl
 rw[e0]
 unfold XN
 rw[qG hi]
 by_cases h:(i:Int)∈(atF f t).fin.to
 ·simp only[h,if_true]
 simp only[h,if_false]
 have e:(f.blocks[i].phis.map fun p=>p)=f.blocks[i].phis:=List.map_id' _
 rw[e]
theorem qK (f:FunL) (b t:Nat):(x8 f b t).blocks.length=f.blocks.length:=by simp[x8,vF]
theorem jW {f:FunL} {b t i:Nat} (hi:i<f.blocks.length) (hb:b<f.blocks.length) (ht:t<f.blocks.length):atF (x8 f b t) i=if i=t then kr else { phis:=XN f b t i,list:=if i=b then(atF f b).list++(atF f t).list else(atF f i).list,fin:=if i=b then(atF f t).fin else(atF f i).fin }:=by
 have hlt:i<(qM f t b).blocks.length:=by rw[vF];exact hi
 show(((qM f t b).blocks.set b _).set t kr).getD i kr=_
 rw[List.getD_eq_getElem?_getD,List.getElem?_set,List.getElem?_set,List.length_set,vF]
 by_cases e:i=t
 ·rw[if_pos e.symm,if_pos e,if_pos ht];rfl
 rw[if_neg (fun g=>e g.symm),if_neg e]
 by_cases e2:i=b
 ·subst e2
  rw[if_pos rfl,if_pos hb]
  simp only[if_true,jV hb,jV ht,Option.getD_some]
 rw[if_neg (fun g=>e2 g.symm)]
 simp only[if_neg e2]
 rw[←jV (b:=b) (t:=t) hi]
 unfold atF
 rw[List.getD_eq_getElem?_getD]
theorem jk (f:FunL) {i:Nat}:i<f.blocks.length→tosB f.blocks i=(atF f i).fin.to:=fun h=>by rw[zk h,qG h]
theorem vG {f:FunL} {b t:Nat} (h:MayJ f b t) {i:Nat} (hi:i<f.blocks.length):tosB (x8 f b t).blocks i=if i=t then[]else if i=b then tosB f.blocks t else tosB f.blocks i:=by
 rw[jk _ (by rw[qK];exact hi),jW hi h.hb h.ht]
 by_cases e:i=t
 ·rw[if_pos e,if_pos e];rfl
 rw[if_neg e,if_neg e]
 by_cases e2:i=b
 ·simp only[if_pos e2]
  rw[jk f h.ht]
 simp only[if_neg e2]
 rw[jk f hi]

theorem FunD.join {f:FunL} (hf:FunD f) {b t:Nat} (h:MayJ f b t):FunD (x8 f b t):=by
 have key:∀k,k<f.blocks.length→(tosB (x8 f b t).blocks k).length≤2∧(∀x∈tosB (x8 f b t).blocks k,1≤x∧x<(f.blocks.length:Int))∧(tosB (x8 f b t).blocks k).Nodup:=fun k hk=>by
  have base:∀k,k<f.blocks.length→(tosB f.blocks k).length≤2∧(∀x∈tosB f.blocks k,1≤x∧x<(f.blocks.length:Int))∧(tosB f.blocks k).Nodup:=fun k hk=>by
   rw[zk hk]
   exact⟨hf.two k hk,hf.tos k hk,hf.once k hk⟩
  rw[vG h hk]
  split
  ·simp
  split
  ·exact base t h.ht
  exact base k hk
 refine⟨⟨by rw[qK];exact hf.n1,by rw[qK];exact hf.n40,fun k hk=>?_,fun k hk=>?_⟩,fun k hk=>?_⟩
 ·rw[←zk hk];exact(key k (by rw[←qK f b t];exact hk)).1
 ·rw[←zk hk,qK];exact(key k (by rw[←qK f b t];exact hk)).2.1
 rw[←zk hk];exact(key k (by rw[←qK f b t];exact hk)).2.2

theorem Qe {f:FunL} (hf:FunD f) {b t:Nat} (h:MayJ f b t) {i a:Nat} (hi:i≠t):a∈insN (x8 f b t) i↔if(i:Int)∈tosB f.blocks t then a=b∨(a≠t∧a∈insN f i)else a∈insN f i:=by
 have hbi:b∉insN f i:=fun g=>by
  have:=(hf.mem.1 g).2
  rw[h.to,List.mem_singleton]at this
  omega
 have hti:t∈insN f i↔(i:Int)∈tosB f.blocks t:=by rw[hf.mem];exact⟨fun g=>g.2,fun g=>⟨h.ht,g⟩⟩
 rw[(hf.join h).mem,qK]
 have hm:∀a,a∈insN f i↔a<f.blocks.length∧(i:Int)∈tosB f.blocks a:=fun a=>hf.mem
 by_cases ha:a<f.blocks.length
 ·rw[vG h ha]
  by_cases e1:a=t
  ·subst e1
   rw[if_pos rfl]
   split
   ·have:=h.ne;simp[this]
   rename_i g
   rw[hti]
   simp[g]
  rw[if_neg e1]
  by_cases e2:a=b
  ·subst e2
   rw[if_pos rfl]
   split
   ·rename_i g;simp[ha,g]
   rename_i g;simp[g,hbi]
  rw[if_neg e2,←hm]
  split<;>simp[e1,e2]
 have:a∉insN f i:=fun g=>ha ((hm a).1 g).1
 have hab:a≠b:=fun e=>ha (e ▸ h.hb)
 split<;>simp[ha,this,hab]
theorem join_phi {f:FunL} (hf:FunD f) {b t:Nat} (h:MayJ f b t) {i:Nat} (hi:i≠t) {src:List (Bool×Int)} (hl:src.length=(insN f i).length) :
  (if(i:Int)∈tosB f.blocks t then Q7 (insN f i) t b src else src)=(insN (x8 f b t) i).map fun a=>Z4 (insN f i) src (if(i:Int)∈tosB f.blocks t∧a=b then t else a):=by
 have hj:=hf.join h
 by_cases hc:(i:Int)∈tosB f.blocks t
 ·rw[if_pos hc]
  have e:=fromR_row (hf.insD i) hl
  have hti:t∈insN f i:=hf.mem.2 ⟨h.ht,hc⟩
  have hbi:b∉insN f i:=fun g=>by
   have:=(hf.mem.1 g).2
   rw[h.to,List.mem_singleton]at this
   omega
  have e2:=moveR_eq (jb hf i) (jb hj i) hti hbi (fun a=>by rw[Qe hf h hi,if_pos hc]) (Z4 (insN f i) src)
  rw[←e]at e2
  rw[e2]
  refine List.map_congr_left fun a _=>?_
  by_cases ea:a=b<;>simp[ea,hc]
 rw[if_neg hc]
 have e3:insN (x8 f b t) i=insN f i:=Vh (jb hj i) (jb hf i) fun a=>by rw[Qe hf h hi,if_neg hc]
 rw[e3]
 have e:=fromR_row (hf.insD i) hl
 refine e.trans (List.map_congr_left fun a _=>?_)
 simp[hc]

theorem QG (u:Nat→Nat) (c i:Nat):∀n,((List.range n).map fun j=>if j=i then c else u j).sum+(if i<n then u i else 0)=((List.range n).map u).sum+if i<n then c else 0
 | 0=>by simp
 | n+1=>by
  have ih:=QG u c i n
  rw[List.range_succ,List.map_append,List.map_append,List.sum_append,List.sum_append]
  simp only[List.map_cons,List.map_nil,List.sum_cons,List.sum_nil]
  by_cases e:n=i
  ·subst e
   rw[if_neg (by omega),if_neg (by omega)]at ih
   rw[if_pos rfl,if_pos (by omega),if_pos (by omega)]
   omega
  rw[if_neg e]
  by_cases g:i<n
  ·rw[if_pos g,if_pos g]at ih
   rw[if_pos (by omega),if_pos (by omega)]
   omega
  rw[if_neg g,if_neg g]at ih
  rw[if_neg (by omega),if_neg (by omega)]
  omega
theorem many_join {f:FunL} {b t:Nat} (h:MayJ f b t):zi (x8 f b t)=zi f:=by
 rw[xH,xH,qK]
 obtain⟨u,hu⟩:∃u:Nat→Nat,u=fun i=>(atF f i).phis.length+(atF f i).list.length:=⟨_,rfl⟩
 have e1:((List.range f.blocks.length).map fun i=>(atF (x8 f b t) i).phis.length+(atF (x8 f b t) i).list.length)=(List.range f.blocks.length).map fun j=>if j=t then 0 else if j=b then u b+u t else u j:=by
  refine List.map_congr_left fun i hi=>?_
  have hi:=List.mem_range.1 hi
  rw[jW hi h.hb h.ht]
  by_cases e:i=t
  ·rw[if_pos e,if_pos e];rfl
  rw[if_neg e,if_neg e]
  by_cases e2:i=b
  ·subst e2
   simp only[if_true,XN,List.length_map,List.length_append,hu]
   have hp:(atF f t).phis=[]:=by rw[qG h.ht];exact h.phi
   rw[hp]
   simp
   omega
  simp only[if_neg e2,XN,List.length_map,hu]
 have e2:((List.range f.blocks.length).map fun i=>(atF f i).phis.length+(atF f i).list.length)=(List.range f.blocks.length).map u:=by rw[hu]
 rw[e1,e2]
 have s1:=QG (fun j=>if j=b then u b+u t else u j) 0 t f.blocks.length
 have s2:=QG u (u b+u t) b f.blocks.length
 rw[if_pos h.ht,if_pos h.ht,if_neg h.ne]at s1
 rw[if_pos h.hb,if_pos h.hb]at s2
 omega

theorem FunC.join {nf:Nat} {P:Nat→Int} {f:FunL} (hc:FunC nf P f) {b t:Nat} (h:MayJ f b t):FunC nf P (x8 f b t):=by
 have hf:=hc.funD
 have hj:=hf.join h
 have hL:=qK f b t
 have fin:∀i,i<f.blocks.length→EndC f.regs f.blocks.length (atF f i).fin:=fun i hi=>by rw[qG hi];exact hc.fin i hi
 refine⟨hj.n1,hj.n40,hc.par,hc.reg,by rw[many_join h];exact hc.many,fun i hi=>?_,fun i hi p hp=>?_,fun i hi x hx=>?_⟩
 ·show EndC f.regs _ _
  rw[←qG hi,qK]
  rw[hL]at hi
  rw[jW hi h.hb h.ht]
  by_cases e:i=t
  ·rw[if_pos e]
   exact⟨⟨by decide,by decide⟩,rfl,by simp[kr],by simp[kr],by simp[kr],fun g=>by cases g⟩
  rw[if_neg e]
  show EndC _ _ (if i=b then _ else _)
  split
  ·exact fin t h.ht
  exact fin i hi
 ·rw[←qG hi]at hp
  rw[hL]at hi
  rw[jW hi h.hb h.ht]at hp
  by_cases e:i=t
  ·rw[if_pos e]at hp;cases hp
  rw[if_neg e]at hp
  have hp:p∈XN f b t i:=hp
  obtain⟨q,hq,rfl⟩:=List.mem_map.1 hp
  rw[qG hi]at hq
  have hq:=hc.phi i hi q hq
  have e2:=join_phi hf h e hq.len
  have e3:(if(i:Int)∈(atF f t).fin.to then { q with src:=Q7 (insN f i) t b q.src } else q)={ q with src:=(insN (x8 f b t) i).map fun a=>Z4 (insN f i) q.src (if(i:Int)∈tosB f.blocks t∧a=b then t else a) }:=by
   rw[←jk f h.ht,←e2]
   split<;>rfl
  rw[e3]
  refine⟨hq.blk,hq.dst,by simp,fun v hv=>?_⟩
  obtain⟨a,ha,rfl⟩:=List.mem_map.1 hv
  have hm:(if(i:Int)∈tosB f.blocks t∧a=b then t else a)∈insN f i:=by
   rw[Qe hf h e]at ha
   by_cases hc2:(i:Int)∈tosB f.blocks t
   ·rw[if_pos hc2]at ha
    rcases ha with g|g
    ·rw[if_pos ⟨hc2,g⟩]
     exact hf.mem.2 ⟨h.ht,hc2⟩
    split
    ·exact hf.mem.2 ⟨h.ht,hc2⟩
    exact g.2
   rw[if_neg hc2]at ha
   rw[if_neg fun g=>hc2 g.1]
   exact ha
  refine hq.src _ ?_
  unfold Z4
  obtain⟨k1,k2⟩:=xr hm
  have hlt:(insN f i).idxOf (if(i:Int)∈tosB f.blocks t∧a=b then t else a)<q.src.length:=by rw[hq.len];exact k1
  rw[List.getD_eq_getElem?_getD,List.getElem?_eq_getElem hlt]
  exact List.getElem_mem _
 rw[←qG hi]at hx
 rw[hL]at hi
 rw[jW hi h.hb h.ht]at hx
 have ins:∀i,i<f.blocks.length→∀x∈(atF f i).list,jJ f.regs nf P x.op x.dst x.an x.bn x.fn x.ar x.br x.args=0:=fun i hi=>by rw[qG hi];exact hc.ins i hi
 by_cases e:i=t
 ·rw[if_pos e]at hx;cases hx
 rw[if_neg e]at hx
 have hx:x∈(if i=b then(atF f b).list++(atF f t).list else(atF f i).list):=hx
 split at hx
 ·rcases List.mem_append.1 hx with g|g
  ·exact ins b h.hb x g
  exact ins t h.ht x g
 exact ins i hi x hx

theorem FunC.chain {nf:Nat} {P:Nat→Int}:∀(c:Nat) {f:FunL} {b:Nat},FunC nf P f→b<f.blocks.length→FunC nf P (qR c f b)∧(qR c f b).blocks.length=f.blocks.length
 | 0,_,_,h,_=>⟨h,rfl⟩
 | c+1,f,b,h,hb=>by
  unfold qR
  cases e:jL f b with
  | none=>exact⟨h,rfl⟩
  | some t=>
   obtain⟨h1,h2⟩:=FunC.chain c (h.join (mayJ h hb e)) (b:=b) (by rw[qK];exact hb)
   exact⟨h1,by rw[h2,qK]⟩
theorem FunC.chains {nf:Nat} {P:Nat→Int} {f:FunL} (h:FunC nf P f):FunC nf P (qW f):=by
 unfold qW
 have key:∀(l:List Nat) (g:FunL) (c:Nat),(∀b∈l,b<f.blocks.length)→FunC nf P g→g.blocks.length=f.blocks.length→FunC nf P (l.foldl (fun g b=>qR c g b) g):=by
  intro l
  induction l with
  | nil=>intro g c _ h _;exact h
  | cons b l ih=>
   intro g c hl hg hn
   obtain⟨h1,h2⟩:=hg.chain c (b:=b) (by rw[hn];exact hl b (.head _))
   exact ih _ c (fun x hx=>hl x (.tail _ hx)) h1 (h2.trans hn)
 exact key _ f _ (fun b hb=>List.mem_range.1 hb) h rfl

structure InsC (regs:Int) (nf:Nat) (P:Nat→Int) (x:InsL):Prop where
 op:1≤x.op∧x.op≤22
 d0:shD x.op=false→x.dst = -1
 a0:shA x.op=false→x.ar=false∧x.an=0
 b0:shB x.op=false→x.br=false∧x.bn=0
 c0:x.op≠20→x.fn=0∧x.args.length=0
 d1:shD x.op=true→¬(x.op=20∧x.dst = -1)→0≤x.dst∧x.dst<regs
 a:ValOk regs x.ar x.an
 b:ValOk regs x.br x.bn
 call:x.op=20→(0≤x.fn∧x.fn<(nf:Int))∧(x.args.length:Int)=P x.fn.toNat∧∀v∈x.args,ValOk regs v.1 v.2
theorem dstE_iff {regs n:Int}:vS regs n=0↔0≤n∧n<regs:=by
 unfold vS
 split
 ·exact⟨fun _=>by omega,fun _=>rfl⟩
 exact⟨fun g=>absurd g (by decide),fun g=>by omega⟩
theorem callE_iff {regs:Int} {nf:Nat} {P:Nat→Int} {op fn:Int} {L:List (Bool×Int)}:xQ regs nf P (op == 20) fn L=0↔(op=20→(0≤fn∧fn<(nf:Int))∧(L.length:Int)=P fn.toNat∧∀v∈L,ValOk regs v.1 v.2):=by
 unfold xQ
 by_cases h:op=20
 ·rw[if_neg (by simp[h])]
  by_cases h1:0≤fn∧fn<(nf:Int)
  ·rw[if_neg (by simpa using h1)]
   by_cases h2:(L.length:Int)=P fn.toNat
   ·rw[if_neg (by simpa using h2)]
    unfold valsE
    rw[kU]
    exact⟨fun g _=>⟨h1,h2,fun v hv=>valE_iff.1 (g _ (List.mem_map.2 ⟨v,hv,rfl⟩))⟩,fun g y hy=>by
     obtain⟨v,hv,rfl⟩:=List.mem_map.1 hy
     exact valE_iff.2 ((g h).2.2 v hv)⟩
   rw[if_pos h2]
   exact⟨fun g=>absurd g (by decide),fun g=>absurd (g h).2.1 h2⟩
  rw[if_pos h1]
  exact⟨fun g=>absurd g (by decide),fun g=>absurd (g h).1 h1⟩
 rw[if_pos (by simpa using h)]
 exact⟨fun _ g=>absurd g h,fun _=>rfl⟩
theorem insC_iff {regs:Int} {nf:Nat} {P:Nat→Int} {x:InsL}:jJ regs nf P x.op x.dst x.an x.bn x.fn x.ar x.br x.args=0↔InsC regs nf P x:=by
 unfold jJ
 by_cases h1:1≤x.op∧x.op≤22
 rotate_left
 ·rw[if_pos h1]
  exact⟨fun g=>absurd g (by decide),fun g=>absurd g.op h1⟩
 rw[if_neg (by simpa using h1)]
 by_cases h2:(shD x.op=false∧x.dst≠-1)∨(shA x.op=false∧¬(x.ar=false∧x.an=0))∨(shB x.op=false∧¬(x.br=false∧x.bn=0))∨(x.op≠20∧(x.fn≠0∨0<x.args.length))
 ·rw[if_pos h2]
  refine⟨fun g=>absurd g (by decide),fun g=>?_⟩
  rcases h2 with h|h|h|h
  ·exact absurd (g.d0 h.1) h.2
  ·exact absurd (g.a0 h.1) h.2
  ·exact absurd (g.b0 h.1) h.2
  have:=g.c0 h.1
  have:=h.2
  omega
 rw[if_neg h2]
 by_cases h3:shD x.op=true∧¬(x.op=20∧x.dst = -1)∧vS regs x.dst≠0
 ·rw[if_pos h3]
  exact⟨fun g=>absurd g h3.2.2,fun g=>absurd (dstE_iff.2 (g.d1 h3.1 h3.2.1)) h3.2.2⟩
 rw[if_neg h3,kU]
 constructor
 ·intro g
  refine⟨h1,fun e=>?_,fun e=>?_,fun e=>?_,fun e=>?_,fun e1 e2=>?_,valE_iff.1 (g _ (by simp)),valE_iff.1 (g _ (by simp)),callE_iff.1 (g _ (by simp))⟩
  ·exact Classical.byContradiction fun k=>h2 (.inl ⟨e,k⟩)
  ·exact Classical.byContradiction fun k=>h2 (.inr (.inl ⟨e,k⟩))
  ·exact Classical.byContradiction fun k=>h2 (.inr (.inr (.inl ⟨e,k⟩)))
  ·refine Classical.byContradiction fun k=>h2 (.inr (.inr (.inr ⟨e,?_⟩)))
   omega
  exact dstE_iff.1 (Classical.byContradiction fun k=>h3 ⟨e1,e2,k⟩)
 intro g y hy
 simp only[List.mem_cons,List.not_mem_nil,or_false]at hy
 rcases hy with rfl|rfl|rfl
 ·exact valE_iff.2 g.a
 ·exact valE_iff.2 g.b
 exact callE_iff.2 g.call
/-! ## names as registers are met -/

def XO (L:List Nat):List Nat:=L.foldl (fun D r=>if r∈D then D else D++[r]) []
def stD (D:List Nat):NamS:=(qC D,(D.length:Int))
theorem nameS_st {D:List Nat} {r:Nat}:jo (stD D) r=stD (if r∈D then D else D++[r]):=by
 unfold jo stD
 by_cases h:r∈D
 ·rw[if_neg (by show ¬ qC D r<0;rw[xu h];omega),if_pos h]
 have e:qC D r = -1:=by unfold qC;rw[if_neg h]
 rw[if_pos (by show qC D r<0;omega),if_neg h]
 refine Prod.ext (funext fun i=>?_) (by simp)
 show(if i=r then(D.length:Int)else qC D i)=qC (D++[r]) i
 unfold qC
 by_cases e2:i=r
 ·subst e2
  rw[if_pos rfl,if_pos (by simp),List.idxOf_append,if_neg h]
  simp
 rw[if_neg e2]
 by_cases e3:i∈D
 ·rw[if_pos e3,if_pos (by simp[e3]),List.idxOf_append,if_pos e3]
 rw[if_neg e3,if_neg (by simp[e2,e3])]
theorem Zf (L:List Nat):∀D,L.foldl jo (stD D)=stD (L.foldl (fun D r=>if r∈D then D else D++[r]) D):=by
 induction L with
 | nil=>intro D;rfl
 | cons r L ih=>intro D;rw[List.foldl_cons,List.foldl_cons,nameS_st,ih]
theorem jw {L:List Nat}:∀{D:List Nat},D.Nodup→(L.foldl (fun D r=>if r∈D then D else D++[r]) D).Nodup∧(∃E,L.foldl (fun D r=>if r∈D then D else D++[r]) D=D++E)∧∀r,r∈L.foldl (fun D r=>if r∈D then D else D++[r]) D↔r∈D∨r∈L:=by
 induction L with
 | nil=>intro D h;exact⟨h,⟨[],by simp⟩,by simp⟩
 | cons x L ih=>
  intro D h
  rw[List.foldl_cons]
  by_cases hx:x∈D
  ·rw[if_pos hx]
   obtain⟨h1,h2,h3⟩:=ih h
   refine⟨h1,h2,fun r=>?_⟩
   rw[h3,List.mem_cons]
   constructor
   ·rintro(g|g);exact .inl g;exact .inr (.inr g)
   rintro(g|g|g);exact .inl g;exact .inl (g ▸ hx);exact .inr g
  rw[if_neg hx]
  obtain⟨h1,⟨E,h2⟩,h3⟩:=ih (D:=D++[x]) (List.nodup_append.2 ⟨h,by simp,fun a ha b hb e=>by rw[List.mem_singleton]at hb;exact hx (hb ▸ e ▸ ha)⟩)
  refine⟨h1,⟨x::E,by rw[h2];simp⟩,fun r=>?_⟩
  rw[h3]
  simp[or_assoc]
theorem XP (n:Nat) (M:List Nat):∃E,XO (List.range n++M)=List.range n++E:=by
 unfold XO
 rw[List.foldl_append]
 have e:∀n,(List.range n).foldl (fun D r=>if r∈D then D else D++[r]) []=List.range n:=by
  intro n
  induction n with
  | zero=>rfl
  | succ n ih=>rw[List.range_succ,List.foldl_append,ih,List.foldl_cons,List.foldl_nil,if_neg (by simp)]
 rw[e]
 exact(jw List.nodup_range).2.1
theorem nam0_st:nam0=stD []:=by
 unfold nam0 stD qC
 simp
def Xa (f:FunL):List Nat:=XO (Qc f++XI f)
theorem namF_is (f:FunL):namF f=stD (Xa f):=by
 unfold namF Xa XO
 rw[nam0_st,Zf]
theorem VV (f:FunL):(Xa f).Nodup:=(jw (D:=[]) List.nodup_nil).1
theorem metL_mem {f:FunL} {r:Nat}:r∈Xa f↔r∈Qc f++XI f:=by
 have:=(jw (L:=Qc f++XI f) (D:=[]) List.nodup_nil).2.2 r
 simpa[Xa,XO]using this
end Go.Proofs.YtecdphhdmjmmnaaGreatDoor
