/-
  The contracts of turnerysame.Units and None.
-/
import Derived.Test.YtgjjhadbjmcnpaaGreatDoorArgL
set_option maxRecDepth 100000
set_option maxHeartbeats 16000000
namespace Go.Proofs.YtgjjhadbjmcnpaaGreatDoor
open Go.RowKit

theorem ChkOk.twice {u:UniL} (h:ChkOk u):qG (qG u)=qG u:=by
 have e:∀u:UniL,qG u={ u with funcs:=u.funcs.map doT }:=fun _=>rfl
 have e2:(qG u).funcs.map doT=(qG u).funcs:=by
  show (u.funcs.map doT).map doT=u.funcs.map doT
  rw [List.map_map]
  refine List.map_congr_left fun f hf=>?_
  obtain ⟨k,hk,rfl⟩:=List.mem_iff_getElem.1 hf
  exact (h.funC hk).twice
 rw [e (qG u),e2]

theorem FunC.less {nf:Nat} {P:Nat→Int} {f:FunL} (h:FunC nf P f):(doT f).blocks.length≤f.blocks.length∧(qQ (jN f)).blocks.length=(jN f).blocks.length:=by
 have h1:=h.order.chains
 have e:=kV h.order
 refine ⟨?_,e⟩
 have n1:∀g:FunL,FunD g→(jN g).blocks.length≤g.blocks.length:=fun g hg=>by
  unfold jN
  rw [zq]
  exact xE _ _ hg.toFunS.ordC.once hg.toFunS.ordC.inb
 have a:=n1 _ h1.funD
 have b:=n1 _ h.funD
 show (qH (jN (qQ (jN f)))).blocks.length≤_
 rw [qO]
 omega
end Go.Proofs.YtgjjhadbjmcnpaaGreatDoor
namespace Go.Proofs.YtgjjhadbjmcnpaaGreatDoor

theorem Dr.stay {t xs:List FunL} (h:Dr t xs) (h0:Taken t):xs=t:=by
 induction h with
 | start=>rfl
 | step _ hk hp ht _ ih=>
  subst ih
  rw [h0 _ hk _ hp (.inl hk)] at ht
  cases ht
theorem VY (xs:List FunL) (k:Nat):xs.modify k (xA [])=xs:=by
 have e:xA []=id:=by funext f;exact Xn f
 rw [e,List.modify_id]
theorem Al.stay {t xs:List FunL} {k p:Nat} {hd:List InsL} (h:Al t k p xs hd) (h0:∀k (hk:k<t.length) (p:Nat),(p:Int)<t[k].params→kK k p t=none):xs=t∧hd=[]:=by
 induction h with
 | start=>exact ⟨rfl,rfl⟩
 | skip _ _ _ _ ih=>exact ih
 | drop _ hk hp ha ih=>
  obtain ⟨rfl,rfl⟩:=ih
  rw [h0 _ hk _ hp] at ha
  cases ha
 | next _ _ _ ih=>
  obtain ⟨rfl,rfl⟩:=ih
  exact ⟨VY _ _,rfl⟩
theorem tidy_par {u:UniL} {k:Nat} (hk:k<(qG u).funcs.length):∃h:k<u.funcs.length,(qG u).funcs[k]=doT u.funcs[k]:=by
 have h:k<u.funcs.length:=by simpa [qG] using hk
 exact ⟨h,by simp [qG]⟩
theorem args_none {u:UniL} {xs ys:List FunL} (h0:∀f∈u.funcs,f.params≤0) (h1:Dr (qG u).funcs xs) (h2:Al xs xs.length 0 ys []):ys=(qG u).funcs:=by
 have hp:∀f∈(qG u).funcs,f.params≤0:=fun f hf=>by
  obtain ⟨k,hk,rfl⟩:=List.mem_iff_getElem.1 hf
  obtain ⟨h,e⟩:=tidy_par hk
  rw [e,(vI _).2]
  exact h0 _ (List.getElem_mem h)
 have e1:=h1.stay fun k hk p hq _=>by
  have:=hp _ (List.getElem_mem hk)
  omega
 subst e1
 exact (h2.stay fun k hk p hq=>by
  have:=hp _ (List.getElem_mem hk)
  omega).1
end Go.Proofs.YtgjjhadbjmcnpaaGreatDoor
namespace Go.Proofs.YtgjjhadbjmcnpaaGreatDoor
open Go.RowKit
/-! ## the blocks stay as they are -/
def ShB (x y:BlkL):Prop:=x.fin.to=y.fin.to∧x.fin.kind=y.fin.kind∧x.phis.length=y.phis.length
structure Shp (f g:FunL):Prop where
 len:f.blocks.length=g.blocks.length
 blk:∀b (h:b<f.blocks.length) (h2:b<g.blocks.length),ShB f.blocks[b] g.blocks[b]
theorem Shp.refl (f:FunL):Shp f f:=⟨rfl,fun _ _ _=>⟨rfl,rfl,rfl⟩⟩
theorem Shp.trans {f g h:FunL} (a:Shp f g) (b:Shp g h):Shp f h:=⟨a.len.trans b.len,fun k h1 h2=>by
 have h3:k<g.blocks.length:=by rw [←a.len];exact h1
 obtain ⟨a1,a2,a3⟩:=a.blk k h1 h3
 obtain ⟨b1,b2,b3⟩:=b.blk k h3 h2
 exact ⟨a1.trans b1,a2.trans b2,a3.trans b3⟩⟩
theorem Shp.map {f:FunL} (g:BlkL→BlkL) (hg:∀b,ShB (g b) b) {f':FunL} (e:f'.blocks=f.blocks.map g):Shp f' f:=by
 refine ⟨by rw [e];simp,fun b h h2=>?_⟩
 have e2:f'.blocks[b]=g f.blocks[b]:=by simp [e]
 rw [e2]
 exact hg _
theorem Shp.del (k:Int) (p:Nat) (f:FunL):Shp (Qv k p f) f:=.map (fun b=>{ b with list:=b.list.map (Qu k p) }) (fun _=>⟨rfl,rfl,rfl⟩) rfl
theorem Shp.drop (p:Nat) (f:FunL):Shp (km p f) f:=.map (toB (qK p (f.params - 1))) (fun _=>⟨rfl,rfl,by simp [toB]⟩) rfl
theorem head_at {hd:List InsL} {f:FunL} {i:Nat} (h:i<(xA hd f).blocks.length) (h2:i<f.blocks.length):(xA hd f).blocks[i]=if 0=i then { f.blocks[i] with list:=hd++f.blocks[i].list } else f.blocks[i]:=by
 simp [xA,List.getElem_modify]
theorem Shp.head (hd:List InsL) (f:FunL):Shp (xA hd f) f:=by
 refine ⟨by simp [xA],fun b h h2=>?_⟩
 rw [head_at h h2]
 split<;>exact ⟨rfl,rfl,rfl⟩
theorem Shp.tos {f g:FunL} (h:Shp f g):tosB f.blocks=tosB g.blocks:=by
 funext b
 have hl:=h.len
 unfold tosB
 by_cases hb:b<g.blocks.length
 ·have hb':b<f.blocks.length:=by omega
  rw [List.getElem?_eq_getElem hb,List.getElem?_eq_getElem hb']
  exact (h.blk b hb' hb).1
 rw [List.getElem?_eq_none (by omega),List.getElem?_eq_none (by omega)]
theorem Shp.order {f g:FunL} (h:Shp f g):jc f.blocks=jc g.blocks:=by
 unfold jc jb jZ
 rw [h.tos,h.len]
theorem Shp.ins {f g:FunL} (h:Shp f g) (c:Nat):insN f c=insN g c:=by
 have e:Q3 f=Q3 g:=by
  unfold Q3
  refine List.ext_getElem (by simp [h.len]) fun i h1 h2=>?_
  simp only [List.getElem_map]
  exact (h.blk i (by simpa using h1) (by simpa using h2)).1
 unfold insN xr
 rw [e,h.len]
theorem Shp.may {f g:FunL} (h:Shp f g) (b:Nat):jq f b=none↔jq g b=none:=by
 have hl:=h.len
 have e:∀b,(atF f b).fin.to=(atF g b).fin.to∧(atF f b).fin.kind=(atF g b).fin.kind∧(atF f b).phis.length=(atF g b).phis.length:=fun b=>by
  by_cases hb:b<g.blocks.length
  ·have hb':b<f.blocks.length:=by omega
   rw [qL hb,qL hb']
   exact h.blk b hb' hb
  unfold atF
  rw [List.getD_eq_getElem?_getD,List.getD_eq_getElem?_getD,List.getElem?_eq_none (by omega),List.getElem?_eq_none (by omega)]
  exact ⟨rfl,rfl,rfl⟩
 unfold jq
 dsimp only
 rw [(e b).1,(e b).2.1,(e _).2.2,h.ins]
theorem FunC.calm {nf:Nat} {P:Nat→Int} {f:FunL} (h:FunC nf P f):jc (doT f).blocks=List.range (doT f).blocks.length∧∀b,b<(doT f).blocks.length→jq (doT f) b=none:=by
 have h1:=h.order.chains
 obtain ⟨g,hg⟩:∃g,g=jN (qQ (jN f)):=⟨_,rfl⟩
 have e0:doT f=qH g:=by rw [hg];rfl
 have ho:jc g.blocks=List.range g.blocks.length:=by
  rw [hg,h1.funD.order]
  unfold jN
  rw [zq]
 rw [e0]
 refine ⟨by rw [Zn,ho,qO],fun b hb=>?_⟩
 rw [Vn]
 rw [qO] at hb
 rw [hg] at hb ⊢
 refine h1.none_order (h.funD.live.chains h.order) (fun b hb=>?_) hb
 exact h.order.chained (by
  have hl:(qQ (jN f)).blocks.length=(jN f).blocks.length:=kV h.order
  rw [←hl];exact hb)
theorem FunC.still {nf nf':Nat} {P P':Nat→Int} {f g:FunL} (h:FunC nf P f) (hg:FunC nf' P' g) (hs:Shp g (doT f)):doT g=qH g:=by
 obtain ⟨h1,h2⟩:=h.calm
 have e1:jN g=g:=by
  unfold jN
  rw [hs.order,h1,←hs.len]
  exact hg.funD.keep_same fun b hb p hp=>(hg.phi b hb p hp).len
 have e2:qQ g=g:=QO fun b hb=>(hs.may b).2 (h2 b (by rw [←hs.len];exact hb))
 unfold doT xV
 rw [e1,e2,e1]
/-! ## what a function takes -/
def RdF (f:FunL) (v:Bool×Int):Prop:=∃b∈f.blocks,v=(b.fin.onr,b.fin.onn)∨(∃p∈b.phis,v∈p.src)∨∃x∈b.list,v=(x.ar,x.an)∨v=(x.br,x.bn)∨v∈x.args
theorem isV_iff {r:Int} {v:Bool×Int}:isV r v=true↔(true,r)=v:=by
 unfold isV
 rw [Bool.and_eq_true,beq_iff_eq]
 constructor
 ·rintro ⟨a,b⟩;exact Prod.ext a.symm b.symm
 rintro rfl;exact ⟨rfl,rfl⟩
theorem tkF_iff {r:Int} {f:FunL}:tkF r f=true↔RdF f (true,r):=by
 unfold tkF RdF tkB tkI tkP
 simp only [Bool.or_eq_true,List.any_eq_true,isV_iff]
 constructor
 ·rintro (⟨b,hb,x,hx,h⟩|⟨b,hb,h|⟨p,hp,v,hv,rfl⟩⟩)
  ·refine ⟨b,hb,.inr (.inr ⟨x,hx,?_⟩)⟩
   rcases h with h|h|⟨v,hv,rfl⟩
   ·exact .inl h
   ·exact .inr (.inl h)
   exact .inr (.inr hv)
  ·exact ⟨b,hb,.inl h⟩
  exact ⟨b,hb,.inr (.inl ⟨p,hp,hv⟩)⟩
 rintro ⟨b,hb,h|⟨p,hp,hv⟩|⟨x,hx,h⟩⟩
 ·exact .inr ⟨b,hb,.inl h⟩
 ·exact .inr ⟨b,hb,.inr ⟨p,hp,_,hv,rfl⟩⟩
 refine .inl ⟨b,hb,x,hx,?_⟩
 rcases h with h|h|h
 ·exact .inl h
 ·exact .inr (.inl h)
 exact .inr (.inr ⟨_,h,rfl⟩)
theorem Jz (g:Int→Int) (r:Bool) (n:Int):toW g (r,n)=(r,(toW g (r,n)).2):=by
 unfold toW
 cases r<;>rfl
theorem RdF.to {f:FunL} {v:Bool×Int} (g:Int→Int) (h:RdF f v):RdF (toF g f) (toW g v):=by
 obtain ⟨b,hb,h⟩:=h
 refine ⟨toB g b,List.mem_map.2 ⟨b,hb,rfl⟩,?_⟩
 rcases h with rfl|⟨p,hp,hv⟩|⟨x,hx,h⟩
 ·exact .inl (Jz _ _ _)
 ·exact .inr (.inl ⟨toP g p,List.mem_map.2 ⟨p,hp,rfl⟩,List.mem_map.2 ⟨v,hv,rfl⟩⟩)
 refine .inr (.inr ⟨toI g x,List.mem_map.2 ⟨x,hx,rfl⟩,?_⟩)
 rcases h with rfl|rfl|h
 ·exact .inl (Jz _ _ _)
 ·exact .inr (.inl (Jz _ _ _))
 exact .inr (.inr (List.mem_map.2 ⟨v,h,rfl⟩))
theorem RdF.name {f:FunL} {v:Bool×Int} (h:RdF f v):RdF (qH f) (zD (xK f).1 v):=by
 obtain ⟨b,hb,h⟩:=h
 refine ⟨kP (xK f).1 b,List.mem_map.2 ⟨b,hb,rfl⟩,?_⟩
 rcases h with rfl|⟨p,hp,hv⟩|⟨x,hx,h⟩
 ·exact .inl (jG _ _ _).symm
 ·exact .inr (.inl ⟨_,List.mem_map.2 ⟨p,hp,rfl⟩,List.mem_map.2 ⟨v,hv,rfl⟩⟩)
 refine .inr (.inr ⟨xU _ x,List.mem_map.2 ⟨x,hx,rfl⟩,?_⟩)
 rcases h with rfl|rfl|h
 ·exact .inl (jG _ _ _).symm
 ·exact .inr (.inl (jG _ _ _).symm)
 exact .inr (.inr (List.mem_map.2 ⟨v,h,rfl⟩))
theorem RdF.head {f:FunL} {v:Bool×Int} (hd:List InsL) (h:RdF f v):RdF (xA hd f) v:=by
 obtain ⟨b,hb,h⟩:=h
 obtain ⟨i,hi,rfl⟩:=List.mem_iff_getElem.1 hb
 have hi2:i<(xA hd f).blocks.length:=by simpa [xA] using hi
 refine ⟨_,List.getElem_mem hi2,?_⟩
 rw [head_at hi2 hi]
 split
 ·rcases h with h|h|⟨x,hx,h⟩
  ·exact .inl h
  ·exact .inr (.inl h)
  exact .inr (.inr ⟨x,List.mem_append_right _ hx,h⟩)
 exact h
theorem RdF.del {f:FunL} {r:Int} {k:Int} {p:Nat} (hc:∀b∈f.blocks,∀x∈b.list,x.op=20→x.fn=k→(x.args.getD p (false,0)).1=false) (h:RdF f (true,r)):RdF (Qv k p f) (true,r):=by
 obtain ⟨b,hb,h⟩:=h
 refine ⟨_,List.mem_map.2 ⟨b,hb,rfl⟩,?_⟩
 rcases h with h|h|⟨x,hx,h⟩
 ·exact .inl h
 ·exact .inr (.inl h)
 refine .inr (.inr ⟨Qu k p x,List.mem_map.2 ⟨x,hx,rfl⟩,?_⟩)
 unfold Qu
 split
 ·next e=>
  rcases h with h|h|h
  ·exact .inl h
  ·exact .inr (.inl h)
  refine .inr (.inr ?_)
  obtain ⟨i,hi,e2⟩:=List.mem_iff_getElem.1 h
  refine List.mem_eraseIdx_iff_getElem.2 ⟨i,hi,fun e3=>?_,e2⟩
  subst e3
  have:=hc b hb x hx e.1 e.2
  rw [List.getD_eq_getElem?_getD,List.getElem?_eq_getElem hi,Option.getD_some,e2] at this
  cases this
 exact h
/-! ## what calls pass -/
def VZ (v:Bool×Int):Option Int:=if v.1=true then none else some v.2
def cvI (k:Int) (p:Nat) (x:InsL):List (Option Int):=if x.op=20∧x.fn=k then [VZ (x.args.getD p (false,0))] else []
def cvF (k:Int) (p:Nat) (f:FunL):List (Option Int):=f.blocks.flatMap fun b=>b.list.flatMap (cvI k p)
def cvX (k:Int) (p:Nat) (xs:List FunL):List (Option Int):=xs.flatMap (cvF k p)
def alwV (s:Option (Option Int)) (v:Option Int):Option (Option Int):=
 match s with
 | none=>none
 | some h=>if v=none∨(h.isSome=true∧h≠v) then none else some v
theorem alw_one (k:Int) (p:Nat) (s:Option (Option Int)) (x:InsL):Xm k p s x=(cvI k p x).foldl alwV s:=by
 unfold cvI
 cases s with
 | none=>
  split<;>rfl
 | some h=>
  unfold Xm
  by_cases e:x.op=20∧x.fn=k
  ·simp only [if_pos e,List.foldl_cons,List.foldl_nil]
   generalize x.args.getD p (false,0)=v
   obtain ⟨b,n⟩:=v
   cases b<;>simp [alwV,VZ]
  simp only [if_neg e,List.foldl_nil]
theorem Vo (k:Int) (p:Nat):∀(l:List InsL) (s:Option (Option Int)),l.foldl (Xm k p) s=(l.flatMap (cvI k p)).foldl alwV s
 | [],_=>rfl
 | x::l,s=>by rw [List.foldl_cons,List.flatMap_cons,List.foldl_append,Vo k p l,alw_one]
theorem XM {m:Int}:∀(vs:List (Option Int)) (s:Option (Option Int)),vs.foldl alwV s=some (some m)↔(s=some (some m)∨(s=some none∧vs≠[]))∧∀v∈vs,v=some m
 | [],s=>by simp
 | v::vs,s=>by
  rw [List.foldl_cons,XM vs]
  have h1:alwV s v≠some none:=by
   unfold alwV
   cases s with
   | none=>simp
   | some h=>
    by_cases e:v=none∨(h.isSome=true∧h≠v)
    ·simp only [if_pos e];simp
    simp only [if_neg e]
    intro g
    exact e (.inl (by injection g))
  have h2:alwV s v=some (some m)↔(s=some none∨s=some (some m))∧v=some m:=by
   unfold alwV
   rcases s with _|_|h
   ·simp
   ·rcases v with _|v<;>simp
   rcases v with _|v
   ·simp
   by_cases e:h=v
   ·subst e;simp
   simp only [e,Option.isSome_some,true_and,ne_eq,Option.some.injEq,not_false_eq_true,or_true,if_true,reduceCtorEq,false_iff,not_and,false_or]
   intro e2 e3
   exact e (e2.trans e3.symm)
  rw [h2]
  constructor
  ·rintro ⟨(⟨a,rfl⟩|⟨a,_⟩),h⟩
   ·refine ⟨?_,fun x hx=>?_⟩
    ·rcases a with a|a
     ·exact .inr ⟨a,by simp⟩
     exact .inl a
    rcases List.mem_cons.1 hx with rfl|hx
    ·rfl
    exact h x hx
   exact absurd a h1
  rintro ⟨a,h⟩
  refine ⟨.inl ⟨?_,h _ (.head _)⟩,fun x hx=>h x (.tail _ hx)⟩
  rcases a with a|a
  ·exact .inr a
  exact .inl a.1
theorem alwL_iff {k:Int} {p:Nat} {xs:List FunL} {m:Int}:kK k p xs=some m↔cvX k p xs≠[]∧∀v∈cvX k p xs,v=some m:=by
 have e:(xs.flatMap fun f=>f.blocks.flatMap fun b=>b.list).flatMap (cvI k p)=cvX k p xs:=by
  unfold cvX cvF
  rw [List.flatMap_assoc]
  simp only [List.flatMap_assoc]
 unfold kK
 rw [Vo,e,Option.join_eq_some_iff,XM]
 simp
theorem QQ {k:Int} {p q:Nat} {xs ys:List FunL} (e:cvX k p ys=cvX k q xs) (h:kK k q xs=none):kK k p ys=none:=by
 cases g:kK k p ys with
 | none=>rfl
 | some m=>
  have:=alwL_iff.1 g
  rw [e] at this
  rw [alwL_iff.2 this] at h
  cases h
theorem alwL_all {k:Int} {p:Nat} {xs:List FunL} {m:Int} (h:kK k p xs=some m):∀f∈xs,∀b∈f.blocks,∀x∈b.list,x.op=20→x.fn=k→(x.args.getD p (false,0)).1=false:=fun f hf b hb x hx h1 h2=>by
 have:=(alwL_iff.1 h).2 (VZ (x.args.getD p (false,0))) (List.mem_flatMap.2 ⟨f,hf,List.mem_flatMap.2 ⟨b,hb,List.mem_flatMap.2 ⟨x,hx,by unfold cvI;rw [if_pos ⟨h1,h2⟩];exact .head _⟩⟩⟩)
 unfold VZ at this
 split at this
 ·cases this
 next e=>simpa using e
theorem JA {k:Int} {p q:Nat} {f f':FunL} (g:BlkL→BlkL) (e:f'.blocks=f.blocks.map g) (h:∀b∈f.blocks,(g b).list.flatMap (cvI k p)=b.list.flatMap (cvI k q)):cvF k p f'=cvF k q f:=by
 unfold cvF
 rw [e,List.flatMap_map]
 generalize f.blocks=bs at h
 induction bs with
 | nil=>rfl
 | cons b bs ih=>rw [List.flatMap_cons,List.flatMap_cons,h b (.head _),ih fun c hc=>h c (.tail _ hc)]
theorem ZV {k:Int} {p q:Nat} (g:InsL→InsL):∀(l:List InsL),(∀x∈l,cvI k p (g x)=cvI k q x)→(l.map g).flatMap (cvI k p)=l.flatMap (cvI k q)
 | [],_=>rfl
 | x::l,h=>by rw [List.map_cons,List.flatMap_cons,List.flatMap_cons,h x (.head _),ZV g l fun y hy=>h y (.tail _ hy)]
theorem ZW {T:Bool×Int→Bool×Int} (h0:T (false,0)=(false,0)) (l:List (Bool×Int)) (p:Nat):(l.map T).getD p (false,0)=T (l.getD p (false,0)):=by
 rw [List.getD_eq_getElem?_getD,List.getD_eq_getElem?_getD,List.getElem?_map]
 cases l[p]? with
 | none=>exact h0.symm
 | some v=>rfl
theorem cvI_to (k:Int) (p:Nat) (g:Int→Int) (x:InsL):cvI k p (toI g x)=cvI k p x:=by
 have e:VZ ((x.args.map (toW g)).getD p (false,0))=VZ (x.args.getD p (false,0)):=by
  rw [ZW rfl]
  unfold VZ toW
  split<;>simp_all
 unfold cvI toI
 simp only [e]
theorem cvI_ren (k:Int) (p:Nat) (m:Nat→Int) (x:InsL):cvI k p (xU m x)=cvI k p x:=by
 have e:VZ ((x.args.map (zD m)).getD p (false,0))=VZ (x.args.getD p (false,0)):=by
  rw [ZW rfl]
  unfold VZ zD
  split<;>simp_all
 unfold cvI xU
 simp only [e]
theorem cvI_del {k k':Int} {p p':Nat} (x:InsL) (h:k=k'→p<p'):cvI k p (Qu k' p' x)=cvI k p x:=by
 unfold Qu
 split
 ·next e=>
  unfold cvI
  by_cases e2:x.op=20∧x.fn=k
  ·have hp:=h (e2.2.symm.trans e.2)
   simp only [if_pos e2]
   rw [List.getD_eq_getElem?_getD,List.getD_eq_getElem?_getD,List.getElem?_eraseIdx,if_pos hp]
  simp only [if_neg e2]
 rfl
theorem cvF_del {k k':Int} {p p':Nat} (f:FunL) (h:k=k'→p<p'):cvF k p (Qv k' p' f)=cvF k p f:=
 JA _ rfl fun _b _=>ZV _ _ fun x _=>cvI_del x h
theorem cvF_drop (k:Int) (p q:Nat) (f:FunL):cvF k p (km q f)=cvF k p f:=
 JA (toB (qK q (f.params - 1))) rfl fun _b _=>ZV _ _ fun x _=>cvI_to k p _ x
theorem cvF_name (k:Int) (p:Nat) (f:FunL):cvF k p (qH f)=cvF k p f:=
 JA (kP (xK f).1) rfl fun _b _=>ZV _ _ fun x _=>cvI_ren k p _ x
theorem cvF_head (k:Int) (p:Nat) (hd:List InsL) (hh:∀x∈hd,x.op≠20) (f:FunL):cvF k p (xA hd f)=cvF k p f:=by
 have e:hd.flatMap (cvI k p)=[]:=by
  refine List.flatMap_eq_nil_iff.2 fun x hx=>?_
  unfold cvI
  rw [if_neg fun h=>hh x hx h.1]
 unfold cvF xA
 rcases f.blocks with _|⟨b,bs⟩
 ·rfl
 simp [e]
theorem cvX_at {k:Int} {p q:Nat} {xs ys:List FunL} (hl:ys.length=xs.length) (h:∀i (h1:i<xs.length) (h2:i<ys.length),cvF k p ys[i]=cvF k q xs[i]):cvX k p ys=cvX k q xs:=QN hl h
theorem cvX_drop {k k' p p':Nat} {xs:List FunL} (h:k=k'→p<p'):cvX k p (j4 k' p' xs)=cvX k p xs:=
 cvX_at (zd _ _ _) fun i h1 h2=>by
  rw [vy h2,cvF_del _ fun e=>h (by omega)]
  split
  ·exact cvF_drop _ _ _ _
  rfl
theorem cvX_head {k:Nat} {p:Nat} {xs:List FunL} {hd:List InsL} (k':Nat) (hh:∀x∈hd,x.op≠20):cvX k p (xs.modify k' (xA hd))=cvX k p xs:=
 cvX_at (by simp) fun i h1 h2=>by
  rw [List.getElem_modify]
  split
  ·exact cvF_head _ _ _ hh _
  rfl
/-! ## the two phases -/
def ShL (xs t:List FunL):Prop:=xs.length=t.length∧∀k (h:k<xs.length) (h2:k<t.length),Shp xs[k] t[k]∧xs[k].name=t[k].name∧xs[k].params≤t[k].params
theorem ShL.refl (t:List FunL):ShL t t:=⟨rfl,fun _ _ _=>⟨.refl _,rfl,Int.le_refl _⟩⟩
theorem ShL.trans {a b c:List FunL} (h:ShL a b) (g:ShL b c):ShL a c:=⟨h.1.trans g.1,fun k h1 h2=>by
 have h3:k<b.length:=by rw [←h.1];exact h1
 obtain ⟨a1,a2,a3⟩:=h.2 k h1 h3
 obtain ⟨b1,b2,b3⟩:=g.2 k h3 h2
 exact ⟨a1.trans b1,a2.trans b2,Int.le_trans a3 b3⟩⟩
theorem ShL.drop (k p:Nat) (xs:List FunL):ShL (j4 k p xs) xs:=⟨zd _ _ _,fun i h1 h2=>by
 rw [vy h1]
 refine ⟨(Shp.del _ _ _).trans ?_,?_,?_⟩
 ·split
  ·exact .drop _ _
  exact .refl _
 ·show (if k=i then km p xs[i] else xs[i]).name=_
  split<;>rfl
 show (if k=i then km p xs[i] else xs[i]).params≤_
 split
 ·show xs[i].params - 1≤_;omega
 exact Int.le_refl _⟩
theorem ShL.head (k:Nat) (hd:List InsL) (xs:List FunL):ShL (xs.modify k (xA hd)) xs:=⟨by simp,fun i h1 h2=>by
 rw [List.getElem_modify]
 split
 ·exact ⟨.head _ _,rfl,Int.le_refl _⟩
 exact ⟨.refl _,rfl,Int.le_refl _⟩⟩
theorem Dr.shl {t xs:List FunL} (h:Dr t xs):ShL xs t:=by
 induction h with
 | start=>exact .refl _
 | step _ _ _ _ _ ih=>exact (ShL.drop _ _ _).trans ih
theorem Al.shl {t xs:List FunL} {k p:Nat} {hd:List InsL} (h:Al t k p xs hd):ShL xs t:=by
 induction h with
 | start=>exact .refl _
 | skip _ _ _ _ ih=>exact ih
 | drop _ _ _ _ ih=>exact (ShL.drop _ _ _).trans ih
 | next _ _ _ ih=>exact (ShL.head _ _ _).trans ih
theorem lastG_on {p:Nat} {last:Int} {q:Nat} (_hp:(p:Int)≤last) (hq:(q:Int)<last):∃r:Nat,(r:Int)≤last∧qK p last r=q:=by
 by_cases h:q<p
 ·exact ⟨q,by omega,by unfold qK;rw [if_neg (by omega),if_neg (by omega)]⟩
 refine ⟨q+1,by omega,?_⟩
 unfold qK
 rw [if_neg (by omega),if_pos (by omega)]
 omega
theorem Taken.drop {xs:List FunL} {k p:Nat} {m:Int} (h:Taken xs) (hk:k<xs.length) (hp:(p:Int)<xs[k].params) (ha:kK k p xs=some m):Taken (j4 k p xs):=fun i hi q hq _=>by
 have hi':i<xs.length:=by rw [←zd k p xs];exact hi
 rw [jW hi] at hq
 rw [vy hi,tkF_iff]
 have hc:=alwL_all ha _ (List.getElem_mem hi')
 by_cases e:k=i
 ·subst e
  rw [if_pos rfl] at hq ⊢
  obtain ⟨r,hr,e2⟩:=lastG_on (p:=p) (last:=xs[k].params - 1) (q:=q) (by omega) (by omega)
  have h1:=tkF_iff.1 (h k hk r (by omega) (.inl hk))
  have h2:=h1.to (qK p (xs[k].params - 1))
  unfold toW at h2
  rw [if_pos rfl] at h2
  simp only [e2] at h2
  refine RdF.del (fun b hb x hx h3 h4=>?_) (show RdF (km p xs[k]) _ from h2)
  obtain ⟨b0,hb0,rfl⟩:=List.mem_map.1 hb
  obtain ⟨x0,hx0,rfl⟩:=List.mem_map.1 hx
  have h5:=hc b0 hb0 x0 hx0 h3 h4
  show ((x0.args.map _).getD p (false,0)).1=false
  rw [ZW rfl]
  unfold toW
  rw [if_neg (by rw [h5];decide)]
  exact h5
 rw [if_neg e] at hq ⊢
 exact RdF.del (fun b hb x hx h3 h4=>hc b hb x hx h3 h4) (tkF_iff.1 (h i hi' q hq (.inl hi')))
theorem Taken.head {xs:List FunL} (k:Nat) (hd:List InsL) (h:Taken xs):Taken (xs.modify k (xA hd)):=fun i hi q hq _=>by
 have hi':i<xs.length:=by simpa using hi
 rw [tkF_iff]
 rw [List.getElem_modify] at hq ⊢
 split at hq
 ·next e=>
  rw [if_pos e]
  exact (tkF_iff.1 (h i hi' q hq (.inl hi'))).head _
 next e=>
 rw [if_neg e]
 exact tkF_iff.1 (h i hi' q hq (.inl hi'))
theorem Al.taken {t xs:List FunL} {k p:Nat} {hd:List InsL} (h:Al t k p xs hd) (h0:Taken t):Taken xs:=by
 induction h with
 | start=>exact h0
 | skip _ _ _ _ ih=>exact ih
 | drop _ hk hp ha ih=>exact ih.drop hk hp ha
 | next _ _ _ ih=>exact ih.head _ _
theorem Al.noCall {t xs:List FunL} {k p:Nat} {hd:List InsL} (h:Al t k p xs hd):∀x∈hd,x.op≠20:=by
 induction h with
 | start=>exact fun x h=>by cases h
 | skip _ _ _ _ ih=>exact ih
 | drop _ hk hp _ ih=>
  intro x hx
  rcases List.mem_append.1 hx with hx|hx
  ·exact ih x hx
  obtain rfl:=List.mem_singleton.1 hx
  show (1:Int)≠20
  omega
 | next _ _ _ _=>exact fun x h=>by cases h
theorem Al.unlike {t xs:List FunL} {k p:Nat} {hd:List InsL} (h:Al t k p xs hd):∀k' (h':k'<xs.length) (p':Nat),(k'<k∧(p':Int)<xs[k'].params)∨(k'=k∧p'<p)→kK k' p' xs=none:=by
 induction h with
 | start=>intro k' _ p' h;omega
 | @skip k p xs hd _ hk hp ha ih=>
  intro k' h' p' h
  by_cases e:k'=k∧p'=p
  ·obtain ⟨rfl,rfl⟩:=e
   exact ha
  exact ih k' h' p' (by omega)
 | @drop k p xs hd n _ hk hp ha ih=>
  intro k' h' p' h
  have h2:k'<xs.length:=by rw [←zd k p xs];exact h'
  rw [jW h'] at h
  refine QQ (cvX_drop fun e=>?_) (ih k' h2 p' ?_)
  ·omega
  rcases h with ⟨h3,h4⟩|h
  ·rw [if_neg (by omega)] at h4
   exact .inl ⟨h3,h4⟩
  exact .inr h
 | @next k p xs hd hal hk hp ih=>
  intro k' h' p' h
  have h2:k'<xs.length:=by simpa using h'
  have e:(xs.modify k (xA hd))[k'].params=xs[k'].params:=by
   rw [List.getElem_modify]
   split<;>rfl
  rw [e] at h
  refine QQ (cvX_head k hal.noCall) (ih k' h2 p' ?_)
  by_cases e2:k'=k
  ·subst e2
   exact .inr ⟨rfl,by omega⟩
  exact .inl ⟨by omega,by omega⟩
/-! ## what args.Do returns -/
theorem name_par {f:FunL} {p:Nat} (h:(p:Int)<f.params):(xK f).1 p=(p:Int):=by
 have hp:p<f.params.toNat:=by omega
 obtain ⟨E,hE⟩:=vh f.params.toNat (f.blocks.flatMap XU++Qg f)
 have e:jM f=List.range f.params.toNat++E:=by
  unfold jM k8
  rw [List.append_assoc]
  exact hE
 have hm:p∈jM f:=by rw [e];exact List.mem_append_left _ (List.mem_range.2 hp)
 rw [Jw hm]
 unfold nmN
 rw [e,List.idxOf_append,if_pos (List.mem_range.2 hp),vk hp]
theorem XN {u:UniL} {xs ys:List FunL} (h:ChkOk u) (h1:Dr (qG u).funcs xs) (h2:Taken xs) (h3:Al xs xs.length 0 ys []) (h4:ChkOk { globals:=(qG u).globals,funcs:=ys }) {V:List FunL} (hV:V=(qG { globals:=(qG u).globals,funcs:=ys }).funcs) :
  ys.length=u.funcs.length∧V.length=u.funcs.length∧(∀k (hk:k<V.length) (hk2:k<u.funcs.length),V[k].name=u.funcs[k].name∧V[k].params≤u.funcs[k].params)∧Taken V∧∀k (hk:k<V.length) (p:Nat),(p:Int)<V[k].params→kK k p V=none:=by
 have hs:=h3.shl.trans h1.shl
 have htl:(qG u).funcs.length=u.funcs.length:=by simp [qG]
 have hyl:ys.length=u.funcs.length:=hs.1.trans htl
 have hl:V.length=u.funcs.length:=by rw [hV];simp [qG,hyl]
 have hVn:∀k (hk:k<V.length) (hk2:k<ys.length),V[k]=qH ys[k]:=fun k hk hk2=>by
  have e:V[k]=doT ys[k]:=by simp [hV,qG]
  rw [e]
  have hku:k<u.funcs.length:=by omega
  have e2:(qG u).funcs[k]'(by omega)=doT u.funcs[k]:=by simp [qG]
  have:=(hs.2 k hk2 (by omega)).1
  rw [e2] at this
  exact (h.funC hku).still (h4.funC (k:=k) hk2) this
 refine ⟨hyl,hl,fun k hk hk2=>?_,fun k hk p hp _=>?_,fun k hk p hp=>?_⟩
 ·have hky:k<ys.length:=by omega
  have e2:(qG u).funcs[k]'(by omega)=doT u.funcs[k]:=by simp [qG]
  have h5:=(hs.2 k hky (by omega)).2
  rw [e2,(vI _).1,(vI _).2] at h5
  rw [hVn k hk hky]
  exact h5
 ·have hky:k<ys.length:=by omega
  rw [hVn k hk hky] at hp ⊢
  have hp':(p:Int)<ys[k].params:=hp
  have h5:=(tkF_iff.1 (h3.taken h2 k hky p hp' (.inl hky))).name
  rw [tkF_iff]
  unfold zD at h5
  rw [if_pos rfl] at h5
  simp only [Int.toNat_natCast,name_par hp'] at h5
  exact h5
 have hky:k<ys.length:=by omega
 rw [hVn k hk hky] at hp
 refine QQ (cvX_at (by omega) fun i h6 h7=>?_) (h3.unlike k hky p (.inl ⟨by rw [←h3.shl.1];exact hky,hp⟩))
 rw [hVn i h7 h6]
 exact cvF_name _ _ _
theorem ChkOk.zero {u:UniL} (h:ChkOk u):chk u=(0,0):=(h.same rfl rfl fun _ hk=>⟨rfl,rfl,h.funC hk⟩).1
structure ArgO (u:UniL) (V:List FunL):Prop where
 len:V.length=u.funcs.length
 ok:ChkOk { globals:=u.globals,funcs:=V }
 two:qG { globals:=u.globals,funcs:=V }={ globals:=u.globals,funcs:=V }
 par:∀k (hk:k<V.length) (hk2:k<u.funcs.length),V[k].name=u.funcs[k].name∧V[k].params≤u.funcs[k].params
 taken:Taken V
 unlike:∀k (hk:k<V.length) (p:Nat),(p:Int)<V[k].params→kK k p V=none
 none:(∀f∈u.funcs,f.params≤0)→V=(qG u).funcs
theorem args_out {u:UniL} {xs ys:List FunL} (h:ChkOk u) (h1:Dr (qG u).funcs xs) (h2:Taken xs) (h3:Al xs xs.length 0 ys []) (h4:ChkOk { globals:=(qG u).globals,funcs:=ys }):ArgO u (qG { globals:=(qG u).globals,funcs:=ys }).funcs:=by
 obtain ⟨a,b,c,d,e⟩:=XN h h1 h2 h3 h4 rfl
 refine ⟨b,h4.tidy.2,h4.twice,c,d,e,fun h0=>?_⟩
 rw [args_none h0 h1 h3]
 show (qG (qG u)).funcs=_
 rw [h.twice]

theorem fitsE_ten (xs:List FunL) (h:xM xs≠(0,0)):(xM xs).1≠0:=by
 unfold xM at h ⊢
 cases e:xs.findIdx? kC with
 | none=>rw [e] at h;exact absurd rfl h
 | some k=>simp
def AdoG (u:UniL) (V:List FunL) (e:Ending) (w':World):Prop:=∃p1 c1 p2 c2,e = .returned (.tuple #[.agg #[.slice p1 u.globals.length c1,.slice p2 u.funcs.length c2],.agg #[.int .i64 0,.int .i64 0]])∧SlF w' 3 48 (GloR w') (.slice p1 u.globals.length c1) u.globals∧SlF w' 4 56 (FunR w') (.slice p2 u.funcs.length c2) V
def AdoB (e:Ending):Prop:=∃c k:Int,(c != 0)=true∧e = .returned (.tuple #[.agg #[.slice none 0 0,.slice none 0 0],.agg #[.int .i64 c,.int .i64 k]])
theorem UniO.reads {w:World} {p1 p2:Option Addr} {n1 c1 n2 c2:Nat} {x:UniL} {S:Blks} (h:UniO w [.slice p1 n1 c1,.slice p2 n2 c2] x S):SlF w 3 48 (GloR w) (.slice p1 n1 c1) x.globals∧SlF w 4 56 (FunR w) (.slice p2 n2 c2) x.funcs:=by
 obtain ⟨v1,v2,h0,h1,h2⟩:=h.read
 simp only [List.cons.injEq,and_true] at h0
 obtain ⟨rfl,rfl⟩:=h0
 exact ⟨h1,h2⟩
theorem ado_any (u:UniL) (gp fp:Option Addr) (gc fc:Nat) (w:World) (hG:SlF w 3 48 (GloR w) (.slice gp u.globals.length gc) u.globals) (hF:SlF w 4 56 (FunR w) (.slice fp u.funcs.length fc) u.funcs) (hw0:Ways w) :
  Calls Tryz.prog 8 #[.agg #[.slice gp u.globals.length gc,.slice fp u.funcs.length fc]] w fun e w'=>(AdoB e∨(ChkOk u∧∃V,ArgO u V∧AdoG u V e w'))∧Below w.heap.size w w':=by
 have hgl:u.globals.length*48≤140737488351232:=hG.bdC
 have hfl:u.funcs.length*56≤140737488351232:=hF.bdC
 by_cases h:(chk u).1=0
 ·have hc:=(Qr h).2
  refine (ado_ok u gp fp gc fc w hgl hG hfl hF hw0 h).mono ?_
  rintro e w' ⟨⟨xs,ys,h1,h2,h3,h4⟩,hb⟩
  refine ⟨?_,hb⟩
  rcases h4 with ⟨h4,rfl⟩|⟨_,h4,rfl⟩|⟨_,h4,p1,c1,p2,c2,rfl,S,hS,_⟩
  ·exact .inl ⟨_,_,by simpa using fitsE_ten _ h4,rfl⟩
  ·exact .inl ⟨_,_,by simpa using h4,rfl⟩
  have h5:=args_out hc h1 h2 h3 (Qr h4).2
  have hl:ys.length=u.funcs.length:=(XN hc h1 h2 h3 (Qr h4).2 rfl).1
  rw [hl] at hS ⊢
  exact .inr ⟨hc,_,h5,p1,c1,p2,c2,rfl,hS.reads⟩
 have hG':SliceAt w 3 (GloR w) gp u.globals:=by
  obtain ⟨p,c,e,_,_,h⟩:=hG.outC
  cases e
  exact h
 have hF':SliceAt w 4 (FunR w) fp u.funcs:=by
  obtain ⟨p,c,e,_,_,h⟩:=hF.outC
  cases e
  exact h
 refine (ado_bad u gp fp gc fc w hgl hG' hfl hF' hw0 h).mono ?_
 rintro e w' ⟨rfl,hb⟩
 exact ⟨.inl ⟨_,_,by simpa using h,rfl⟩,hb⟩

theorem XO (w:World):Calls Tryz.prog 10 #[.agg #[.slice none 0 0,.slice none 0 0]] w fun e w'=>e = .returned (.bool true)∧Below w.heap.size w w':=by
 go_enter Tryz.func10,Tryz.ntmps10
 go_wp2_with fail
 go_ret
 exact ⟨rfl,by exact bZ⟩
end Go.Proofs.YtgjjhadbjmcnpaaGreatDoor
