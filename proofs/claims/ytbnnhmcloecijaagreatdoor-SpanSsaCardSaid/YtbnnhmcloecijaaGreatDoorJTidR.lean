/-
  Plain: a way that is cut (calls.Cut, CutWay) keeps what the check asks of a function.
-/
import Derived.Test.YtbnnhmcloecijaaGreatDoorJChaA
namespace Go.Proofs.YtbnnhmcloecijaaGreatDoor
open Go.RowKit

def vJ (V:Nat→Value) (b:Nat) (v:Value) (i:Nat):Value:=if i=b then v else V i
def v2J (V:Nat→Value) (b t:Nat) (v:Value) (i:Nat):Value:=if i=t then .slice none 0 0 else vJ V b v i
def l2J (L:Nat→Blks) (b t:Nat) (Lb:Blks) (i:Nat):Blks:=if i=t then fun _=>False else if i=b then Lb else L i
def backB (g:FunL) (b t:Nat):BlkL:={ phis:=(atF (qR g t b) b).phis,list:=(atF (qR g t b) b).list++(atF (qR g t b) t).list,fin:=(atF (qR g t b) t).fin }
theorem Vy (g:FunL) (b t:Nat):(xg g b t).blocks=((qR g t b).blocks.set b (backB g b t)).set t QG:=rfl
theorem zipJ {V:Nat→Value} {b t:Nat} {v:Value} {bs:List BlkL} {x y:BlkL} (h:t≠b):((kf (vJ V b v) bs).set b (v,x)).set t (.slice none 0 0,y)=kf (v2J V b t v) ((bs.set b x).set t y):=by
 refine yV (by simp [kf]) fun k h1 h2=>?_
 rw [j8 h2,y8,y8,y8,y8]
 by_cases e:t=k
 ·subst e
  rw [zZ rfl,zZ rfl]
  simp [v2J]
 rw [zQ e,zQ e]
 by_cases e2:b=k
 ·subst e2
  rw [zZ rfl,zZ rfl]
  simp [v2J,vJ,Ne.symm h]
 rw [zQ e2,zQ e2,j8]
 simp [v2J,vJ,Ne.symm e,Ne.symm e2]
theorem zipV_vJ {V:Nat→Value} {b:Nat} {v:Value} {bs:List BlkL} (h:b<bs.length):(kf V bs).set b (v,bs[b])=kf (vJ V b v) bs:=by
 refine yV (by simp [kf]) fun k h1 h2=>?_
 rw [j8 h2,y8]
 by_cases e:b=k
 ·subst e
  rw [zZ rfl]
  simp [vJ]
 rw [zQ e,j8]
 simp [vJ,Ne.symm e]
theorem rowN_swap {w:World} {gq c:Nat} {bs:List BlkL} {V:Nat→Value} {N:Blks} (h:SlO 45 6 Ku w (.slice (some ⟨gq,0,none⟩) bs.length c) (kf V bs) N) {b:Nat} (hb:b<bs.length) {p:Option Addr} {l k:Nat}:SlO 45 6 Ku (w.setCell ⟨gq,b*6+1,none⟩ (.slice p l k)) (.slice (some ⟨gq,0,none⟩) bs.length c) (kf (vJ V b (.slice p l k)) bs) N:=by
 have hbz:b<(kf V bs).length:=by rw [xS];exact hb
 obtain ⟨g,cc,cs,T,hgv,hg,hS,hl,hx,hT,hTS,hc,hf,_,put⟩:=h.inner vy (by omega) hbz
 have hgg:g=gq:=by
  injection hgv with a _ _
  injection a with a
  injection a with a
  exact a.symm
 subst hgg
 rw [j8 hbz] at hx
 have h1:=put w (.slice p l k,bs[b]) T 1 (.slice p l k) (by omega) rfl (Kept.refl _ _) (by
  obtain ⟨v1,v3,S1,S3,rfl,_,j1,j2,h3,h5,a2,g1,g3⟩:=hx
  exact ⟨v1,v3,S1,S3,rfl,⟨_,_,_,rfl⟩,j1,j2,h3.loc xR g1 (fun k hk=>zJ _ _ _ k (fun e=>hT (by rw [←show k=g from e];exact hk))) (by simp [World.setCell]),h5.loc xr g3 (fun k hk=>zJ _ _ _ k (fun e=>hT (by rw [←show k=g from e];exact hk))) (by simp [World.setCell]),a2,g1,g3⟩) (fun k hk=>⟨.inl hk,h.inb k (hTS k hk)⟩)
 rw [zipV_vJ hb] at h1
 exact h1.grow (fun k hk=>hk.elim id (hTS k)) (h.inb.mono (by simp [World.setCell]))
def four (w:World) (g o:Nat) (a2 a3 a4 a5:Value):World:=(((w.setCell ⟨g,o+2,none⟩ a2).setCell ⟨g,o+2+1,none⟩ a3).setCell ⟨g,o+2+2,none⟩ a4).setCell ⟨g,o+2+3,none⟩ a5
theorem Vz (w:World) (g o:Nat) (a2 a3 a4 a5:Value):Kept (fun i=>i=g) w (four w g o a2 a3 a4 a5):=by
 unfold four
 have h0:Kept (fun i=>i=g) w w:=Kept.refl _ w
 have h3:=h0.setCell (p:=⟨g,o+2,none⟩) rfl a2
 have h4:=h3.setCell (p:=⟨g,o+2+1,none⟩) rfl a3
 have h5:=h4.setCell (p:=⟨g,o+2+2,none⟩) rfl a4
 exact h5.setCell (p:=⟨g,o+2+3,none⟩) rfl a5
theorem RowPut.four {w w1:World} {e:TypeId} {g o:Nat} {c0 c1 c2 c3 c4 c5:Value} (h:RowPut w w1 e g o 6 [c0,c1,c2,c3,c4,c5]) (a2 a3 a4 a5:Value):RowPut w (Go.Proofs.YtbnnhmcloecijaaGreatDoor.four w1 g o a2 a3 a4 a5) e g o 6 [c0,c1,a2,a3,a4,a5]:=by
 have h2:=RowPut.set h rfl (j:=2) (by omega) a2
 simp only [yZ,yQ] at h2
 have h3:=RowPut.set h2 rfl (j:=3) (by omega) a3
 simp only [yZ,yQ] at h3
 have h4:=RowPut.set h3 rfl (j:=4) (by omega) a4
 simp only [yZ,yQ] at h4
 have h5:=RowPut.set h4 rfl (j:=5) (by omega) a5
 simp only [yZ,yQ] at h5
 unfold Go.Proofs.YtbnnhmcloecijaaGreatDoor.four
 exact h5
theorem ChS.joined {w2 wa wf:World} {gq c:Nat} {g:FunL} {V:Nat→Value} {N:Blks} {L:Nat→Blks} {b t:Nat} {v' v1b v3t:Value} {Lb:Blks} (hb:b<g.blocks.length) (ht:t<g.blocks.length) (hne:t≠b)
  (hrow:SlO 45 6 Ku w2 (.slice (some ⟨gq,0,none⟩) g.blocks.length c) (kf (vJ V b v') (qR g t b).blocks) N)
  (hlb:SlQ 57 8 80 InsO w2 v' ((atF g b).list++(atF g t).list) Lb) (hob:Apart N Lb) (hlo:∀i (hi:i<g.blocks.length),i≠b→i≠t→SlQ 57 8 80 InsO w2 (V i) g.blocks[i].list (L i)∧Apart (L i) Lb∧Apart N (L i))
  (hhH:∀i j,i<g.blocks.length→j<g.blocks.length→i≠j→Apart (L i) (L j))
  (hv1:w2.cell? ⟨gq,b*6,none⟩=some v1b) (hv3:w2.cell? ⟨gq,t*6+5,none⟩=some v3t)
  (p1:RowPut w2 wa 45 gq (b*6) 6 [v1b,v',.int .i64 (atF g t).fin.kind,.bool (atF g t).fin.onr,.int .i64 (atF g t).fin.onn,v3t])
  (p2:RowPut wa wf 45 gq (t*6) 6 [.slice none 0 0,.slice none 0 0,.int .i64 1,.bool false,.int .i64 0,.slice none 0 0])
  (hk:Kept (fun k=>k=gq) w2 wf):ChS wf gq c (xg g b t).blocks (v2J V b t v') N (l2J L b t Lb):=by
 have hrl:(qR g t b).blocks.length=g.blocks.length:=kU g b t
 have hjl:(xg g b t).blocks.length=g.blocks.length:=qJ g b t
 obtain ⟨cs,T,hW⟩:=hrow
 have hzl:(kf (vJ V b v') (qR g t b).blocks).length=g.blocks.length:=by rw [xS,hrl]
 have hbz:b<(kf (vJ V b v') (qR g t b).blocks).length:=by rw [hzl];exact hb
 have htz:t<(kf (vJ V b v') (qR g t b).blocks).length:=by rw [hzl];exact ht
 have hbr:b<(qR g t b).blocks.length:=by rw [hrl];exact hb
 have htr:t<(qR g t b).blocks.length:=by rw [hrl];exact ht
 have hgN:N gq:=hW.blk gq rfl
 have eb:=hW.el b hbz
 have et:=hW.el t htz
 rw [j8 hbz] at eb
 rw [j8 htz] at et
 obtain ⟨x1,x3,A1,A3,hcb,_,_,_,h3b,_,_,g1b,_⟩:=eb
 obtain ⟨y1,y3,B1,B3,hct,_,k1t,k2t,_,h5t,_,_,g3t⟩:=et
 have e1:v1b=x1:=by
  obtain ⟨g',c',e,_,_,hc⟩:=hW.cell hbz
  have hgg:g'=gq:=by
   injection e with a _ _
   injection a with a
   injection a with a
   exact a.symm
  subst hgg
  have:=hc 0 (by omega)
  rw [yJ,hv1,hcb] at this
  exact Option.some.inj this
 have e3:v3t=y3:=by
  obtain ⟨g',c',e,_,_,hc⟩:=hW.cell htz
  have hgg:g'=gq:=by
   injection e with a _ _
   injection a with a
   injection a with a
   exact a.symm
  subst hgg
  have:=hc 5 (by omega)
  rw [hv3,hct] at this
  exact Option.some.inj this
 subst e1 e3
 dsimp only at h3b h5t k1t k2t
 have hfb:atF (qR g t b) b=(qR g t b).blocks[b]:=qC hbr
 have hft:atF (qR g t b) t=(qR g t b).blocks[t]:=qC htr
 have hra:=kF (f:=g) (b:=b) (t:=t) hb
 have hrt:=kF (f:=g) (b:=b) (t:=t) ht
 have hfin:(atF (qR g t b) t).fin=(atF g t).fin:=by rw [hrt]
 have hA1:∀k,A1 k→k≠gq∧k<w2.heap.size:=fun k hk2=>⟨fun e=>hW.off b hbz gq rfl (by rw [←e];exact g1b k hk2),h3b.sl.inb k hk2⟩
 have hB3:∀k,B3 k→k≠gq∧k<w2.heap.size:=fun k hk2=>⟨fun e=>hW.off t htz gq rfl (by rw [←e];exact g3t k hk2),h5t.sl.inb k hk2⟩
 obtain ⟨pv,lv,cv,hvs⟩:∃p l c,v' = .slice p l c:=by
  obtain ⟨p,c,h,_⟩:=hlb.sl.val
  exact ⟨p,_,c,h⟩
 have hput:=hW.put2 (w1:=wa) (w2:=wf) (xi:=(v',backB g b t)) (xj:=(.slice none 0 0,QG)) (Ti:=fun k=>A1 k∨B3 k) (Tj:=fun _=>False) vy (by omega) rfl hbz htz (Ne.symm hne) p1 p2 rfl rfl (fun u hu=>by
   obtain ⟨_,_,r1,_⟩:=h3b.sl.val
   obtain ⟨_,_,r3,_⟩:=h5t.sl.val
   simp only [yC,yG,yl] at hu
   rcases hu with rfl|rfl|rfl|rfl|rfl|rfl
   ·rw [r1];rfl
   ·rw [hvs];rfl
   ·rfl
   ·rfl
   ·rfl
   ·rw [r3];rfl) (fun u hu=>by
   simp only [yC,yG,yl] at hu
   rcases hu with rfl|rfl|rfl|rfl|rfl|rfl<;>rfl) hk.size (fun k h1 _ _ h4=>hk.block k (hW.inb k h1) h4)
  ⟨v1b,v3t,A1,B3,by rw [←hfin];rfl,⟨pv,lv,cv,hvs⟩,by
    show I64 (atF (qR g t b) t).fin.kind
    rw [hft];exact k1t,by
    show I64 (atF (qR g t b) t).fin.onn
    rw [hft];exact k2t,by
    show SlQ _ _ _ _ _ _ (atF (qR g t b) b).phis _
    rw [hfb];exact ⟨h3b.sl.kept xR hk (fun k a b=>(hA1 k b).1 a),h3b.bd⟩,by
    show SlQ _ _ _ _ _ _ (atF (qR g t b) t).fin.to _
    rw [hft];exact ⟨h5t.sl.kept xr hk (fun k a b=>(hB3 k b).1 a),h5t.bd⟩,fun k a c=>hW.two b t hbz htz (Ne.symm hne) k (g1b k a) (g3t k c),fun _ h=>.inl h,fun _ h=>.inr h⟩
  ⟨.slice none 0 0,.slice none 0 0,fun _=>False,fun _=>False,rfl,⟨none,0,0,rfl⟩,by show I64 1;unfold I64;omega,by show I64 0;unfold I64;omega,⟨SlO.nil _ _ _ _ (fun _ h=>h.elim),by simp [QG]⟩,⟨SlO.nil _ _ _ _ (fun _ h=>h.elim),by simp [QG]⟩,fun _ h _=>h.elim,fun _ h=>h.elim,fun _ h=>h.elim⟩
  (fun _ _ h=>h) (fun k h=>⟨h.elim (fun h=>.inl (g1b k h)) (fun h=>.inr (.inl (g3t k h))),xB (h.elim (fun h=>(hA1 k h).2) (fun h=>(hB3 k h).2)) hk.size⟩) (fun k h=>h.elim)
 rw [zipJ hne,←Vy] at hput
 refine ⟨?_,fun i hi=>?_,fun i j hi hj hij=>?_,fun i hi=>?_⟩
 ·rw [hjl]
  exact hput.grow (fun k h=>h.elim id fun h=>h.elim (fun h=>h.elim (fun h=>hW.sub b hbz k (g1b k h)) (fun h=>hW.sub t htz k (g3t k h))) (fun h=>h.elim)) (fun k h=>xB (hW.inb k h) hk.size)
 ·have hi2:i<g.blocks.length:=by rw [←hjl];exact hi
  have hj:=jK (f:=g) hi2 hb ht
  rw [qC hi] at hj
  rw [hj]
  by_cases e1:i=t
  ·subst e1
   simp only [v2J,l2J,if_true]
   exact ⟨SlO.nil _ _ _ _ (fun _ h=>h.elim),by simp [QG]⟩
  by_cases e2:i=b
  ·subst e2
   simp only [v2J,l2J,vJ,zQ e1,if_true]
   exact ⟨hlb.sl.kept xt hk (fun k a c=>hob k (by rw [a];exact hgN) c),hlb.bd⟩
  obtain ⟨q1,q2,q3⟩:=hlo i hi2 e2 e1
  simp only [v2J,l2J,vJ,zQ e1,zQ e2]
  rw [qC hi2]
  exact ⟨q1.sl.kept xt hk (fun k a c=>q3 k (by rw [a];exact hgN) c),q1.bd⟩
 ·rw [hjl] at hi hj
  unfold l2J
  intro k a c
  by_cases e1:i=t
  ·rw [zZ e1] at a;exact a
  by_cases e2:j=t
  ·rw [zZ e2] at c;exact c
  rw [zQ e1] at a
  rw [zQ e2] at c
  by_cases e3:i=b
  ·rw [zZ e3] at a
   rw [zQ (by omega)] at c
   exact (hlo j hj (by omega) e2).2.1 k c a
  rw [zQ e3] at a
  by_cases e4:j=b
  ·rw [zZ e4] at c
   exact (hlo i hi e3 e1).2.1 k a c
  rw [zQ e4] at c
  exact hhH i j hi hj hij k a c
 rw [hjl] at hi
 unfold l2J
 intro k a c
 by_cases e1:i=t
 ·rw [zZ e1] at c;exact c
 rw [zQ e1] at c
 by_cases e2:i=b
 ·rw [zZ e2] at c;exact hob k a c
 rw [zQ e2] at c
 exact (hlo i hi e2 e1).2.2 k a c

theorem idx_range {n i:Nat} (h:i<n):(List.range n).idxOf i=i:=by
 have:=(List.nodup_range (n:=n)).idxOf_getElem i (by simpa using h)
 simpa using this

def nmN (f:FunL) (r:Nat):Nat:=(Qr f).idxOf r
theorem nm_is {f:FunL} {r:Nat} (h:r∈Qr f):(Zv f).1 r=(nmN f r:Int):=by
 rw [Kw]
 exact jc h
theorem metD_ren {f:FunL} {d:Int} (h:0≤d→d.toNat∈Qr f):vt (if 0≤d then (Zv f).1 d.toNat else d)=(vt d).map (nmN f):=by
 unfold vt
 by_cases e:0≤d
 ·rw [zZ e,zZ e,nm_is (h e),zZ (by omega)]
  simp
 rw [zQ e,zQ e]
 rfl
theorem Yr {α β γ δ:Type} {g:α→β} {u:β→List γ} {w:α→List δ} {m:δ→γ}:∀{l:List α},(∀a∈l,u (g a)=(w a).map m)→(l.map g).flatMap u=(l.flatMap w).map m
 | [],_=>rfl
 | a::l,h=>by
  rw [yS,List.flatMap_cons,List.flatMap_cons,yW,h a (.head _),Yr fun b hb=>h b (.tail _ hb)]
theorem renV_eta (m:Nat→Int) (r:Bool) (n:Int):(r,(xe m (r,n)).2)=xe m (r,n):=by
 unfold xe
 cases r<;>rfl

theorem name_tos (f:FunL):tosB (xq f).blocks=tosB f.blocks:=by
 funext b
 unfold tosB
 by_cases h:b<f.blocks.length
 ·rw [zj h,zj (by rw [zd];exact h),Z4]
  rfl
 have h2:=zd f
 rw [yk (by omega),yk (by omega)]
theorem mu (f:FunL):zq (xq f).blocks=zq f.blocks:=by
 unfold zq jG vv
 rw [name_tos,zd]

inductive PathT (f:FunL):Nat→Prop
 | zero:PathT f 0
 | step {a b:Nat}:PathT f a→a<f.blocks.length→(b:Int)∈tosB f.blocks a→PathT f b
theorem FunS.reach {f:FunL} (h:FunS f) {b:Nat}:b∈zq f.blocks↔PathT f b:=by
 have hc:=h.ordC
 constructor
 ·intro hb
  have key:∀(n i:Nat) (hi:i<(zq f.blocks).length),i<n→PathT f (zq f.blocks)[i]:=by
   intro n
   induction n with
   | zero=>intro i _ h;omega
   | succ n ih=>
    intro i hi hn
    by_cases e:(zq f.blocks)[i]=0
    ·rw [e];exact .zero
    obtain ⟨j,hj,hji,hm⟩:=h.ord.par i hi e
    exact .step (ih j hj (by omega)) (hc.inb _ (zP hj)) hm
  obtain ⟨i,hi,rfl⟩:=yp.1 hb
  exact key (i+1) i hi (by omega)
 intro hp
 induction hp with
 | zero=>exact hc.pos.2.2
 | step _ _ hm ih=>
  have:=hc.closed _ ih _ hm
  simpa using this
theorem mv {nf:Nat} {P:Nat→Int} {f:FunL} (h:FunC nf P f):(qY f).blocks.length=f.blocks.length:=by
 unfold qY
 have key:∀(l:List Nat) (g:FunL) (c:Nat),(∀b∈l,b<f.blocks.length)→FunC nf P g→g.blocks.length=f.blocks.length→(l.foldl (fun g b=>zl c g b) g).blocks.length=f.blocks.length:=by
  intro l
  induction l with
  | nil=>intro g c _ _ h;exact h
  | cons b l ih=>
   intro g c hl hg hn
   have hb:b<g.blocks.length:=by rw [hn];exact hl b (.head _)
   obtain ⟨h1,h2⟩:=hg.chain c hb
   exact ih _ c (fun x hx=>hl x (.tail _ hx)) h1 (h2.trans hn)
 exact key _ f _ (fun b hb=>yR.1 hb) h rfl
theorem k9 {c:Nat} {f:FunL} {b:Nat} (h:Xy f b=none):zl c f b=f:=by
 cases c with
 | zero=>rfl
 | succ c=>unfold zl;rw [h]

def EndLike (x y:EndL):Prop:=x.kind=y.kind∧x.onr=y.onr∧(x.onr=false→x.onn=y.onn)
theorem EndLike.refl (x:EndL):EndLike x x:=⟨rfl,rfl,fun _=>rfl⟩
theorem EndLike.trans {x y z:EndL} (h:EndLike x y) (g:EndLike y z):EndLike x z:=⟨h.1.trans g.1,h.2.1.trans g.2.1,fun e=>(h.2.2 e).trans (g.2.2 (h.2.1.symm.trans e))⟩
def EndsIn (f g:FunL):Prop:=∀b,b<f.blocks.length→(atF f b).fin.kind=3→∃c,c<g.blocks.length∧EndLike (atF f b).fin (atF g c).fin
theorem EndsIn.trans {f g h:FunL} (a:EndsIn f g) (b:EndsIn g h):EndsIn f h:=fun x hx hk=>by
 obtain ⟨c,hc,e⟩:=a x hx hk
 obtain ⟨d,hd,e2⟩:=b c hc (e.1.symm.trans hk)
 exact ⟨d,hd,e.trans e2⟩
theorem EndsIn.refl (f:FunL):EndsIn f f:=fun x hx _=>⟨x,hx,.refl _⟩
theorem ends_name (f:FunL):EndsIn (xq f) f:=fun b hb _=>by
 have hb':b<f.blocks.length:=by rw [←zd f];exact hb
 refine ⟨b,hb',?_⟩
 rw [qC hb,qC hb',Z4 hb]
 refine ⟨rfl,rfl,fun e=>?_⟩
 show (xe _ (_,_)).2=_
 unfold xe
 rw [zQ]
 have e:f.blocks[b].fin.onr=false:=e
 simp [e]
theorem VA {f:FunL} {o:List Nat} (ho:OrdC f o):EndsIn (qX o f) f:=fun b hb _=>by
 have hb':b<o.length:=by rw [←zS o f];exact hb
 have hx:=ho.inb _ (zP hb')
 refine ⟨o[b],hx,?_⟩
 rw [qC hb,X5 o f hb']
 exact ⟨rfl,rfl,fun _=>rfl⟩
theorem ends_join {f:FunL} {b t:Nat} (m:MayJ f b t):EndsIn (xg f b t) f:=fun x hx hk=>by
 rw [qJ] at hx
 rw [jK hx m.hb m.ht] at hk ⊢
 by_cases e:x=t
 ·rw [zZ e] at hk;exact absurd hk (by decide)
 rw [zQ e]
 by_cases e2:x=b
 ·simp only [zZ e2]
  exact ⟨t,m.ht,.refl _⟩
 simp only [zQ e2]
 exact ⟨x,hx,.refl _⟩
theorem XX {nf:Nat} {P:Nat→Int}:∀(c:Nat) {f:FunL} {b:Nat},FunC nf P f→b<f.blocks.length→EndsIn (zl c f b) f
 | 0,_,_,_,_=>.refl _
 | c+1,f,b,h,hb=>by
  unfold zl
  cases e:Xy f b with
  | none=>exact .refl _
  | some t=>
   have hm:=mayJ h hb e
   exact (XX c (h.join hm) (by rw [qJ];exact hb)).trans (ends_join hm)
theorem Kx {nf:Nat} {P:Nat→Int} {f:FunL} (h:FunC nf P f):EndsIn (qY f) f:=by
 unfold qY
 have key:∀(l:List Nat) (g:FunL) (c:Nat),(∀b∈l,b<f.blocks.length)→FunC nf P g→g.blocks.length=f.blocks.length→EndsIn (l.foldl (fun g b=>zl c g b) g) g:=by
  intro l
  induction l with
  | nil=>intro g c _ _ _;exact .refl _
  | cons b l ih=>
   intro g c hl hg hn
   have hb:b<g.blocks.length:=by rw [hn];exact hl b (.head _)
   obtain ⟨h1,h2⟩:=hg.chain c hb
   exact (ih _ c (fun x hx=>hl x (.tail _ hx)) h1 (h2.trans hn)).trans (XX c hg hb)
 exact key _ f _ (fun b hb=>yR.1 hb) h rfl
theorem FunC.tests {nf:Nat} {P:Nat→Int} {f:FunL} (h:FunC nf P f):EndsIn (doT f) f:=by
 have h1:=h.order.chains
 have a:=ends_name (QZ (qY (QZ f)))
 have b:EndsIn (QZ (qY (QZ f))) (qY (QZ f)):=VA h1.funD.toFunS.ordC
 have c:=Kx h.order
 have d:EndsIn (QZ f) f:=VA h.funD.toFunS.ordC
 exact a.trans (b.trans (c.trans d))
theorem FunC.less {nf:Nat} {P:Nat→Int} {f:FunL} (h:FunC nf P f):(doT f).blocks.length≤f.blocks.length∧(qY (QZ f)).blocks.length=(QZ f).blocks.length:=by
 have h1:=h.order.chains
 have e:=mv h.order
 refine ⟨?_,e⟩
 have n1:∀g:FunL,FunD g→(QZ g).blocks.length≤g.blocks.length:=fun g hg=>by
  unfold QZ
  rw [zS]
  exact ji _ _ hg.toFunS.ordC.once hg.toFunS.ordC.inb
 have a:=n1 _ h1.funD
 have b:=n1 _ h.funD
 show (xq (QZ (qY (QZ f)))).blocks.length≤_
 rw [zd]
 omega

def jV (f:FunL) (b gone:Nat):FunL:=
 { f with blocks:=f.blocks.mapIdx fun i x=>
   { phis:=if i=gone then x.phis.map fun p=>{ p with src:=p.src.eraseIdx ((insN f gone).idxOf b) } else x.phis,list:=x.list,fin:=if i=b then ⟨2,false,0,x.fin.to.filter fun t=>decide (t≠(gone:Int))⟩ else x.fin } }
theorem qS (f:FunL) (b gone:Nat):(jV f b gone).blocks.length=f.blocks.length:=by simp [jV]
theorem Zn {f:FunL} {b gone i:Nat} (hi:i<(jV f b gone).blocks.length):(jV f b gone).blocks[i] =
  { phis:=if i=gone then (f.blocks[i]'(by rw [←qS f b gone];exact hi)).phis.map fun p=>{ p with src:=p.src.eraseIdx ((insN f gone).idxOf b) } else (f.blocks[i]'(by rw [←qS f b gone];exact hi)).phis,list:=(f.blocks[i]'(by rw [←qS f b gone];exact hi)).list,fin:=if i=b then ⟨2,false,0,(f.blocks[i]'(by rw [←qS f b gone];exact hi)).fin.to.filter fun t=>decide (t≠(gone:Int))⟩ else (f.blocks[i]'(by rw [←qS f b gone];exact hi)).fin }:=by
 simp [jV]
theorem Ky {f:FunL} {b gone:Nat} {i:Nat} (hi:i<f.blocks.length):tosB (jV f b gone).blocks i=if i=b then (tosB f.blocks b).filter (fun t=>decide (t≠(gone:Int))) else tosB f.blocks i:=by
 have h:i<(jV f b gone).blocks.length:=by rw [qS];exact hi
 rw [qM h,Zn h]
 by_cases e:i=b
 ·subst e
  simp only [if_true]
  rw [qM hi]
 simp only [zQ e]
 rw [qM hi]
structure MayC (f:FunL) (b gone:Nat):Prop where
 hb:b<f.blocks.length
 hg:gone<f.blocks.length
 kind:(f.blocks[b]).fin.kind=3
 «to»:(gone:Int)∈tosB f.blocks b
theorem mw {l:List Int} {g:Int} (hl:l.length=2) (hd:l.Nodup) (hg:g∈l):(l.filter fun t=>decide (t≠g)).length=1:=by
 rcases l with _|⟨x,_|⟨y,_|⟨z,l⟩⟩⟩
 ·simp at hl
 ·simp at hl
 ·have hne:x≠y:=by simpa using hd
  rcases yC.1 hg with rfl|hg
  ·have h2:¬ y=g:=fun e=>hne e.symm
   simp [h2]
  rw [yI] at hg
  subst hg
  simp [hne]
 simp at hl
theorem FunD.cut {f:FunL} (hf:FunD f) {b gone:Nat} (_:MayC f b gone):FunD (jV f b gone):=by
 have key:∀k,k<f.blocks.length→(tosB (jV f b gone).blocks k).length≤2∧(∀x∈tosB (jV f b gone).blocks k,1≤x∧x<(f.blocks.length:Int))∧(tosB (jV f b gone).blocks k).Nodup:=fun k hk=>by
  have base:(tosB f.blocks k).length≤2∧(∀x∈tosB f.blocks k,1≤x∧x<(f.blocks.length:Int))∧(tosB f.blocks k).Nodup:=by
   rw [qM hk]
   exact ⟨hf.two k hk,hf.tos k hk,hf.once k hk⟩
  rw [Ky hk]
  split
  ·rename_i e
   subst e
   exact ⟨yv (List.length_filter_le _ _) base.1,fun x hx=>base.2.1 x (yu.1 hx).1,base.2.2.filter _⟩
  exact base
 refine ⟨⟨by rw [qS];exact hf.n1,by rw [qS];exact hf.n40,fun k hk=>?_,fun k hk=>?_⟩,fun k hk=>?_⟩
 ·rw [←qM hk];exact (key k (by rw [←qS f b gone];exact hk)).1
 ·rw [←qM hk,qS];exact (key k (by rw [←qS f b gone];exact hk)).2.1
 rw [←qM hk];exact (key k (by rw [←qS f b gone];exact hk)).2.2
theorem Xd {f:FunL} (hf:FunD f) {b gone:Nat} (m:MayC f b gone) {i a:Nat}:a∈insN (jV f b gone) i↔a∈insN f i∧¬(i=gone∧a=b):=by
 rw [(hf.cut m).mem,qS,hf.mem]
 by_cases ha:a<f.blocks.length
 ·rw [Ky ha]
  by_cases e:a=b
  ·subst e
   rw [zZ rfl,yu]
   by_cases e2:i=gone
   ·subst e2;simp
   have:(i:Int)≠gone:=by omega
   simp [ha,e2,this]
  rw [zQ e]
  simp [e]
 simp [ha]
theorem FunC.cut {nf:Nat} {P:Nat→Int} {f:FunL} (h:FunC nf P f) {b gone:Nat} (m:MayC f b gone):FunC nf P (jV f b gone):=by
 have hf:=h.funD
 have hg:=hf.cut m
 have hbg:b∈insN f gone:=hf.mem.2 ⟨m.hb,m.to⟩
 have e1:insN (jV f b gone) gone=(insN f gone).filter fun a=>decide (a≠b):=XS (xm hg gone) ((xm hf gone).filter _) fun a=>by
  rw [Xd hf m,yu]
  simp
 have e2:∀i,i≠gone→insN (jV f b gone) i=insN f i:=fun i hi=>XS (xm hg i) (xm hf i) fun a=>by
  rw [Xd hf m]
  simp [hi]
 have e3:(insN (jV f b gone) gone).length=(insN f gone).length - 1:=by
  rw [e1,←Xa (hf.insD gone),List.length_eraseIdx,zZ (j3 hbg).1]
 have many:j6 (jV f b gone)=j6 f:=by
  unfold j6 jV
  congr 1
  refine yV (by simp) fun i h1 h2=>?_
  simp only [xE,List.getElem_mapIdx]
  congr 1
  split<;>simp
 refine ⟨hg.n1,hg.n40,h.par,h.reg,by rw [many];exact h.many,fun i hi=>?_,fun i hi p hp=>?_,fun i hi x hx=>?_⟩
 ·have hi':i<f.blocks.length:=by rw [←qS f b gone];exact hi
  have hk:=hg.tos i hi
  have hk2:=hg.once i hi
  have ho:=h.fin i hi'
  by_cases e:i=b
  ·subst e
   rw [Zn hi] at hk hk2 ⊢
   simp only [if_true] at hk hk2 ⊢
   have hl:=ho.len
   rw [m.kind] at hl
   have hto:=m.to
   rw [qM hi'] at hto
   refine ⟨⟨by show (1:Int)≤2;decide,by show (2:Int)≤3;decide⟩,?_,hk,hk2,fun _=>⟨rfl,rfl⟩,fun e=>by cases e⟩
   show (((f.blocks[i].fin.to).filter _).length:Int)=2 - 1
   rw [mw (by omega) (h.fin i hi').two hto]
   rfl
  rw [Zn hi]
  simp only [zQ e]
  have hl:=qS f b gone
  exact ⟨ho.kind,ho.len,fun t ht=>by have:=ho.to t ht;omega,ho.two,ho.jump,ho.on⟩
 ·have hi':i<f.blocks.length:=by rw [←qS f b gone];exact hi
  rw [Zn hi] at hp
  by_cases e:i=gone
  ·subst e
   simp only [if_true] at hp
   obtain ⟨q,hq,rfl⟩:=yD.1 hp
   have hc:=h.phi i hi' q hq
   refine ⟨hc.blk,hc.dst,?_,fun v hv=>hc.src v (List.mem_of_mem_eraseIdx hv)⟩
   show (q.src.eraseIdx _).length=_
   rw [List.length_eraseIdx,zZ (by rw [hc.len];exact (j3 hbg).1),e3,hc.len]
  simp only [zQ e] at hp
  rw [e2 i e]
  exact h.phi i hi' p hp
 have hi':i<f.blocks.length:=by rw [←qS f b gone];exact hi
 rw [Zn hi] at hx
 exact h.ins i hi' x hx
end Go.Proofs.YtbnnhmcloecijaaGreatDoor
