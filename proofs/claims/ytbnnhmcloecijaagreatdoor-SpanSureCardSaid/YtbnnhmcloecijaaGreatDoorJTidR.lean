/-
  Plain: a way that is cut (calls.Cut, CutWay) keeps what the check asks of a function.
-/
import Derived.Test.YtbnnhmcloecijaaGreatDoorJChaA
namespace Go.Proofs.YtbnnhmcloecijaaGreatDoor
open Go.RowKit

def vJ (V:Nat→Value) (b:Nat) (v:Value) (i:Nat):Value:=if i=b then v else V i
def v2J (V:Nat→Value) (b t:Nat) (v:Value) (i:Nat):Value:=if i=t then .slice none 0 0 else vJ V b v i
def l2J (L:Nat→Blks) (b t:Nat) (Lb:Blks) (i:Nat):Blks:=if i=t then fun _=>False else if i=b then Lb else L i
def backB (g:FunL) (b t:Nat):BlkL:={ phis:=(atF (qQ g t b) b).phis,list:=(atF (qQ g t b) b).list++(atF (qQ g t b) t).list,fin:=(atF (qQ g t b) t).fin }
theorem JC (g:FunL) (b t:Nat):(xB g b t).blocks=((qQ g t b).blocks.set b (backB g b t)).set t kY:=rfl
theorem zipJ {V:Nat→Value} {b t:Nat} {v:Value} {bs:List BlkL} {x y:BlkL} (h:t≠b):((vh (vJ V b v) bs).set b (v,x)).set t (.slice none 0 0,y)=vh (v2J V b t v) ((bs.set b x).set t y):=by
 refine List.ext_getElem (by simp [vh]) fun k h1 h2=>?_
 rw [xF h2,List.getElem_set,List.getElem_set,List.getElem_set,List.getElem_set]
 by_cases e:t=k
 ·subst e
  rw [if_pos rfl,if_pos rfl]
  simp [v2J]
 rw [if_neg e,if_neg e]
 by_cases e2:b=k
 ·subst e2
  rw [if_pos rfl,if_pos rfl]
  simp [v2J,vJ,Ne.symm h]
 rw [if_neg e2,if_neg e2,xF]
 simp [v2J,vJ,Ne.symm e,Ne.symm e2]
theorem zipV_vJ {V:Nat→Value} {b:Nat} {v:Value} {bs:List BlkL} (h:b<bs.length):(vh V bs).set b (v,bs[b])=vh (vJ V b v) bs:=by
 refine List.ext_getElem (by simp [vh]) fun k h1 h2=>?_
 rw [xF h2,List.getElem_set]
 by_cases e:b=k
 ·subst e
  rw [if_pos rfl]
  simp [vJ]
 rw [if_neg e,xF]
 simp [vJ,Ne.symm e]
theorem rowN_swap {w:World} {gq c:Nat} {bs:List BlkL} {V:Nat→Value} {N:Blks} (h:SlO 45 6 Vs w (.slice (some ⟨gq,0,none⟩) bs.length c) (vh V bs) N) {b:Nat} (hb:b<bs.length) {p:Option Addr} {l k:Nat}:SlO 45 6 Vs (w.setCell ⟨gq,b*6+1,none⟩ (.slice p l k)) (.slice (some ⟨gq,0,none⟩) bs.length c) (vh (vJ V b (.slice p l k)) bs) N:=by
 have hbz:b<(vh V bs).length:=by rw [xg];exact hb
 obtain ⟨g,cc,cs,T,hgv,hg,hS,hl,hx,hT,hTS,hc,hf,_,put⟩:=h.inner jA (by omega) hbz
 have hgg:g=gq:=by
  injection hgv with a _ _
  injection a with a
  injection a with a
  exact a.symm
 subst hgg
 rw [xF hbz] at hx
 have h1:=put w (.slice p l k,bs[b]) T 1 (.slice p l k) (by omega) rfl (Kept.refl _ _) (by
  obtain ⟨v1,v3,S1,S3,rfl,_,j1,j2,h3,h5,a2,g1,g3⟩:=hx
  exact ⟨v1,v3,S1,S3,rfl,⟨_,_,_,rfl⟩,j1,j2,h3.loc xe g1 (fun k hk=>Go.Deep.blk_setCell_other _ _ _ k (fun e=>hT (by rw [←show k=g from e];exact hk))) (by simp [World.setCell]),h5.loc zM g3 (fun k hk=>Go.Deep.blk_setCell_other _ _ _ k (fun e=>hT (by rw [←show k=g from e];exact hk))) (by simp [World.setCell]),a2,g1,g3⟩) (fun k hk=>⟨.inl hk,h.inb k (hTS k hk)⟩)
 rw [zipV_vJ hb] at h1
 exact h1.grow (fun k hk=>hk.elim id (hTS k)) (h.inb.mono (by simp [World.setCell]))
def four (w:World) (g o:Nat) (a2 a3 a4 a5:Value):World:=(((w.setCell ⟨g,o+2,none⟩ a2).setCell ⟨g,o+2+1,none⟩ a3).setCell ⟨g,o+2+2,none⟩ a4).setCell ⟨g,o+2+3,none⟩ a5
theorem JD (w:World) (g o:Nat) (a2 a3 a4 a5:Value):Kept (fun i=>i=g) w (four w g o a2 a3 a4 a5):=by
 unfold four
 have h0:Kept (fun i=>i=g) w w:=Kept.refl _ w
 have h3:=h0.setCell (p:=⟨g,o+2,none⟩) rfl a2
 have h4:=h3.setCell (p:=⟨g,o+2+1,none⟩) rfl a3
 have h5:=h4.setCell (p:=⟨g,o+2+2,none⟩) rfl a4
 exact h5.setCell (p:=⟨g,o+2+3,none⟩) rfl a5
theorem RowPut.four {w w1:World} {e:TypeId} {g o:Nat} {c0 c1 c2 c3 c4 c5:Value} (h:RowPut w w1 e g o 6 [c0,c1,c2,c3,c4,c5]) (a2 a3 a4 a5:Value):RowPut w (Go.Proofs.YtbnnhmcloecijaaGreatDoor.four w1 g o a2 a3 a4 a5) e g o 6 [c0,c1,a2,a3,a4,a5]:=by
 have h2:=RowPut.set h rfl (j:=2) (by omega) a2
 simp only [List.set_cons_succ,List.set_cons_zero] at h2
 have h3:=RowPut.set h2 rfl (j:=3) (by omega) a3
 simp only [List.set_cons_succ,List.set_cons_zero] at h3
 have h4:=RowPut.set h3 rfl (j:=4) (by omega) a4
 simp only [List.set_cons_succ,List.set_cons_zero] at h4
 have h5:=RowPut.set h4 rfl (j:=5) (by omega) a5
 simp only [List.set_cons_succ,List.set_cons_zero] at h5
 unfold Go.Proofs.YtbnnhmcloecijaaGreatDoor.four
 exact h5
theorem ChS.joined {w2 wa wf:World} {gq c:Nat} {g:FunL} {V:Nat→Value} {N:Blks} {L:Nat→Blks} {b t:Nat} {v' v1b v3t:Value} {Lb:Blks} (hb:b<g.blocks.length) (ht:t<g.blocks.length) (hne:t≠b)
  (hrow:SlO 45 6 Vs w2 (.slice (some ⟨gq,0,none⟩) g.blocks.length c) (vh (vJ V b v') (qQ g t b).blocks) N)
  (hlb:SlQ 57 8 80 InsO w2 v' ((atF g b).list++(atF g t).list) Lb) (hob:Apart N Lb) (hlo:∀i (hi:i<g.blocks.length),i≠b→i≠t→SlQ 57 8 80 InsO w2 (V i) g.blocks[i].list (L i)∧Apart (L i) Lb∧Apart N (L i))
  (hhD:∀i j,i<g.blocks.length→j<g.blocks.length→i≠j→Apart (L i) (L j))
  (hv1:w2.cell? ⟨gq,b*6,none⟩=some v1b) (hv3:w2.cell? ⟨gq,t*6+5,none⟩=some v3t)
  (p1:RowPut w2 wa 45 gq (b*6) 6 [v1b,v',.int .i64 (atF g t).fin.kind,.bool (atF g t).fin.onr,.int .i64 (atF g t).fin.onn,v3t])
  (p2:RowPut wa wf 45 gq (t*6) 6 [.slice none 0 0,.slice none 0 0,.int .i64 1,.bool false,.int .i64 0,.slice none 0 0])
  (hk:Kept (fun k=>k=gq) w2 wf):ChS wf gq c (xB g b t).blocks (v2J V b t v') N (l2J L b t Lb):=by
 have hrl:(qQ g t b).blocks.length=g.blocks.length:=vY g b t
 have hjl:(xB g b t).blocks.length=g.blocks.length:=qW g b t
 obtain ⟨cs,T,hW⟩:=hrow
 have hzl:(vh (vJ V b v') (qQ g t b).blocks).length=g.blocks.length:=by rw [xg,hrl]
 have hbz:b<(vh (vJ V b v') (qQ g t b).blocks).length:=by rw [hzl];exact hb
 have htz:t<(vh (vJ V b v') (qQ g t b).blocks).length:=by rw [hzl];exact ht
 have hbr:b<(qQ g t b).blocks.length:=by rw [hrl];exact hb
 have htr:t<(qQ g t b).blocks.length:=by rw [hrl];exact ht
 have hgN:N gq:=hW.blk gq rfl
 have eb:=hW.el b hbz
 have et:=hW.el t htz
 rw [xF hbz] at eb
 rw [xF htz] at et
 obtain ⟨x1,x3,A1,A3,hcb,_,_,_,h3b,_,_,g1b,_⟩:=eb
 obtain ⟨y1,y3,B1,B3,hct,_,k1t,k2t,_,h5t,_,_,g3t⟩:=et
 have e1:v1b=x1:=by
  obtain ⟨g',c',e,_,_,hc⟩:=hW.cell hbz
  have hgg:g'=gq:=by
   injection e with a _ _
   injection a with a
   injection a with a
   exact a.symm
  subst hgg
  have:=hc 0 (by omega)
  rw [Nat.add_zero,hv1,hcb] at this
  exact Option.some.inj this
 have e3:v3t=y3:=by
  obtain ⟨g',c',e,_,_,hc⟩:=hW.cell htz
  have hgg:g'=gq:=by
   injection e with a _ _
   injection a with a
   injection a with a
   exact a.symm
  subst hgg
  have:=hc 5 (by omega)
  rw [hv3,hct] at this
  exact Option.some.inj this
 subst e1 e3
 dsimp only at h3b h5t k1t k2t
 have hfb:atF (qQ g t b) b=(qQ g t b).blocks[b]:=qN hbr
 have hft:atF (qQ g t b) t=(qQ g t b).blocks[t]:=qN htr
 have hra:=vI (f:=g) (b:=b) (t:=t) hb
 have hrt:=vI (f:=g) (b:=b) (t:=t) ht
 have hfin:(atF (qQ g t b) t).fin=(atF g t).fin:=by rw [hrt]
 have hA1:∀k,A1 k→k≠gq∧k<w2.heap.size:=fun k hk2=>⟨fun e=>hW.off b hbz gq rfl (by rw [←e];exact g1b k hk2),h3b.sl.inb k hk2⟩
 have hB3:∀k,B3 k→k≠gq∧k<w2.heap.size:=fun k hk2=>⟨fun e=>hW.off t htz gq rfl (by rw [←e];exact g3t k hk2),h5t.sl.inb k hk2⟩
 obtain ⟨pv,lv,cv,hvs⟩:∃p l c,v' = .slice p l c:=by
  obtain ⟨p,c,h,_⟩:=hlb.sl.val
  exact ⟨p,_,c,h⟩
 have hput:=hW.put2 (w1:=wa) (w2:=wf) (xi:=(v',backB g b t)) (xj:=(.slice none 0 0,kY)) (Ti:=fun k=>A1 k∨B3 k) (Tj:=fun _=>False) jA (by omega) rfl hbz htz (Ne.symm hne) p1 p2 rfl rfl (fun u hu=>by
   obtain ⟨_,_,r1,_⟩:=h3b.sl.val
   obtain ⟨_,_,r3,_⟩:=h5t.sl.val
   simp only [List.mem_cons,List.not_mem_nil,or_false] at hu
   rcases hu with rfl|rfl|rfl|rfl|rfl|rfl
   ·rw [r1];rfl
   ·rw [hvs];rfl
   ·rfl
   ·rfl
   ·rfl
   ·rw [r3];rfl) (fun u hu=>by
   simp only [List.mem_cons,List.not_mem_nil,or_false] at hu
   rcases hu with rfl|rfl|rfl|rfl|rfl|rfl<;>rfl) hk.size (fun k h1 _ _ h4=>hk.block k (hW.inb k h1) h4)
  ⟨v1b,v3t,A1,B3,by rw [←hfin];rfl,⟨pv,lv,cv,hvs⟩,by
    show I64 (atF (qQ g t b) t).fin.kind
    rw [hft];exact k1t,by
    show I64 (atF (qQ g t b) t).fin.onn
    rw [hft];exact k2t,by
    show SlQ _ _ _ _ _ _ (atF (qQ g t b) b).phis _
    rw [hfb];exact ⟨h3b.sl.kept xe hk (fun k a b=>(hA1 k b).1 a),h3b.bd⟩,by
    show SlQ _ _ _ _ _ _ (atF (qQ g t b) t).fin.to _
    rw [hft];exact ⟨h5t.sl.kept zM hk (fun k a b=>(hB3 k b).1 a),h5t.bd⟩,fun k a c=>hW.two b t hbz htz (Ne.symm hne) k (g1b k a) (g3t k c),fun _ h=>.inl h,fun _ h=>.inr h⟩
  ⟨.slice none 0 0,.slice none 0 0,fun _=>False,fun _=>False,rfl,⟨none,0,0,rfl⟩,by show I64 1;unfold I64;omega,by show I64 0;unfold I64;omega,⟨SlO.nil _ _ _ _ (fun _ h=>h.elim),by simp [kY]⟩,⟨SlO.nil _ _ _ _ (fun _ h=>h.elim),by simp [kY]⟩,fun _ h _=>h.elim,fun _ h=>h.elim,fun _ h=>h.elim⟩
  (fun _ _ h=>h) (fun k h=>⟨h.elim (fun h=>.inl (g1b k h)) (fun h=>.inr (.inl (g3t k h))),Nat.lt_of_lt_of_le (h.elim (fun h=>(hA1 k h).2) (fun h=>(hB3 k h).2)) hk.size⟩) (fun k h=>h.elim)
 rw [zipJ hne,←JC] at hput
 refine ⟨?_,fun i hi=>?_,fun i j hi hj hij=>?_,fun i hi=>?_⟩
 ·rw [hjl]
  exact hput.grow (fun k h=>h.elim id fun h=>h.elim (fun h=>h.elim (fun h=>hW.sub b hbz k (g1b k h)) (fun h=>hW.sub t htz k (g3t k h))) (fun h=>h.elim)) (fun k h=>Nat.lt_of_lt_of_le (hW.inb k h) hk.size)
 ·have hi2:i<g.blocks.length:=by rw [←hjl];exact hi
  have hj:=vK (f:=g) hi2 hb ht
  rw [qN hi] at hj
  rw [hj]
  by_cases e1:i=t
  ·subst e1
   simp only [v2J,l2J,if_true]
   exact ⟨SlO.nil _ _ _ _ (fun _ h=>h.elim),by simp [kY]⟩
  by_cases e2:i=b
  ·subst e2
   simp only [v2J,l2J,vJ,if_neg e1,if_true]
   exact ⟨hlb.sl.kept zN hk (fun k a c=>hob k (by rw [a];exact hgN) c),hlb.bd⟩
  obtain ⟨q1,q2,q3⟩:=hlo i hi2 e2 e1
  simp only [v2J,l2J,vJ,if_neg e1,if_neg e2]
  rw [qN hi2]
  exact ⟨q1.sl.kept zN hk (fun k a c=>q3 k (by rw [a];exact hgN) c),q1.bd⟩
 ·rw [hjl] at hi hj
  unfold l2J
  intro k a c
  by_cases e1:i=t
  ·rw [if_pos e1] at a;exact a
  by_cases e2:j=t
  ·rw [if_pos e2] at c;exact c
  rw [if_neg e1] at a
  rw [if_neg e2] at c
  by_cases e3:i=b
  ·rw [if_pos e3] at a
   rw [if_neg (by omega)] at c
   exact (hlo j hj (by omega) e2).2.1 k c a
  rw [if_neg e3] at a
  by_cases e4:j=b
  ·rw [if_pos e4] at c
   exact (hlo i hi e3 e1).2.1 k a c
  rw [if_neg e4] at c
  exact hhD i j hi hj hij k a c
 rw [hjl] at hi
 unfold l2J
 intro k a c
 by_cases e1:i=t
 ·rw [if_pos e1] at c;exact c
 rw [if_neg e1] at c
 by_cases e2:i=b
 ·rw [if_pos e2] at c;exact hob k a c
 rw [if_neg e2] at c
 exact (hlo i hi e2 e1).2.2 k a c

inductive PathT (f:FunL):Nat→Prop
 | zero:PathT f 0
 | step {a b:Nat}:PathT f a→a<f.blocks.length→(b:Int)∈tosB f.blocks a→PathT f b
theorem FunS.reach {f:FunL} (h:FunS f) {b:Nat}:b∈jR f.blocks↔PathT f b:=by
 have hc:=h.ordC
 constructor
 ·intro hb
  have key:∀(n i:Nat) (hi:i<(jR f.blocks).length),i<n→PathT f (jR f.blocks)[i]:=by
   intro n
   induction n with
   | zero=>intro i _ h;omega
   | succ n ih=>
    intro i hi hn
    by_cases e:(jR f.blocks)[i]=0
    ·rw [e];exact .zero
    obtain ⟨j,hj,hji,hm⟩:=h.ord.par i hi e
    exact .step (ih j hj (by omega)) (hc.inb _ (List.getElem_mem hj)) hm
  obtain ⟨i,hi,rfl⟩:=List.mem_iff_getElem.1 hb
  exact key (i+1) i hi (by omega)
 intro hp
 induction hp with
 | zero=>exact hc.pos.2.2
 | step _ _ hm ih=>
  have:=hc.closed _ ih _ hm
  simpa using this
theorem yp {nf:Nat} {P:Nat→Int} {f:FunL} (h:FunC nf P f):(zh f).blocks.length=f.blocks.length:=by
 unfold zh
 have key:∀(l:List Nat) (g:FunL) (c:Nat),(∀b∈l,b<f.blocks.length)→FunC nf P g→g.blocks.length=f.blocks.length→(l.foldl (fun g b=>zj c g b) g).blocks.length=f.blocks.length:=by
  intro l
  induction l with
  | nil=>intro g c _ _ h;exact h
  | cons b l ih=>
   intro g c hl hg hn
   have hb:b<g.blocks.length:=by rw [hn];exact hl b (.head _)
   obtain ⟨h1,h2⟩:=hg.chain c hb
   exact ih _ c (fun x hx=>hl x (.tail _ hx)) h1 (h2.trans hn)
 exact key _ f _ (fun b hb=>List.mem_range.1 hb) h rfl
theorem v6 {c:Nat} {f:FunL} {b:Nat} (h:ZR f b=none):zj c f b=f:=by
 cases c with
 | zero=>rfl
 | succ c=>unfold zj;rw [h]

def EndLike (x y:EndL):Prop:=x.kind=y.kind∧x.onr=y.onr∧(x.onr=false→x.onn=y.onn)
theorem EndLike.refl (x:EndL):EndLike x x:=⟨rfl,rfl,fun _=>rfl⟩
theorem EndLike.trans {x y z:EndL} (h:EndLike x y) (g:EndLike y z):EndLike x z:=⟨h.1.trans g.1,h.2.1.trans g.2.1,fun e=>(h.2.2 e).trans (g.2.2 (h.2.1.symm.trans e))⟩
def EndsIn (f g:FunL):Prop:=∀b,b<f.blocks.length→(atF f b).fin.kind=3→∃c,c<g.blocks.length∧EndLike (atF f b).fin (atF g c).fin
theorem EndsIn.trans {f g h:FunL} (a:EndsIn f g) (b:EndsIn g h):EndsIn f h:=fun x hx hk=>by
 obtain ⟨c,hc,e⟩:=a x hx hk
 obtain ⟨d,hd,e2⟩:=b c hc (e.1.symm.trans hk)
 exact ⟨d,hd,e.trans e2⟩
theorem EndsIn.refl (f:FunL):EndsIn f f:=fun x hx _=>⟨x,hx,.refl _⟩
theorem ends_name (f:FunL):EndsIn (ja f) f:=fun b hb _=>by
 have hb':b<f.blocks.length:=by rw [←xw f];exact hb
 refine ⟨b,hb',?_⟩
 rw [qN hb,qN hb',XC hb]
 refine ⟨rfl,rfl,fun e=>?_⟩
 show (xk _ (_,_)).2=_
 unfold xk
 rw [if_neg]
 have e:f.blocks[b].fin.onr=false:=e
 simp [e]
theorem JE {f:FunL} {o:List Nat} (ho:OrdC f o):EndsIn (zm o f) f:=fun b hb _=>by
 have hb':b<o.length:=by rw [←zF o f];exact hb
 have hx:=ho.inb _ (List.getElem_mem hb')
 refine ⟨o[b],hx,?_⟩
 rw [qN hb,Xw o f hb']
 exact ⟨rfl,rfl,fun _=>rfl⟩
theorem ends_join {f:FunL} {b t:Nat} (m:MayJ f b t):EndsIn (xB f b t) f:=fun x hx hk=>by
 rw [qW] at hx
 rw [vK hx m.hb m.ht] at hk ⊢
 by_cases e:x=t
 ·rw [if_pos e] at hk;exact absurd hk (by decide)
 rw [if_neg e]
 by_cases e2:x=b
 ·simp only [if_pos e2]
  exact ⟨t,m.ht,.refl _⟩
 simp only [if_neg e2]
 exact ⟨x,hx,.refl _⟩
theorem X0 {nf:Nat} {P:Nat→Int}:∀(c:Nat) {f:FunL} {b:Nat},FunC nf P f→b<f.blocks.length→EndsIn (zj c f b) f
 | 0,_,_,_,_=>.refl _
 | c+1,f,b,h,hb=>by
  unfold zj
  cases e:ZR f b with
  | none=>exact .refl _
  | some t=>
   have hm:=mayJ h hb e
   exact (X0 c (h.join hm) (by rw [qW];exact hb)).trans (ends_join hm)
theorem Vu {nf:Nat} {P:Nat→Int} {f:FunL} (h:FunC nf P f):EndsIn (zh f) f:=by
 unfold zh
 have key:∀(l:List Nat) (g:FunL) (c:Nat),(∀b∈l,b<f.blocks.length)→FunC nf P g→g.blocks.length=f.blocks.length→EndsIn (l.foldl (fun g b=>zj c g b) g) g:=by
  intro l
  induction l with
  | nil=>intro g c _ _ _;exact .refl _
  | cons b l ih=>
   intro g c hl hg hn
   have hb:b<g.blocks.length:=by rw [hn];exact hl b (.head _)
   obtain ⟨h1,h2⟩:=hg.chain c hb
   exact (ih _ c (fun x hx=>hl x (.tail _ hx)) h1 (h2.trans hn)).trans (X0 c hg hb)
 exact key _ f _ (fun b hb=>List.mem_range.1 hb) h rfl
theorem FunC.tests {nf:Nat} {P:Nat→Int} {f:FunL} (h:FunC nf P f):EndsIn (doT f) f:=by
 have h1:=h.order.chains
 have a:=ends_name (Zy (zh (Zy f)))
 have b:EndsIn (Zy (zh (Zy f))) (zh (Zy f)):=JE h1.funD.toFunS.ordC
 have c:=Vu h.order
 have d:EndsIn (Zy f) f:=JE h.funD.toFunS.ordC
 exact a.trans (b.trans (c.trans d))
theorem FunC.less {nf:Nat} {P:Nat→Int} {f:FunL} (h:FunC nf P f):(doT f).blocks.length≤f.blocks.length∧(zh (Zy f)).blocks.length=(Zy f).blocks.length:=by
 have h1:=h.order.chains
 have e:=yp h.order
 refine ⟨?_,e⟩
 have n1:∀g:FunL,FunD g→(Zy g).blocks.length≤g.blocks.length:=fun g hg=>by
  unfold Zy
  rw [zF]
  exact xM _ _ hg.toFunS.ordC.once hg.toFunS.ordC.inb
 have a:=n1 _ h1.funD
 have b:=n1 _ h.funD
 show (ja (Zy (zh (Zy f)))).blocks.length≤_
 rw [xw]
 omega

def kE (f:FunL) (b gone:Nat):FunL:=
 { f with blocks:=f.blocks.mapIdx fun i x=>
   { phis:=if i=gone then x.phis.map fun p=>{ p with src:=p.src.eraseIdx ((insN f gone).idxOf b) } else x.phis,list:=x.list,fin:=if i=b then ⟨2,false,0,x.fin.to.filter fun t=>decide (t≠(gone:Int))⟩ else x.fin } }
theorem zq (f:FunL) (b gone:Nat):(kE f b gone).blocks.length=f.blocks.length:=by simp [kE]
theorem Zk {f:FunL} {b gone i:Nat} (hi:i<(kE f b gone).blocks.length):(kE f b gone).blocks[i] =
  { phis:=if i=gone then (f.blocks[i]'(by rw [←zq f b gone];exact hi)).phis.map fun p=>{ p with src:=p.src.eraseIdx ((insN f gone).idxOf b) } else (f.blocks[i]'(by rw [←zq f b gone];exact hi)).phis,list:=(f.blocks[i]'(by rw [←zq f b gone];exact hi)).list,fin:=if i=b then ⟨2,false,0,(f.blocks[i]'(by rw [←zq f b gone];exact hi)).fin.to.filter fun t=>decide (t≠(gone:Int))⟩ else (f.blocks[i]'(by rw [←zq f b gone];exact hi)).fin }:=by
 simp [kE]
theorem cut_tos {f:FunL} {b gone:Nat} {i:Nat} (hi:i<f.blocks.length):tosB (kE f b gone).blocks i=if i=b then (tosB f.blocks b).filter (fun t=>decide (t≠(gone:Int))) else tosB f.blocks i:=by
 have h:i<(kE f b gone).blocks.length:=by rw [zq];exact hi
 rw [qP h,Zk h]
 by_cases e:i=b
 ·subst e
  simp only [if_true]
  rw [qP hi]
 simp only [if_neg e]
 rw [qP hi]
structure MayC (f:FunL) (b gone:Nat):Prop where
 hb:b<f.blocks.length
 hg:gone<f.blocks.length
 kind:(f.blocks[b]).fin.kind=3
 «to»:(gone:Int)∈tosB f.blocks b
theorem yq {l:List Int} {g:Int} (hl:l.length=2) (hd:l.Nodup) (hg:g∈l):(l.filter fun t=>decide (t≠g)).length=1:=by
 rcases l with _|⟨x,_|⟨y,_|⟨z,l⟩⟩⟩
 ·simp at hl
 ·simp at hl
 ·have hne:x≠y:=by simpa using hd
  rcases List.mem_cons.1 hg with rfl|hg
  ·have h2:¬ y=g:=fun e=>hne e.symm
   simp [h2]
  rw [List.mem_singleton] at hg
  subst hg
  simp [hne]
 simp at hl
theorem FunD.cut {f:FunL} (hf:FunD f) {b gone:Nat} (_:MayC f b gone):FunD (kE f b gone):=by
 have key:∀k,k<f.blocks.length→(tosB (kE f b gone).blocks k).length≤2∧(∀x∈tosB (kE f b gone).blocks k,1≤x∧x<(f.blocks.length:Int))∧(tosB (kE f b gone).blocks k).Nodup:=fun k hk=>by
  have base:(tosB f.blocks k).length≤2∧(∀x∈tosB f.blocks k,1≤x∧x<(f.blocks.length:Int))∧(tosB f.blocks k).Nodup:=by
   rw [qP hk]
   exact ⟨hf.two k hk,hf.tos k hk,hf.once k hk⟩
  rw [cut_tos hk]
  split
  ·rename_i e
   subst e
   exact ⟨Nat.le_trans (List.length_filter_le _ _) base.1,fun x hx=>base.2.1 x (List.mem_filter.1 hx).1,base.2.2.filter _⟩
  exact base
 refine ⟨⟨by rw [zq];exact hf.n1,by rw [zq];exact hf.n40,fun k hk=>?_,fun k hk=>?_⟩,fun k hk=>?_⟩
 ·rw [←qP hk];exact (key k (by rw [←zq f b gone];exact hk)).1
 ·rw [←qP hk,zq];exact (key k (by rw [←zq f b gone];exact hk)).2.1
 rw [←qP hk];exact (key k (by rw [←zq f b gone];exact hk)).2.2
theorem cut_ins {f:FunL} (hf:FunD f) {b gone:Nat} (m:MayC f b gone) {i a:Nat}:a∈insN (kE f b gone) i↔a∈insN f i∧¬(i=gone∧a=b):=by
 rw [(hf.cut m).mem,zq,hf.mem]
 by_cases ha:a<f.blocks.length
 ·rw [cut_tos ha]
  by_cases e:a=b
  ·subst e
   rw [if_pos rfl,List.mem_filter]
   by_cases e2:i=gone
   ·subst e2;simp
   have:(i:Int)≠gone:=by omega
   simp [ha,e2,this]
  rw [if_neg e]
  simp [e]
 simp [ha]
theorem FunC.cut {nf:Nat} {P:Nat→Int} {f:FunL} (h:FunC nf P f) {b gone:Nat} (m:MayC f b gone):FunC nf P (kE f b gone):=by
 have hf:=h.funD
 have hg:=hf.cut m
 have hbg:b∈insN f gone:=hf.mem.2 ⟨m.hb,m.to⟩
 have e1:insN (kE f b gone) gone=(insN f gone).filter fun a=>decide (a≠b):=Kl (xN hg gone) ((xN hf gone).filter _) fun a=>by
  rw [cut_ins hf m,List.mem_filter]
  simp
 have e2:∀i,i≠gone→insN (kE f b gone) i=insN f i:=fun i hi=>Kl (xN hg i) (xN hf i) fun a=>by
  rw [cut_ins hf m]
  simp [hi]
 have e3:(insN (kE f b gone) gone).length=(insN f gone).length - 1:=by
  rw [e1,←Jv (hf.insD gone),List.length_eraseIdx,if_pos (xE hbg).1]
 have many:xA (kE f b gone)=xA f:=by
  unfold xA kE
  congr 1
  refine List.ext_getElem (by simp) fun i h1 h2=>?_
  simp only [List.getElem_map,List.getElem_mapIdx]
  congr 1
  split<;>simp
 refine ⟨hg.n1,hg.n40,h.par,h.reg,by rw [many];exact h.many,fun i hi=>?_,fun i hi p hp=>?_,fun i hi x hx=>?_⟩
 ·have hi':i<f.blocks.length:=by rw [←zq f b gone];exact hi
  have hk:=hg.tos i hi
  have hk2:=hg.once i hi
  have ho:=h.fin i hi'
  by_cases e:i=b
  ·subst e
   rw [Zk hi] at hk hk2 ⊢
   simp only [if_true] at hk hk2 ⊢
   have hl:=ho.len
   rw [m.kind] at hl
   have hto:=m.to
   rw [qP hi'] at hto
   refine ⟨⟨by show (1:Int)≤2;decide,by show (2:Int)≤3;decide⟩,?_,hk,hk2,fun _=>⟨rfl,rfl⟩,fun e=>by cases e⟩
   show (((f.blocks[i].fin.to).filter _).length:Int)=2 - 1
   rw [yq (by omega) (h.fin i hi').two hto]
   rfl
  rw [Zk hi]
  simp only [if_neg e]
  have hl:=zq f b gone
  exact ⟨ho.kind,ho.len,fun t ht=>by have:=ho.to t ht;omega,ho.two,ho.jump,ho.on⟩
 ·have hi':i<f.blocks.length:=by rw [←zq f b gone];exact hi
  rw [Zk hi] at hp
  by_cases e:i=gone
  ·subst e
   simp only [if_true] at hp
   obtain ⟨q,hq,rfl⟩:=List.mem_map.1 hp
   have hc:=h.phi i hi' q hq
   refine ⟨hc.blk,hc.dst,?_,fun v hv=>hc.src v (List.mem_of_mem_eraseIdx hv)⟩
   show (q.src.eraseIdx _).length=_
   rw [List.length_eraseIdx,if_pos (by rw [hc.len];exact (xE hbg).1),e3,hc.len]
  simp only [if_neg e] at hp
  rw [e2 i e]
  exact h.phi i hi' p hp
 have hi':i<f.blocks.length:=by rw [←zq f b gone];exact hi
 rw [Zk hi] at hx
 exact h.ins i hi' x hx
end Go.Proofs.YtbnnhmcloecijaaGreatDoor
