/-
  The contract of tidy.rename.
-/
import Derived.Test.YtecdphhdmjmmnaaGreatDoorJChaA
import Derived.Test.YtecdphhdmjmmnaaGreatDoorJLivB
set_option maxRecDepth 100000
set_option maxHeartbeats 16000000
namespace Go.Proofs.YtecdphhdmjmmnaaGreatDoor
open Go.RowKit

def vJ (V:Nat→Value) (b:Nat) (v:Value) (i:Nat):Value:=if i=b then v else V i
def v2J (V:Nat→Value) (b t:Nat) (v:Value) (i:Nat):Value:=if i=t then .slice none 0 0 else vJ V b v i
def l2J (L:Nat→Blks) (b t:Nat) (Lb:Blks) (i:Nat):Blks:=if i=t then fun _=>False else if i=b then Lb else L i
def backB (g:FunL) (b t:Nat):BlkL:={ phis:=(atF (qM g t b) b).phis,list:=(atF (qM g t b) b).list++(atF (qM g t b) t).list,fin:=(atF (qM g t b) t).fin }
theorem Ja (g:FunL) (b t:Nat):(x8 g b t).blocks=((qM g t b).blocks.set b (backB g b t)).set t kr:=rfl
theorem zipJ {V:Nat→Value} {b t:Nat} {v:Value} {bs:List BlkL} {x y:BlkL} (h:t≠b):((jI (vJ V b v) bs).set b (v,x)).set t (.slice none 0 0,y)=jI (v2J V b t v) ((bs.set b x).set t y):=by
 refine List.ext_getElem (by simp[jI]) fun k h1 h2=>?_
 rw[xt h2,List.getElem_set,List.getElem_set,List.getElem_set,List.getElem_set]
 by_cases e:t=k
 ·subst e
  rw[if_pos rfl,if_pos rfl]
  simp[v2J]
 rw[if_neg e,if_neg e]
 by_cases e2:b=k
 ·subst e2
  rw[if_pos rfl,if_pos rfl]
  simp[v2J,vJ,Ne.symm h]
 rw[if_neg e2,if_neg e2,xt]
 simp[v2J,vJ,Ne.symm e,Ne.symm e2]
theorem zipV_vJ {V:Nat→Value} {b:Nat} {v:Value} {bs:List BlkL} (h:b<bs.length):(jI V bs).set b (v,bs[b])=jI (vJ V b v) bs:=by
 refine List.ext_getElem (by simp[jI]) fun k h1 h2=>?_
 rw[xt h2,List.getElem_set]
 by_cases e:b=k
 ·subst e
  rw[if_pos rfl]
  simp[vJ]
 rw[if_neg e,xt]
 simp[vJ,Ne.symm e]
theorem rowN_swap {w:World} {gq c:Nat} {bs:List BlkL} {V:Nat→Value} {N:Blks} (h:SlO 48 6 JG w (.slice (some ⟨gq,0,none⟩) bs.length c) (jI V bs) N) {b:Nat} (hb:b<bs.length) {p:Option Addr} {l k:Nat}:SlO 48 6 JG (w.setCell ⟨gq,b*6+1,none⟩ (.slice p l k)) (.slice (some ⟨gq,0,none⟩) bs.length c) (jI (vJ V b (.slice p l k)) bs) N:=by
 have hbz:b<(jI V bs).length:=by rw[zW];exact hb
 obtain⟨g,cc,cs,T,hgv,hg,hS,hl,hx,hT,hTS,hc,hf,_,put⟩:=h.inner jp (by omega) hbz
 have hgg:g=gq:=by
  injection hgv with a _ _
  injection a with a
  injection a with a
  exact a.symm
 subst hgg
 rw[xt hbz]at hx
 have h1:=put w (.slice p l k,bs[b]) T 1 (.slice p l k) (by omega) rfl (Kept.refl _ _) (by
  obtain⟨v1,v3,S1,S3,rfl,_,j1,j2,h3,h5,a2,g1,g3⟩:=hx
  exact⟨v1,v3,S1,S3,rfl,⟨_,_,_,rfl⟩,j1,j2,h3.loc zq g1 (fun k hk=>Go.Deep.blk_setCell_other _ _ _ k (fun e=>hT (by rw[←show k=g from e];exact hk))) (by simp[World.setCell]),h5.loc qT g3 (fun k hk=>Go.Deep.blk_setCell_other _ _ _ k (fun e=>hT (by rw[←show k=g from e];exact hk))) (by simp[World.setCell]),a2,g1,g3⟩) (fun k hk=>⟨.inl hk,h.inb k (hTS k hk)⟩)
 rw[zipV_vJ hb]at h1
 exact h1.grow (fun k hk=>hk.elim id (hTS k)) (h.inb.mono (by simp[World.setCell]))
def four (w:World) (g o:Nat) (a2 a3 a4 a5:Value):World:=(((w.setCell ⟨g,o+2,none⟩ a2).setCell ⟨g,o+2+1,none⟩ a3).setCell ⟨g,o+2+2,none⟩ a4).setCell ⟨g,o+2+3,none⟩ a5
theorem four_kept (w:World) (g o:Nat) (a2 a3 a4 a5:Value):Kept (fun i=>i=g) w (four w g o a2 a3 a4 a5):=by
 unfold four
 have h0:Kept (fun i=>i=g) w w:=Kept.refl _ w
 have h3:=h0.setCell (p:=⟨g,o+2,none⟩) rfl a2
 have h4:=h3.setCell (p:=⟨g,o+2+1,none⟩) rfl a3
 have h5:=h4.setCell (p:=⟨g,o+2+2,none⟩) rfl a4
 exact h5.setCell (p:=⟨g,o+2+3,none⟩) rfl a5
theorem RowPut.four {w w1:World} {e:TypeId} {g o:Nat} {c0 c1 c2 c3 c4 c5:Value} (h:RowPut w w1 e g o 6 [c0,c1,c2,c3,c4,c5]) (a2 a3 a4 a5:Value):RowPut w (Go.Proofs.YtecdphhdmjmmnaaGreatDoor.four w1 g o a2 a3 a4 a5) e g o 6 [c0,c1,a2,a3,a4,a5]:=by
 have h2:=RowPut.set h rfl (j:=2) (by omega) a2
 simp only[List.set_cons_succ,List.set_cons_zero]at h2
 have h3:=RowPut.set h2 rfl (j:=3) (by omega) a3
 simp only[List.set_cons_succ,List.set_cons_zero]at h3
 have h4:=RowPut.set h3 rfl (j:=4) (by omega) a4
 simp only[List.set_cons_succ,List.set_cons_zero]at h4
 have h5:=RowPut.set h4 rfl (j:=5) (by omega) a5
 simp only[List.set_cons_succ,List.set_cons_zero]at h5
 unfold Go.Proofs.YtecdphhdmjmmnaaGreatDoor.four
 exact h5
theorem ChS.joined {w2 wa wf:World} {gq c:Nat} {g:FunL} {V:Nat→Value} {N:Blks} {L:Nat→Blks} {b t:Nat} {v' v1b v3t:Value} {Lb:Blks} (hb:b<g.blocks.length) (ht:t<g.blocks.length) (hne:t≠b)
  (hrow:SlO 48 6 JG w2 (.slice (some ⟨gq,0,none⟩) g.blocks.length c) (jI (vJ V b v') (qM g t b).blocks) N)
  (hlb:SlQ 53 8 80 InsO w2 v' ((atF g b).list++(atF g t).list) Lb) (hob:Apart N Lb) (hlo:∀i (hi:i<g.blocks.length),i≠b→i≠t→SlQ 53 8 80 InsO w2 (V i) g.blocks[i].list (L i)∧Apart (L i) Lb∧Apart N (L i))
  (hgK:∀i j,i<g.blocks.length→j<g.blocks.length→i≠j→Apart (L i) (L j))
  (hv1:w2.cell? ⟨gq,b*6,none⟩=some v1b) (hv3:w2.cell? ⟨gq,t*6+5,none⟩=some v3t)
  (p1:RowPut w2 wa 48 gq (b*6) 6 [v1b,v',.int .i64 (atF g t).fin.kind,.bool (atF g t).fin.onr,.int .i64 (atF g t).fin.onn,v3t])
  (p2:RowPut wa wf 48 gq (t*6) 6 [.slice none 0 0,.slice none 0 0,.int .i64 1,.bool false,.int .i64 0,.slice none 0 0])
  (hk:Kept (fun k=>k=gq) w2 wf):ChS wf gq c (x8 g b t).blocks (v2J V b t v') N (l2J L b t Lb):=by
 have hrl:(qM g t b).blocks.length=g.blocks.length:=vF g b t
 have hjl:(x8 g b t).blocks.length=g.blocks.length:=qK g b t
 obtain⟨cs,T,hW⟩:=hrow
 have hzl:(jI (vJ V b v') (qM g t b).blocks).length=g.blocks.length:=by rw[zW,hrl]
 have hbz:b<(jI (vJ V b v') (qM g t b).blocks).length:=by rw[hzl];exact hb
 have htz:t<(jI (vJ V b v') (qM g t b).blocks).length:=by rw[hzl];exact ht
 have hbr:b<(qM g t b).blocks.length:=by rw[hrl];exact hb
 have htr:t<(qM g t b).blocks.length:=by rw[hrl];exact ht
 have hgN:N gq:=hW.blk gq rfl
 have eb:=hW.el b hbz
 have et:=hW.el t htz
 rw[xt hbz]at eb
 rw[xt htz]at et
 obtain⟨x1,x3,A1,A3,hcb,_,_,_,h3b,_,_,g1b,_⟩:=eb
 obtain⟨y1,y3,B1,B3,hct,_,k1t,k2t,_,h5t,_,_,g3t⟩:=et
 have e1:v1b=x1:=by
  obtain⟨g',c',e,_,_,hc⟩:=hW.cell hbz
  have hgg:g'=gq:=by
   injection e with a _ _
   injection a with a
   injection a with a
   exact a.symm
  subst hgg
  have:=hc 0 (by omega)
  rw[Nat.add_zero,hv1,hcb]at this
  exact Option.some.inj this
 have e3:v3t=y3:=by
  obtain⟨g',c',e,_,_,hc⟩:=hW.cell htz
  have hgg:g'=gq:=by
   injection e with a _ _
   injection a with a
   injection a with a
   exact a.symm
  subst hgg
  have:=hc 5 (by omega)
  rw[hv3,hct]at this
  exact Option.some.inj this
 subst e1 e3
 dsimp only at h3b h5t k1t k2t
 have hfb:atF (qM g t b) b=(qM g t b).blocks[b]:=qG hbr
 have hft:atF (qM g t b) t=(qM g t b).blocks[t]:=qG htr
 have hra:=jV (f:=g) (b:=b) (t:=t) hb
 have hrt:=jV (f:=g) (b:=b) (t:=t) ht
 have hfin:(atF (qM g t b) t).fin=(atF g t).fin:=by rw[hrt]
 have hA1:∀k,A1 k→k≠gq∧k<w2.heap.size:=fun k hk2=>⟨fun e=>hW.off b hbz gq rfl (by rw[←e];exact g1b k hk2),h3b.sl.inb k hk2⟩
 have hB3:∀k,B3 k→k≠gq∧k<w2.heap.size:=fun k hk2=>⟨fun e=>hW.off t htz gq rfl (by rw[←e];exact g3t k hk2),h5t.sl.inb k hk2⟩
 obtain⟨pv,lv,cv,hvs⟩:∃p l c,v' = .slice p l c:=by
  obtain⟨p,c,h,_⟩:=hlb.sl.val
  exact⟨p,_,c,h⟩
 have hput:=hW.put2 (w1:=wa) (w2:=wf) (xi:=(v',backB g b t)) (xj:=(.slice none 0 0,kr)) (Ti:=fun k=>A1 k∨B3 k) (Tj:=fun _=>False) jp (by omega) rfl hbz htz (Ne.symm hne) p1 p2 rfl rfl (fun u hu=>by
   obtain⟨_,_,r1,_⟩:=h3b.sl.val
   obtain⟨_,_,r3,_⟩:=h5t.sl.val
   simp only[List.mem_cons,List.not_mem_nil,or_false]at hu
   rcases hu with rfl|rfl|rfl|rfl|rfl|rfl
   ·rw[r1];rfl
   ·rw[hvs];rfl
   ·rfl
   ·rfl
   ·rfl
   ·rw[r3];rfl) (fun u hu=>by
   simp only[List.mem_cons,List.not_mem_nil,or_false]at hu
   rcases hu with rfl|rfl|rfl|rfl|rfl|rfl<;>rfl) hk.size (fun k h1 _ _ h4=>hk.block k (hW.inb k h1) h4)
  ⟨v1b,v3t,A1,B3,by rw[←hfin];rfl,⟨pv,lv,cv,hvs⟩,by
    show I64 (atF (qM g t b) t).fin.kind
    rw[hft];exact k1t,by
    show I64 (atF (qM g t b) t).fin.onn
    rw[hft];exact k2t,by
    show SlQ _ _ _ _ _ _ (atF (qM g t b) b).phis _
    rw[hfb];exact⟨h3b.sl.kept zq hk (fun k a b=>(hA1 k b).1 a),h3b.bd⟩,by
    show SlQ _ _ _ _ _ _ (atF (qM g t b) t).fin.to _
    rw[hft];exact⟨h5t.sl.kept qT hk (fun k a b=>(hB3 k b).1 a),h5t.bd⟩,fun k a c=>hW.two b t hbz htz (Ne.symm hne) k (g1b k a) (g3t k c),fun _ h=>.inl h,fun _ h=>.inr h⟩
  ⟨.slice none 0 0,.slice none 0 0,fun _=>False,fun _=>False,rfl,⟨none,0,0,rfl⟩,by show I64 1;unfold I64;omega,by show I64 0;unfold I64;omega,⟨SlO.nil _ _ _ _ (fun _ h=>h.elim),by simp[kr]⟩,⟨SlO.nil _ _ _ _ (fun _ h=>h.elim),by simp[kr]⟩,fun _ h _=>h.elim,fun _ h=>h.elim,fun _ h=>h.elim⟩
  (fun _ _ h=>h) (fun k h=>⟨h.elim (fun h=>.inl (g1b k h)) (fun h=>.inr (.inl (g3t k h))),Nat.lt_of_lt_of_le (h.elim (fun h=>(hA1 k h).2) (fun h=>(hB3 k h).2)) hk.size⟩) (fun k h=>h.elim)
 rw[zipJ hne,←Ja]at hput
 refine⟨?_,fun i hi=>?_,fun i j hi hj hij=>?_,fun i hi=>?_⟩
 ·rw[hjl]
  exact hput.grow (fun k h=>h.elim id fun h=>h.elim (fun h=>h.elim (fun h=>hW.sub b hbz k (g1b k h)) (fun h=>hW.sub t htz k (g3t k h))) (fun h=>h.elim)) (fun k h=>Nat.lt_of_lt_of_le (hW.inb k h) hk.size)
 ·have hi2:i<g.blocks.length:=by rw[←hjl];exact hi
  have hj:=jW (f:=g) hi2 hb ht
  rw[qG hi]at hj
  rw[hj]
  by_cases e1:i=t
  ·subst e1
   simp only[v2J,l2J,if_true]
   exact⟨SlO.nil _ _ _ _ (fun _ h=>h.elim),by simp[kr]⟩
  by_cases e2:i=b
  ·subst e2
   simp only[v2J,l2J,vJ,if_neg e1,if_true]
   exact⟨hlb.sl.kept qH hk (fun k a c=>hob k (by rw[a];exact hgN) c),hlb.bd⟩
  obtain⟨q1,q2,q3⟩:=hlo i hi2 e2 e1
  simp only[v2J,l2J,vJ,if_neg e1,if_neg e2]
  rw[qG hi2]
  exact⟨q1.sl.kept qH hk (fun k a c=>q3 k (by rw[a];exact hgN) c),q1.bd⟩
 ·rw[hjl]at hi hj
  unfold l2J
  intro k a c
  by_cases e1:i=t
  ·rw[if_pos e1]at a;exact a
  by_cases e2:j=t
  ·rw[if_pos e2]at c;exact c
  rw[if_neg e1]at a
  rw[if_neg e2]at c
  by_cases e3:i=b
  ·rw[if_pos e3]at a
   rw[if_neg (by omega)]at c
   exact(hlo j hj (by omega) e2).2.1 k c a
  rw[if_neg e3]at a
  by_cases e4:j=b
  ·rw[if_pos e4]at c
   exact(hlo i hi e3 e1).2.1 k a c
  rw[if_neg e4]at c
  exact hgK i j hi hj hij k a c
 rw[hjl]at hi
 unfold l2J
 intro k a c
 by_cases e1:i=t
 ·rw[if_pos e1]at c;exact c
 rw[if_neg e1]at c
 by_cases e2:i=b
 ·rw[if_pos e2]at c;exact hob k a c
 rw[if_neg e2]at c
 exact(hlo i hi e2 e1).2.2 k a c

theorem idxN_at {xs:List Nat} {x k:Nat} (hk:k<xs.length) (h:xs[k]=x) (hv:∀j (h:j<xs.length),j<k→xs[j]≠x):xs.idxOf x=k:=by
 have h1:xs.idxOf x<xs.length:=List.idxOf_lt_length_iff.2 (h ▸ List.getElem_mem hk)
 have h2:xs[xs.idxOf x]=x:=List.getElem_idxOf h1
 rcases Nat.lt_trichotomy (xs.idxOf x) k with g|g|g
 ·exact absurd h2 (hv _ h1 g)
 ·exact g
 have:=List.not_of_lt_findIdx (p:=(· == x)) (xs:=xs) (i:=k) g
 simp[h]at this
theorem Kh (xs:List Nat) (b c x:Nat) (w:World) (hn:xs.length≤9223372036854775807) (hc:∀i (h:i<xs.length),w.cell? ⟨b,i,none⟩=some (.int .i64 (xs[i]:Int))) (hx:x∈xs) :
  Calls Tryz.prog 124 #[.slice (some ⟨b,0,none⟩) xs.length c,.int .i64 x] w fun e w'=>e = .returned (.int .i64 (xs.idxOf x))∧w'=w:=by
 have HX:=q7 hx
 have HC:=q7 hc
 clear hx hc
 go_enter Tryz.func124,Tryz.ntmps124
 go_wp2
 go_loop [8] (fun i=>∃k:Nat,k≤xs.length∧i = .int .i64 k∧∀j (h:j<xs.length),j<k→xs[j]≠x) (fun i=>xs.length - (intOf i).toNat)
 case atStart=>exact⟨0,by omega,rfl,fun j _ hj=>by omega⟩
 case round=>
  obtain⟨k,hk,rfl,hV⟩:=hrel
  have HV:=q7 hV
  clear hV
  by_cases hlt:k<xs.length
  rotate_left
  ·exfalso
   obtain⟨j,hj,e⟩:=List.mem_iff_getElem.1 HX.out
   exact HV.out j hj (by omega) e
  have c0:=HC.out k hlt
  have Hlt:=q7 hlt
  by_cases he:xs[k]=x
  ·have HE:=q7 he
   have hq:((x:Int) == (xs[k]:Int))=true:=by simp[he]
   clear he
   go_wp2
   go_ret
   refine⟨?_,rfl⟩
   rw[idxN_at Hlt.out HE.out HV.out]
   rfl
  have HE:=q7 he
  have hq:((x:Int) == (xs[k]:Int))=false:=by simp;omega
  clear he
  go_wp2
  refine⟨⟨k+1,by omega,by go_num,fun j h1 hj=>?_⟩,by simp[intOf];omega⟩
  by_cases hj2:j<k
  ·exact HV.out j h1 hj2
  obtain rfl:j=k:=by omega
  exact HE.out
end Go.Proofs.YtecdphhdmjmmnaaGreatDoor
namespace Go.Proofs.YtecdphhdmjmmnaaGreatDoor
open Go.RowKit Go.Shelf

theorem Ki (f:FunL) (hD:FunD f) (old now B gq e1:Nat) (V:Nat→Value) (w:World) (N:Blks) (hold:old<f.blocks.length) (_hnow:now<f.blocks.length)
  (hd8:∀t:Nat,(t:Int)∈(atF f old).fin.to→∀p∈(atF f t).phis,p.src.length=(insN f t).length) (hself:(old:Int)∉(atF f old).fin.to)
  (hF:w.heap[B]?=some (.cells #[.string f.name,.int .i64 f.params,.int .i64 f.regs,.slice (some ⟨gq,0,none⟩) f.blocks.length e1] 37 (0,0))) (hBN:¬ N B) (hN:SlO 48 6 JG w (.slice (some ⟨gq,0,none⟩) f.blocks.length e1) (jI V f.blocks) N) :
  Calls Tryz.prog 102 #[.pointer (some ⟨B,0,none⟩),.int .i64 old,.int .i64 now] w fun e w'=>e = .returned (.tuple #[])∧
   SlO 48 6 JG w' (.slice (some ⟨gq,0,none⟩) f.blocks.length e1) (jI V (qM f old now).blocks) N∧Kept (fun g=>N g∧g≠gq) w w':=by
 have haA:=hD.n40
 obtain⟨cs,T,hW⟩:=hN
 have hlz:(jI V f.blocks).length=f.blocks.length:=zW _ _
 have hwg:∀b,b<f.blocks.length→N gq∧gq<w.heap.size∧∀j,j<6→w.cell? ⟨gq,b*6+j,none⟩=(cs b)[j]?:=fun b hb=>by
  obtain⟨g',c',e,h1,h2,h3⟩:=hW.cell (i:=b) (by rw[hlz];exact hb)
  have hgg:g'=gq:=by
   injection e with a _ _
   injection a with a
   injection a with a
   exact a.symm
  rw[hgg]at h1 h2 h3
  exact⟨h1,h2,h3⟩
 have hmR:=(hwg old hold).1
 have hgL:=(hwg old hold).2.1
 obtain⟨fb,ff⟩:=blk hF
 have fb0:=fb 0
 have fb1:=fb 1
 have fb2:=fb 2
 have fb3:=fb 3
 simp only[List.getElem?_toArray,List.getElem?_cons_zero,List.getElem?_cons_succ]at fb0 fb1 fb2 fb3
 have fz:=q9 hF
 have HD:=q7 hD
 have HW:=q7 hW
 have HWg:=q7 hwg
 have HF:=q7 hF
 have HBN:=q7 hBN
 have hqR:=q7 hd8
 have hjw:=q7 hself
 have HGN:=q7 hmR
 clear hD hW hwg hF hBN hd8 hself fb hlz hmR
 go_enter Tryz.func102,Tryz.ntmps102
 go_wp2_with fail
 refine(xK f.name f.params f.regs gq 0 e1 f.blocks.length (kL f) w haA (fun i hi=>blkAtN HW.out (Below.refl _ w) i hi) HD.out.toFunS.tosD).mono ?_
 rintro e W1 ⟨⟨tf,rfl,ham⟩,hb1⟩
 have HAh:=q7 (AheadIn.of ham)
 obtain⟨T1,hT1⟩:∃T1,T1=w.heap.size+1:=⟨_,rfl⟩
 rw[←hT1]at HAh ⊢
 have hz1:=hb1.size
 have hpP:w.heap.size<T1:=by omega
 have hF1:W1.heap[B]?=some (.cells #[.string f.name,.int .i64 f.params,.int .i64 f.regs,.slice (some ⟨gq,0,none⟩) f.blocks.length e1] 37 (0,0)):=(hb1.block _ fz).trans HF.out
 have hlz:(jI V f.blocks).length=f.blocks.length:=zW _ _
 have hoz:old<(jI V f.blocks).length:=by rw[hlz];exact hold
 have hjx:JG W1 (cs old) (V old,f.blocks[old]) (T old):=by
  have:=HW.out.el old hoz
  rw[xt hoz]at this
  exact jp _ _ _ _ _ this (fun g hg=>hb1.block g (HW.out.inb g (HW.out.sub old hoz g hg))) hb1.size
 obtain⟨v1,v3,S1,S3,hcs,⟨pl,ll,cl,hvl⟩,_,_,h3,h5,a2,g1,g3⟩:=hjx
 obtain⟨q1,d1,rfl,_⟩:=h3.sl.val
 obtain⟨q3,d3,rfl,_⟩:=h5.sl.val
 dsimp only at hcs hvl h3 h5
 rw[hvl]at hcs
 have hce:∀j,j<6→W1.cell? ⟨gq,old*6+j,none⟩=(cs old)[j]?:=fun j hj=>(hb1.cell (p:=⟨gq,old*6+j,none⟩) hgL).trans ((HWg.out old hold).2.2 j hj)
 rw[hcs]at hce
 have c0:=hce 0 (by omega)
 have c1:=hce 1 (by omega)
 have c2:=hce 2 (by omega)
 have c3:=hce 3 (by omega)
 have c4:=hce 4 (by omega)
 have c5:=hce 5 (by omega)
 simp only[List.getElem?_cons_zero,List.getElem?_cons_succ,Nat.add_zero]at c0 c1 c2 c3 c4 c5
 obtain⟨tos,haW⟩:∃tos,tos=f.blocks[old].fin.to:=⟨_,rfl⟩
 have hat:(atF f old).fin.to=tos:=by rw[qG hold,haW]
 rw[←haW]at h5 c5
 have htr:=h5.read (R':=xC) qT (by omega) fun _ _ _ h=>h
 have hts:SliceAt W1 1 xC q3 tos:=by
  obtain⟨_,_,e,_,_,h⟩:=htr.outC
  cases e
  exact h
 have htb:∀t∈tos,1≤t∧t<(f.blocks.length:Int):=by rw[haW];exact HD.out.tos old hold
 have htd:tos.Nodup:=by rw[haW];exact HD.out.once old hold
 have ht2:tos.length≤2:=by rw[haW];exact HD.out.two old hold
 have hW1:SlW 48 6 JG W1 (.slice (some ⟨gq,0,none⟩) f.blocks.length e1) (jI V f.blocks) N cs T:=by
  refine⟨⟨HW.out.own.1,?_⟩,HW.out.len,HW.out.one,fun i hi=>jp _ _ _ _ _ (HW.out.el i hi) (fun g hg=>hb1.block g (HW.out.inb g (HW.out.sub i hi g hg))) hb1.size,HW.out.two,HW.out.off,HW.out.blk,HW.out.sub,HW.out.inb.mono hb1.size⟩
  rcases HW.out.own.2 with h1|⟨g,cap,cur,hv,hb,hg,r⟩
  ·exact .inl h1
  exact .inr ⟨g,cap,cur,hv,hb,by rw[hb1.block g (Array.getElem?_eq_some_iff.1 hg).1];exact hg,r⟩
 have heg:∀g,S3 g→T old g:=g3
 have HW1:=q7 hW1
 have HF1:=q7 hF1
 have HTs:=q7 hts
 have HTb:=q7 htb
 have HTd:=q7 htd
 have HAt:=q7 hat
 have HS3:=q7 heg
 have HB1:=q7 hb1
 have hmS:=q7 haW
 clear haW
 have H5:=q7 h5
 have hTN:∀t,t<f.blocks.length→∀g,T t g→N g∧g<w.heap.size∧g≠gq:=fun t ht g hg=>by
  have ht2:t<(jI V f.blocks).length:=by rw[hlz];exact ht
  exact⟨HW.out.sub t ht2 g hg,HW.out.inb g (HW.out.sub t ht2 g hg),fun e=>HW.out.off t ht2 gq rfl (by rw[←e];exact hg)⟩
 have HTN:=q7 hTN
 have hqS:=q7 (fun g (hg:N g)=>HW.out.inb g hg)
 have hlT:=HAh.out.1.2
 have hqT:∀c,c<f.blocks.length→W1.heap.size<W1.heap.size+1:=fun _ _=>by omega
 clear ham hb1 hF1 hts htb htd hat heg hW1 h3 h5 a2 g1 g3 hce hTN htr HW HF hT1 fb0 fb1 fb2 fb3 ff hqT
 obtain⟨gb,gf⟩:=blk HF1.out
 have gb3:=gb 3
 simp only[List.getElem?_toArray,List.getElem?_cons_zero,List.getElem?_cons_succ]at gb3
 have gz:=q9 HF1.out
 clear gb
 have hqU:gq<W1.heap.size:=by omega
 go_wp2_with fail
 obtain⟨KU,hKU⟩:∃KU:Blks,KU=fun g=>N g∧g≠gq∧¬ T old g:=⟨_,rfl⟩
 have hmT:∀g,KU g→N g∧g≠gq∧¬ T old g:=fun g h=>by rw[hKU]at h;exact h
 have hmU:∀g,N g→g≠gq→¬ T old g→KU g:=fun g h1 h2 h3=>by rw[hKU];exact⟨h1,h2,h3⟩
 have HKn:=q7 hmT
 have HKi:=q7 hmU
 clear hKU hmT hmU
 clear c0 c1 c2 c3 c4 c5
 go_loopg [30] tos.length (fun q s30 wr=>∃i:Nat,i≤tos.length∧q=tos.length - i∧s30 = .int .i64 i∧SlW 48 6 JG wr (.slice (some ⟨gq,0,none⟩) f.blocks.length e1) (jI V (XU f old now i)) N cs T∧Kept KU W1 wr)
 case atStart=>exact⟨0,by omega,rfl,rfl,by rw[renK_zero];exact HW1.out,Kept.refl _ _⟩
 case round=>
  obtain⟨wt,hwt⟩:∃wt,wt=wr:=⟨_,rfl⟩
  subst hwt
  obtain⟨i,hi,rfl,rfl,hWi,hKi⟩:=hrel
  have htO:=hKi.size
  have HWi:=q7 hWi
  have hei:=q7 hKi
  clear hWi hKi
  by_cases hil:i<tos.length
  rotate_left
  ·obtain rfl:tos.length=i:=by omega
   go_wp2_with fail
   go_end0
   refine⟨rfl,?_,?_⟩
   ·have h1:=HWi.out
    rw[←HAt.out,renK_full]at h1
    exact⟨cs,T,h1⟩
   exact((Kept.of_below HB1.out).trans hei.out (fun g _ h=>⟨(HKn.out g h).1,(HKn.out g h).2.1⟩))
  obtain⟨g3t,c3t,cs3,T3,hv3,hqV,hmV,_,hx3,_,_,hc3,_⟩:=H5.out.sl.focus qT (by omega) hil
  obtain⟨hjy,_⟩:=hx3
  subst hjy
  have hq3:q3=some ⟨g3t,0,none⟩:=by injection hv3
  subst hq3
  have hqW:=HTb.out _ (List.getElem_mem hil)
  obtain⟨tn,htn⟩:∃tn:Nat,tos[i]=(tn:Int):=⟨tos[i].toNat,by omega⟩
  rw[htn]at hqW hc3
  have htl:tn<f.blocks.length:=by omega
  have htm:(tn:Int)∈tos:=by rw[←htn];exact List.getElem_mem hil
  have hne:tn≠old:=fun e=>by
   subst e
   exact hjw.out (by rw[HAt.out];exact htm)
  have hmW:T old g3t:=HS3.out g3t hmV
  have c0:wt.cell? ⟨g3t,i,none⟩=some (.int .i64 (tn:Int)):=by
   have:=hc3 0 (by omega)
   simp only[Nat.mul_one,Nat.add_zero]at this
   exact(hei.out.cell (p:=⟨g3t,i,none⟩) hqV (fun h=>(HKn.out _ h).2.2 hmW)).trans this
  have htP:g3t<wt.heap.size:=by omega
  obtain⟨hsl,hsu⟩:=renK_succ (now:=now) (f:=f) (old:=old) (i:=i) (t:=tn) (by rw[HAt.out];exact hil) (by simp only[HAt.out];exact htn) (by rw[HAt.out];exact HTd.out) htl
  obtain⟨hsl1,hsl2⟩:=hsl
  obtain⟨x,hxe⟩:∃x,x=f.blocks[tn]:=⟨_,rfl⟩
  obtain⟨ah,hah⟩:∃ah,ah=insN f tn:=⟨_,rfl⟩
  have hzl:tn<(jI V (XU f old now i)).length:=by rw[zW];exact hsl1
  have hel:JG wt (cs tn) (V tn,x) (T tn):=by
   have:=HWi.out.el tn hzl
   rw[xt hzl,hsl2,←hxe]at this
   exact this
  have hoa:old∈ah:=by rw[hah];exact ins_of old tn hold (by rw[zk hold,←qG hold,HAt.out];exact htm)
  have hpl:∀p∈x.phis,p.src.length=ah.length:=fun p hp=>by
   rw[hah]
   exact hqR.out tn (by rw[HAt.out];exact htm) p (by rw[qG htl,←hxe];exact hp)
  have heV:∀a∈ah,a<f.blocks.length:=fun a ha=>row_lt (c:=tn) (by rw[hah]at ha;exact ha)
  have hiL:ah.length≤80:=by rw[hah];exact Vb HD.out.toFunS tn
  obtain⟨rt,rr⟩:=HAh.out.kept hei.out (fun g hg=>.inl (by have:=hqS.out g (HKn.out g hg).1;omega))
  obtain⟨qa,qc,ha0,ha1⟩:=rr tn htl
  rw[←hah]at ha0 ha1
  have hmX:0<ah.length:=List.length_pos_of_mem hoa
  obtain⟨ba,rfl,⟨ha2,ha3⟩,_⟩:=ha1 0 hmX
  have hAc:∀m (h:m<ah.length),wt.cell? ⟨ba,m,none⟩=some (.int .i64 (ah[m]:Nat)):=fun m h=>by
   obtain⟨b',e,_,h2⟩:=ha1 m h
   cases e
   exact h2
  obtain⟨u1,u3,Su1,Su3,hcZ,⟨pu,lu,cu,hvu⟩,hu1,hu2,hu3,hu5,hua,hmY,hmZ⟩:=hel
  obtain⟨qu,du,rfl,_⟩:=hu3.sl.val
  obtain⟨qw,dw,rfl,_⟩:=hu5.sl.val
  dsimp only at hcZ hvu hu1 hu2 hu3 hu5
  have hn5:wt.heap[gq]?=W1.heap[gq]?:=hei.out.block gq hqU (fun h=>(HKn.out _ h).2.1 rfl)
  have hbJ:∀j,j<6→wt.cell? ⟨gq,tn*6+j,none⟩=(cs tn)[j]?:=fun j hj=>(World.cell?_of_block (a:=⟨gq,tn*6+j,none⟩) hn5).trans ((HB1.out.cell (p:=⟨gq,tn*6+j,none⟩) hgL).trans ((HWg.out tn htl).2.2 j hj))
  have d0:=hbJ 0 (by omega)
  rw[hcZ]at d0
  simp only[List.getElem?_cons_zero,Nat.add_zero]at d0
  have hFt:wt.heap[B]?=some (.cells #[.string f.name,.int .i64 f.params,.int .i64 f.regs,.slice (some ⟨gq,0,none⟩) f.blocks.length e1] 37 (0,0)):=(hei.out.block B gz (fun h=>HBN.out (HKn.out _ h).1)).trans HF1.out
  obtain⟨gbt,gft⟩:=blk hFt
  have gb3t:=gbt 3
  simp only[List.getElem?_toArray,List.getElem?_cons_zero,List.getElem?_cons_succ]at gb3t
  have gzt:=q9 hFt
  have hqX:gq<wt.heap.size:=by omega
  have hTr:T1<wt.heap.size:=rt.2
  have HAc:=q7 hAc
  have HAe:=q7 hah
  have HXe:=q7 hxe
  have HOa:=q7 hoa
  have HPl:=q7 hpl
  have HAl:=q7 heV
  have HSu:=q7 hsu
  have HU3:=q7 hu3
  have HU5:=q7 hu5
  have HU:=q7 (And.intro hu1 (And.intro hu2 (And.intro hua (And.intro hmY hmZ))))
  have hqY:=q7 hcZ
  have HVu:=q7 (show ∃p l c,V tn = .slice p l c from⟨pu,lu,cu,hvu⟩)
  have HFt:=q7 hFt
  have HTn:=q7 htn
  have HTt:=q7 (fun g (h:T tn g)=>HTN.out tn htl g h)
  have hn6:∀g,T tn g→¬ T old g:=fun g h h2=>HW1.out.two tn old (by rw[zW];exact htl) (by rw[zW];exact hold) hne g h h2
  have hqZ:=q7 hn6
  have hn7:∀m,m≤ah.length→Ko ah old now m≤m:=fun m hm=>cntR_le _ _ _ hm
  have hr7:=q7 hn7
  have hbu:=hu3.bd
  unfold reachBytes at hbu
  clear hv3 hc3 htm hmW hsl1 hsl2 hsu hxe hah hzl hoa hpl heV rr ha1 hAc hu1 hu2 hu3 hu5 hua hmY hmZ hcZ hvu hn5 hbJ hFt gbt gb3 gf gz htn hmV hn6 hn7
  go_wp2_with fail
  refine(Kh ah ba qc old wt (by omega) (fun m h=>HAc.out m h) HOa.out).mono ?_
  rintro e w' ⟨rfl,hww⟩
  rw[hww]
  clear hww w'
  have hKl:ah.idxOf old<ah.length:=List.idxOf_lt_length_of_mem HOa.out
  obtain⟨K,hK⟩:∃K,K=ah.idxOf old:=⟨_,rfl⟩
  rw[←hK]at hKl ⊢
  have HKe:=q7 hK
  clear hK
  go_wp2_with fail
  go_loopg [10,45] ah.length (fun q s10 s45 wr=>∃m:Nat,m≤ah.length∧q=ah.length - m∧s10 = .int .i64 (Ko ah old now m:Nat)∧s45 = .int .i64 m∧wt=wr)
  case atStart=>exact⟨0,by omega,rfl,rfl,rfl,rfl⟩
  case round=>
   obtain⟨m,hm,rfl,rfl,rfl,rfl⟩:=hrel
   by_cases hml:m<ah.length
   ·have cA:=HAc.out m hml
    have hn1:=hr7.out m hm
    have hst:=cntR_succ (old:=old) (now:=now) hml
    generalize Ko ah old now m=cnt at *
    have HSt:=q7 hst
    clear hst
    generalize ah[m]=am at *
    by_cases h1:am<now
    ·by_cases h2:am=old
     ·have hq:((am:Int) == (old:Int))=true:=by simp[h2]
      have hq2:((am:Int) != (old:Int))=false:=by simp[h2]
      have hl:decide ((am:Int)<(now:Int))=true:=by simp[h1]
      have h9:Ko ah old now (m+1)=cnt:=by rw[HSt.out,if_neg (by omega)];rfl
      have H9:=q7 h9
      clear h9
      go_wp2_with fail
      go_roundg (ah.length - (m+1))
      case measure=>omega
      case rel=>exact⟨m+1,by omega,rfl,by rw[H9.out],by go_num,rfl⟩
     have hq:((am:Int) == (old:Int))=false:=by simp;omega
     have hq2:((am:Int) != (old:Int))=true:=by simp;omega
     have hl:decide ((am:Int)<(now:Int))=true:=by simp[h1]
     have h9:Ko ah old now (m+1)=cnt+1:=by rw[HSt.out,if_pos (by omega)]
     have H9:=q7 h9
     clear h9
     go_wp2_with fail
     go_roundg (ah.length - (m+1))
     case measure=>omega
     case rel=>exact⟨m+1,by omega,rfl,by rw[H9.out];go_num,by go_num,rfl⟩
    have hl:decide ((am:Int)<(now:Int))=false:=by simp;omega
    have h9:Ko ah old now (m+1)=cnt:=by rw[HSt.out,if_neg (by omega)];rfl
    have H9:=q7 h9
    clear h9
    go_wp2_with fail
    go_roundg (ah.length - (m+1))
    case measure=>omega
    case rel=>exact⟨m+1,by omega,rfl,by rw[H9.out],by go_num,rfl⟩
   obtain rfl:m=ah.length:=by omega
   have hsp:=cntR_full ah old now
   rw[hsp]
   have hr8:XH ah old now<ah.length:=by
    unfold XH
    refine List.length_filter_lt_length_iff_exists.2 ⟨old,HOa.out,by simp⟩
   obtain⟨spt,hjA⟩:∃spt,spt=XH ah old now:=⟨_,rfl⟩
   rw[←hjA]at hr8 ⊢
   have HSp:=q7 hjA
   clear hjA hsp
   go_wp2_with fail
   go_loopg [69] x.phis.length (fun q s69 wr=>∃j:Nat,j≤x.phis.length∧q=x.phis.length - j∧s69 = .int .i64 j∧SlO 101 2 PhiO wr (.slice qu x.phis.length du) (zd j (Zl ah old now) x.phis) Su1∧Kept Su1 wt wr)
   case atStart=>exact⟨0,by omega,rfl,rfl,by rw[zD];exact HU3.out.sl,Kept.refl _ _⟩
   case round=>
    obtain⟨ws,hws⟩:∃ws,ws=wr:=⟨_,rfl⟩
    subst hws
    obtain⟨j,hj,rfl,rfl,hP,hKj⟩:=hrel
    have hgI:=hKj.size
    have hSu:∀g,Su1 g→N g∧g<w.heap.size∧g≠gq:=fun g hg=>HTt.out g (HU.out.2.2.2.1 g hg)
    have hFs:ws.heap[B]?=some (.cells #[.string f.name,.int .i64 f.params,.int .i64 f.regs,.slice (some ⟨gq,0,none⟩) f.blocks.length e1] 37 (0,0)):=(hKj.block B gzt (fun h=>HBN.out (hSu B h).1)).trans HFt.out
    have hgs:ws.heap[gq]?=wt.heap[gq]?:=hKj.block gq hqX (fun h=>(hSu gq h).2.2 rfl)
    have d0s:ws.cell? ⟨gq,tn*6,none⟩=some (.slice qu x.phis.length du):=(World.cell?_of_block (a:=⟨gq,tn*6,none⟩) hgs).trans d0
    have HPj:=q7 hP
    have HKj:=q7 hKj
    have hfN:=q7 hSu
    have HFs:=q7 hFs
    clear hP hKj hSu hFs
    by_cases hjl:j<x.phis.length
    rotate_left
    ·obtain rfl:x.phis.length=j:=by omega
     have hPf:=HPj.out
     rw[zr]at hPf
     have hx':JG ws (cs tn) (V tn,{ x with phis:=x.phis.map (Zl ah old now) }) (T tn):=by
      have h0:=hqY.out
      obtain⟨p,l,c,hv⟩:=HVu.out
      refine⟨_,_,Su1,Su3,h0,⟨p,l,c,hv⟩,HU.out.1,HU.out.2.1,⟨?_,?_⟩,⟨HU5.out.sl.kept qT HKj.out (fun g h1 h2=>HU.out.2.2.1 g h1 h2),HU5.out.bd⟩,HU.out.2.2.1,HU.out.2.2.2.1,HU.out.2.2.2.2⟩
      ·show SlO _ _ _ _ (.slice qu x.phis.length du) _ _
       exact hPf
      show(x.phis.map _).length*32≤_
      rw[List.length_map]
      exact HU3.out.bd
     have hW':=HWi.out.innerT jp (i:=tn) (by rw[zW,vI];exact htl) (HKj.out.mono fun g _ h=>HU.out.2.2.2.1 g h) hx'
     rw[zipV_set]at hW'
     have hsu:=HSu.out
     rw[←HXe.out,←HAe.out]at hsu
     rw[hsu]at hW'
     have hK':Kept KU W1 ws:=hei.out.trans HKj.out (fun g _ h=>HKi.out g (hfN.out g h).1 (hfN.out g h).2.2 (hqZ.out g (HU.out.2.2.2.1 g h)))
     have ha7:=q7 (And.intro hW' hK')
     clear hPf hx' hW' hsu hK'
     go_wp2_with fail
     go_roundg (tos.length - (i+1))
     case measure=>omega
     case rel=>exact⟨i+1,by omega,rfl,by go_num,ha7.out.1,ha7.out.2⟩
    have haH:j<(zd j (Zl ah old now) x.phis).length:=by rw[qX];exact hjl
    obtain⟨gp,cp,csp,Tp,hvp,hgp,hcE,heW,hxp,hcG,hcH,haQ,hdJ,⟨curp,haI⟩,putp⟩:=HPj.out.focus zq (by omega) haH
    rw[xm haH (Nat.le_refl _)]at hxp
    obtain⟨p,hpe⟩:∃p,p=x.phis[j]:=⟨_,rfl⟩
    have hpl:p.src.length=ah.length:=HPl.out p (by rw[hpe];exact List.getElem_mem hjl)
    rw[←hpe]at hxp
    obtain⟨vp,rfl,hpd,hps⟩:=hxp
    have hq1:qu=some ⟨gp,0,none⟩:=by injection hvp
    have p0:=haQ 0 (by omega)
    have p1:=haQ 1 (by omega)
    simp only[List.getElem?_cons_zero,List.getElem?_cons_succ,Nat.add_zero]at p0 p1
    obtain⟨hrow,he3,hSb,_⟩:=hps.sl.row
    rw[hpl]at hrow
    obtain⟨gv,cv,cur,rfl,hra,hcn,htk⟩:=Vp hrow hmX
    have hjB:Tp gv:=hSb gv rfl
    have hfO:Su1 gv:=hcH gv hjB
    have hbP:gv≠gp:=fun e=>hcG (by rw[←e];exact hjB)
    have hKs:K<p.src.length:=by rw[hpl];exact hKl
    obtain⟨xv,hxv,hxm⟩:∃xv,xv=p.src.getD K (false,0)∧xv∈p.src:=⟨p.src[K],by simp[List.getD,hKs],List.getElem_mem hKs⟩
    have hvc:ws.cell? ⟨gv,K*2,none⟩=some (.bool xv.1)∧ws.cell? ⟨gv,K*2+1,none⟩=some (.int .i64 xv.2):=by
     obtain⟨gv',_,cs2,T2,e,_,_,_,hx2,_,_,hc2,_⟩:=hps.sl.focus zT (by omega) hKs
     have hgg:gv=gv':=by
      injection e with a _ _
      injection a with a
      injection a with a
     subst hgg
     obtain⟨hcs2,_⟩:=hx2
     rw[hcs2]at hc2
     have h0:=hc2 0 (by omega)
     have h1:=hc2 1 (by omega)
     rw[show xv=p.src[K] by rw[hxv];simp[List.getD,hKs]]
     exact⟨h0,h1⟩
    obtain⟨vc0,vc1⟩:=hvc
    have hr9:gv<ws.heap.size:=by have:=(hfN.out gv hfO).2.1;omega
    have HPd:=q7 hpd
    have HPe:=q7 hpe
    have HXv:=q7 (And.intro hxv hxm)
    have hej:=q7 hpl
    have hek:=q7 he3
    have haG:=q7 putp
    have HCp:=q7 haI
    have hcL:=q7 haQ
    have heX:=q7 hdJ
    have he7:=q7 hcE
    have HTp:=q7 (And.intro hcG (And.intro hcH hSb))
    have HTk:=q7 htk
    have HPs:=q7 hps
    have HRa:=q7 hra
    have hgB:gv≠B:=fun e=>HBN.out (by rw[←e];exact(hfN.out gv hfO).1)
    have hgQ:gv≠gq:=(hfN.out gv hfO).2.2
    have hbp:=hps.bd
    rw[hpl]at hbp
    unfold reachBytes at hbp
    obtain⟨gbs,gfs⟩:=blk HFs.out
    have gb3s:=gbs 3
    simp only[List.getElem?_toArray,List.getElem?_cons_zero,List.getElem?_cons_succ]at gb3s
    have gzs:=q9 HFs.out
    have hrh:gq<ws.heap.size:=by omega
    subst hq1
    clear hvp hpl hpd hps hpe putp hcG hcH haI haQ heW hcE hrow he3 hSb hxv hxm hKs htk hra hjB gbs gb3t gft d0
    go_wp2_with fail
    obtain⟨w7,hw7⟩:∃w7,w7=(ws.alloc (.cells #[.int .i64 p.dst,.slice (some ⟨gv,0,none⟩) ah.length cv] 101)).alloc (.cells #[.bool xv.1,.int .i64 xv.2] 43):=⟨_,rfl⟩
    rw[←hw7]
    have hz7:w7.heap.size=ws.heap.size+1+1:=by rw[hw7];simp
    have hb7:Below ws.heap.size ws w7:=by rw[hw7];exact bZ
    have hY7:w7.heap[ws.heap.size]?=some (.cells #[.int .i64 p.dst,.slice (some ⟨gv,0,none⟩) ah.length cv] 101 (0,0)):=by rw[hw7];exact qj (qh rfl)
    have hV7:w7.heap[ws.heap.size+1]?=some (.cells #[.bool xv.1,.int .i64 xv.2] 43 (0,0)):=by rw[hw7];exact qh (by simp)
    have HB7:=q7 hb7
    clear hw7 hb7 p0 p1 vc0 vc1 hdJ
    obtain⟨Sp,hSp⟩:∃Sp:World→Prop,Sp=fun w'=>w'.heap[B]?=some (.cells #[.string f.name,.int .i64 f.params,.int .i64 f.regs,.slice (some ⟨gq,0,none⟩) f.blocks.length e1] 37 (0,0))∧w'.heap[gq]?=ws.heap[gq]?∧w'.heap[ws.heap.size]?=some (.cells #[.int .i64 p.dst,.slice (some ⟨gv,0,none⟩) ah.length cv] 101 (0,0))∧w'.heap[ws.heap.size+1]?=some (.cells #[.bool xv.1,.int .i64 xv.2] 43 (0,0))∧w'.heap[gp]?=ws.heap[gp]?:=⟨_,rfl⟩
    have ha6:∀w',Sp w'→w'.cell? ⟨B,3,none⟩=some (.slice (some ⟨gq,0,none⟩) f.blocks.length e1)∧w'.cell? ⟨gq,tn*6,none⟩=some (.slice (some ⟨gp,0,none⟩) x.phis.length du)∧w'.cell? ⟨ws.heap.size,1,none⟩=some (.slice (some ⟨gv,0,none⟩) ah.length cv)∧w'.cell? ⟨ws.heap.size+1,0,none⟩=some (.bool xv.1)∧w'.cell? ⟨ws.heap.size+1,1,none⟩=some (.int .i64 xv.2)∧(w'.cell? ⟨gp,j*2+1,none⟩=some (.slice (some ⟨gv,0,none⟩) ah.length cv)∧w'.frozen? ⟨gp,j*2+1,none⟩=false)∧B<w'.heap.size∧ws.heap.size+1<w'.heap.size:=fun w' h=>by
     rw[hSp]at h
     obtain⟨h1,h2,h3,h4,h5⟩:=h
     exact⟨(blk h1).1 3,(World.cell?_of_block (a:=⟨gq,tn*6,none⟩) h2).trans d0s,(blk h3).1 1,(blk h4).1 0,(blk h4).1 1,⟨(World.cell?_of_block (a:=⟨gp,j*2+1,none⟩) h5).trans (hcL.out 1 (by omega)),(World.frozen?_of_block (a:=⟨gp,j*2+1,none⟩) h5).trans (heX.out _)⟩,q9 h1,q9 h4⟩
    have hSk:∀{a c:World},Sp a→Kept (fun g=>g=gv) a c→Sp c:=fun {a c} h hk=>by
     rw[hSp]at h ⊢
     obtain⟨h1,h2,h3,h4,h5⟩:=h
     have hz:=q9 h4
     exact⟨(hk.block _ (q9 h1) (fun e=>hgB e.symm)).trans h1,(hk.block _ (by omega) (fun e=>hgQ e.symm)).trans h2,(hk.block _ (by omega) (by omega)).trans h3,(hk.block _ hz (by omega)).trans h4,(hk.block _ (by omega) (fun e=>hbP e.symm)).trans h5⟩
    have hS7:Sp w7:=by
     rw[hSp]
     exact⟨(HB7.out.block _ gzs).trans HFs.out,HB7.out.block gq hrh,hY7,hV7,HB7.out.block gp hgp⟩
    have ha9:Sp w7.drew:=by rw[hSp]at hS7 ⊢;exact hS7
    have hR7:RowAt w7.drew 43 gv cv 2 cur:=⟨(HB7.out.block gv hr9).trans HRa.out.1,HRa.out.2⟩
    have htQ:IntKind.i64.wrap ((K:Int)+1)=(K:Int)+1:=by rw[IntKind.wrap_i64];omega
    refine qm (S:=Sp) (by kernel_rfl) 21 ?_
    refine tkZ 0 79 (.pointer (some ⟨B,0,none⟩)) rfl rfl ha9 (fun w' h=>?_) ?_
    ·obtain⟨h1,h2,h3,h4,h5,⟨h6,h7⟩,h8,h9⟩:=ha6 w' h
     go_simp
    refine tkZ 1 80 (.pointer (some ⟨B,0,none⟩)) rfl rfl ha9 (fun w' h=>?_) ?_
    ·obtain⟨h1,h2,h3,h4,h5,⟨h6,h7⟩,h8,h9⟩:=ha6 w' h
     go_simp
    refine tkZ 2 81 (.pointer (some ⟨B,3,none⟩)) rfl rfl ha9 (fun w' h=>?_) ?_
    ·obtain⟨h1,h2,h3,h4,h5,⟨h6,h7⟩,h8,h9⟩:=ha6 w' h
     go_simp
    refine tkZ 3 82 (.slice (some ⟨gq,0,none⟩) f.blocks.length e1) rfl rfl ha9 (fun w' h=>?_) ?_
    ·obtain⟨h1,h2,h3,h4,h5,⟨h6,h7⟩,h8,h9⟩:=ha6 w' h
     go_simp
    refine tkZ 4 83 (.int .i64 tn) rfl rfl ha9 (fun w' h=>?_) ?_
    ·obtain⟨h1,h2,h3,h4,h5,⟨h6,h7⟩,h8,h9⟩:=ha6 w' h
     go_simp
    refine tkZ 5 84 (.pointer (some ⟨gq,tn*6,none⟩)) rfl rfl ha9 (fun w' h=>?_) ?_
    ·obtain⟨h1,h2,h3,h4,h5,⟨h6,h7⟩,h8,h9⟩:=ha6 w' h
     go_simp
    refine tkZ 6 85 (.pointer (some ⟨gq,tn*6,none⟩)) rfl rfl ha9 (fun w' h=>?_) ?_
    ·obtain⟨h1,h2,h3,h4,h5,⟨h6,h7⟩,h8,h9⟩:=ha6 w' h
     go_simp
    refine tkZ 7 86 (.slice (some ⟨gp,0,none⟩) x.phis.length du) rfl rfl ha9 (fun w' h=>?_) ?_
    ·obtain⟨h1,h2,h3,h4,h5,⟨h6,h7⟩,h8,h9⟩:=ha6 w' h
     go_simp
    refine tkZ 8 87 (.int .i64 j) rfl rfl ha9 (fun w' h=>?_) ?_
    ·obtain⟨h1,h2,h3,h4,h5,⟨h6,h7⟩,h8,h9⟩:=ha6 w' h
     go_simp
    refine tkZ 9 88 (.pointer (some ⟨ws.heap.size,1,none⟩)) rfl rfl ha9 (fun w' h=>?_) ?_
    ·obtain⟨h1,h2,h3,h4,h5,⟨h6,h7⟩,h8,h9⟩:=ha6 w' h
     go_simp
    refine tkZ 10 89 (.slice (some ⟨gv,0,none⟩) ah.length cv) rfl rfl ha9 (fun w' h=>?_) ?_
    ·obtain⟨h1,h2,h3,h4,h5,⟨h6,h7⟩,h8,h9⟩:=ha6 w' h
     go_simp
    refine tkZ 11 90 (.int .i64 K) rfl rfl ha9 (fun w' h=>?_) ?_
    ·obtain⟨h1,h2,h3,h4,h5,⟨h6,h7⟩,h8,h9⟩:=ha6 w' h
     go_simp
    refine tkZ 12 91 (.int .i64 K) rfl rfl ha9 (fun w' h=>?_) ?_
    ·obtain⟨h1,h2,h3,h4,h5,⟨h6,h7⟩,h8,h9⟩:=ha6 w' h
     go_simp
    refine tkZ 13 92 (.int .i64 ((K+1:Nat):Int)) rfl rfl ha9 (fun w' h=>?_) ?_
    ·obtain⟨h1,h2,h3,h4,h5,⟨h6,h7⟩,h8,h9⟩:=ha6 w' h
     go_simp
    refine tkZ 15 94 (.int .i64 spt) rfl rfl ha9 (fun w' h=>?_) ?_
    ·obtain⟨h1,h2,h3,h4,h5,⟨h6,h7⟩,h8,h9⟩:=ha6 w' h
     go_simp
    refine tkZ 16 95 (.agg #[.bool xv.1,.int .i64 xv.2]) rfl rfl ha9 (fun w' h=>?_) ?_
    ·obtain⟨h1,h2,h3,h4,h5,⟨h6,h7⟩,h8,h9⟩:=ha6 w' h
     go_simp
    refine stepZ_2 (i:=14) (j:=17) (by kernel_rfl) ?_ ?_
    ·refine qt 93 rfl rfl rfl (by go_simp) (Qy gv cv ah.length K (K+1) p.src cur w7.drew hR7 HTk.out hej.out hcn hKl rfl) ?_
     rintro e w8 ⟨rfl,⟨cur8,hR8,ht8⟩,hK8⟩
     have hS8:=hSk ha9 hK8
     refine⟨_,rfl,hS8,?_⟩
     have hz8:=hK8.size
     have htR:ws.heap.size+1+1≤w8.heap.size:=by have:w7.drew.heap.size=w7.heap.size:=rfl;omega
     have hS9:Sp (w8.alloc (.cells #[.bool xv.1,.int .i64 xv.2] 43)):=hSk hS8 ((Kept.refl _ _).alloc _)
     refine qk (i:=17) (by kernel_rfl) (qn 96 (.slice (some ⟨w8.heap.size,0,none⟩) 1 1) (w8.alloc (.cells #[.bool xv.1,.int .i64 xv.2] 43)) rfl rfl rfl (by
      obtain⟨h1,h2,h3,h4,h5,h6,h7,h8⟩:=ha6 w8 hS8
      go_simp) hS9 ?_)
     have hKA:Kept (fun g=>g=gv) w7 (w8.alloc (.cells #[.bool xv.1,.int .i64 xv.2] 43)):=(((Kept.refl (fun g=>g=gv) w7).drew).trans hK8 (fun _ _ h=>h)).alloc _
     have hR9:RowAt (w8.alloc (.cells #[.bool xv.1,.int .i64 xv.2] 43)) 43 gv cv 2 cur8:=⟨qj hR8.1,hR8.2⟩
     have hdU:(w8.alloc (.cells #[.bool xv.1,.int .i64 xv.2] 43)).heap[w8.heap.size]?=some (.cells #[.bool xv.1,.int .i64 xv.2] 43 (0,0)):=qh rfl
     obtain⟨w9,hw9⟩:∃w9,w9=w8.alloc (.cells #[.bool xv.1,.int .i64 xv.2] 43):=⟨_,rfl⟩
     obtain⟨vb,hvb⟩:∃vb,vb=w8.heap.size:=⟨_,rfl⟩
     rw[←hw9]at hS9 hKA hR9 hdU ⊢
     rw[←hvb]at hdU ⊢
     have hjC:vb≠gv:=by omega
     clear hw9 hvb hS8 hR8 hK8
     have he1:(p.src.eraseIdx K).length=ah.length - 1:=by rw[List.length_eraseIdx_of_lt (by rw[hej.out];exact hKl),hej.out]
     refine qk (i:=18) (by kernel_rfl) (qt 97 rfl rfl rfl (by go_simp) (Qz gv cv (ah.length - 1) spt vb xv (p.src.eraseIdx K) cur8 w9 hR9 ht8 he1 (by omega) (by omega) hdU hjC) ?_)
     rintro e w10 ⟨rfl,⟨curf,hRf,htf⟩,hKf⟩
     have hn1:ah.length - 1+1=ah.length:=by omega
     rw[hn1]at htf ⊢
     have haC:=hSk hS9 hKf
     refine⟨_,rfl,haC,?_⟩
     refine qk (i:=19) (by kernel_rfl) (qn 98 (.pointer (some ⟨gp,j*2,none⟩)) w10 rfl rfl rfl (by go_simp) haC ?_)
     refine qk (i:=20) (by kernel_rfl) (qn 99 (.pointer (some ⟨gp,j*2+1,none⟩)) w10 rfl rfl rfl (by go_simp) haC ?_)
     obtain⟨t1,t2,t3,t4,t5,⟨t6,t7⟩,t8,t9⟩:=ha6 w10 haC
     have hjD:gp<w10.heap.size:=by omega
     refine qk (i:=21) (by kernel_rfl) (qz (w10.setCell ⟨gp,j*2+1,none⟩ (.slice (some ⟨gv,0,none⟩) ah.length cv)) rfl rfl rfl (by go_simp) (fun h=>absurd rfl h) (qB (by kernel_rfl) ?_ _))
     show Exit.inBlock 5 _ Exit.normal _ _
     have hKw:Kept (fun g=>g=gv) ws w10:=((Kept.of_below HB7.out).trans hKA (fun _ _ h=>h)).trans hKf (fun _ _ h=>h)
     have hKz:Kept (fun g=>g=gv∨g=gp) ws (w10.setCell ⟨gp,j*2+1,none⟩ (.slice (some ⟨gv,0,none⟩) ah.length cv)):=Kept.setCell (S:=fun g=>g=gv∨g=gp) (p:=⟨gp,j*2+1,none⟩) (hKw.mono fun _ _ h=>.inl h) (.inr rfl) _
     have hmv:(p.src.eraseIdx K).take spt++xv::(p.src.eraseIdx K).drop spt=(Zl ah old now p).src:=by
      show _=Q7 ah old now p.src
      unfold Q7
      rw[←HKe.out,←HSp.out]
      rw[HXv.out.1]
     rw[hmv]at htf
     have hml:(Zl ah old now p).src.length=ah.length:=by rw[←hmv];simp only[List.length_append,List.length_cons,List.length_take,List.length_drop,he1];omega
     have hfP:∀v∈(Zl ah old now p).src,I64 v.2:=fun v hv=>by
      rw[←hmv]at hv
      have hsub:∀v∈p.src.eraseIdx K,v∈p.src:=fun v h=>List.mem_of_mem_eraseIdx h
      rcases List.mem_append.1 hv with h|h
      ·exact hek.out v (hsub v (List.mem_of_mem_take h))
      rcases List.mem_cons.1 h with h|h
      ·rw[h];exact hek.out _ HXv.out.2
      exact hek.out v (hsub v (List.mem_of_mem_drop h))
     have hRg:RowAt (w10.setCell ⟨gp,j*2+1,none⟩ (.slice (some ⟨gv,0,none⟩) ah.length cv)) 43 gv cv 2 curf:=⟨(Go.Deep.blk_setCell_other _ _ _ gv hbP).trans hRf.1,hRf.2⟩
     have hsl:SlO 43 2 Xu (w10.setCell ⟨gp,j*2+1,none⟩ (.slice (some ⟨gv,0,none⟩) ah.length cv)) (.slice (some ⟨gv,0,none⟩) (Zl ah old now p).src.length cv) (Zl ah old now p).src Tp:=SlO.ofRow (by rw[hml];exact hRg.own hcn (by rw[zM,hml]) htf) hfP (fun g e=>HTp.out.2.2 g e) (HPs.out.sl.inb.mono hKz.size)
     rw[hml]at hsl
     have hput:=haG.out (w10.setCell ⟨gp,j*2+1,none⟩ (.slice (some ⟨gv,0,none⟩) ah.length cv)) [.int .i64 p.dst,.slice (some ⟨gv,0,none⟩) ah.length cv] (Zl ah old now p) Tp
      (RowPut.set (RowPut.same HCp.out (hKw.block gp hgp (fun e=>hbP e.symm)) hcL.out) rfl (j:=1) (by omega) _) rfl (fun u hu=>by
       simp only[List.mem_cons,List.not_mem_nil,or_false]at hu
       rcases hu with rfl|rfl<;>rfl) hKz.size (fun g h1 h2 h3=>hKz.block g (HPj.out.inb g h1) (fun e=>e.elim (fun e=>h2 (by rw[e];exact HTp.out.2.2 gv rfl)) h3))
      ⟨_,rfl,HPd.out,hsl,by rw[hml];unfold reachBytes;omega⟩ (fun g hg=>⟨.inl hg,Nat.lt_of_lt_of_le (HPj.out.inb g (HTp.out.2.1 g hg)) hKz.size⟩)
     rw[HPe.out,qU hjl]at hput
     have hrel:SlO 101 2 PhiO (w10.setCell ⟨gp,j*2+1,none⟩ (.slice (some ⟨gv,0,none⟩) ah.length cv)) (.slice (some ⟨gp,0,none⟩) x.phis.length du) (zd (j+1) (Zl ah old now) x.phis) Su1∧Kept Su1 wt (w10.setCell ⟨gp,j*2+1,none⟩ (.slice (some ⟨gv,0,none⟩) ah.length cv)):=
      ⟨hput.grow (fun g h=>h.elim id (HTp.out.2.1 g)) (HPj.out.inb.mono hKz.size),HKj.out.trans hKz (fun g _ h=>h.elim (fun e=>by rw[e];exact hfO) (fun e=>by rw[e];exact he7.out))⟩
     have ha7:=q7 hrel
     clear hrel hput hsl hRg hKz hKw hRf hKf haC hS9 hR9 hdU hKA htf ht8 t1 t2 t3 t4 t5 t6 t7 hmv hfP
     go_wp2_with fail
     go_roundg (x.phis.length - (j+1))
     case measure=>omega
     case rel=>exact⟨j+1,by omega,rfl,by go_num,ha7.out.1,ha7.out.2⟩
    have hS8:Sp (w7.drew.alloc (.cells #[.bool xv.1,.int .i64 xv.2] 43)):=hSk ha9 ((Kept.refl _ _).alloc _)
    refine qn 96 (.slice (some ⟨w7.heap.size,0,none⟩) 1 1) (w7.drew.alloc (.cells #[.bool xv.1,.int .i64 xv.2] 43)) rfl rfl rfl (by go_simp) hS8 ?_
    have hR8:RowAt (w7.drew.alloc (.cells #[.bool xv.1,.int .i64 xv.2] 43)) 43 gv cv 2 cur:=⟨qj hR7.1,hR7.2⟩
    refine qk (i:=14) (by kernel_rfl) (qt 93 rfl rfl rfl (by go_simp) (Qy gv cv ah.length K (K+1) p.src cur _ hR8 HTk.out hej.out hcn hKl rfl) ?_)
    rintro e w9 ⟨rfl,⟨cur8,hR9,ht8⟩,hK8⟩
    have hS9:=hSk hS8 hK8
    refine⟨_,rfl,hS9,?_⟩
    have hKA:Kept (fun g=>g=gv) w7 w9:=(((Kept.refl (fun g=>g=gv) w7).drew).alloc _).trans hK8 (fun _ _ h=>h)
    obtain⟨vb,hvb⟩:∃vb,vb=w7.heap.size:=⟨_,rfl⟩
    have hdU:w9.heap[vb]?=some (.cells #[.bool xv.1,.int .i64 xv.2] 43 (0,0)):=by
     rw[hvb]
     exact(hK8.block _ (by rw[World.size_alloc];exact Nat.lt_succ_self _) (by omega)).trans (qh rfl)
    rw[←hvb]
    have hjC:vb≠gv:=by omega
    clear hvb hS8 hR8 hK8
    have he1:(p.src.eraseIdx K).length=ah.length - 1:=by rw[List.length_eraseIdx_of_lt (by rw[hej.out];exact hKl),hej.out]
    refine qk (i:=18) (by kernel_rfl) (qt 97 rfl rfl rfl (by go_simp) (Qz gv cv (ah.length - 1) spt vb xv (p.src.eraseIdx K) cur8 w9 hR9 ht8 he1 (by omega) (by omega) hdU hjC) ?_)
    rintro e w10 ⟨rfl,⟨curf,hRf,htf⟩,hKf⟩
    have hn1:ah.length - 1+1=ah.length:=by omega
    rw[hn1]at htf ⊢
    have haC:=hSk hS9 hKf
    refine⟨_,rfl,haC,?_⟩
    refine qk (i:=19) (by kernel_rfl) (qn 98 (.pointer (some ⟨gp,j*2,none⟩)) w10 rfl rfl rfl (by go_simp) haC ?_)
    refine qk (i:=20) (by kernel_rfl) (qn 99 (.pointer (some ⟨gp,j*2+1,none⟩)) w10 rfl rfl rfl (by go_simp) haC ?_)
    obtain⟨t1,t2,t3,t4,t5,⟨t6,t7⟩,t8,t9⟩:=ha6 w10 haC
    have hjD:gp<w10.heap.size:=by omega
    refine qk (i:=21) (by kernel_rfl) (qz (w10.setCell ⟨gp,j*2+1,none⟩ (.slice (some ⟨gv,0,none⟩) ah.length cv)) rfl rfl rfl (by go_simp) (fun h=>absurd rfl h) (qB (by kernel_rfl) ?_ _))
    show Exit.inBlock 5 _ Exit.normal _ _
    have hKw:Kept (fun g=>g=gv) ws w10:=((Kept.of_below HB7.out).trans hKA (fun _ _ h=>h)).trans hKf (fun _ _ h=>h)
    have hKz:Kept (fun g=>g=gv∨g=gp) ws (w10.setCell ⟨gp,j*2+1,none⟩ (.slice (some ⟨gv,0,none⟩) ah.length cv)):=Kept.setCell (S:=fun g=>g=gv∨g=gp) (p:=⟨gp,j*2+1,none⟩) (hKw.mono fun _ _ h=>.inl h) (.inr rfl) _
    have hmv:(p.src.eraseIdx K).take spt++xv::(p.src.eraseIdx K).drop spt=(Zl ah old now p).src:=by
     show _=Q7 ah old now p.src
     unfold Q7
     rw[←HKe.out,←HSp.out]
     rw[HXv.out.1]
    rw[hmv]at htf
    have hml:(Zl ah old now p).src.length=ah.length:=by rw[←hmv];simp only[List.length_append,List.length_cons,List.length_take,List.length_drop,he1];omega
    have hfP:∀v∈(Zl ah old now p).src,I64 v.2:=fun v hv=>by
     rw[←hmv]at hv
     have hsub:∀v∈p.src.eraseIdx K,v∈p.src:=fun v h=>List.mem_of_mem_eraseIdx h
     rcases List.mem_append.1 hv with h|h
     ·exact hek.out v (hsub v (List.mem_of_mem_take h))
     rcases List.mem_cons.1 h with h|h
     ·rw[h];exact hek.out _ HXv.out.2
     exact hek.out v (hsub v (List.mem_of_mem_drop h))
    have hRg:RowAt (w10.setCell ⟨gp,j*2+1,none⟩ (.slice (some ⟨gv,0,none⟩) ah.length cv)) 43 gv cv 2 curf:=⟨(Go.Deep.blk_setCell_other _ _ _ gv hbP).trans hRf.1,hRf.2⟩
    have hsl:SlO 43 2 Xu (w10.setCell ⟨gp,j*2+1,none⟩ (.slice (some ⟨gv,0,none⟩) ah.length cv)) (.slice (some ⟨gv,0,none⟩) (Zl ah old now p).src.length cv) (Zl ah old now p).src Tp:=SlO.ofRow (by rw[hml];exact hRg.own hcn (by rw[zM,hml]) htf) hfP (fun g e=>HTp.out.2.2 g e) (HPs.out.sl.inb.mono hKz.size)
    rw[hml]at hsl
    have hput:=haG.out (w10.setCell ⟨gp,j*2+1,none⟩ (.slice (some ⟨gv,0,none⟩) ah.length cv)) [.int .i64 p.dst,.slice (some ⟨gv,0,none⟩) ah.length cv] (Zl ah old now p) Tp
     (RowPut.set (RowPut.same HCp.out (hKw.block gp hgp (fun e=>hbP e.symm)) hcL.out) rfl (j:=1) (by omega) _) rfl (fun u hu=>by
      simp only[List.mem_cons,List.not_mem_nil,or_false]at hu
      rcases hu with rfl|rfl<;>rfl) hKz.size (fun g h1 h2 h3=>hKz.block g (HPj.out.inb g h1) (fun e=>e.elim (fun e=>h2 (by rw[e];exact HTp.out.2.2 gv rfl)) h3))
     ⟨_,rfl,HPd.out,hsl,by rw[hml];unfold reachBytes;omega⟩ (fun g hg=>⟨.inl hg,Nat.lt_of_lt_of_le (HPj.out.inb g (HTp.out.2.1 g hg)) hKz.size⟩)
    rw[HPe.out,qU hjl]at hput
    have hrel:SlO 101 2 PhiO (w10.setCell ⟨gp,j*2+1,none⟩ (.slice (some ⟨gv,0,none⟩) ah.length cv)) (.slice (some ⟨gp,0,none⟩) x.phis.length du) (zd (j+1) (Zl ah old now) x.phis) Su1∧Kept Su1 wt (w10.setCell ⟨gp,j*2+1,none⟩ (.slice (some ⟨gv,0,none⟩) ah.length cv)):=
     ⟨hput.grow (fun g h=>h.elim id (HTp.out.2.1 g)) (HPj.out.inb.mono hKz.size),HKj.out.trans hKz (fun g _ h=>h.elim (fun e=>by rw[e];exact hfO) (fun e=>by rw[e];exact he7.out))⟩
    have ha7:=q7 hrel
    clear hrel hput hsl hRg hKz hKw hRf hKf haC hS9 hR9 hdU hKA htf ht8 t1 t2 t3 t4 t5 t6 t7 hmv hfP
    go_wp2_with fail
    go_roundg (x.phis.length - (j+1))
    case measure=>omega
    case rel=>exact⟨j+1,by omega,rfl,by go_num,ha7.out.1,ha7.out.2⟩

end Go.Proofs.YtecdphhdmjmmnaaGreatDoor
