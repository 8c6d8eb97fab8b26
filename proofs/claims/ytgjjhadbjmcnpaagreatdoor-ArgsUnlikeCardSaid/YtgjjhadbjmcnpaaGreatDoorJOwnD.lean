/-
  Plain: memory of the call's own: an element changed inside, two elements changed, one slic
-/
import Derived.Test.YtgjjhadbjmcnpaaGreatDoorJEachW
namespace Go.Proofs.YtgjjhadbjmcnpaaGreatDoor

def cnt (had:Nat→Bool):Nat→Nat
 | 0=>0
 | k+1=>cnt had k+if had k then 1 else 0
def ql (f:FunL) (m:Nat):Nat:=(f.blocks[m]?.map fun b=>b.list.length).getD 0
theorem zM {f:FunL} {m:Nat} (h:m<f.blocks.length):ql f m=f.blocks[m].list.length:=by simp [ql,h]
def upI (g:Nat→InsL→InsL) (f:FunL) (i:Nat):FunL:=
 { f with blocks:=f.blocks.mapIdx fun m b=>XS b (b.list.mapIdx fun j x=>if (zX (ql f) m).length+j<i then g ((zX (ql f) m).length+j) x else x) }
theorem JW (g:Nat→InsL→InsL) (f:FunL):upI g f 0=f:=by
 unfold upI XS
 cases f with
 | mk n p r bs=>
  simp only [FunL.mk.injEq,true_and]
  refine List.ext_getElem (by simp) fun m h1 h2=>?_
  simp only [List.getElem_mapIdx]
  cases e:bs[m] with
  | mk a l c=>
   simp only [BlkL.mk.injEq,true_and,and_true]
   refine List.ext_getElem (by simp) fun j h3 h4=>?_
   simp
theorem Qy (g:Nat→InsL→InsL) (f:FunL) (i:Nat):(upI g f i).blocks.length=f.blocks.length:=by simp [upI]
theorem ZD {g:Nat→InsL→InsL} {f:FunL} {i m:Nat} (h:m<f.blocks.length):((upI g f i).blocks[m]'(by rw [Qy];exact h)).list.length=f.blocks[m].list.length:=by simp [upI,XS]
theorem upI_get {g:Nat→InsL→InsL} {f:FunL} {m j:Nat} (hm:m<f.blocks.length) (hj:j<f.blocks[m].list.length):((upI g f ((zX (ql f) m).length+j)).blocks[m]'(by rw [Qy];exact hm)).list[j]'(by rw [ZD hm];exact hj)=f.blocks[m].list[j]:=by
 simp [upI,XS]
theorem posL_inj {ll:Nat→Nat} {n a b x y:Nat} (ha:a<n) (hb:b<n) (hx:x<ll a) (hy:y<ll b) (e:(zX ll a).length+x=(zX ll b).length+y):a=b∧x=y:=by
 have h1:=kL ha hx
 have h2:=kL hb hy
 rw [e,h2] at h1
 simpa using h1.symm
theorem JX {g:Nat→InsL→InsL} {f:FunL} {m j:Nat} (hm:m<f.blocks.length) (hj:j<f.blocks[m].list.length):setI (upI g f ((zX (ql f) m).length+j)) m j (g ((zX (ql f) m).length+j) f.blocks[m].list[j])=upI g f ((zX (ql f) m).length+j+1):=by
 have hlm:=zM hm
 unfold setI
 rw [kl (by rw [Qy];exact hm)]
 unfold upI XS
 simp only [FunL.mk.injEq,true_and]
 refine List.ext_getElem (by simp) fun a h1 h2=>?_
 have ha:a<f.blocks.length:=by simpa using h2
 rw [List.getElem_set]
 simp only [List.getElem_mapIdx]
 split
 ·next e=>
  subst e
  simp only [BlkL.mk.injEq,true_and,and_true]
  refine List.ext_getElem (by simp) fun b h3 h4=>?_
  have hb:b<f.blocks[m].list.length:=by simpa using h4
  rw [List.getElem_set]
  simp only [List.getElem_mapIdx]
  split
  ·next e=>subst e;rw [if_pos (by omega)]
  next e=>
  by_cases h5:b<j
  ·rw [if_pos (by omega),if_pos (by omega)]
  rw [if_neg (by omega),if_neg (by omega)]
 next e=>
 simp only [BlkL.mk.injEq,true_and,and_true]
 refine List.ext_getElem (by simp) fun b h3 h4=>?_
 have hb:b<f.blocks[a].list.length:=by simpa using h4
 simp only [List.getElem_mapIdx]
 have hne:(zX (ql f) a).length+b≠(zX (ql f) m).length+j:=fun e2=>e (posL_inj ha hm (by rw [zM ha];exact hb) (by rw [hlm];exact hj) e2).1.symm
 by_cases h5:(zX (ql f) a).length+b<(zX (ql f) m).length+j
 ·rw [if_pos h5,if_pos (by omega)]
 rw [if_neg h5,if_neg (by omega)]
theorem upI_all (g:InsL→InsL) (f:FunL):upI (fun _=>g) f (zX (ql f) f.blocks.length).length={ f with blocks:=f.blocks.map fun b=>XS b (b.list.map g) }:=by
 unfold upI XS
 simp only [FunL.mk.injEq,true_and]
 refine List.ext_getElem (by simp) fun a h1 h2=>?_
 have ha:a<f.blocks.length:=by simpa using h2
 simp only [List.getElem_mapIdx,List.getElem_map,BlkL.mk.injEq,true_and,and_true]
 refine List.ext_getElem (by simp) fun b h3 h4=>?_
 have hb:b<f.blocks[a].list.length:=by simpa using h4
 simp only [List.getElem_mapIdx,List.getElem_map]
 rw [if_pos (ZB ha (by rw [zM ha];exact hb))]
theorem setI_same {f:FunL} {m j:Nat} (hm:m<f.blocks.length) (hj:j<f.blocks[m].list.length):setI f m j f.blocks[m].list[j]=f:=by
 unfold setI
 rw [kl hm]
 cases f with
 | mk n p r bs=>
  simp only [FunL.mk.injEq,true_and]
  have h1:XS bs[m] (bs[m].list.set j bs[m].list[j])=bs[m]:=by
   unfold XS
   rw [List.set_getElem_self]
  rw [h1,List.set_getElem_self]
theorem upI_same {g:Nat→InsL→InsL} {f:FunL} {m j:Nat} (hm:m<f.blocks.length) (hj:j<f.blocks[m].list.length) (h:g ((zX (ql f) m).length+j) f.blocks[m].list[j]=f.blocks[m].list[j]):upI g f ((zX (ql f) m).length+j)=upI g f ((zX (ql f) m).length+j+1):=by
 have h1:=JX (g:=g) hm hj
 rw [h] at h1
 rw [←h1]
 have hm2:m<(upI g f ((zX (ql f) m).length+j)).blocks.length:=by rw [Qy];exact hm
 have hj2:j<((upI g f ((zX (ql f) m).length+j)).blocks[m]'hm2).list.length:=by rw [ZD hm];exact hj
 have h2:=setI_same (f:=upI g f ((zX (ql f) m).length+j)) hm2 hj2
 rw [upI_get hm hj] at h2
 exact h2.symm

def lqW (w:World) (bb m:Nat):Option Addr:=match w.cell? ⟨bb,m*6+1,none⟩ with|some (.slice q _ _)=>q|_=>none
def lcW (w:World) (bb m:Nat):Nat:=match w.cell? ⟨bb,m*6+1,none⟩ with|some (.slice _ _ c)=>c|_=>0
def lpW (w:World) (bb m:Nat):Nat×Nat:=match lqW w bb m with|some a=>(a.block,a.off)|none=>(0,0)
theorem FunO.lists {w:World} {cs:List Value} {f:FunL} {T:Blks} (h:FunO w cs f T) (h0:0<f.blocks.length):∃bb cb,cs=[.string f.name,.int .i64 f.params,.int .i64 f.regs,.slice (some ⟨bb,0,none⟩) f.blocks.length cb]∧T bb∧f.blocks.length*96≤reachBytes∧
  ∀m,m<f.blocks.length→w.cell? ⟨bb,m*6+1,none⟩=some (.slice (lqW w bb m) (ql f m) (lcW w bb m))∧ql f m*80≤reachBytes∧(0<ql f m→lqW w bb m=some ⟨(lpW w bb m).1,(lpW w bb m).2,none⟩):=by
 obtain ⟨v,hcs,hnm,i1,i2,hB⟩:=h
 obtain ⟨bb,cb,cB0,TB0,hv,hbs,hTb,_⟩:=hB.sl.focus qU (by omega) h0
 subst hv
 refine ⟨bb,cb,hcs,hTb,hB.bd,fun m hm=>?_⟩
 obtain ⟨bb',cb',cB,TB,hv',_,_,_,heP,_,_,hcB,_⟩:=hB.sl.focus qU (by omega) hm
 cases hv'
 obtain ⟨v1,v2,v3,S1,S2,S3,rfl,j1,j2,h3,h4,h5,_⟩:=heP
 obtain ⟨q,c,rfl,_,_⟩:=h4.sl.val
 have hc:w.cell? ⟨bb,m*6+1,none⟩=some (.slice q f.blocks[m].list.length c):=hcB 1 (by omega)
 have e1:lqW w bb m=q:=by unfold lqW;rw [hc]
 have e2:lcW w bb m=c:=by unfold lcW;rw [hc]
 rw [e1,e2,zM hm]
 refine ⟨hc,h4.bd,fun hpos=>?_⟩
 obtain ⟨lb,c2,_,_,hv2,_⟩:=h4.sl.focus zR (by omega) hpos
 have e3:q=some ⟨lb,0,none⟩:=by injection hv2
 unfold lpW
 rw [e1,e3]
end Go.Proofs.YtgjjhadbjmcnpaaGreatDoor
namespace Go.Proofs.YtgjjhadbjmcnpaaGreatDoor
open Go.RowKit

structure FunSh (g k bb nb cb:Nat) (lq:Nat→Option Addr) (ll lc:Nat→Nat) (W:World):Prop where
 fn:W.cell? ⟨g,k*4+3,none⟩=some (.slice (some ⟨bb,0,none⟩) nb cb)
 blk:∀m,m<nb→W.cell? ⟨bb,m*6+1,none⟩=some (.slice (lq m) (ll m) (lc m))
theorem FunSh.other {g k bb nb cb:Nat} {lq:Nat→Option Addr} {ll lc:Nat→Nat} {W W':World} (h:FunSh g k bb nb cb lq ll lc W) (h1:W'.heap[g]?=W.heap[g]?) (h2:W'.heap[bb]?=W.heap[bb]?):FunSh g k bb nb cb lq ll lc W':=
 ⟨(World.cell?_of_block (a:=⟨g,_,none⟩) h1).trans h.fn,fun m hm=>(World.cell?_of_block (a:=⟨bb,_,none⟩) h2).trans (h.blk m hm)⟩

section
variable {α β : Type} {e : TypeId} {size : Nat} {R : ElemO α} {R2 : ElemO β} {w w' : World} {v : Value} {xs : List α} {ys : List β} {S : Blks}
theorem SlO.imp (h:SlO e size R w v xs S) (hl:ys.length=xs.length) (hi:∀i (h1:i<xs.length) (h2:i<ys.length) cs T,(∀u∈cs,u.oneCell'=true)→R w cs xs[i] T→R2 w cs ys[i] T):SlO e size R2 w v ys S:=by
 obtain ⟨cs,T,h⟩:=h
 refine ⟨cs,T,?_,?_,?_,?_,?_,?_,h.blk,?_,h.inb⟩
 ·rw [hl];exact h.own
 ·rw [hl];exact h.len
 ·rw [hl];exact h.one
 ·intro i h1
  exact hi i (by omega) h1 _ _ (h.one i (by omega)) (h.el i (by omega))
 ·rw [hl];exact h.two
 ·rw [hl];exact h.off
 rw [hl];exact h.sub
theorem SlO.inner (hR:vS R) (hsz:0<size) (h:SlO e size R w v xs S) {i:Nat} (hi:i<xs.length):∃g c cs T,v = .slice (some ⟨g,0,none⟩) xs.length c∧g<w.heap.size∧S g∧cs.length=size∧R w cs xs[i] T∧¬ T g∧(∀k,T k→S k)∧
  (∀j,j<size→w.cell? ⟨g,i*size+j,none⟩=cs[j]?)∧(∀o,w.frozen? ⟨g,o,none⟩=false)∧
  (∀(w':World) (x':α) (T':Blks),Kept T w w'→R w' cs x' T'→(∀k,T' k→(T k∨w.heap.size≤k)∧k<w'.heap.size)→SlO e size R w' v (xs.set i x') (fun k=>S k∨T' k))∧
  ∀(w1:World) (x':α) (T':Blks) (j:Nat) (u:Value),j<size→u.oneCell'=true→Kept T w w1→R (w1.setCell ⟨g,i*size+j,none⟩ u) (cs.set j u) x' T'→(∀k,T' k→(T k∨w.heap.size≤k)∧k<w1.heap.size)→SlO e size R (w1.setCell ⟨g,i*size+j,none⟩ u) v (xs.set i x') (fun k=>S k∨T' k):=by
 obtain ⟨cs0,T0,h0⟩:=id h
 obtain ⟨g,c,cs,T,hv,hg,hS,hl,hx,hT,hTS,hc,hf,⟨cur,haf⟩,put⟩:=h.focus hR hsz hi
 have hone:∀u∈cs,u.oneCell'=true:=by
  intro u hu
  obtain ⟨j,hj,rfl⟩:=List.getElem_of_mem hu
  obtain ⟨g2,c2,hv2,_,_,hc2⟩:=h0.cell hi
  rw [hv] at hv2
  injection hv2 with a _ _
  injection a with a
  injection a with a
  subst a
  have h1:=hc j (by omega)
  rw [hc2 j (by omega),List.getElem?_eq_getElem hj] at h1
  exact h0.one i hi _ (List.mem_of_getElem? h1)
 refine ⟨g,c,cs,T,hv,hg,hS,hl,hx,hT,hTS,hc,hf,fun w' x' T' hk hr ht=>?_,fun w1 x' T' j u hj hu hk hr ht=>?_⟩
 ·refine put w' cs x' T' (RowPut.same haf (hk.block g hg hT) hc) hl hone hk.size (fun k h1 h2 h3=>hk.block k (h.inb k h1) h2) hr ht
 have hz:=Go.Deep.nblk_setCell w1 ⟨g,i*size+j,none⟩ u
 refine put _ (cs.set j u) x' T' (RowPut.set (RowPut.same haf (hk.block g hg hT) hc) hl hj u) (by simpa using hl) (fun a ha=>?_) (by rw [hz];exact hk.size) (fun k h1 h2 h3=>(Go.Deep.blk_setCell_other w1 _ u k h3).trans (hk.block k (h.inb k h1) h2)) hr (fun k hk2=>by rw [hz];exact ht k hk2)
 rcases List.mem_or_eq_of_mem_set ha with h1|h1
 ·exact hone a h1
 rw [h1];exact hu
theorem RowPut.trans_other {w w1 w2:World} {g o o2:Nat} {cs cs2:List Value} (h:RowPut w w1 e g o size cs) (k:RowPut w1 w2 e g o2 size cs2) (hd:o+size≤o2∨o2+size≤o) :
  ∃cur cur':Array Value,w.heap[g]?=some (.cells cur e (0,0))∧w2.heap[g]?=some (.cells cur' e (0,0))∧cur'.size=cur.size∧(∀j,j<size→cur'[o+j]?=cs[j]?)∧(∀j,j<size→cur'[o2+j]?=cs2[j]?)∧∀j,(j<o∨o+size≤j)→(j<o2∨o2+size≤j)→cur'[j]?=cur[j]?:=by
 obtain ⟨c0,c1,a1,a2,a3,a4,a5⟩:=h
 obtain ⟨c1',c2,b1,b2,b3,b4,b5⟩:=k
 rw [a2] at b1
 cases b1
 refine ⟨c0,c2,a1,b2,b3.trans a3,fun j hj=>?_,b4,fun j h1 h2=>(b5 j h2).trans (a5 j h1)⟩
 rw [b5 (o+j) (by omega)]
 exact a4 j hj
theorem SlW.put2 {cs:Nat→List Value} {T:Nat→Blks} {g i j:Nat} {w1 w2:World} {ci cj:List Value} {xi xj:α} {Ti Tj:Blks} (hR:vS R) (hsz:0<size) (h:SlW e size R w v xs S cs T) (hob:v.ownBlock=some g) (hi:i<xs.length) (hj:j<xs.length) (hij:i≠j)
  (p1:RowPut w w1 e g (i*size) size ci) (p2:RowPut w1 w2 e g (j*size) size cj) (hli:ci.length=size) (hlj:cj.length=size) (hoi:∀u∈ci,u.oneCell'=true) (hoj:∀u∈cj,u.oneCell'=true) (hs:w.heap.size≤w2.heap.size)
  (hk:∀k,S k→¬ T i k→¬ T j k→k≠g→w2.heap[k]?=w.heap[k]?) (ri:R w2 ci xi Ti) (rj:R w2 cj xj Tj) (hap:Apart Ti Tj)
  (hTi:∀k,Ti k→(T i k∨T j k∨w.heap.size≤k)∧k<w2.heap.size) (hTj:∀k,Tj k→(T i k∨T j k∨w.heap.size≤k)∧k<w2.heap.size) :
  SlO e size R w2 v ((xs.set i xi).set j xj) (fun k=>S k∨Ti k∨Tj k):=by
 have hd:i*size+size≤j*size∨j*size+size≤i*size:=by
  rcases Nat.lt_or_ge i j with a|a
  ·left
   have:(i+1)*size≤j*size:=Nat.mul_le_mul_right _ a
   rw [Nat.add_mul] at this
   omega
  right
  have:(j+1)*size≤i*size:=Nat.mul_le_mul_right _ (by omega)
  rw [Nat.add_mul] at this
  omega
 obtain ⟨cur,cur',q1,q2,q3,q4,q5,q6⟩:=p1.trans_other p2 hd
 rcases h.own.2 with ⟨_,h2⟩|⟨g',cap,cur0,hv,hb,hg,hc1,hc2,hc3,htk⟩
 ·omega
 have hgg:g'=g:=by
  rw [hv] at hob
  injection hob with hob
 subst hgg
 rw [hg] at q1
 cases q1
 have hgs:=(Array.getElem?_eq_some_iff.1 hg).1
 have hcell:∀m jj,m<xs.length→jj<size→cur[m*size+jj]?=(cs m)[jj]?:=fun m jj hm hjj=>by
  have hlt:m*size+jj<xs.length*size:=by
   have:(m+1)*size≤xs.length*size:=Nat.mul_le_mul_right _ hm
   rw [Nat.add_mul] at this
   omega
  rw [←xu xs.length h.len m jj hm hjj,←htk,List.getElem?_take_of_lt hlt,Array.getElem?_toList]
 have hlen:((xs.set i xi).set j xj).length=xs.length:=by simp
 have hS:∀m,m<xs.length→∀k,T m k→S k:=h.sub
 have key:∀(U:Blks),(∀k,U k→(T i k∨T j k∨w.heap.size≤k)∧k<w2.heap.size)→∀m,m<xs.length→m≠i→m≠j→Apart U (T m):=fun U hU m hm h1 h2 k a b=>by
  rcases (hU k a).1 with c|c|c
  ·exact h.two m i hm hi h1 k b c
  ·exact h.two m j hm hj h2 k b c
  have:=h.inb k (h.sub m hm k b)
  omega
 have koff:∀(U:Blks),(∀k,U k→(T i k∨T j k∨w.heap.size≤k)∧k<w2.heap.size)→¬ U g':=fun U hU a=>by
  rcases (hU _ a).1 with c|c|c
  ·exact h.off i hi _ hob c
  ·exact h.off j hj _ hob c
  omega
 refine ⟨fun m=>if m=i then ci else if m=j then cj else cs m,fun m=>if m=i then Ti else if m=j then Tj else T m,?_,fun m hm=>?_,fun m hm=>?_,fun m hm=>?_,fun m n hm hn hmn=>?_,fun m hm g2 hg2=>?_,fun g2 hg2=>.inl (h.blk g2 hg2),fun m hm k hk2=>?_,?_⟩
 ·rw [hlen]
  have hlc:∀m,m<xs.length→(if m=i then ci else if m=j then cj else cs m).length=size:=fun m hm=>by
   split
   ·exact hli
   split
   ·exact hlj
   exact h.len m hm
  refine ⟨by rw [zj _ hlc],.inr ⟨g',cap,cur',hv,hb,q2,hc1,hc2,by rw [q3];exact hc3,?_⟩⟩
  have hle:xs.length*size≤cap*size:=Nat.mul_le_mul_right _ hc1
  refine JP h.len hlc hsz (by simp;omega) fun m jj hm hjj=>?_
  have hlt:m*size+jj<xs.length*size:=by
   have:(m+1)*size≤xs.length*size:=Nat.mul_le_mul_right _ hm
   rw [Nat.add_mul] at this
   omega
  rw [List.getElem?_take_of_lt hlt,Array.getElem?_toList]
  have out:∀n,m≠n→m*size+jj<n*size∨n*size+size≤m*size+jj:=fun n hn=>by
   rcases Nat.lt_or_ge m n with a|a
   ·left
    have:(m+1)*size≤n*size:=Nat.mul_le_mul_right _ a
    rw [Nat.add_mul] at this
    omega
   right
   have:(n+1)*size≤m*size:=Nat.mul_le_mul_right _ (by omega)
   rw [Nat.add_mul] at this
   omega
  by_cases e1:m=i
  ·subst e1
   rw [if_pos rfl]
   exact q4 jj hjj
  rw [if_neg e1]
  by_cases e2:m=j
  ·subst e2
   rw [if_pos rfl]
   exact q5 jj hjj
  rw [if_neg e2,q6 _ (out i e1) (out j e2)]
  exact hcell m jj hm hjj
 ·rw [hlen] at hm
  show (if m=i then ci else if m=j then cj else cs m).length=size
  split
  ·exact hli
  split
  ·exact hlj
  exact h.len m hm
 ·rw [hlen] at hm
  show ∀u∈(if m=i then ci else if m=j then cj else cs m),u.oneCell'=true
  split
  ·exact hoi
  split
  ·exact hoj
  exact h.one m hm
 ·have hm2:m<xs.length:=by rw [←hlen];exact hm
  by_cases e1:m=i
  ·subst e1
   simp only [if_true]
   rw [List.getElem_set_ne (Ne.symm hij),List.getElem_set_self]
   exact ri
  by_cases e2:m=j
  ·subst e2
   simp only [if_neg e1,if_true]
   rw [List.getElem_set_self]
   exact rj
  simp only [if_neg e1,if_neg e2]
  rw [List.getElem_set_ne (Ne.symm e2),List.getElem_set_ne (Ne.symm e1)]
  refine hR _ _ _ _ _ (h.el m hm2) (fun k hk2=>hk k (h.sub m hm2 k hk2) (fun hk3=>h.two m i hm2 hi e1 k hk2 hk3) (fun hk3=>h.two m j hm2 hj e2 k hk2 hk3) (fun e2=>h.off m hm2 g' hob (by rw [←e2];exact hk2))) hs
 ·rw [hlen] at hm hn
  show Apart (if m=i then Ti else if m=j then Tj else T m) (if n=i then Ti else if n=j then Tj else T n)
  by_cases e1:m=i
  ·rw [if_pos e1]
   by_cases e2:n=j
   ·rw [if_neg (by omega),if_pos e2]
    exact hap
   rw [if_neg (by omega),if_neg e2]
   exact key Ti hTi n hn (by omega) e2
  rw [if_neg e1]
  by_cases e3:m=j
  ·rw [if_pos e3]
   by_cases e2:n=i
   ·rw [if_pos e2]
    exact hap.symm
   rw [if_neg e2,if_neg (by omega)]
   exact key Tj hTj n hn e2 (by omega)
  rw [if_neg e3]
  by_cases e2:n=i
  ·rw [if_pos e2]
   exact (key Ti hTi m hm e1 e3).symm
  rw [if_neg e2]
  by_cases e4:n=j
  ·rw [if_pos e4]
   exact (key Tj hTj m hm e1 e3).symm
  rw [if_neg e4]
  exact h.two m n hm hn hmn
 ·rw [hlen] at hm
  rw [hob] at hg2
  cases hg2
  show ¬ (if m=i then Ti else if m=j then Tj else T m) g'
  split
  ·exact koff Ti hTi
  split
  ·exact koff Tj hTj
  exact h.off m hm _ hob
 ·rw [hlen] at hm
  have hk3:(if m=i then Ti else if m=j then Tj else T m) k:=hk2
  split at hk3
  ·exact .inr (.inl hk3)
  split at hk3
  ·exact .inr (.inr hk3)
  exact .inl (h.sub m hm k hk3)
 rintro k (a|a|a)
 ·exact (h.inb.mono hs) k a
 ·exact (hTi k a).2
 exact (hTj k a).2
theorem SlW.join {w':World} {v' u:Value} {zs:List α} {T:Blks} {cs ds:Nat→List Value} {U V:Nat→Blks} (hR:vS R) (h:SlW e size R w v xs S cs U) (hz:SlW e size R w u zs T ds V) (hT:Apart S T)
  (hown:w'.ownsRow 0 e size v' (xs.length+zs.length) ((List.range xs.length).flatMap cs++(List.range zs.length).flatMap ds)) (hg:w.grownBy w' v.ownBlock) (hat:v'.ownBlock=v.ownBlock∨v'.ownBlock=some w.heap.size) :
  SlO e size R w' v' (xs++zs) (fun k=>S k∨T k∨v'.ownBlock=some k):=by
 have hlen:(xs++zs).length=xs.length+zs.length:=by simp
 have hin:∀g,v'.ownBlock=some g→0≤g∧g<w'.heap.size:=hown.lt
 have hoff:∀k g,(S k∧v.ownBlock≠some k)∨T k→v'.ownBlock=some g→k≠g:=fun k g hk hg' ek=>by
  subst ek
  rcases hat with a|a
  ·rcases hk with ⟨_,b⟩|b
   ·exact b (a.symm.trans hg')
   exact hT k (h.blk k (a.symm.trans hg')) b
  have hks:k<w.heap.size:=by
   rcases hk with ⟨b,_⟩|b
   ·exact h.inb k b
   exact hz.inb k b
  rw [a] at hg'
  injection hg' with hg'
  omega
 have hkeep:∀k,k<w.heap.size→v.ownBlock≠some k→w'.heap[k]?=w.heap[k]?:=fun k hk hn=>hg.block k hk (fun e1=>hn e1.symm)
 refine ⟨fun m=>if m<xs.length then cs m else ds (m - xs.length),fun m=>if m<xs.length then U m else V (m - xs.length),?_,fun m hm=>?_,fun m hm=>?_,fun m hm=>?_,fun m n hm hn hmn=>?_,fun m hm g' hg'=>?_,fun g' hg'=>.inr (.inr hg'),fun m hm k hk2=>?_,?_⟩
 ·rw [hlen,List.range_add,List.flatMap_append]
  have e1:(List.range xs.length).flatMap (fun m=>if m<xs.length then cs m else ds (m - xs.length))=(List.range xs.length).flatMap cs:=by
   unfold List.flatMap
   congr 1
   refine List.map_congr_left fun m hm=>?_
   have:=List.mem_range.1 hm
   rw [if_pos (by omega)]
  have e2:((List.range zs.length).map (xs.length+·)).flatMap (fun m=>if m<xs.length then cs m else ds (m - xs.length))=(List.range zs.length).flatMap ds:=by
   unfold List.flatMap
   rw [List.map_map]
   congr 1
   refine List.map_congr_left fun m hm=>?_
   show (if xs.length+m<xs.length then cs (xs.length+m) else ds (xs.length+m - xs.length))=ds m
   rw [if_neg (by omega)]
   congr 1
   omega
  rw [e1,e2]
  exact hown
 ·rw [hlen] at hm
  show (if m<xs.length then cs m else ds (m - xs.length)).length=size
  split
  ·exact h.len m (by omega)
  exact hz.len _ (by omega)
 ·rw [hlen] at hm
  show ∀u∈(if m<xs.length then cs m else ds (m - xs.length)),u.oneCell'=true
  split
  ·exact h.one m (by omega)
  exact hz.one _ (by omega)
 ·have hm1:m<xs.length+zs.length:=by rw [←hlen];exact hm
  by_cases e1:m<xs.length
  ·simp only [if_pos e1,List.getElem_append_left e1]
   exact hR _ _ _ _ _ (h.el m e1) (fun k hk=>hkeep k (h.inb k (h.sub m e1 k hk)) (fun e3=>h.off m e1 k e3 hk)) hg.size
  simp only [if_neg e1,List.getElem_append_right (Nat.le_of_not_lt e1)]
  exact hR _ _ _ _ _ (hz.el (m - xs.length) (by omega)) (fun k hk=>hkeep k (hz.inb k (hz.sub _ (by omega) k hk)) (fun e3=>hT k (h.blk k e3) (hz.sub _ (by omega) k hk))) hg.size
 ·rw [hlen] at hm hn
  show Apart (if m<xs.length then U m else V (m - xs.length)) (if n<xs.length then U n else V (n - xs.length))
  split
  ·next e1=>
   split
   ·exact h.two m n e1 (by omega) hmn
   exact fun k a b=>hT k (h.sub m e1 k a) (hz.sub _ (by omega) k b)
  next e1=>
  split
  ·next e2=>exact fun k a b=>hT k (h.sub n e2 k b) (hz.sub _ (by omega) k a)
  exact hz.two _ _ (by omega) (by omega) (by omega)
 ·rw [hlen] at hm
  show ¬ (if m<xs.length then U m else V (m - xs.length)) g'
  split
  ·next e1=>exact fun a=>hoff g' g' (.inl ⟨h.sub m e1 g' a,fun e3=>h.off m e1 g' e3 a⟩) hg' rfl
  exact fun a=>hoff g' g' (.inr (hz.sub _ (by omega) g' a)) hg' rfl
 ·rw [hlen] at hm
  have hk3:(if m<xs.length then U m else V (m - xs.length)) k:=hk2
  split at hk3
  ·next e1=>exact .inl (h.sub m e1 k hk3)
  exact .inr (.inl (hz.sub _ (by omega) k hk3))
 rintro k (a|a|a)
 ·exact (h.inb.mono hg.size) k a
 ·exact (hz.inb.mono hg.size) k a
 exact (hin k a).2
end
def Joined {α:Type} (e:TypeId) (size:Nat) (R:ElemO α) (w:World) (zs:List α) (S T:Blks) (v':Value) (w':World):Prop:=
 ∃S':Blks,SlO e size R w' v' zs S'∧(∀k,S' k→S k∨T k∨w.heap.size≤k)∧Kept S w w'
section
variable {P : Program} {α : Type} {R : ElemO α}
theorem Qz (w:World) (t ty e:TypeId) (i:TypeInfo) (z:Value) (size bytes:Nat) (ht:P.underlying t=some (.slice e)) (hi:P.info? e=some i) (hz:i.zero=some z)
  (hsize:i.size=size) (hby:i.bytes=bytes) (hzs:z.cells.size=size) (hsz:0<size) (hR:vS R) {v u:Value} {xs ys:List α} {S T:Blks} (hO:SlO e size R w v xs S) (hY:SlO e size R w u ys T) (hT:Apart S T)
  (h63:xs.length+ys.length≤maxLen) (hbytes:(xs.length+ys.length)*bytes≤140737488355328) :
  ∃v' w',(Builtin.append_ #[t,t] ty #[v,u]).run P w = .ok v' w'∧Joined e size R w (xs++ys) S T v' w':=by
 obtain ⟨cs,U,h⟩:=hO
 obtain ⟨ds,V,hy⟩:=hY
 rcases hy.own.2 with ⟨rfl,h0⟩|⟨g,cap,cur,rfl,_,hg,hnc,hcm,hcs,htk⟩
 ·obtain rfl:=List.length_eq_zero_iff.1 h0
  refine ⟨v,w,run_append_owned_none (P:=P) w 0 t ty e i size ht hi v _ _ h.own,S,?_,fun k hk=>.inl hk,Kept.refl _ _⟩
  rw [List.append_nil]
  exact ⟨cs,U,h⟩
 obtain ⟨v',w',hr,h2,h3,_,h5⟩:=run_append_own_at (P:=P) w 0 t ty e i z size bytes ht hi hz hsize hby hzs hsz v _ _ h.own ⟨g,0,none⟩ ys.length cap ((List.range ys.length).flatMap ds) (zj _ hy.len) (fun j x hx=>hy.own.cells (g:=g) rfl j x hx) (xP fun i hi=>hy.one i hi) h63 hbytes (Nat.zero_le _)
 refine ⟨v',w',hr,_,h.join hR hy hT h2 h3 h5,fun k hk=>?_,Kept.of_grown h3 h.blk⟩
 rcases hk with a|a|a
 ·exact .inl a
 ·exact .inr (.inl a)
 rcases h5 with b|b
 ·exact .inl (h.blk k (b.symm.trans a))
 rw [b] at a
 injection a with a
 exact .inr (.inr (by omega))
end
/-! cells taken over from what was there -/
def DatO {α:Type} (R:List Value→α→Prop):ElemO α:=fun _ cs x _=>R cs x
theorem Xo {α:Type} (R:List Value→α→Prop):vS (DatO R):=fun _ _ _ _ _ h _ _=>h
def xS {α:Type} (RO:ElemO α) (R:List Value→α→Prop):ElemO (Bool×α):=fun w cs x S=>if x.1=true then RO w cs x.2 S else R cs x.2
theorem QA {α:Type} {RO:ElemO α} (h:vS RO) (R:List Value→α→Prop):vS (xS RO R):=fun w w' cs x S hx hk hs=>by
 unfold xS at hx ⊢
 split
 ·next e=>rw [if_pos e] at hx;exact h _ _ _ _ _ hx hk hs
 next e=>rw [if_neg e] at hx;exact hx
def xT (w:World) (p:Option Addr) (size i:Nat):List Value:=(List.range size).map fun j=>(w.cell? ((p.getD default).add (i*size+j))).getD default
theorem jv (w:World) (p:Option Addr) (size i:Nat):(xT w p size i).length=size:=by simp [xT]
theorem SliceAt.old {α:Type} {w:World} {size:Nat} {R:List Value→α→Prop} {p:Option Addr} {xs:List α} (h:SliceAt w size R p xs) {i:Nat} (hi:i<xs.length):R (xT w p size i) xs[i]∧∀j,j<size→∀a,p=some a→w.cell? (a.add (i*size+j))=(xT w p size i)[j]?:=by
 obtain ⟨b,o,cs,rfl,hl,hc,hr⟩:=h.get hi
 have key:∀j,j<size→w.cell? ((⟨b,o,none⟩:Addr).add (i*size+j))=cs[j]?:=fun j hj=>by
  rw [ju,←Nat.add_assoc]
  exact hc j hj
 have e:xT w (some ⟨b,o,none⟩) size i=cs:=by
  refine List.ext_getElem? fun j=>?_
  rcases Nat.lt_or_ge j size with g|g
  ·unfold xT
   rw [List.getElem?_map,List.getElem?_range g]
   show some ((w.cell? ((⟨b,o,none⟩:Addr).add (i*size+j))).getD default)=_
   rw [key j g,List.getElem?_eq_getElem (by omega)]
   rfl
  rw [List.getElem?_eq_none (by rw [jv];exact g),List.getElem?_eq_none (by omega)]
 rw [e]
 exact ⟨hr,fun j hj a ha=>by cases ha;exact key j hj⟩
def six (w:World) (g o:Nat) (a0 a1 a2 a3 a4 a5:Value):World:=(((((w.setCell ⟨g,o,none⟩ a0).setCell ⟨g,o+1,none⟩ a1).setCell ⟨g,o+2,none⟩ a2).setCell ⟨g,o+3,none⟩ a3).setCell ⟨g,o+4,none⟩ a4).setCell ⟨g,o+5,none⟩ a5
theorem six_other (w:World) (g o:Nat) (a0 a1 a2 a3 a4 a5:Value) {i:Nat} (h:i≠g):(six w g o a0 a1 a2 a3 a4 a5).heap[i]?=w.heap[i]?:=by
 unfold six
 repeat rw [Go.Deep.blk_setCell_other _ _ _ i h]
theorem six_size (w:World) (g o:Nat) (a0 a1 a2 a3 a4 a5:Value):(six w g o a0 a1 a2 a3 a4 a5).heap.size=w.heap.size:=by simp [six,World.setCell]
theorem JY (w:World) (g o:Nat) (a0 a1 a2 a3 a4 a5:Value):Kept (fun i=>i=g) w (six w g o a0 a1 a2 a3 a4 a5):=by
 unfold six
 have h0:Kept (fun i=>i=g) w w:=Kept.refl _ w
 have h1:=h0.setCell (p:=⟨g,o,none⟩) rfl a0
 have h2:=h1.setCell (p:=⟨g,o+1,none⟩) rfl a1
 have h3:=h2.setCell (p:=⟨g,o+2,none⟩) rfl a2
 have h4:=h3.setCell (p:=⟨g,o+3,none⟩) rfl a3
 have h5:=h4.setCell (p:=⟨g,o+4,none⟩) rfl a4
 exact h5.setCell (p:=⟨g,o+5,none⟩) rfl a5
theorem RowPut.six {w w1:World} {e:TypeId} {g o:Nat} {cs:List Value} (h:RowPut w w1 e g o 6 cs) (hl:cs.length=6) (a0 a1 a2 a3 a4 a5:Value):RowPut w (Go.Proofs.YtgjjhadbjmcnpaaGreatDoor.six w1 g o a0 a1 a2 a3 a4 a5) e g o 6 [a0,a1,a2,a3,a4,a5]:=by
 obtain ⟨c0,c1,c2,c3,c4,c5,rfl⟩:=len_6 hl
 have h0:=RowPut.set h rfl (j:=0) (by omega) a0
 simp only [Nat.add_zero,List.set_cons_zero] at h0
 have h1:=RowPut.set h0 rfl (j:=1) (by omega) a1
 simp only [List.set_cons_succ,List.set_cons_zero] at h1
 have h2:=RowPut.set h1 rfl (j:=2) (by omega) a2
 simp only [List.set_cons_succ,List.set_cons_zero] at h2
 have h3:=RowPut.set h2 rfl (j:=3) (by omega) a3
 simp only [List.set_cons_succ,List.set_cons_zero] at h3
 have h4:=RowPut.set h3 rfl (j:=4) (by omega) a4
 simp only [List.set_cons_succ,List.set_cons_zero] at h4
 have h5:=RowPut.set h4 rfl (j:=5) (by omega) a5
 simp only [List.set_cons_succ,List.set_cons_zero] at h5
 unfold Go.Proofs.YtgjjhadbjmcnpaaGreatDoor.six
 exact h5
end Go.Proofs.YtgjjhadbjmcnpaaGreatDoor
