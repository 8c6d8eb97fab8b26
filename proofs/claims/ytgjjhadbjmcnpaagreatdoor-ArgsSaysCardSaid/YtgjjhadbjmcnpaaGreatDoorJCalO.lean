/-
  Plain: depth first, what is visited; the unvisited ones, counted.
-/
import Derived.Test.YtgjjhadbjmcnpaaGreatDoorJOwnJ
import Derived.Deep.LoopGhost
import Derived.Shelf.Bits.Mul64
import Derived.Lib.OwnBridge
import Derived.Sort.OwnSortedInts
import Derived.Shelf.Sort.Plain
import Derived.Shelf.Slices.CompactI
import Derived.Shelf.Slices.In.SortNone
import Derived.RangeFuncFrom
set_option maxRecDepth 100000
set_option maxHeartbeats 16000000
namespace Go.Proofs.YtgjjhadbjmcnpaaGreatDoor
open Go.RowKit

section
variable {α β : Type} {e : TypeId} {size : Nat} {R : ElemO α} {R2 : ElemO β} {w w' : World} {v : Value} {xs : List α} {ys : List β} {S : Blks}
theorem SlO.imp (h:SlO e size R w v xs S) (hl:ys.length=xs.length) (hi:∀i (h1:i<xs.length) (h2:i<ys.length) cs T,(∀u∈cs,u.oneCell'=true)->R w cs xs[i] T->R2 w cs ys[i] T):SlO e size R2 w v ys S:=by
 obtain⟨cs,T,h⟩:=h;refine⟨cs,T,?_,?_,?_,?_,?_,?_,h.blk,?_,h.inb⟩
 ·rw[hl];exact h.own
 ·rw[hl];exact h.len
 ·rw[hl];exact h.one
 ·intro i h1;exact hi i bO h1 _ _ (h.one i bO) (h.el i bO)
 ·rw[hl];exact h.two
 ·rw[hl];exact h.off
 rw[hl];exact h.sub
theorem SlO.inner (hR:kY R) (hsz:0<size) (h:SlO e size R w v xs S) {i:Nat} (hi:i<xs.length):∃g c cs T,v = .slice (some (J g 0)) xs.length c/\g<w.heap.size/\S g/\cs.length=size/\R w cs xs[i] T/\¬ T g/\(∀k,T k->S k)/\
  (∀j,j<size->w.cell? (J g (i*size+j))=cs[j]?)/\(∀o,w.frozen? (J g o)=false)/\
  (∀(w':World) (x':α) (T':Blks),Kept T w w'->R w' cs x' T'->(∀k,T' k->(T k\/w.heap.size<=k)/\k<w'.heap.size)->SlO e size R w' v (xs.set i x') (fun k=>S k\/T' k))/\
  ∀(w1:World) (x':α) (T':Blks) (j:Nat) (u:Value),j<size->u.oneCell'=true->Kept T w w1->R (w1.setCell (J g (i*size+j)) u) (cs.set j u) x' T'->(∀k,T' k->(T k\/w.heap.size<=k)/\k<w1.heap.size)->SlO e size R (w1.setCell (J g (i*size+j)) u) v (xs.set i x') (fun k=>S k\/T' k):=by
 obtain⟨cs0,T0,h0⟩:=id h;obtain⟨g,c,cs,T,hv,hg,hS,hl,hx,hT,hTS,hc,hf,⟨cur,hay⟩,put⟩:=h.focus hR hsz hi
 have hone:∀u∈cs,u.oneCell'=true:=by
  intro u hu;obtain⟨j,hj,rfl⟩:=yX hu;obtain⟨g2,c2,hv2,_,_,hc2⟩:=h0.cell hi;rw[hv]at hv2;injection hv2 with a _ _;injection a with a;injection a with a;subst a;have h1:=hc j bO;rw[hc2 j bO,zj hj]at h1;exact h0.one i hi _ (List.mem_of_getElem? h1)
 refine⟨g,c,cs,T,hv,hg,hS,hl,hx,hT,hTS,hc,hf,fun w' x' T' hk hr ht=>?_,fun w1 x' T' j u hj hu hk hr ht=>?_⟩
 ·refine put w' cs x' T' (RowPut.same hay (hk.block g hg hT) hc) hl hone hk.size (fun k h1 h2 h3=>hk.block k (h.inb k h1) h2) hr ht
 have hz:=yK w1 ⟨g,i*size+j,none⟩ u;refine put _ (cs.set j u) x' T' (RowPut.set (RowPut.same hay (hk.block g hg hT) hc) hl hj u) (by simpa using hl) (fun a ha=>?_) (by rw[hz];exact hk.size) (fun k h1 h2 h3=>(zJ w1 _ u k h3).trans (hk.block k (h.inb k h1) h2)) hr (fun k hk2=>by rw[hz];exact ht k hk2);rcases List.mem_or_eq_of_mem_set ha with h1|h1
 ·exact hone a h1
 rw[h1];exact hu
theorem RowPut.trans_other {w w1 w2:World} {g o o2:Nat} {cs cs2:List Value} (h:RowPut w w1 e g o size cs) (k:RowPut w1 w2 e g o2 size cs2) (hd:o+size<=o2\/o2+size<=o) :
  ∃cur cur':Array Value,w.heap[g]?=some (.cells cur e (0,0))/\w2.heap[g]?=some (.cells cur' e (0,0))/\cur'.size=cur.size/\(∀j,j<size->cur'[o+j]?=cs[j]?)/\(∀j,j<size->cur'[o2+j]?=cs2[j]?)/\∀j,(j<o\/o+size<=j)->(j<o2\/o2+size<=j)->cur'[j]?=cur[j]?:=by
 obtain⟨c0,c1,a1,a2,a3,a4,a5⟩:=h;obtain⟨c1',c2,b1,b2,b3,b4,b5⟩:=k;rw[a2]at b1;cases b1;refine⟨c0,c2,a1,b2,b3.trans a3,fun j hj=>?_,b4,fun j h1 h2=>(b5 j h2).trans (a5 j h1)⟩;rw[b5 (o+j) bO];exact a4 j hj
theorem SlW.put2 {cs:Nat->List Value} {T:Nat->Blks} {g i j:Nat} {w1 w2:World} {ci cj:List Value} {xi xj:α} {Ti Tj:Blks} (hR:kY R) (hsz:0<size) (h:SlW e size R w v xs S cs T) (hob:v.ownBlock=some g) (hi:i<xs.length) (hj:j<xs.length) (hij:i≠j)
  (p1:RowPut w w1 e g (i*size) size ci) (p2:RowPut w1 w2 e g (j*size) size cj) (hli:ci.length=size) (hlj:cj.length=size) (hoi:∀u∈ci,u.oneCell'=true) (hoj:∀u∈cj,u.oneCell'=true) (hs:w.heap.size<=w2.heap.size)
  (hk:∀k,S k->¬ T i k->¬ T j k->k≠g->w2.heap[k]?=w.heap[k]?) (ri:R w2 ci xi Ti) (rj:R w2 cj xj Tj) (hap:Apart Ti Tj)
  (hTi:∀k,Ti k->(T i k\/T j k\/w.heap.size<=k)/\k<w2.heap.size) (hTj:∀k,Tj k->(T i k\/T j k\/w.heap.size<=k)/\k<w2.heap.size) :
  SlO e size R w2 v ((xs.set i xi).set j xj) (fun k=>S k\/Ti k\/Tj k):=by
 have hd:i*size+size<=j*size\/j*size+size<=i*size:=by
  rcases yq i j with a|a
  ·left;have:(i+1)*size<=j*size:=ye _ a;rw[Nat.add_mul]at this;omega
  right;have:(j+1)*size<=i*size:=ye _ bO;rw[Nat.add_mul]at this;omega
 obtain⟨cur,cur',q1,q2,q3,q4,q5,q6⟩:=p1.trans_other p2 hd;rcases h.own.2 with⟨_,h2⟩|⟨g',cap,cur0,hv,hb,hg,hc1,hc2,hc3,htk⟩
 ·omega
 have hgg:g'=g:=by
  rw[hv]at hob;injection hob with hob
 subst hgg;rw[hg]at q1;cases q1;have hgs:=(yL.1 hg).1
 have hcell:∀m jj,m<xs.length->jj<size->cur[m*size+jj]?=(cs m)[jj]?:=fun m jj hm hjj=>by
  have hlt:m*size+jj<xs.length*size:=by
   have:(m+1)*size<=xs.length*size:=ye _ hm;rw[Nat.add_mul]at this;omega
  rw[←xZ xs.length h.len m jj hm hjj,←htk,List.getElem?_take_of_lt hlt,xJ]
 have hlen:((xs.set i xi).set j xj).length=xs.length:=by simp
 have hS:∀m,m<xs.length->∀k,T m k->S k:=h.sub
 have key:∀(U:Blks),(∀k,U k->(T i k\/T j k\/w.heap.size<=k)/\k<w2.heap.size)->∀m,m<xs.length->m≠i->m≠j->Apart U (T m):=fun U hU m hm h1 h2 k a b=>by
  rcases (hU k a).1 with c|c|c
  ·exact h.two m i hm hi h1 k b c
  ·exact h.two m j hm hj h2 k b c
  have:=h.inb k (h.sub m hm k b);omega
 have koff:∀(U:Blks),(∀k,U k->(T i k\/T j k\/w.heap.size<=k)/\k<w2.heap.size)->¬ U g':=fun U hU a=>by
  rcases (hU _ a).1 with c|c|c
  ·exact h.off i hi _ hob c
  ·exact h.off j hj _ hob c
  omega
 refine⟨fun m=>if m=i then ci else if m=j then cj else cs m,fun m=>if m=i then Ti else if m=j then Tj else T m,?_,fun m hm=>?_,fun m hm=>?_,fun m hm=>?_,fun m n hm hn hmn=>?_,fun m hm g2 hg2=>?_,fun g2 hg2=>.inl (h.blk g2 hg2),fun m hm k hk2=>?_,?_⟩
 ·rw[hlen]
  have hlc:∀m,m<xs.length->(if m=i then ci else if m=j then cj else cs m).length=size:=fun m hm=>by
   split
   ·exact hli
   split
   ·exact hlj
   exact h.len m hm
  refine⟨by rw[zR _ hlc],.inr ⟨g',cap,cur',hv,hb,q2,hc1,hc2,by rw[q3];exact hc3,?_⟩⟩;have hle:xs.length*size<=cap*size:=ye _ hc1;refine XK h.len hlc hsz bW fun m jj hm hjj=>?_
  have hlt:m*size+jj<xs.length*size:=by
   have:(m+1)*size<=xs.length*size:=ye _ hm;rw[Nat.add_mul]at this;omega
  rw[List.getElem?_take_of_lt hlt,xJ]
  have out:∀n,m≠n->m*size+jj<n*size\/n*size+size<=m*size+jj:=fun n hn=>by
   rcases yq m n with a|a
   ·left;have:(m+1)*size<=n*size:=ye _ a;rw[Nat.add_mul]at this;omega
   right;have:(n+1)*size<=m*size:=ye _ bO;rw[Nat.add_mul]at this;omega
  by_cases e1:m=i
  ·subst e1;rw[zZ rfl];exact q4 jj hjj
  rw[zQ e1]
  by_cases e2:m=j
  ·subst e2;rw[zZ rfl];exact q5 jj hjj
  rw[zQ e2,q6 _ (out i e1) (out j e2)];exact hcell m jj hm hjj
 ·rw[hlen]at hm;show(if m=i then ci else if m=j then cj else cs m).length=size
  split
  ·exact hli
  split
  ·exact hlj
  exact h.len m hm
 ·rw[hlen]at hm;show ∀u∈(if m=i then ci else if m=j then cj else cs m),u.oneCell'=true
  split
  ·exact hoi
  split
  ·exact hoj
  exact h.one m hm
 ·have hm2:m<xs.length:=by rw[←hlen];exact hm
  by_cases e1:m=i
  ·subst e1;simp only[if_true];rw[List.getElem_set_ne (Ne.symm hij),List.getElem_set_self];exact ri
  by_cases e2:m=j
  ·subst e2;simp only[zQ e1,if_true];rw[List.getElem_set_self];exact rj
  simp only[zQ e1,zQ e2];rw[List.getElem_set_ne (Ne.symm e2),List.getElem_set_ne (Ne.symm e1)];refine hR _ _ _ _ _ (h.el m hm2) (fun k hk2=>hk k (h.sub m hm2 k hk2) (fun hk3=>h.two m i hm2 hi e1 k hk2 hk3) (fun hk3=>h.two m j hm2 hj e2 k hk2 hk3) (fun e2=>h.off m hm2 g' hob (by rw[←e2];exact hk2))) hs
 ·rw[hlen]at hm hn;show Apart (if m=i then Ti else if m=j then Tj else T m) (if n=i then Ti else if n=j then Tj else T n)
  by_cases e1:m=i
  ·rw[zZ e1]
   by_cases e2:n=j
   ·rw[zQ bO,zZ e2];exact hap
   rw[zQ bO,zQ e2];exact key Ti hTi n hn bO e2
  rw[zQ e1]
  by_cases e3:m=j
  ·rw[zZ e3]
   by_cases e2:n=i
   ·rw[zZ e2];exact hap.symm
   rw[zQ e2,zQ bO];exact key Tj hTj n hn e2 bO
  rw[zQ e3]
  by_cases e2:n=i
  ·rw[zZ e2];exact(key Ti hTi m hm e1 e3).symm
  rw[zQ e2]
  by_cases e4:n=j
  ·rw[zZ e4];exact(key Tj hTj m hm e1 e3).symm
  rw[zQ e4];exact h.two m n hm hn hmn
 ·rw[hlen]at hm;rw[hob]at hg2;cases hg2;show ¬ (if m=i then Ti else if m=j then Tj else T m) g'
  split
  ·exact koff Ti hTi
  split
  ·exact koff Tj hTj
  exact h.off m hm _ hob
 ·rw[hlen]at hm;have hk3:(if m=i then Ti else if m=j then Tj else T m) k:=hk2
  split at hk3
  ·exact .inr (.inl hk3)
  split at hk3
  ·exact .inr (.inr hk3)
  exact .inl (h.sub m hm k hk3)
 rintro k (a|a|a)
 ·exact(h.inb.mono hs) k a
 ·exact(hTi k a).2
 exact(hTj k a).2
theorem SlW.join {w':World} {v' u:Value} {zs:List α} {T:Blks} {cs ds:Nat->List Value} {U V:Nat->Blks} (hR:kY R) (h:SlW e size R w v xs S cs U) (hz:SlW e size R w u zs T ds V) (hT:Apart S T)
  (hown:w'.ownsRow 0 e size v' (xs.length+zs.length) ((List.range xs.length).flatMap cs++(List.range zs.length).flatMap ds)) (hg:w.grownBy w' v.ownBlock) (hat:v'.ownBlock=v.ownBlock\/v'.ownBlock=some w.heap.size) :
  SlO e size R w' v' (xs++zs) (fun k=>S k\/T k\/v'.ownBlock=some k):=by
 have hlen:(xs++zs).length=xs.length+zs.length:=by simp
 have hin:∀g,v'.ownBlock=some g->0<=g/\g<w'.heap.size:=hown.lt
 have hoff:∀k g,(S k/\v.ownBlock≠some k)\/T k->v'.ownBlock=some g->k≠g:=fun k g hk hg' ek=>by
  subst ek;rcases hat with a|a
  ·rcases hk with⟨_,b⟩|b
   ·exact b (a.symm.trans hg')
   exact hT k (h.blk k (a.symm.trans hg')) b
  have hks:k<w.heap.size:=by
   rcases hk with⟨b,_⟩|b
   ·exact h.inb k b
   exact hz.inb k b
  rw[a]at hg';injection hg' with hg';omega
 have hkeep:∀k,k<w.heap.size->v.ownBlock≠some k->w'.heap[k]?=w.heap[k]?:=fun k hk hn=>hg.block k hk (fun e1=>hn e1.symm);refine⟨fun m=>if m<xs.length then cs m else ds (m - xs.length),fun m=>if m<xs.length then U m else V (m - xs.length),?_,fun m hm=>?_,fun m hm=>?_,fun m hm=>?_,fun m n hm hn hmn=>?_,fun m hm g' hg'=>?_,fun g' hg'=>.inr (.inr hg'),fun m hm k hk2=>?_,?_⟩
 ·rw[hlen,List.range_add,yn]
  have e1:(List.range xs.length).flatMap (fun m=>if m<xs.length then cs m else ds (m - xs.length))=(List.range xs.length).flatMap cs:=by
   unfold List.flatMap;congr 1;refine ya fun m hm=>?_;have:=yR.1 hm;rw[zZ bO]
  have e2:((List.range zs.length).map (xs.length+·)).flatMap (fun m=>if m<xs.length then cs m else ds (m - xs.length))=(List.range zs.length).flatMap ds:=by
   unfold List.flatMap;rw[yy];congr 1;refine ya fun m hm=>?_;show(if xs.length+m<xs.length then cs (xs.length+m)else ds (xs.length+m - xs.length))=ds m;rw[zQ bO];congr 1;omega
  rw[e1,e2];exact hown
 ·rw[hlen]at hm;show(if m<xs.length then cs m else ds (m - xs.length)).length=size
  split
  ·exact h.len m bO
  exact hz.len _ bO
 ·rw[hlen]at hm;show ∀u∈(if m<xs.length then cs m else ds (m - xs.length)),u.oneCell'=true
  split
  ·exact h.one m bO
  exact hz.one _ bO
 ·have hm1:m<xs.length+zs.length:=by rw[←hlen];exact hm
  by_cases e1:m<xs.length
  ·simp only[zZ e1,List.getElem_append_left e1];exact hR _ _ _ _ _ (h.el m e1) (fun k hk=>hkeep k (h.inb k (h.sub m e1 k hk)) (fun e3=>h.off m e1 k e3 hk)) hg.size
  simp only[zQ e1,List.getElem_append_right (Nat.le_of_not_lt e1)];exact hR _ _ _ _ _ (hz.el (m - xs.length) bO) (fun k hk=>hkeep k (hz.inb k (hz.sub _ bO k hk)) (fun e3=>hT k (h.blk k e3) (hz.sub _ bO k hk))) hg.size
 ·rw[hlen]at hm hn;show Apart (if m<xs.length then U m else V (m - xs.length)) (if n<xs.length then U n else V (n - xs.length))
  split
  ·next e1=>
   split
   ·exact h.two m n e1 bO hmn
   exact fun k a b=>hT k (h.sub m e1 k a) (hz.sub _ bO k b)
  next e1=>
  split
  ·next e2=>exact fun k a b=>hT k (h.sub n e2 k b) (hz.sub _ bO k a)
  exact hz.two _ _ bO bO bO
 ·rw[hlen]at hm;show ¬ (if m<xs.length then U m else V (m - xs.length)) g'
  split
  ·next e1=>exact fun a=>hoff g' g' (.inl ⟨h.sub m e1 g' a,fun e3=>h.off m e1 g' e3 a⟩) hg' rfl
  exact fun a=>hoff g' g' (.inr (hz.sub _ bO g' a)) hg' rfl
 ·rw[hlen]at hm;have hk3:(if m<xs.length then U m else V (m - xs.length)) k:=hk2
  split at hk3
  ·next e1=>exact .inl (h.sub m e1 k hk3)
  exact .inr (.inl (hz.sub _ bO k hk3))
 rintro k (a|a|a)
 ·exact(h.inb.mono hg.size) k a
 ·exact(hz.inb.mono hg.size) k a
 exact(hin k a).2
end
def Joined {α:Type} (e:TypeId) (size:Nat) (R:ElemO α) (w:World) (zs:List α) (S T:Blks) (v':Value) (w':World):Prop:=
 ∃S':Blks,SlO e size R w' v' zs S'/\(∀k,S' k->S k\/T k\/w.heap.size<=k)/\Kept S w w'
section
variable {P : Program} {α : Type} {R : ElemO α}
theorem km (w:World) (t ty e:TypeId) (i:TypeInfo) (z:Value) (size bytes:Nat) (ht:P.underlying t=some (.slice e)) (hi:P.info? e=some i) (hz:i.zero=some z)
  (hsize:i.size=size) (hby:i.bytes=bytes) (hzs:z.cells.size=size) (hsz:0<size) (hR:kY R) {v u:Value} {xs ys:List α} {S T:Blks} (hO:SlO e size R w v xs S) (hY:SlO e size R w u ys T) (hT:Apart S T)
  (h63:xs.length+ys.length<=maxLen) (hbytes:(xs.length+ys.length)*bytes<=140737488355328) :
  ∃v' w',(Builtin.append_ #[t,t] ty #[v,u]).run P w = .ok v' w'/\Joined e size R w (xs++ys) S T v' w':=by
 obtain⟨cs,U,h⟩:=hO;obtain⟨ds,V,hy⟩:=hY;rcases hy.own.2 with⟨rfl,h0⟩|⟨g,cap,cur,rfl,_,hg,hnc,hcm,hcs,htk⟩
 ·obtain rfl:=yd.1 h0;refine⟨v,w,run_append_owned_none (P:=P) w 0 t ty e i size ht hi v _ _ h.own,S,?_,fun k hk=>.inl hk,Kept.refl _ _⟩;rw[List.append_nil];exact⟨cs,U,h⟩
 obtain⟨v',w',hr,h2,h3,_,h5⟩:=run_append_own_at (P:=P) w 0 t ty e i z size bytes ht hi hz hsize hby hzs hsz v _ _ h.own ⟨g,0,none⟩ ys.length cap ((List.range ys.length).flatMap ds) (zR _ hy.len) (fun j x hx=>hy.own.cells (g:=g) rfl j x hx) (ji fun i hi=>hy.one i hi) h63 hbytes (Nat.zero_le _);refine⟨v',w',hr,_,h.join hR hy hT h2 h3 h5,fun k hk=>?_,Kept.of_grown h3 h.blk⟩;rcases hk with a|a|a
 ·exact .inl a
 ·exact .inr (.inl a)
 rcases h5 with b|b
 ·exact .inl (h.blk k (b.symm.trans a))
 rw[b]at a;injection a with a;exact .inr (.inr bO)
end
/-! cells taken over from what was there -/
def DatO {α:Type} (R:List Value->α->Prop):ElemO α:=fun _ cs x _=>R cs x
theorem JM {α:Type} (R:List Value->α->Prop):kY (DatO R):=fun _ _ _ _ _ h _ _=>h
def jB {α:Type} (RO:ElemO α) (R:List Value->α->Prop):ElemO (Bool×α):=fun w cs x S=>if x.1=true then RO w cs x.2 S else R cs x.2
theorem Zy {α:Type} {RO:ElemO α} (h:kY RO) (R:List Value->α->Prop):kY (jB RO R):=fun w w' cs x S hx hk hs=>by
 unfold jB at hx ⊢
 split
 ·next e=>rw[zZ e]at hx;exact h _ _ _ _ _ hx hk hs
 next e=>rw[zQ e]at hx;exact hx
def jC (w:World) (p:Option Addr) (size i:Nat):List Value:=(List.range size).map fun j=>(w.cell? ((p.getD default).add (i*size+j))).getD default
theorem vD (w:World) (p:Option Addr) (size i:Nat):(jC w p size i).length=size:=by simp[jC]
theorem SliceAt.old {α:Type} {w:World} {size:Nat} {R:List Value->α->Prop} {p:Option Addr} {xs:List α} (h:SliceAt w size R p xs) {i:Nat} (hi:i<xs.length):R (jC w p size i) xs[i]/\∀j,j<size->∀a,p=some a->w.cell? (a.add (i*size+j))=(jC w p size i)[j]?:=by
 obtain⟨b,o,cs,rfl,hl,hc,hr⟩:=h.get hi
 have key:∀j,j<size->w.cell? ((⟨b,o,none⟩:Addr).add (i*size+j))=cs[j]?:=fun j hj=>by
  rw[vC,←Nat.add_assoc];exact hc j hj
 have e:jC w (some (J b o)) size i=cs:=by
  refine List.ext_getElem? fun j=>?_;rcases yq j size with g|g
  ·unfold jC;rw[List.getElem?_map,List.getElem?_range g];show some ((w.cell? ((⟨b,o,none⟩:Addr).add (i*size+j))).getD default)=_;rw[key j g,zj bO];rfl
  rw[yk (by rw[vD];exact g),yk bO]
 rw[e];exact⟨hr,fun j hj a ha=>by cases ha;exact key j hj⟩
def six (w:World) (g o:Nat) (a0 a1 a2 a3 a4 a5:Value):World:=(((((w.setCell (J g o) a0).setCell (J g (o+1)) a1).setCell (J g (o+2)) a2).setCell (J g (o+3)) a3).setCell (J g (o+4)) a4).setCell (J g (o+5)) a5
theorem six_other (w:World) (g o:Nat) (a0 a1 a2 a3 a4 a5:Value) {i:Nat} (h:i≠g):(six w g o a0 a1 a2 a3 a4 a5).heap[i]?=w.heap[i]?:=by
 unfold six
 repeat rw[zJ _ _ _ i h]
theorem six_size (w:World) (g o:Nat) (a0 a1 a2 a3 a4 a5:Value):(six w g o a0 a1 a2 a3 a4 a5).heap.size=w.heap.size:=by simp[six,World.setCell]
theorem Ky (w:World) (g o:Nat) (a0 a1 a2 a3 a4 a5:Value):Kept (fun i=>i=g) w (six w g o a0 a1 a2 a3 a4 a5):=by
 unfold six;have h0:Kept (fun i=>i=g) w w:=Kept.refl _ w;have h1:=h0.setCell (p:=(J g o)) rfl a0;have h2:=h1.setCell (p:=(J g (o+1))) rfl a1;have h3:=h2.setCell (p:=(J g (o+2))) rfl a2;have h4:=h3.setCell (p:=(J g (o+3))) rfl a3;have h5:=h4.setCell (p:=(J g (o+4))) rfl a4;exact h5.setCell (p:=(J g (o+5))) rfl a5
theorem RowPut.six {w w1:World} {e:TypeId} {g o:Nat} {cs:List Value} (h:RowPut w w1 e g o 6 cs) (hl:cs.length=6) (a0 a1 a2 a3 a4 a5:Value):RowPut w (Go.Proofs.YtgjjhadbjmcnpaaGreatDoor.six w1 g o a0 a1 a2 a3 a4 a5) e g o 6 [a0,a1,a2,a3,a4,a5]:=by
 obtain⟨c0,c1,c2,c3,c4,c5,rfl⟩:=len_6 hl;have h0:=RowPut.set h rfl (j:=0) bO a0;simp only[yJ,yQ]at h0;have h1:=RowPut.set h0 rfl (j:=1) bO a1;simp only[yZ,yQ]at h1;have h2:=RowPut.set h1 rfl (j:=2) bO a2;simp only[yZ,yQ]at h2;have h3:=RowPut.set h2 rfl (j:=3) bO a3;simp only[yZ,yQ]at h3;have h4:=RowPut.set h3 rfl (j:=4) bO a4;simp only[yZ,yQ]at h4;have h5:=RowPut.set h4 rfl (j:=5) bO a5;simp only[yZ,yQ]at h5;unfold Go.Proofs.YtgjjhadbjmcnpaaGreatDoor.six;exact h5

theorem xU {w:World} {a:Addr} {u:Value} (h:w.cell? a=some u) (o:Obj):(w.alloc o).cell? a=some u:=(zN (xG w o a.block (World.block_lt_of_cell? w a h))).trans h

theorem Yq {R:List Value->PhiL->Prop} (h1:∀cs x,R cs x->∀u∈cs,u.oneCell'=true) (xs:List PhiL) (p:Option Addr) (c:Nat) (w:World) (h:SliceAt w 2 R p xs) (hp:p=none->xs.length=0/\c=0) (hl:xs.length*32<=reachBytes) :
  Calls Tryz.prog 89 #[.slice p xs.length c] w fun e w'=>∃p' c',e = .returned (.slice p' xs.length c')/\(∃S,SlQ 84 2 32 (DatO R) w' (.slice p' xs.length c') xs S/\LoB w.heap.size S)/\Below w.heap.size w w':=by
 have hlr:xs.length*32<=140737488351232:=hl;rcases p with _|a
 ·obtain⟨h0,rfl⟩:=hp rfl;obtain rfl:=yd.1 h0;have he:∀w:World,(binOp .eql 41 (.slice none 0 0) (.slice none 0 0)).run Tryz.prog w = .ok (.bool true) w:=fun _=>rfl
  go_enter Tryz.func89,Tryz.ntmps89
  go_wp2_with fail
  go_ret
  exact⟨none,0,rfl,⟨fun _=>False,⟨SlO.nil _ _ _ _ (fun _ h=>h.elim),by simp⟩,fun _ h=>h.elim⟩,zI _ _⟩
 obtain⟨i1,k1,k2,k3,k4⟩:=info_parts XM;have HO:=q8 fun i (hi:i<xs.length)=>h.old hi;have HL:Hid (∀i,i<xs.length->(jC w (some a) 2 i).length=2):=q8 fun _ _=>vD _ _ _ _
 have HF:Hid (∀j u,((List.range xs.length).flatMap (jC w (some a) 2))[j]?=some u->w.cell? (a.add j)=some u):=q8 fun j u hu=>by
  have hj:j<xs.length*2:=by
   rw[←zR _ HL.out];exact(List.getElem?_eq_some_iff.1 hu).1
  have hi:j / 2<xs.length:=by omega
  have hm:j % 2<2:=by omega
  have e:j=j / 2*2+j % 2:=by omega
  rw[e,xZ _ HL.out _ _ hi hm]at hu;rw[e,(HO.out _ hi).2 _ hm a rfl,hu]
 have he:∀w:World,(binOp .eql 41 (.slice (some a) xs.length c) (.slice none 0 0)).run Tryz.prog w = .ok (.bool false) w:=fun _=>rfl;have H1:=q8 h1;clear h h1
 go_enter Tryz.func89,Tryz.ntmps89
 go_wp2_with (at_builtin;refine wpList_append_own _ rfl (.tmp 5) (.tmp 6) 41 rfl w.heap.size 84 i1 _ 2 32 Tryz.underlying41 k1 k2 k3 k4 rfl (by decide) _ 0 [] rfl ?c0 a xs.length c ((List.range xs.length).flatMap (jC w (some a) 2)) rfl ?c1 ?c2 ?c3 ?c4 ?c5 ?c6 ?_)
 case c0=>exact vV (qB _ _) (zK _)
 case c1=>exact zR _ HL.out
 case c2=>exact fun j u hu=>xU (HF.out j u hu) _
 case c3=>exact ji fun i hi=>H1.out _ _ (HO.out i hi).1
 case c4=>unfold maxLen;omega
 case c5=>omega
 case c6=>simp
 intro v' w' hown hg _
 have hval:∃p' c',v' = .slice p' xs.length c':=by
  rcases hown.2 with⟨h1,h2⟩|⟨g,cap,cur,h1,_⟩
  ·exact⟨none,0,by rw[h1,show xs.length=0 by omega]⟩
  exact⟨some (J g 0),cap,by rw[h1]⟩
 obtain⟨p',c',rfl⟩:=hval
 go_wp2
 refine zk (v:=.slice p' xs.length c') ?_ rfl ⟨p',c',rfl,⟨_,⟨SlO.flat (base:=w.heap.size) (cs:=jC w (some a) 2) (by simpa using hown) HL.out (fun i hi=>H1.out _ _ (HO.out i hi).1) (fun i hi=>(HO.out i hi).1),hl⟩,fun k hk=>(hown.lt k hk).1⟩,?_⟩
 ·simp[results,Tryz.results89,go_sem]
 exact Below.grown bZ hg bV (fun b e=>by cases e;exact zK _)

theorem Yr {R:List Value->InsL->Prop} (h1:∀cs x,R cs x->∀u∈cs,u.oneCell'=true) (xs:List InsL) (p:Option Addr) (c:Nat) (w:World) (h:SliceAt w 8 R p xs) (hp:p=none->xs.length=0/\c=0) (hl:xs.length*80<=reachBytes) :
  Calls Tryz.prog 91 #[.slice p xs.length c] w fun e w'=>∃p' c',e = .returned (.slice p' xs.length c')/\(∃S,SlQ 51 8 80 (DatO R) w' (.slice p' xs.length c') xs S/\LoB w.heap.size S)/\Below w.heap.size w w':=by
 have hlr:xs.length*80<=140737488351232:=hl;rcases p with _|a
 ·obtain⟨h0,rfl⟩:=hp rfl;obtain rfl:=yd.1 h0;have he:∀w:World,(binOp .eql 42 (.slice none 0 0) (.slice none 0 0)).run Tryz.prog w = .ok (.bool true) w:=fun _=>rfl
  go_enter Tryz.func91,Tryz.ntmps91
  go_wp2_with fail
  go_ret
  exact⟨none,0,rfl,⟨fun _=>False,⟨SlO.nil _ _ _ _ (fun _ h=>h.elim),by simp⟩,fun _ h=>h.elim⟩,zI _ _⟩
 obtain⟨i1,k1,k2,k3,k4⟩:=info_parts v6;have HO:=q8 fun i (hi:i<xs.length)=>h.old hi;have HL:Hid (∀i,i<xs.length->(jC w (some a) 8 i).length=8):=q8 fun _ _=>vD _ _ _ _
 have HF:Hid (∀j u,((List.range xs.length).flatMap (jC w (some a) 8))[j]?=some u->w.cell? (a.add j)=some u):=q8 fun j u hu=>by
  have hj:j<xs.length*8:=by
   rw[←zR _ HL.out];exact(List.getElem?_eq_some_iff.1 hu).1
  have hi:j / 8<xs.length:=by omega
  have hm:j % 8<8:=by omega
  have e:j=j / 8*8+j % 8:=by omega
  rw[e,xZ _ HL.out _ _ hi hm]at hu;rw[e,(HO.out _ hi).2 _ hm a rfl,hu]
 have he:∀w:World,(binOp .eql 42 (.slice (some a) xs.length c) (.slice none 0 0)).run Tryz.prog w = .ok (.bool false) w:=fun _=>rfl;have H1:=q8 h1;clear h h1
 go_enter Tryz.func91,Tryz.ntmps91
 go_wp2_with (at_builtin;refine wpList_append_own _ rfl (.tmp 5) (.tmp 6) 42 rfl w.heap.size 51 i1 _ 8 80 Tryz.underlying42 k1 k2 k3 k4 rfl (by decide) _ 0 [] rfl ?c0 a xs.length c ((List.range xs.length).flatMap (jC w (some a) 8)) rfl ?c1 ?c2 ?c3 ?c4 ?c5 ?c6 ?_)
 case c0=>exact vV (qB _ _) (zK _)
 case c1=>exact zR _ HL.out
 case c2=>exact fun j u hu=>xU (HF.out j u hu) _
 case c3=>exact ji fun i hi=>H1.out _ _ (HO.out i hi).1
 case c4=>unfold maxLen;omega
 case c5=>omega
 case c6=>simp
 intro v' w' hown hg _
 have hval:∃p' c',v' = .slice p' xs.length c':=by
  rcases hown.2 with⟨h1,h2⟩|⟨g,cap,cur,h1,_⟩
  ·exact⟨none,0,by rw[h1,show xs.length=0 by omega]⟩
  exact⟨some (J g 0),cap,by rw[h1]⟩
 obtain⟨p',c',rfl⟩:=hval
 go_wp2
 refine zk (v:=.slice p' xs.length c') ?_ rfl ⟨p',c',rfl,⟨_,⟨SlO.flat (base:=w.heap.size) (cs:=jC w (some a) 8) (by simpa using hown) HL.out (fun i hi=>H1.out _ _ (HO.out i hi).1) (fun i hi=>(HO.out i hi).1),hl⟩,fun k hk=>(hown.lt k hk).1⟩,?_⟩
 ·simp[results,Tryz.results91,go_sem]
 exact Below.grown bZ hg bV (fun b e=>by cases e;exact zK _)

theorem Ys {R:List Value->BlkL->Prop} (h1:∀cs x,R cs x->∀u∈cs,u.oneCell'=true) (xs:List BlkL) (p:Option Addr) (c:Nat) (w:World) (h:SliceAt w 6 R p xs) (hp:p=none->xs.length=0/\c=0) (hl:xs.length*96<=reachBytes) :
  Calls Tryz.prog 88 #[.slice p xs.length c] w fun e w'=>∃p' c',e = .returned (.slice p' xs.length c')/\(∃S,SlQ 49 6 96 (DatO R) w' (.slice p' xs.length c') xs S/\LoB w.heap.size S)/\Below w.heap.size w w':=by
 have hlr:xs.length*96<=140737488351232:=hl;rcases p with _|a
 ·obtain⟨h0,rfl⟩:=hp rfl;obtain rfl:=yd.1 h0;have he:∀w:World,(binOp .eql 36 (.slice none 0 0) (.slice none 0 0)).run Tryz.prog w = .ok (.bool true) w:=fun _=>rfl
  go_enter Tryz.func88,Tryz.ntmps88
  go_wp2_with fail
  go_ret
  exact⟨none,0,rfl,⟨fun _=>False,⟨SlO.nil _ _ _ _ (fun _ h=>h.elim),by simp⟩,fun _ h=>h.elim⟩,zI _ _⟩
 obtain⟨i1,k1,k2,k3,k4⟩:=info_parts Zg;have HO:=q8 fun i (hi:i<xs.length)=>h.old hi;have HL:Hid (∀i,i<xs.length->(jC w (some a) 6 i).length=6):=q8 fun _ _=>vD _ _ _ _
 have HF:Hid (∀j u,((List.range xs.length).flatMap (jC w (some a) 6))[j]?=some u->w.cell? (a.add j)=some u):=q8 fun j u hu=>by
  have hj:j<xs.length*6:=by
   rw[←zR _ HL.out];exact(List.getElem?_eq_some_iff.1 hu).1
  have hi:j / 6<xs.length:=by omega
  have hm:j % 6<6:=by omega
  have e:j=j / 6*6+j % 6:=by omega
  rw[e,xZ _ HL.out _ _ hi hm]at hu;rw[e,(HO.out _ hi).2 _ hm a rfl,hu]
 have he:∀w:World,(binOp .eql 36 (.slice (some a) xs.length c) (.slice none 0 0)).run Tryz.prog w = .ok (.bool false) w:=fun _=>rfl;have H1:=q8 h1;clear h h1
 go_enter Tryz.func88,Tryz.ntmps88
 go_wp2_with (at_builtin;refine wpList_append_own _ rfl (.tmp 5) (.tmp 6) 36 rfl w.heap.size 49 i1 _ 6 96 Tryz.underlying36 k1 k2 k3 k4 rfl (by decide) _ 0 [] rfl ?c0 a xs.length c ((List.range xs.length).flatMap (jC w (some a) 6)) rfl ?c1 ?c2 ?c3 ?c4 ?c5 ?c6 ?_)
 case c0=>exact vV (qB _ _) (zK _)
 case c1=>exact zR _ HL.out
 case c2=>exact fun j u hu=>xU (HF.out j u hu) _
 case c3=>exact ji fun i hi=>H1.out _ _ (HO.out i hi).1
 case c4=>unfold maxLen;omega
 case c5=>omega
 case c6=>simp
 intro v' w' hown hg _
 have hval:∃p' c',v' = .slice p' xs.length c':=by
  rcases hown.2 with⟨h1,h2⟩|⟨g,cap,cur,h1,_⟩
  ·exact⟨none,0,by rw[h1,show xs.length=0 by omega]⟩
  exact⟨some (J g 0),cap,by rw[h1]⟩
 obtain⟨p',c',rfl⟩:=hval
 go_wp2
 refine zk (v:=.slice p' xs.length c') ?_ rfl ⟨p',c',rfl,⟨_,⟨SlO.flat (base:=w.heap.size) (cs:=jC w (some a) 6) (by simpa using hown) HL.out (fun i hi=>H1.out _ _ (HO.out i hi).1) (fun i hi=>(HO.out i hi).1),hl⟩,fun k hk=>(hown.lt k hk).1⟩,?_⟩
 ·simp[results,Tryz.results88,go_sem]
 exact Below.grown bZ hg bV (fun b e=>by cases e;exact zK _)

theorem Yt {R:List Value->FunL->Prop} (h1:∀cs x,R cs x->∀u∈cs,u.oneCell'=true) (xs:List FunL) (p:Option Addr) (c:Nat) (w:World) (h:SliceAt w 4 R p xs) (hp:p=none->xs.length=0/\c=0) (hl:xs.length*56<=reachBytes) :
  Calls Tryz.prog 62 #[.slice p xs.length c] w fun e w'=>∃p' c',e = .returned (.slice p' xs.length c')/\(∃S,SlQ 38 4 56 (DatO R) w' (.slice p' xs.length c') xs S/\LoB w.heap.size S)/\Below w.heap.size w w':=by
 have hlr:xs.length*56<=140737488351232:=hl;rcases p with _|a
 ·obtain⟨h0,rfl⟩:=hp rfl;obtain rfl:=yd.1 h0;have he:∀w:World,(binOp .eql 23 (.slice none 0 0) (.slice none 0 0)).run Tryz.prog w = .ok (.bool true) w:=fun _=>rfl
  go_enter Tryz.func62,Tryz.ntmps62
  go_wp2_with fail
  go_ret
  exact⟨none,0,rfl,⟨fun _=>False,⟨SlO.nil _ _ _ _ (fun _ h=>h.elim),by simp⟩,fun _ h=>h.elim⟩,zI _ _⟩
 obtain⟨i1,k1,k2,k3,k4⟩:=info_parts XP;have HO:=q8 fun i (hi:i<xs.length)=>h.old hi;have HL:Hid (∀i,i<xs.length->(jC w (some a) 4 i).length=4):=q8 fun _ _=>vD _ _ _ _
 have HF:Hid (∀j u,((List.range xs.length).flatMap (jC w (some a) 4))[j]?=some u->w.cell? (a.add j)=some u):=q8 fun j u hu=>by
  have hj:j<xs.length*4:=by
   rw[←zR _ HL.out];exact(List.getElem?_eq_some_iff.1 hu).1
  have hi:j / 4<xs.length:=by omega
  have hm:j % 4<4:=by omega
  have e:j=j / 4*4+j % 4:=by omega
  rw[e,xZ _ HL.out _ _ hi hm]at hu;rw[e,(HO.out _ hi).2 _ hm a rfl,hu]
 have he:∀w:World,(binOp .eql 23 (.slice (some a) xs.length c) (.slice none 0 0)).run Tryz.prog w = .ok (.bool false) w:=fun _=>rfl;have H1:=q8 h1;clear h h1
 go_enter Tryz.func62,Tryz.ntmps62
 go_wp2_with (at_builtin;refine wpList_append_own _ rfl (.tmp 5) (.tmp 6) 23 rfl w.heap.size 38 i1 _ 4 56 Tryz.underlying23 k1 k2 k3 k4 rfl (by decide) _ 0 [] rfl ?c0 a xs.length c ((List.range xs.length).flatMap (jC w (some a) 4)) rfl ?c1 ?c2 ?c3 ?c4 ?c5 ?c6 ?_)
 case c0=>exact vV (qB _ _) (zK _)
 case c1=>exact zR _ HL.out
 case c2=>exact fun j u hu=>xU (HF.out j u hu) _
 case c3=>exact ji fun i hi=>H1.out _ _ (HO.out i hi).1
 case c4=>unfold maxLen;omega
 case c5=>omega
 case c6=>simp
 intro v' w' hown hg _
 have hval:∃p' c',v' = .slice p' xs.length c':=by
  rcases hown.2 with⟨h1,h2⟩|⟨g,cap,cur,h1,_⟩
  ·exact⟨none,0,by rw[h1,show xs.length=0 by omega]⟩
  exact⟨some (J g 0),cap,by rw[h1]⟩
 obtain⟨p',c',rfl⟩:=hval
 go_wp2
 refine zk (v:=.slice p' xs.length c') ?_ rfl ⟨p',c',rfl,⟨_,⟨SlO.flat (base:=w.heap.size) (cs:=jC w (some a) 4) (by simpa using hown) HL.out (fun i hi=>H1.out _ _ (HO.out i hi).1) (fun i hi=>(HO.out i hi).1),hl⟩,fun k hk=>(hown.lt k hk).1⟩,?_⟩
 ·simp[results,Tryz.results62,go_sem]
 exact Below.grown bZ hg bV (fun b e=>by cases e;exact zK _)

theorem Yu {R:List Value->GloL->Prop} (h1:∀cs x,R cs x->∀u∈cs,u.oneCell'=true) (xs:List GloL) (p:Option Addr) (c:Nat) (w:World) (h:SliceAt w 3 R p xs) (hp:p=none->xs.length=0/\c=0) (hl:xs.length*48<=reachBytes) :
  Calls Tryz.prog 61 #[.slice p xs.length c] w fun e w'=>∃p' c',e = .returned (.slice p' xs.length c')/\(∃S,SlQ 61 3 48 (DatO R) w' (.slice p' xs.length c') xs S/\LoB w.heap.size S)/\Below w.heap.size w w':=by
 have hlr:xs.length*48<=140737488351232:=hl;rcases p with _|a
 ·obtain⟨h0,rfl⟩:=hp rfl;obtain rfl:=yd.1 h0;have he:∀w:World,(binOp .eql 22 (.slice none 0 0) (.slice none 0 0)).run Tryz.prog w = .ok (.bool true) w:=fun _=>rfl
  go_enter Tryz.func61,Tryz.ntmps61
  go_wp2_with fail
  go_ret
  exact⟨none,0,rfl,⟨fun _=>False,⟨SlO.nil _ _ _ _ (fun _ h=>h.elim),by simp⟩,fun _ h=>h.elim⟩,zI _ _⟩
 obtain⟨i1,k1,k2,k3,k4⟩:=info_parts XO;have HO:=q8 fun i (hi:i<xs.length)=>h.old hi;have HL:Hid (∀i,i<xs.length->(jC w (some a) 3 i).length=3):=q8 fun _ _=>vD _ _ _ _
 have HF:Hid (∀j u,((List.range xs.length).flatMap (jC w (some a) 3))[j]?=some u->w.cell? (a.add j)=some u):=q8 fun j u hu=>by
  have hj:j<xs.length*3:=by
   rw[←zR _ HL.out];exact(List.getElem?_eq_some_iff.1 hu).1
  have hi:j / 3<xs.length:=by omega
  have hm:j % 3<3:=by omega
  have e:j=j / 3*3+j % 3:=by omega
  rw[e,xZ _ HL.out _ _ hi hm]at hu;rw[e,(HO.out _ hi).2 _ hm a rfl,hu]
 have he:∀w:World,(binOp .eql 22 (.slice (some a) xs.length c) (.slice none 0 0)).run Tryz.prog w = .ok (.bool false) w:=fun _=>rfl;have H1:=q8 h1;clear h h1
 go_enter Tryz.func61,Tryz.ntmps61
 go_wp2_with (at_builtin;refine wpList_append_own _ rfl (.tmp 5) (.tmp 6) 22 rfl w.heap.size 61 i1 _ 3 48 Tryz.underlying22 k1 k2 k3 k4 rfl (by decide) _ 0 [] rfl ?c0 a xs.length c ((List.range xs.length).flatMap (jC w (some a) 3)) rfl ?c1 ?c2 ?c3 ?c4 ?c5 ?c6 ?_)
 case c0=>exact vV (qB _ _) (zK _)
 case c1=>exact zR _ HL.out
 case c2=>exact fun j u hu=>xU (HF.out j u hu) _
 case c3=>exact ji fun i hi=>H1.out _ _ (HO.out i hi).1
 case c4=>unfold maxLen;omega
 case c5=>omega
 case c6=>simp
 intro v' w' hown hg _
 have hval:∃p' c',v' = .slice p' xs.length c':=by
  rcases hown.2 with⟨h1,h2⟩|⟨g,cap,cur,h1,_⟩
  ·exact⟨none,0,by rw[h1,show xs.length=0 by omega]⟩
  exact⟨some (J g 0),cap,by rw[h1]⟩
 obtain⟨p',c',rfl⟩:=hval
 go_wp2
 refine zk (v:=.slice p' xs.length c') ?_ rfl ⟨p',c',rfl,⟨_,⟨SlO.flat (base:=w.heap.size) (cs:=jC w (some a) 3) (by simpa using hown) HL.out (fun i hi=>H1.out _ _ (HO.out i hi).1) (fun i hi=>(HO.out i hi).1),hl⟩,fun k hk=>(hown.lt k hk).1⟩,?_⟩
 ·simp[results,Tryz.results61,go_sem]
 exact Below.grown bZ hg bV (fun b e=>by cases e;exact zK _)

end Go.Proofs.YtgjjhadbjmcnpaaGreatDoor
namespace Go.Proofs.YtgjjhadbjmcnpaaGreatDoor
open Go.RowKit Go.Shelf

def jG {α:Type} (k:Nat) (xs:List α):List (Bool×α):=xs.mapIdx fun i x=>(decide (i<k),x)
theorem jQ {α:Type} (k:Nat) (xs:List α):(jG k xs).length=xs.length:=by simp[jG]
theorem vd {α:Type} {k i:Nat} {xs:List α} (h:i<(jG k xs).length):(jG k xs)[i]=(decide (i<k),xs[i]'(by rw[←jQ k xs];exact h)):=by simp[jG]
theorem Qp {α:Type} {k:Nat} {xs:List α} (h:k<xs.length):(jG k xs).set k (true,xs[k])=jG (k+1) xs:=by
 refine yV (by simp[jG]) fun i h1 h2=>?_;rw[vd h2,y8]
 split
 ·next e=>subst e;simp
 next e=>
 rw[vd];congr 1;rw[decide_eq_decide];omega
theorem SlO.flag0 {α:Type} {e:TypeId} {size:Nat} {RO:ElemO α} {R:List Value->α->Prop} {w:World} {v:Value} {xs:List α} {S:Blks} (h:SlO e size (DatO R) w v xs S):SlO e size (jB RO R) w v (jG 0 xs) S:=
 h.imp (jQ 0 xs) fun i h1 h2 cs T _ hr=>by
  rw[vd h2];exact hr
theorem SlO.flagN {α:Type} {e:TypeId} {size:Nat} {RO:ElemO α} {R:List Value->α->Prop} {w:World} {v:Value} {xs:List α} {S:Blks} (h:SlO e size (jB RO R) w v (jG xs.length xs) S):SlO e size RO w v xs S:=
 h.imp (jQ _ xs).symm fun i h1 h2 cs T _ hr=>by
  rw[vd h1]at hr;unfold jB at hr;rw[zZ (by simpa using h2)]at hr;exact hr
theorem phi_one {w:World} (cs:List Value) (x:PhiL) (h:PhiR w cs x):∀u∈cs,u.oneCell'=true:=by
 obtain⟨v,rfl,_,_,_,rfl,_⟩:=h;intro u hu;simp only[yC,yG,yl]at hu;rcases hu with rfl|rfl<;>rfl
theorem ins_one {w:World} (cs:List Value) (x:InsL) (h:InsR w cs x):∀u∈cs,u.oneCell'=true:=by
 obtain⟨v,rfl,_,_,_,_,_,_,_,rfl,_⟩:=h;intro u hu;simp only[yC,yG,yl]at hu;rcases hu with rfl|rfl|rfl|rfl|rfl|rfl|rfl|rfl<;>rfl
theorem blk_one {w:World} (cs:List Value) (x:BlkL) (h:BlkR w cs x):∀u∈cs,u.oneCell'=true:=by
 obtain⟨v1,v2,v3,rfl,_,_,⟨_,_,rfl,_⟩,⟨_,_,rfl,_⟩,⟨_,_,rfl,_⟩⟩:=h;intro u hu;simp only[yC,yG,yl]at hu;rcases hu with rfl|rfl|rfl|rfl|rfl|rfl<;>rfl

theorem XV (f:FunL) (q:Option Addr) (e1:Nat) (w:World) (hn:f.name.size<=reachBytes) (i1:I64 f.params) (i2:I64 f.regs) (hB:SlF w 6 96 (BlkR w) (.slice q f.blocks.length e1) f.blocks) :
  Calls Tryz.prog 63 #[.agg #[.string f.name,Z f.params,Z f.regs,.slice q f.blocks.length e1]] w fun e w'=>(∃p c,e = .returned (.agg #[.string f.name,Z f.params,Z f.regs,.slice p f.blocks.length c])/\
   ∃S,FunO w' [.string f.name,Z f.params,Z f.regs,.slice p f.blocks.length c] f S/\LoB w.heap.size S)/\Below w.heap.size w w':=by
 have hbd:=hB.bdC
 have hq0:q=none->f.blocks.length=0/\e1=0:=by
  obtain⟨p,c,e,h,_⟩:=hB.outC;cases e;exact h
 have hBs:SliceAt w 6 (BlkR w) q f.blocks:=by
  obtain⟨p,c,e,_,_,h⟩:=hB.outC;cases e;exact h
 have HBs:=q8 hBs;have HBd:=q8 hbd;have HQ0:=q8 hq0;have HN:=q8 (zh hn (zh i1 i2));have huL:f.blocks.length*96<=140737488351232:=hbd;clear hB hBs hbd hn i1 i2 hq0
 go_enter Tryz.func63,Tryz.ntmps63
 go_wp2_with fail
 refine(Ys (R:=BlkR w) blk_one f.blocks q e1 _ (HBs.out.mono bZ bO fun _ _ g=>g) HQ0.out HBd.out).mono ?_;rintro e w1 ⟨p,c,rfl,⟨S1,hS1,hL1⟩,hb1⟩;have hF1:w1.heap[w.heap.size]?=some (.cells #[.string f.name,Z f.params,Z f.regs,.slice q f.blocks.length e1] 38 (0,0)):=qg hb1 bW (qh (qr rfl));have hZ1:w1.heap[w.heap.size+1]?=some (.cells #[.string { data:=#[] },Z 0,Z 0,.slice none 0 0] 38 (0,0)):=qg hb1 bV (qr bV);obtain⟨rb,rf⟩:=blk hF1;have rz:=qd hF1;have HS1:=q8 hS1;have HL1:=q8 (show ∀k,S1 k->w.heap.size+1+1<=k from fun k h=>by have:=hL1 k h;simpa using this);have HB1:=q8 (show Below w.heap.size w w1 from yo bZ (hb1.mono bW));have HF1:=q8 hF1;have HZ1:=q8 hZ1;clear hS1 hL1 hb1 hF1 hZ1
 go_wp2_with fail
 obtain⟨W0,hW0⟩:=nZ (w1.setCell (J w.heap.size 3) (.slice p f.blocks.length c));rw[←hW0];have hz0:W0.heap.size=w1.heap.size:=by rw[hW0];exact yK _ _ _
 have hF0:W0.heap[w.heap.size]?=some (.cells #[.string f.name,Z f.params,Z f.regs,.slice p f.blocks.length c] 38 (0,0)):=by
  rw[hW0,qj HF1.out 3 _];rfl
 have hZ0:W0.heap[w.heap.size+1]?=some (.cells #[.string { data:=#[] },Z 0,Z 0,.slice none 0 0] 38 (0,0)):=by
  rw[hW0,zJ _ _ _ _ (by show w.heap.size+1≠w.heap.size;omega)];exact HZ1.out
 have hb0:Below w.heap.size w W0:=by rw[hW0];exact HB1.out.setCell (zK _) _
 have hS0:SlO 49 6 (jB BlkO (BlkR w)) W0 (.slice p f.blocks.length c) (jG 0 f.blocks) S1:=by
  refine(HS1.out.sl.loc (w':=W0) (JM _) (fun k hk=>?_) bO).flag0;rw[hW0];exact zJ _ _ _ _ (by have:=HL1.out k hk;show k≠w.heap.size;omega)
 have HF0:=q8 hF0;have HZ0:=q8 hZ0;have HB0:=q8 hb0;have HS0:=q8 hS0;have hz1:w.heap.size+1+1<=W0.heap.size:=qd hZ0;clear hF0 hZ0 hb0 hS0 hW0 HS1 HB1 HF1 HZ1 rb rf rz
 go_loopg [16] f.blocks.length (fun q s16 wr=>∃(k:Nat) (S:Blks),k<=f.blocks.length/\q=f.blocks.length - k/\s16=Z k/\SlO 49 6 (jB BlkO (BlkR w)) wr (.slice p f.blocks.length c) (jG k f.blocks) S/\(∀g,S g->w.heap.size+1+1<=g)/\Below (w.heap.size+1+1) W0 wr)
 case atStart=>exact⟨0,S1,by omega,rfl,rfl,HS0.out,HL1.out,zI _ _⟩
 case round=>
  obtain⟨wo,hwo⟩:=nZ wr;subst hwo;obtain⟨k,S,hk,rfl,rfl,hO,hL,hb⟩:=hrel;have HO:=q8 hO;have HL:=q8 hL;have HB:=q8 hb;have hsz:=hb.size;have HBw:Hid (Below w.heap.size w wo):=q8 (HB0.out.trans (hb.mono bO));have hFr:wo.heap[w.heap.size]?=some (.cells #[.string f.name,Z f.params,Z f.regs,.slice p f.blocks.length c] 38 (0,0)):=(hb.block _ bO).trans HF0.out;have HFr:=q8 hFr;clear hO hL hb hFr
  by_cases hlt:k<f.blocks.length
  rotate_left
  ·obtain rfl:k=f.blocks.length:=(by omega);have hOd:=HO.out.flagN;have hZr:wo.heap[w.heap.size+1]?=some (.cells #[.string { data:=#[] },Z 0,Z 0,.slice none 0 0] 38 (0,0)):=(HB.out.block _ bO).trans HZ0.out;obtain⟨fb,ff⟩:=blk HFr.out;have fb0:=fb 0;have fb1:=fb 1;have fb2:=fb 2;have fb3:=fb 3;have fz:=qd HFr.out;obtain⟨yb,yf⟩:=blk hZr;have yb0:=yb 0;have yb1:=yb 1;have yb2:=yb 2;have yb3:=yb 3;simp only[zE,zB,zD]at fb0 fb1 fb2 fb3 yb0 yb1 yb2 yb3;have yz:=qd hZr;have HOd:=q8 hOd;have HZr:=q8 hZr;clear hOd hZr fb yb
   go_wp2_with fail
   obtain⟨WF,hWF⟩:=nZ ((((wo.setCell (J (w.heap.size+1) 0) (.string f.name)).setCell (J (w.heap.size+1) 1) (Z f.params)).setCell (J (w.heap.size+1) 2) (Z f.regs)).setCell (J (w.heap.size+1) 3) (.slice p f.blocks.length c));rw[←hWF]
   have hK:Kept (fun i=>i=w.heap.size+1) wo WF:=by
    rw[hWF];have h0:Kept (fun i=>i=w.heap.size+1) wo wo:=Kept.refl _ wo;have h1:=h0.setCell (p:=(J (w.heap.size+1) 0)) rfl (.string f.name);have h2:=h1.setCell (p:=(J (w.heap.size+1) 1)) rfl (Z f.params);have h3:=h2.setCell (p:=(J (w.heap.size+1) 2)) rfl (Z f.regs);exact h3.setCell (p:=(J (w.heap.size+1) 3)) rfl (.slice p f.blocks.length c)
   have hRF:WF.heap[w.heap.size+1]?=some (.cells #[.string f.name,Z f.params,Z f.regs,.slice p f.blocks.length c] 38 (0,0)):=by
    rw[hWF,qj (qj (qj (qj HZr.out 0 _) 1 _) 2 _) 3 _];rfl
   clear hWF;obtain⟨rb,_⟩:=blk hRF;have rb0:=rb 0;have rb1:=rb 1;have rb2:=rb 2;have rb3:=rb 3;simp only[zE,zB,zD]at rb0 rb1 rb2 rb3;refine zk (v:=.agg #[.string f.name,Z f.params,Z f.regs,.slice p f.blocks.length c]) ?_ rfl ⟨⟨p,c,rfl,S,⟨_,rfl,HN.out.1,HN.out.2.1,HN.out.2.2,⟨HOd.out.kept qM hK (fun i h1 h2=>by have:=HL.out i h2;omega),HBd.out⟩⟩,fun i hi=>by have:=HL.out i hi;omega⟩,HBw.out.trans (hK.below bO (fun i e=>by omega))⟩;simp[results,Tryz.results63,go_sem,rb0,rb1,rb2,rb3]
  have hlt':k<(jG k f.blocks).length:=by rw[jQ];exact hlt
  obtain⟨g,cc,cs,T,hv,hg,hSg,hcl,hx,hTg,hTS,hce,hfz,⟨cur,hay⟩,put⟩:=HO.out.focus (Zy qM _) bO hlt';rw[vd hlt']at hx;unfold jB at hx;rw[zQ bV]at hx;obtain⟨v1,v2,v3,rfl,b3,b4,b5,b6,b7⟩:=(show BlkR w cs f.blocks[k]from hx);obtain⟨q1,d1,rfl,a1,_,z1⟩:=b5.outC;obtain⟨q2,d2,rfl,a2,_,z2⟩:=b6.outC;obtain⟨q3,d3,rfl,a3,_,z3⟩:=b7.outC;have hp:p=some (J g 0):=by injection hv
  subst hp;have c0:=hce 0 bO;have c1:=hce 1 bO;have c2:=hce 2 bO;have c3:=hce 3 bO;have c4:=hce 4 bO;have c5:=hce 5 bO;simp only[zB,zD,yJ]at c0 c1 c2 c3 c4 c5;have HR:=q8 (zh b3 (zh b4 (zh z1 (zh z2 z3))));have HA:=q8 (zh a1 (zh a2 a3));have hfJ:=q8 (zh b5.bdC (zh b6.bdC b7.bdC));have haA:=q8 put;have HT:=q8 (zh hTg hTS);have hee:=q8 hay;have HCe:=q8 hce;have HFz:=q8 hfz;have HSg:=q8 hSg;have hgl:w.heap.size+1+1<=g:=HL.out g hSg;have hl1:=b5.bdC;have hl2:=b6.bdC;unfold reachBytes at hl1 hl2;clear hv hx b3 b4 b5 b6 b7 a1 a2 a3 z1 z2 z3 put hTg hTS hay hcl hce hSg
  go_wp2_with fail
  refine(Yq (R:=PhiR w) phi_one f.blocks[k].phis q1 d1 _ (HR.out.2.2.1.mono (HBw.out.trans bZ) bO fun _ _ g=>g) HA.out.1 hfJ.out.1).mono ?_;rintro e w2 ⟨p1,m1,rfl,⟨S2,hS2,hL2⟩,hb2⟩;have hr2:Below wo.heap.size wo w2:=yo bZ (hb2.mono bV);have hX2:w2.heap[wo.heap.size]?=some (.cells #[.slice q1 f.blocks[k].phis.length d1,.slice q2 f.blocks[k].list.length d2,Z f.blocks[k].fin.kind,.bool f.blocks[k].fin.onr,Z f.blocks[k].fin.onn,.slice q3 f.blocks[k].fin.to.length d3] 49 (0,0)):=qg hb2 bV (qr rfl);obtain⟨rb,rf⟩:=blk hX2;have rz:=qd hX2;have HS2:=q8 hS2;have HL2:=q8 (show ∀k,S2 k->wo.heap.size+1<=k from fun k h=>by have:=hL2 k h;simpa using this);have HR2:=q8 hr2;have HX2:=q8 hX2;clear hS2 hL2 hb2 hr2 hX2 c0 c1 c2 c3 c4 c5 hfz
  go_wp2_with fail
  obtain⟨W2,hW2⟩:=nZ (w2.setCell (J wo.heap.size 0) (.slice p1 f.blocks[k].phis.length m1));rw[←hW2];clear rb rf rz
  have hX:W2.heap[wo.heap.size]?=some (.cells #[.slice p1 f.blocks[k].phis.length m1,.slice q2 f.blocks[k].list.length d2,Z f.blocks[k].fin.kind,.bool f.blocks[k].fin.onr,Z f.blocks[k].fin.onn,.slice q3 f.blocks[k].fin.to.length d3] 49 (0,0)):=by
   rw[hW2,qj HX2.out 0 _];rfl
  have hr3:Below wo.heap.size wo W2:=by rw[hW2];exact HR2.out.setCell (zK _) _
  have hS3:SlO 84 2 (jB PhiO (PhiR w)) W2 (.slice p1 f.blocks[k].phis.length m1) (jG 0 f.blocks[k].phis) S2:=by
   refine(HS2.out.sl.loc (w':=W2) (JM _) (fun k hk=>?_) (by rw[hW2];simp[World.setCell])).flag0;rw[hW2];exact zJ _ _ _ _ (by have:=HL2.out k hk;show k≠wo.heap.size;omega)
  have HX:=q8 hX;have HR3:=q8 hr3;have HS3:=q8 hS3;have hz3:wo.heap.size+1<=W2.heap.size:=qd hX;clear hX hr3 hS3 hW2 HX2 HS2 HR2
  go_loopg [28] f.blocks[k].phis.length (fun q s28 wr=>∃(j:Nat) (S:Blks),j<=f.blocks[k].phis.length/\q=f.blocks[k].phis.length - j/\s28=Z j/\SlO 84 2 (jB PhiO (PhiR w)) wr (.slice p1 f.blocks[k].phis.length m1) (jG j f.blocks[k].phis) S/\(∀g,S g->wo.heap.size+1<=g)/\Below (wo.heap.size+1) W2 wr)
  case atStart=>exact⟨0,S2,by omega,rfl,rfl,HS3.out,HL2.out,zI _ _⟩
  case round=>
   obtain⟨j,Sj,hj,rfl,rfl,hO,hL,hb⟩:=hrel;have HOj:=q8 hO;have HLj:=q8 hL;have HBj:=q8 hb;have hj8:=hb.size;have hgZ:Hid (Below w.heap.size w wr):=q8 (HBw.out.trans ((HR3.out.mono bO).trans (hb.mono bO)));have hXj:wr.heap[wo.heap.size]?=some (.cells #[.slice p1 f.blocks[k].phis.length m1,.slice q2 f.blocks[k].list.length d2,Z f.blocks[k].fin.kind,.bool f.blocks[k].fin.onr,Z f.blocks[k].fin.onn,.slice q3 f.blocks[k].fin.to.length d3] 49 (0,0)):=(hb.block _ bO).trans HX.out;have HXj:=q8 hXj;obtain⟨xb,xf⟩:=blk hXj;have xz:=qd hXj;clear hO hL hb hXj
   by_cases hjl:j<f.blocks[k].phis.length
   ·have haP:j<(jG j f.blocks[k].phis).length:=(by rw[jQ];exact hjl);obtain⟨ge,cce,cse,Te,hve,hge,hh5,hjV,hxe,hh7,hh8,haY,hh9,⟨cure,hcH⟩,pute⟩:=HOj.out.focus (Zy x8 _) bO haP;rw[vd haP]at hxe;unfold jB at hxe;rw[zQ bV]at hxe;obtain⟨ve,rfl,hd,hse⟩:=(show PhiR w cse f.blocks[k].phis[j]from hxe);obtain⟨qe,ce,rfl,ae,_,ze⟩:=hse.outC;have hpe:p1=some (J ge 0):=(by injection hve);subst hpe;have e0:=haY 0 bO;have e1:=haY 1 bO;simp only[zB,zD,yJ]at e0 e1;have HE:=q8 (zh ae (zh hse.bdC ze));have HRe:=q8 (show PhiR w [Z f.blocks[k].phis[j].dst,.slice qe f.blocks[k].phis[j].src.length ce] f.blocks[k].phis[j] from⟨_,rfl,hd,hse⟩);have heg:=q8 pute;have HTe:=q8 (zh hh7 hh8);have hei:=q8 hcH;have hha:=q8 haY;have hjW:=q8 hh9;have hjX:wo.heap.size+1<=ge:=HLj.out ge hh5;clear hve hxe ae ze hse pute hh7 hh8 hcH hjV haY hh5
    go_wp2_with fail
    obtain⟨w3,hw3⟩:=nZ (wr.alloc (.cells #[Z f.blocks[k].phis[j].dst,.slice qe f.blocks[k].phis[j].src.length ce] 84));rw[←hw3];have hz4:w3.heap.size=wr.heap.size+1:=(by rw[hw3];simp);have hb4:Below wr.heap.size wr w3:=(by rw[hw3];exact bZ);have hX4:w3.heap[wo.heap.size]?=some (.cells #[.slice (some (J ge 0)) f.blocks[k].phis.length m1,.slice q2 f.blocks[k].list.length d2,Z f.blocks[k].fin.kind,.bool f.blocks[k].fin.onr,Z f.blocks[k].fin.onn,.slice q3 f.blocks[k].fin.to.length d3] 49 (0,0)):=(hb4.block _ xz).trans HXj.out;have hY4:w3.heap[wr.heap.size]?=some (.cells #[Z f.blocks[k].phis[j].dst,.slice qe f.blocks[k].phis[j].src.length ce] 84 (0,0)):=(by rw[hw3];exact qr rfl);have HB4:=q8 hb4;clear hw3 hb4 xb xf e0 e1 hh9;obtain⟨Sp,hSp⟩:∃Sp:World->Prop,Sp=fun w'=>w'.heap[wo.heap.size]?=some (.cells #[.slice (some (J ge 0)) f.blocks[k].phis.length m1,.slice q2 f.blocks[k].list.length d2,Z f.blocks[k].fin.kind,.bool f.blocks[k].fin.onr,Z f.blocks[k].fin.onn,.slice q3 f.blocks[k].fin.to.length d3] 49 (0,0))/\w'.heap[wr.heap.size]?=some (.cells #[Z f.blocks[k].phis[j].dst,.slice qe f.blocks[k].phis[j].src.length ce] 84 (0,0)):=⟨_,rfl⟩
    have ha6:∀w',Sp w'->(∀i,w'.cell? (J wo.heap.size i)=(#[.slice (some (J ge 0)) f.blocks[k].phis.length m1,.slice q2 f.blocks[k].list.length d2,Z f.blocks[k].fin.kind,.bool f.blocks[k].fin.onr,Z f.blocks[k].fin.onn,.slice q3 f.blocks[k].fin.to.length d3]:Array Value)[i]?)/\(∀i,w'.cell? (J wr.heap.size i)=(#[Z f.blocks[k].phis[j].dst,.slice qe f.blocks[k].phis[j].src.length ce]:Array Value)[i]?)/\wo.heap.size<w'.heap.size/\wr.heap.size<w'.heap.size:=fun w' h=>by
     rw[hSp]at h;exact⟨(blk h.1).1,(blk h.2).1,qd h.1,qd h.2⟩
    have hS4:Sp w3.drew:=(by rw[hSp];exact⟨hX4,hY4⟩);refine qA (S:=Sp) bK 8 ?_;refine tkZ 0 33 (.pointer (some (J wo.heap.size 0))) rfl rfl hS4 (fun w' h=>?_) ?_
    ·obtain⟨h1,h2,h3,h4⟩:=ha6 w' h;have g1:=h1 0;have g2:=h2 1;clear h1 h2;simp only[zE,zB,zD]at g1 g2;go_simp
    refine tkZ 1 34 (.slice (some (J ge 0)) f.blocks[k].phis.length m1) rfl rfl hS4 (fun w' h=>?_) ?_
    ·obtain⟨h1,h2,h3,h4⟩:=ha6 w' h;have g1:=h1 0;have g2:=h2 1;clear h1 h2;simp only[zE,zB,zD]at g1 g2;go_simp
    refine tkZ 2 35 (Z j) rfl rfl hS4 (fun w' h=>?_) ?_
    ·obtain⟨h1,h2,h3,h4⟩:=ha6 w' h;have g1:=h1 0;have g2:=h2 1;clear h1 h2;simp only[zE,zB,zD]at g1 g2;go_simp
    refine tkZ 3 36 (.pointer (some (J wr.heap.size 1))) rfl rfl hS4 (fun w' h=>?_) ?_
    ·obtain⟨h1,h2,h3,h4⟩:=ha6 w' h;have g1:=h1 0;have g2:=h2 1;clear h1 h2;simp only[zE,zB,zD]at g1 g2;go_simp
    refine tkZ 4 37 (.slice qe f.blocks[k].phis[j].src.length ce) rfl rfl hS4 (fun w' h=>?_) ?_
    ·obtain⟨h1,h2,h3,h4⟩:=ha6 w' h;have g1:=h1 0;have g2:=h2 1;clear h1 h2;simp only[zE,zB,zD]at g1 g2;go_simp
    refine qm (i:=5) bK (qt 38 rfl rfl rfl (by go_simp) (kI f.blocks[k].phis[j].src qe ce w3.drew (HE.out.2.2.mono ((hgZ.out.trans (HB4.out.mono bO)).drew) bO fun _ _ g=>g) HE.out.1 HE.out.2.1) ?_);rintro e w5 ⟨pe,me,rfl,⟨Se,hSe,hLe⟩,hb5⟩;have hb5:Below w3.heap.size w3 w5:=(zI _ w3).drew.trans hb5;have hLe:∀k,Se k->w3.heap.size<=k:=hLe
    have hbJ:Sp w5:=by
     rw[hSp];exact⟨(hb5.block _ (qd hX4)).trans hX4,(hb5.block _ (qd hY4)).trans hY4⟩
    refine⟨_,rfl,hbJ,?_⟩;have hz5:=hb5.size;have HSe:=q8 hSe;have HLe:=q8 hLe;have HB5:=q8 (HB4.out.trans (hb5.mono bO));clear hSe hLe hb5;refine qm (i:=6) bK (qC 39 (.pointer (some (J ge (j*2)))) w5 rfl rfl rfl (by go_simp) hbJ ?_);refine qm (i:=7) bK (qC 40 (.pointer (some (J ge (j*2+1)))) w5 rfl rfl rfl (by go_simp) hbJ ?_);have r1:w5.cell? (J ge (j*2+1))=some (.slice qe f.blocks[k].phis[j].src.length ce):=(zN (a:=(J ge (j*2+1))) (HB5.out.block ge hge)).trans (hha.out 1 bO);have r2:w5.frozen? (J ge (j*2+1))=false:=(yB (a:=(J ge (j*2+1))) (HB5.out.block ge hge)).trans (hjW.out _);have r3:ge<w5.heap.size:=(by omega);refine qm (i:=8) bK (qz (w5.setCell (J ge (j*2+1)) (.slice pe f.blocks[k].phis[j].src.length me)) rfl rfl rfl (by go_simp) (fun h=>absurd rfl h) (qL bK ?_ _));show Exit.inBlock 3 _ Exit.normal _ _
    have hput:=heg.out (w5.setCell (J ge (j*2+1)) (.slice pe f.blocks[k].phis[j].src.length me)) [Z f.blocks[k].phis[j].dst,.slice pe f.blocks[k].phis[j].src.length me] (true,f.blocks[k].phis[j]) Se
     (RowPut.set (RowPut.same hei.out (HB5.out.block ge hge) hha.out) rfl (j:=1) bO _) rfl (fun u hu=>by
      simp only[yC,yG,yl]at hu
      rcases hu with rfl|rfl<;>rfl) (by rw[yK];omega) (fun i h1 h2 h3=>(zJ w5 ⟨ge,j*2+1,none⟩ _ i h3).trans (HB5.out.block i (HOj.out.inb i h1)))
     (by
      obtain⟨ve,h0,hd,_⟩:=HRe.out;have hL9:∀i,Se i->i≠ge:=fun i hi=>by have:=HLe.out i hi;omega
      exact⟨_,rfl,hd,HSe.out.loc zq (fun _ h=>h) (fun i hi=>zJ w5 ⟨ge,j*2+1,none⟩ _ i (hL9 i hi)) (by rw[yK];omega)⟩)
     (fun i hi=>⟨.inr (by have:=HLe.out i hi;omega),by rw[yK];exact HSe.out.sl.inb i hi⟩)
    rw[Qp hjl]at hput
    have hrel:SlO 84 2 (jB PhiO (PhiR w)) (w5.setCell (J ge (j*2+1)) (.slice pe f.blocks[k].phis[j].src.length me)) (.slice (some (J ge 0)) f.blocks[k].phis.length m1) (jG (j+1) f.blocks[k].phis) (fun i=>Sj i\/Se i)/\(∀i,Sj i\/Se i->wo.heap.size+1<=i)/\Below (wo.heap.size+1) W2 (w5.setCell (J ge (j*2+1)) (.slice pe f.blocks[k].phis[j].src.length me)):=by
     refine⟨hput,fun i hi=>?_,?_⟩
     ·rcases hi with h|h
      ·exact HLj.out i h
      have:=HLe.out i h;omega
     exact(HBj.out.trans (HB5.out.mono bO)).setCell hjX _
    have ha7:=q8 hrel;clear hrel hput r1 r2 hbJ hS4 hX4 hY4
    go_wp2_with fail
    go_roundg (f.blocks[k].phis.length - (j+1))
    case measure=>omega
    case rel=>exact⟨j+1,_,by omega,rfl,by go_num,ha7.out.1,ha7.out.2.1,ha7.out.2.2⟩
   obtain rfl:j=f.blocks[k].phis.length:=(by omega);obtain⟨Wa,hWa⟩:=nZ wr;subst hWa;have HPh:=q8 HOj.out.flagN;have HLp:=HLj;have HBa:=HBj;clear HOj HLj HBj HS3 HL2 HX
   go_wp2_with fail
   refine(Yr (R:=InsR w) ins_one f.blocks[k].list q2 d2 _ (HR.out.2.2.2.1.mono hgZ.out bO fun _ _ g=>g) HA.out.2.1 hfJ.out.2.1).mono ?_;rintro e w6 ⟨p2,m2,rfl,⟨S6,hS6,hL6⟩,hb6⟩;have hX6:w6.heap[wo.heap.size]?=some (.cells #[.slice p1 f.blocks[k].phis.length m1,.slice q2 f.blocks[k].list.length d2,Z f.blocks[k].fin.kind,.bool f.blocks[k].fin.onr,Z f.blocks[k].fin.onn,.slice q3 f.blocks[k].fin.to.length d3] 49 (0,0)):=(hb6.block _ xz).trans HXj.out;clear xb xf xz HXj;obtain⟨xb,xf⟩:=blk hX6;have xz:=qd hX6;have HS6:=q8 hS6;have HL2:=q8 (show ∀i,S6 i->Wa.heap.size<=i from hL6);have HB6:=q8 hb6;have HX6:=q8 hX6;have hz6:=hb6.size;clear hS6 hL6 hb6 hX6
   go_wp2_with fail
   obtain⟨W6,hW6⟩:=nZ (w6.setCell (J wo.heap.size 1) (.slice p2 f.blocks[k].list.length m2));rw[←hW6];clear xb xf xz
   have hX:W6.heap[wo.heap.size]?=some (.cells #[.slice p1 f.blocks[k].phis.length m1,.slice p2 f.blocks[k].list.length m2,Z f.blocks[k].fin.kind,.bool f.blocks[k].fin.onr,Z f.blocks[k].fin.onn,.slice q3 f.blocks[k].fin.to.length d3] 49 (0,0)):=by
    rw[hW6,qj HX6.out 1 _];rfl
   have hjY:∀i,i≠wo.heap.size->W6.heap[i]?=w6.heap[i]?:=fun i hi=>by rw[hW6];exact zJ _ _ _ _ hi
   have huM:W6.heap.size=w6.heap.size:=(by rw[hW6];exact yK _ _ _);have hza:wo.heap.size+1<=Wa.heap.size:=(by omega);have hfK:Below wo.heap.size wo W6:=by rw[hW6];exact(HR3.out.trans ((HBa.out.trans (HB6.out.mono bO)).mono bO)).setCell (zK _) _
   have hS3:SlO 51 8 (jB InsO (InsR w)) W6 (.slice p2 f.blocks[k].list.length m2) (jG 0 f.blocks[k].list) S6:=
    (HS6.out.sl.loc (w':=W6) (JM _) (fun i hi=>hjY i (by have:=HL2.out i hi;omega)) bO).flag0
   have hnC:SlO 84 2 PhiO W6 (.slice p1 f.blocks[k].phis.length m1) f.blocks[k].phis Sj:=
    HPh.out.loc x8 (fun i hi=>(hjY i (by have:=HLp.out i hi;omega)).trans (HB6.out.block i (HPh.out.inb i hi))) bO
   have hnE:∀i,Sj i->wo.heap.size+1<=i/\i<Wa.heap.size:=fun i hi=>⟨HLp.out i hi,HPh.out.inb i hi⟩;clear HR3 HPh HLp;have HX:=q8 hX;have HR3:=q8 hfK;have HS3:=q8 hS3;have HPh:=q8 hnC;have HLp:=q8 hnE;have hz7:Wa.heap.size<=W6.heap.size:=(by omega);obtain⟨Sp1,hrh⟩:=nZ Sj;subst hrh;clear hX hfK hS3 hnC hnE hjY hW6 HS6 HX6 HBa
   go_loopg [49] f.blocks[k].list.length (fun q s49 wr=>∃(j:Nat) (S:Blks),j<=f.blocks[k].list.length/\q=f.blocks[k].list.length - j/\s49=Z j/\SlO 51 8 (jB InsO (InsR w)) wr (.slice p2 f.blocks[k].list.length m2) (jG j f.blocks[k].list) S/\(∀g,S g->Wa.heap.size<=g)/\Below (Wa.heap.size) W6 wr)
   case atStart=>exact⟨0,S6,by omega,rfl,rfl,HS3.out,HL2.out,zI _ _⟩
   case round=>
    obtain⟨j,Sj,hj,rfl,rfl,hO,hL,hb⟩:=hrel;have HOj:=q8 hO;have HLj:=q8 hL;have HBj:=q8 hb;have hj8:=hb.size;have hgZ:Hid (Below w.heap.size w wr):=q8 (HBw.out.trans ((HR3.out.mono bO).trans (hb.mono bO)));have hXj:wr.heap[wo.heap.size]?=some (.cells #[.slice p1 f.blocks[k].phis.length m1,.slice p2 f.blocks[k].list.length m2,Z f.blocks[k].fin.kind,.bool f.blocks[k].fin.onr,Z f.blocks[k].fin.onn,.slice q3 f.blocks[k].fin.to.length d3] 49 (0,0)):=(hb.block _ bO).trans HX.out;have HXj:=q8 hXj;obtain⟨xb,xf⟩:=blk hXj;have xz:=qd hXj;clear hO hL hb hXj
    by_cases hjl:j<f.blocks[k].list.length
    rotate_left
    ·obtain rfl:j=f.blocks[k].list.length:=(by omega);obtain⟨Wb,hWb⟩:=nZ wr;subst hWb;have HIs:=q8 HOj.out.flagN;have HLi:=HLj;have HBi:=HBj;have HBb:=q8 (show Below (wo.heap.size+1) W6 Wb from HBj.out.mono bO);clear HOj HLj HBj HS3 HL2
     go_wp2_with fail
     refine(kJ f.blocks[k].fin.to q3 d3 _ (HR.out.2.2.2.2.mono hgZ.out bO fun _ _ g=>g) HA.out.2.2 hfJ.out.2.2).mono ?_;rintro e w8 ⟨p3,m3,rfl,⟨S8,hS8,hL8⟩,hb8⟩;have hX8:w8.heap[wo.heap.size]?=some (.cells #[.slice p1 f.blocks[k].phis.length m1,.slice p2 f.blocks[k].list.length m2,Z f.blocks[k].fin.kind,.bool f.blocks[k].fin.onr,Z f.blocks[k].fin.onn,.slice q3 f.blocks[k].fin.to.length d3] 49 (0,0)):=(hb8.block _ xz).trans HXj.out;have hz8:=hb8.size;obtain⟨yb,yf⟩:=blk hX8;have yz:=qd hX8;have hb9:Below wo.heap.size wo w8:=HR3.out.trans ((HBb.out.trans (hb8.mono bO)).mono bO);have hej:∀i,i<6->w8.cell? (J g (k*6+i))=_:=fun i hi=>(zN (a:=(J g (k*6+i))) (hb9.block g hg)).trans (HCe.out i hi);have c0:=hej 0 bO;have c1:=hej 1 bO;have c2:=hej 2 bO;have c3:=hej 3 bO;have c4:=hej 4 bO;have c5:=hej 5 bO;simp only[zB,zD,yJ]at c0 c1 c2 c3 c4 c5;have huN:∀i,w8.frozen? (J g i)=false:=fun i=>(yB (a:=(J g i)) (hb9.block g hg)).trans (HFz.out i);have hf8:w8.heap[w.heap.size]?=some (.cells #[.string f.name,Z f.params,Z f.regs,.slice (some (J g 0)) f.blocks.length c] 38 (0,0)):=(hb9.block _ bO).trans HFr.out;obtain⟨fb,ff⟩:=blk hf8;have fz:=qd hf8;have hgz:g<w8.heap.size:=(by omega);have HS8:=q8 hS8;have HL8:=q8 (show ∀i,S8 i->Wb.heap.size<=i from hL8);have HB8:=q8 hb8;have HB9:=q8 hb9;have HX8:=q8 hX8;clear hS8 hL8 hb8 hb9 hej hX8 hf8 xb xf;obtain⟨Wf,hWf⟩:=nZ (six (w8.setCell (J wo.heap.size 5) (.slice p3 f.blocks[k].fin.to.length m3)) g (k*6) (.slice p1 f.blocks[k].phis.length m1) (.slice p2 f.blocks[k].list.length m2) (Z f.blocks[k].fin.kind) (.bool f.blocks[k].fin.onr) (Z f.blocks[k].fin.onn) (.slice p3 f.blocks[k].fin.to.length m3));have HWf:=q8 hWf;clear hWf
     go_wp2_with fail
     unfold six at HWf;rw[←HWf.out];have hWf:=HWf.out;rw[←six]at hWf;have hgo:g≠wo.heap.size:=by omega
     have hj9:∀i,i≠wo.heap.size->i≠g->Wf.heap[i]?=w8.heap[i]?:=fun i h1 h2=>by
      rw[hWf,six_other _ _ _ _ _ _ _ _ _ h2];exact zJ _ _ _ i h1
     have huO:Wf.heap.size=w8.heap.size:=by rw[hWf,six_size];exact yK _ _ _
     have hrow:RowPut wo Wf 49 g (k*6) 6 [.slice p1 f.blocks[k].phis.length m1,.slice p2 f.blocks[k].list.length m2,Z f.blocks[k].fin.kind,.bool f.blocks[k].fin.onr,Z f.blocks[k].fin.onn,.slice p3 f.blocks[k].fin.to.length m3]:=by
      rw[hWf];exact(RowPut.same hee.out ((zJ _ _ _ g hgo).trans (HB9.out.block g hg)) HCe.out).six rfl _ _ _ _ _ _
     have hap:∀i,Sp1 i->i≠wo.heap.size/\i≠g:=fun i hi=>by have:=(HLp.out i hi).1;omega
     have hai:∀i,Sj i->i≠wo.heap.size/\i≠g:=fun i hi=>by have:=HLi.out i hi;omega
     have hat:∀i,S8 i->i≠wo.heap.size/\i≠g:=fun i hi=>by have:=HL8.out i hi;omega
     have hPf:SlO 84 2 PhiO Wf (.slice p1 f.blocks[k].phis.length m1) f.blocks[k].phis Sp1:=HPh.out.loc x8 (fun i hi=>(hj9 i (hap i hi).1 (hap i hi).2).trans ((HB8.out.block i (by have:=(HLp.out i hi).2;omega)).trans (HBi.out.block i (HLp.out i hi).2))) bO;have hIf:SlO 51 8 InsO Wf (.slice p2 f.blocks[k].list.length m2) f.blocks[k].list Sj:=HIs.out.loc qT (fun i hi=>(hj9 i (hai i hi).1 (hai i hi).2).trans (HB8.out.block i (HIs.out.inb i hi))) bO;have hTf:SlO 3 1 IntO Wf (.slice p3 f.blocks[k].fin.to.length m3) f.blocks[k].fin.to S8:=HS8.out.sl.loc xk (fun i hi=>hj9 i (hat i hi).1 (hat i hi).2) bO
     have hput:=haA.out Wf _ (true,f.blocks[k]) (fun i=>Sp1 i\/Sj i\/S8 i) hrow rfl (fun u hu=>by
       simp only[yC,yG,yl]at hu
       rcases hu with rfl|rfl|rfl|rfl|rfl|rfl<;>rfl) bO (fun i h1 h2 h3=>(hj9 i (by have:=HO.out.inb i h1;omega) h3).trans (HB9.out.block i (HO.out.inb i h1)))
      ⟨_,_,_,Sp1,Sj,S8,rfl,HR.out.1,HR.out.2.1,⟨hPf,hfJ.out.1⟩,⟨hIf,hfJ.out.2.1⟩,⟨hTf,hfJ.out.2.2⟩,fun i h1 h2=>by have:=(HLp.out i h1).2;have:=HLi.out i h2;omega,fun i h1 h2=>by have:=(HLp.out i h1).2;have:=HL8.out i h2;omega,fun i h1 h2=>by have:=HIs.out.inb i h1;have:=HL8.out i h2;omega,fun _ h=>.inl h,fun _ h=>.inr (.inl h),fun _ h=>.inr (.inr h)⟩
      (fun i hi=>by
       rcases hi with h|h|h
       ·have:=HLp.out i h;exact⟨.inr bO,by omega⟩
       ·have:=HLi.out i h;have:=HIs.out.inb i h;exact⟨.inr bO,by omega⟩
       have:=HL8.out i h;have:=HS8.out.sl.inb i h;exact⟨.inr bO,by omega⟩)
     rw[Qp hlt]at hput
     have hbf:Below (w.heap.size+1+1) W0 Wf:=by
      rw[hWf];have h1:Below (w.heap.size+1+1) W0 (w8.setCell (J wo.heap.size 5) (.slice p3 f.blocks[k].fin.to.length m3)):=(HB.out.trans (HB9.out.mono bO)).setCell (p:=(J wo.heap.size 5)) (by show _<=wo.heap.size;omega) _;exact h1.trans ((Ky _ g _ _ _ _ _ _ _).below (by rw[yK];omega) (fun i e=>by omega))
     go_roundg (f.blocks.length - (k+1))
     case measure=>omega
     case rel=>exact⟨k+1,_,by omega,rfl,by go_num,hput,fun i hi=>by
      rcases hi with h|h|h|h
      ·exact HL.out i h
      ·have:=(HLp.out i h).1;omega
      ·have:=HLi.out i h;omega
      have:=HL8.out i h;omega,hbf⟩
    have haP:j<(jG j f.blocks[k].list).length:=(by rw[jQ];exact hjl);obtain⟨ge,cce,cse,Te,hve,hge,hh5,hjV,hxe,hh7,hh8,haY,hh9,⟨cure,hcH⟩,pute⟩:=HOj.out.focus (Zy qT _) bO haP;rw[vd haP]at hxe;unfold jB at hxe;rw[zQ bV]at hxe;obtain⟨ve,rfl,y1,y2,y3,y4,y5,hse⟩:=(show InsR w cse f.blocks[k].list[j]from hxe);obtain⟨qe,ce,rfl,ae,_,ze⟩:=hse.outC;have hpe:p2=some (J ge 0):=(by injection hve);subst hpe;have e0:=haY 0 bO;have e1:=haY 1 bO;have e2:=haY 2 bO;have e3:=haY 3 bO;have e4:=haY 4 bO;have e5:=haY 5 bO;have e6:=haY 6 bO;have e7:=haY 7 bO;simp only[zB,zD,yJ]at e0 e1 e2 e3 e4 e5 e6 e7;have HE:=q8 (zh ae (zh hse.bdC ze));have HRe:=q8 (show InsR w [Z f.blocks[k].list[j].op,Z f.blocks[k].list[j].dst,.bool f.blocks[k].list[j].ar,Z f.blocks[k].list[j].an,.bool f.blocks[k].list[j].br,Z f.blocks[k].list[j].bn,Z f.blocks[k].list[j].fn,.slice qe f.blocks[k].list[j].args.length ce] f.blocks[k].list[j] from⟨_,rfl,y1,y2,y3,y4,y5,hse⟩);have heg:=q8 pute;have HTe:=q8 (zh hh7 hh8);have hei:=q8 hcH;have hha:=q8 haY;have hjW:=q8 hh9;have hjX:Wa.heap.size<=ge:=HLj.out ge hh5;clear hve hxe ae ze hse pute hh7 hh8 hcH hjV haY hh5
    go_wp2_with fail
    obtain⟨w3,hw3⟩:=nZ (wr.alloc (.cells #[Z f.blocks[k].list[j].op,Z f.blocks[k].list[j].dst,.bool f.blocks[k].list[j].ar,Z f.blocks[k].list[j].an,.bool f.blocks[k].list[j].br,Z f.blocks[k].list[j].bn,Z f.blocks[k].list[j].fn,.slice qe f.blocks[k].list[j].args.length ce] 51));rw[←hw3];have hz4:w3.heap.size=wr.heap.size+1:=(by rw[hw3];simp);have hb4:Below wr.heap.size wr w3:=(by rw[hw3];exact bZ);have hX4:w3.heap[wo.heap.size]?=some (.cells #[.slice p1 f.blocks[k].phis.length m1,.slice (some (J ge 0)) f.blocks[k].list.length m2,Z f.blocks[k].fin.kind,.bool f.blocks[k].fin.onr,Z f.blocks[k].fin.onn,.slice q3 f.blocks[k].fin.to.length d3] 49 (0,0)):=(hb4.block _ xz).trans HXj.out;have hY4:w3.heap[wr.heap.size]?=some (.cells #[Z f.blocks[k].list[j].op,Z f.blocks[k].list[j].dst,.bool f.blocks[k].list[j].ar,Z f.blocks[k].list[j].an,.bool f.blocks[k].list[j].br,Z f.blocks[k].list[j].bn,Z f.blocks[k].list[j].fn,.slice qe f.blocks[k].list[j].args.length ce] 51 (0,0)):=(by rw[hw3];exact qr rfl);have HB4:=q8 hb4;clear hw3 hb4 xb xf e0 e1 e2 e3 e4 e5 e6 e7 hh9;obtain⟨Sp,hSp⟩:∃Sp:World->Prop,Sp=fun w'=>w'.heap[wo.heap.size]?=some (.cells #[.slice p1 f.blocks[k].phis.length m1,.slice (some (J ge 0)) f.blocks[k].list.length m2,Z f.blocks[k].fin.kind,.bool f.blocks[k].fin.onr,Z f.blocks[k].fin.onn,.slice q3 f.blocks[k].fin.to.length d3] 49 (0,0))/\w'.heap[wr.heap.size]?=some (.cells #[Z f.blocks[k].list[j].op,Z f.blocks[k].list[j].dst,.bool f.blocks[k].list[j].ar,Z f.blocks[k].list[j].an,.bool f.blocks[k].list[j].br,Z f.blocks[k].list[j].bn,Z f.blocks[k].list[j].fn,.slice qe f.blocks[k].list[j].args.length ce] 51 (0,0)):=⟨_,rfl⟩
    have ha6:∀w',Sp w'->(∀i,w'.cell? (J wo.heap.size i)=(#[.slice p1 f.blocks[k].phis.length m1,.slice (some (J ge 0)) f.blocks[k].list.length m2,Z f.blocks[k].fin.kind,.bool f.blocks[k].fin.onr,Z f.blocks[k].fin.onn,.slice q3 f.blocks[k].fin.to.length d3]:Array Value)[i]?)/\(∀i,w'.cell? (J wr.heap.size i)=(#[Z f.blocks[k].list[j].op,Z f.blocks[k].list[j].dst,.bool f.blocks[k].list[j].ar,Z f.blocks[k].list[j].an,.bool f.blocks[k].list[j].br,Z f.blocks[k].list[j].bn,Z f.blocks[k].list[j].fn,.slice qe f.blocks[k].list[j].args.length ce]:Array Value)[i]?)/\wo.heap.size<w'.heap.size/\wr.heap.size<w'.heap.size:=fun w' h=>by
     rw[hSp]at h;exact⟨(blk h.1).1,(blk h.2).1,qd h.1,qd h.2⟩
    have hS4:Sp w3.drew:=(by rw[hSp];exact⟨hX4,hY4⟩);refine qA (S:=Sp) bK 8 ?_;refine tkZ 0 54 (.pointer (some (J wo.heap.size 1))) rfl rfl hS4 (fun w' h=>?_) ?_
    ·obtain⟨h1,h2,h3,h4⟩:=ha6 w' h;have g1:=h1 1;have g2:=h2 7;clear h1 h2;simp only[zE,zB,zD]at g1 g2;go_simp
    refine tkZ 1 55 (.slice (some (J ge 0)) f.blocks[k].list.length m2) rfl rfl hS4 (fun w' h=>?_) ?_
    ·obtain⟨h1,h2,h3,h4⟩:=ha6 w' h;have g1:=h1 1;have g2:=h2 7;clear h1 h2;simp only[zE,zB,zD]at g1 g2;go_simp
    refine tkZ 2 56 (Z j) rfl rfl hS4 (fun w' h=>?_) ?_
    ·obtain⟨h1,h2,h3,h4⟩:=ha6 w' h;have g1:=h1 1;have g2:=h2 7;clear h1 h2;simp only[zE,zB,zD]at g1 g2;go_simp
    refine tkZ 3 57 (.pointer (some (J wr.heap.size 7))) rfl rfl hS4 (fun w' h=>?_) ?_
    ·obtain⟨h1,h2,h3,h4⟩:=ha6 w' h;have g1:=h1 1;have g2:=h2 7;clear h1 h2;simp only[zE,zB,zD]at g1 g2;go_simp
    refine tkZ 4 58 (.slice qe f.blocks[k].list[j].args.length ce) rfl rfl hS4 (fun w' h=>?_) ?_
    ·obtain⟨h1,h2,h3,h4⟩:=ha6 w' h;have g1:=h1 1;have g2:=h2 7;clear h1 h2;simp only[zE,zB,zD]at g1 g2;go_simp
    refine qm (i:=5) bK (qt 59 rfl rfl rfl (by go_simp) (kI f.blocks[k].list[j].args qe ce w3.drew (HE.out.2.2.mono ((hgZ.out.trans (HB4.out.mono bO)).drew) bO fun _ _ g=>g) HE.out.1 HE.out.2.1) ?_);rintro e w5 ⟨pe,me,rfl,⟨Se,hSe,hLe⟩,hb5⟩;have hb5:Below w3.heap.size w3 w5:=(zI _ w3).drew.trans hb5;have hLe:∀k,Se k->w3.heap.size<=k:=hLe
    have hbJ:Sp w5:=by
     rw[hSp];exact⟨(hb5.block _ (qd hX4)).trans hX4,(hb5.block _ (qd hY4)).trans hY4⟩
    refine⟨_,rfl,hbJ,?_⟩;have hz5:=hb5.size;have HSe:=q8 hSe;have HLe:=q8 hLe;have HB5:=q8 (HB4.out.trans (hb5.mono bO));clear hSe hLe hb5;refine qm (i:=6) bK (qC 60 (.pointer (some (J ge (j*8)))) w5 rfl rfl rfl (by go_simp) hbJ ?_);refine qm (i:=7) bK (qC 61 (.pointer (some (J ge (j*8+7)))) w5 rfl rfl rfl (by go_simp) hbJ ?_);have r1:w5.cell? (J ge (j*8+7))=some (.slice qe f.blocks[k].list[j].args.length ce):=(zN (a:=(J ge (j*8+7))) (HB5.out.block ge hge)).trans (hha.out 7 bO);have r2:w5.frozen? (J ge (j*8+7))=false:=(yB (a:=(J ge (j*8+7))) (HB5.out.block ge hge)).trans (hjW.out _);have r3:ge<w5.heap.size:=(by omega);refine qm (i:=8) bK (qz (w5.setCell (J ge (j*8+7)) (.slice pe f.blocks[k].list[j].args.length me)) rfl rfl rfl (by go_simp) (fun h=>absurd rfl h) (qL bK ?_ _));show Exit.inBlock 5 _ Exit.normal _ _
    have hput:=heg.out (w5.setCell (J ge (j*8+7)) (.slice pe f.blocks[k].list[j].args.length me)) [Z f.blocks[k].list[j].op,Z f.blocks[k].list[j].dst,.bool f.blocks[k].list[j].ar,Z f.blocks[k].list[j].an,.bool f.blocks[k].list[j].br,Z f.blocks[k].list[j].bn,Z f.blocks[k].list[j].fn,.slice pe f.blocks[k].list[j].args.length me] (true,f.blocks[k].list[j]) Se
     (RowPut.set (RowPut.same hei.out (HB5.out.block ge hge) hha.out) rfl (j:=7) bO _) rfl (fun u hu=>by
      simp only[yC,yG,yl]at hu
      rcases hu with rfl|rfl|rfl|rfl|rfl|rfl|rfl|rfl<;>rfl) (by rw[yK];omega) (fun i h1 h2 h3=>(zJ w5 ⟨ge,j*8+7,none⟩ _ i h3).trans (HB5.out.block i (HOj.out.inb i h1)))
     (by
      obtain⟨ve,h0,y1,y2,y3,y4,y5,_⟩:=HRe.out;have hL9:∀i,Se i->i≠ge:=fun i hi=>by have:=HLe.out i hi;omega
      exact⟨_,rfl,y1,y2,y3,y4,y5,HSe.out.loc zq (fun _ h=>h) (fun i hi=>zJ w5 ⟨ge,j*8+7,none⟩ _ i (hL9 i hi)) (by rw[yK];omega)⟩)
     (fun i hi=>⟨.inr (by have:=HLe.out i hi;omega),by rw[yK];exact HSe.out.sl.inb i hi⟩)
    rw[Qp hjl]at hput
    have hrel:SlO 51 8 (jB InsO (InsR w)) (w5.setCell (J ge (j*8+7)) (.slice pe f.blocks[k].list[j].args.length me)) (.slice (some (J ge 0)) f.blocks[k].list.length m2) (jG (j+1) f.blocks[k].list) (fun i=>Sj i\/Se i)/\(∀i,Sj i\/Se i->Wa.heap.size<=i)/\Below (Wa.heap.size) W6 (w5.setCell (J ge (j*8+7)) (.slice pe f.blocks[k].list[j].args.length me)):=by
     refine⟨hput,fun i hi=>?_,?_⟩
     ·rcases hi with h|h
      ·exact HLj.out i h
      have:=HLe.out i h;omega
     exact(HBj.out.trans (HB5.out.mono bO)).setCell hjX _
    have ha7:=q8 hrel;clear hrel hput r1 r2 hbJ hS4 hX4 hY4
    go_wp2_with fail
    go_roundg (f.blocks[k].list.length - (j+1))
    case measure=>omega
    case rel=>exact⟨j+1,_,by omega,rfl,by go_num,ha7.out.1,ha7.out.2.1,ha7.out.2.2⟩

end Go.Proofs.YtgjjhadbjmcnpaaGreatDoor
namespace Go.Proofs
open Go.Shelf Go.RowKit Go.Lib
def Tryz.lays212_ren:Go.Shelf.Ren:=⟨fun|212=>105|263=>112|264=>113|n=>n,fun|46=>151|51=>162|53=>165|146=>163|148=>166|n=>n,fun|n=>n⟩
theorem Tryz.lays212:Go.Proofs.Lays.n212 Tryz.prog Tryz.lays212_ren:={
 mixed:=by kernel_rfl
 f212:=Tryz.func105.trans (congrArg some (by kernel_rfl))
 f263:=Tryz.func112.trans (congrArg some (by kernel_rfl))
 f264:=Tryz.func113.trans (congrArg some (by kernel_rfl))
 t46:=Tryz.underlying151
 a46:=Tryz.isAgg151
 z46:=Tryz.sizeOf151
 v46:=Tryz.zeroValue151
 t51:=Tryz.underlying162
 a51:=Tryz.isAgg162
 z51:=Tryz.sizeOf162
 v51:=Tryz.zeroValue162
 t53:=Tryz.underlying165
 a53:=Tryz.isAgg165
 z53:=Tryz.sizeOf165
 v53:=Tryz.zeroValue165
 t146:=Tryz.underlying163
 a146:=Tryz.isAgg163
 z146:=Tryz.sizeOf163
 v146:=Tryz.zeroValue163
 t148:=Tryz.underlying166
 a148:=Tryz.isAgg166
 z148:=Tryz.sizeOf166
 v148:=Tryz.zeroValue166 }
end Go.Proofs
namespace Go.Proofs.YtgjjhadbjmcnpaaGreatDoor
open Go.RowKit Go.Shelf Go.Lib

theorem VK (x y:Nat) (hx:x<18446744073709551616) (hy:y<18446744073709551616) (w:World) :
  Calls Tryz.prog 105 #[.int .u64 x,.int .u64 y] w fun e w'=>e = .returned (.tuple #[.int .u64 ((x*y / 18446744073709551616:Nat):Int),.int .u64 ((x*y % 18446744073709551616:Nat):Int)])/\w'=w:=
 Any.bits_Mul Tryz.lays212 x y hx hy w

theorem vX {P:Program} (w:World) (dT sT ty elem:TypeId) (g o dLen dCap size:Nat) (a:Addr) (sLen sCap:Nat) (cur:Array Value) (t:TypeId) (cs:List Value)
  (hu:P.underlying dT=some (.slice elem)) (hs:(P.info? elem).map (·.size)=some size)
  (hg:w.heap[g]?=some (.cells cur t (0,0))) (hn:cs.length=Nat.min sLen dLen*size)
  (hsrc:∀j v,cs[j]?=some v->w.cell? (a.add j)=some v) (hfit:o+cs.length<=cur.size) (h1:∀v∈cs,v.oneCell'=true) :
  (Builtin.copy_ #[dT,sT] ty #[.slice (some ⟨g,o,none⟩) dLen dCap,.slice (some a) sLen sCap]).run P w =
   .ok (goInt (Nat.min sLen dLen:Nat)) (w.setRow g (cur.toList.take o++cs++cur.toList.drop (o+cs.length)).toArray):=by
 have hl:=run_loadCells_list (P:=P) w a cs hsrc;have hst:=run_storeCells_at P g o t cs 0 cur w hg (by simpa using hfit) h1;cases hq:P.info? elem with
 | none=>simp[hq]at hs
 | some i=>
  have hi:i.size=size:=by simpa[hq]using hs
  simp[Builtin.copy_,run_underlying hu,Builtin.lenOf,Builtin.firstCells,sizeOf,typeInfo,hq,hi,←hn,hl,hst]

theorem JN (b o j:Nat):(⟨b,o,none⟩:Addr).add j=⟨b,o+j,none⟩:=by unfold Addr.add;split<;>simp_all
def Qq (z:Int) (m:Nat) (j:Nat):Value:=if j<m then .int .i64 z else .int .i64 0

theorem Qr {P:Program} (w:World) (dT sT ty elem:TypeId) (g size N m c dLen dCap sLen sCap:Nat) (a:Addr) (t:TypeId) (z:Int)
  (hu:P.underlying dT=some (.slice elem)) (hs:(P.info? elem).map (·.size)=some size)
  (hg:w.rowIs g t N (Qq z m)) (hn:c=Nat.min sLen dLen*size) (hsrc:∀j,j<c->w.cell? (a.add j)=some (.int .i64 z)) (hfit:m+c<=N) :
  ∃w',(Builtin.copy_ #[dT,sT] ty #[.slice (some ⟨g,m,none⟩) dLen dCap,.slice (some a) sLen sCap]).run P w = .ok (goInt (Nat.min sLen dLen:Nat)) w'/\w'.rowIs g t N (Qq z (m+c))/\Kept (fun k=>k=g) w w':=by
 obtain⟨cur,h1,h2,h3⟩:=hg
 have hr:=vX (P:=P) w dT sT ty elem g m dLen dCap size a sLen sCap cur t (List.replicate c (.int .i64 z)) hu hs h1 (by simpa using hn)
  (fun j v hj=>by
   rw[List.getElem?_replicate]at hj
   split at hj
   ·next hlt=>
    injection hj with hj;rw[←hj];exact hsrc j hlt
   cases hj)
  (by simp;omega) (fun v hv=>by rw[(List.mem_replicate.1 hv).2];rfl)
 refine⟨_,hr,⟨_,setRow_heap w g cur _ t _ h1,by simp;omega,fun i hi=>?_⟩,⟨rfl,rfl,rfl,by simp[World.setRow],fun k _ hn=>setRow_other w g k _ (fun e=>hn e)⟩⟩;have hcl:cur.toList.length=N:=by simpa using h2
 rw[List.getElem?_toArray,List.append_assoc];unfold Qq
 by_cases a1:i<m
 ·rw[if_pos (by omega),List.getElem?_append_left (by simp;omega),List.getElem?_take_of_lt a1,Array.getElem?_toList,h3 i hi];unfold Qq;rw[if_pos a1]
 rw[List.getElem?_append_right (by simp;omega)];have e1:(cur.toList.take m).length=m:=by simp;omega
 rw[e1]
 by_cases a2:i<m+c
 ·rw[if_pos a2,List.getElem?_append_left (by simp;omega),List.getElem?_replicate,if_pos (by omega)]
 rw[if_neg a2,List.getElem?_append_right (by simp;omega),List.length_replicate,List.getElem?_drop];have e2:m+c+(i - m - c)=i:=by omega
 rw[e2,Array.getElem?_toList,h3 i hi];unfold Qq;rw[if_neg a1]
theorem exec_copy {P:Program} {o:Oper} {a:Act} {w w':World} {d s:Operand} {t t':TypeId} {u v v':Value} (ho:o.op = .call { callee:=.builtin .copy,args:=#[d,s],argTypes:=#[t,t'] }) (hd:a.eval d=v) (hs:a.eval s=u) (h:(Builtin.copy_ #[t,t'] o.type #[v,u]).run P w = .ok v' w') :
  (execOp a.eval o).run P w = .ok (.value v') w':=by
 unfold execOp;simp only[ho,resolve,invoke,builtin,Sem.run_bind,Sem.run_pure,Result.andThen_ok,List.map_toArray,List.map_cons,List.map_nil,hd,hs,h]
theorem VL:(Tryz.prog.info? 3).map (fun i=>(i.zero,i.size,i.bytes))=some (some (.int .i64 0),1,8):=by kernel_rfl
theorem Zz:(Tryz.prog.info? 3).map (·.size)=some 1:=by kernel_rfl
theorem kn:Tryz.prog.underlying 45=some (.slice 3):=by kernel_rfl
theorem Xi (xb xo xc:Nat) (z:Int) (n:Nat) (w:World) (hn:n<=1000000) (hx:∀j,j<1->w.cell? ⟨xb,xo+j,none⟩=some (.int .i64 z)) :
  Calls Tryz.prog 92 #[.slice (some ⟨xb,xo,none⟩) 1 xc,.int .i64 n] w fun e w'=>e = .returned (.slice (some ⟨w.heap.size,0,none⟩) n n)/\w'.rowIs w.heap.size 3 n (fun _=>.int .i64 z)/\Below w.heap.size w w':=by
 obtain⟨i1,k1,k2,k3,k4⟩:=info_parts VL;have hmk:=run_make_row 45 3 i1 (.int .i64 0) kn k1 k2 k3 rfl .i64 .i64 n (by rw[k4];omega) (by omega);have hrow:=World.rowIs_made w (.int .i64 0) n 3;have hbm:=VK 1 n (by omega) (by omega);have e0:1*n / 18446744073709551616=0:=by omega
 have e1:1*n % 18446744073709551616=n:=by omega
 have eu1:IntKind.u64.wrap 1=1:=by decide
 have eun:IntKind.u64.wrap (n:Int)=n:=by rw[IntKind.wrap_u64];omega
 have ein:IntKind.i64.wrap (n:Int)=n:=by rw[IntKind.wrap_i64];omega
 simp only[e0,e1]at hbm;have HX:=q8 hx;have HR:=q8 hrow;clear hx hrow e0 e1
 obtain⟨q,hq,hqn,hq1,hq0⟩:∃q,q=Nat.min 1 n/\q<=n/\q<=1/\(q=0->n=0):=⟨Nat.min 1 n,rfl,Nat.min_le_right _ _,Nat.min_le_left _ _,fun h=>by
  have:Nat.min 1 n=1\/Nat.min 1 n=n:=by
   rcases Nat.le_total 1 n with a|a
   ·exact .inl (Nat.min_eq_left a)
   exact .inr (Nat.min_eq_right a)
  omega⟩
 obtain⟨w2,hcp,hr2,hk2⟩:=Qr (P:=Tryz.prog) (w.alloc (.cells (madeCells #[.int .i64 0] n) 3)) 45 45 3 3 w.heap.size 1 n 0 q n n 1 xc ⟨xb,xo,none⟩ 3 z kn Zz
  (HR.out.congr fun i _=>by unfold Qq;rw[if_neg (by omega)]) (by rw[←hq];simp) (fun j hj=>by
   have h1:=HX.out j (by omega);rw[JN]
   exact(World.cell?_of_block (Below.heap_alloc w _ _ (q9 h1))).trans h1) (by omega)
 rw[←hq]at hcp;have hgi:goInt (q:Nat) = .int .i64 (q:Int):=rfl;rw[hgi]at hcp;have HR2:=q8 hr2;have HB2:Hid (Below w.heap.size w w2):=q8 (Below.trans ((Below.refl _ _).alloc (Nat.le_refl _) _) (hk2.below (by simp) (fun i hi=>by omega)));have HQ:=q8 hq;clear hr2 hk2 hq HR HX hgi
 go_enter Tryz.func92,Tryz.ntmps92
 go_wp2_with fail
 refine(hbm _).mono ?_;rintro e w' ⟨rfl,hw⟩;rw[hw];clear hw
 go_wp2_with fail
 clear hcp hmk hbm
 go_loopw [8] (fun i wr=>∃m:Nat,m<=n/\(m=0->n=0)/\i = .int .i64 m/\wr.rowIs w.heap.size 3 n (Qq z m)/\Below w.heap.size w wr) (fun i _=>n - (intOf i).toNat)
 case atStart=>exact⟨q,hqn,hq0,rfl,by simpa using HR2.out,HB2.out⟩
 case round=>
  clear HR2 HB2 HQ hqn hq1 hq0;obtain⟨m,hm,hm0,rfl,hR,hb⟩:=hrel;have HR:=q8 hR;have HB:=q8 hb;clear hR hb
  by_cases hlt:m<n
  rotate_left
  ·go_wp2
   go_ret
   obtain rfl:m=n:=(by omega);exact⟨rfl,HR.out.congr fun i hi=>by unfold Qq;rw[if_pos hi],HB.out⟩
  have hlt2:(m:Int)<n:=by omega
  have hm1:1<=m:=by omega
  obtain⟨c,hc⟩:∃c,c=Nat.min m (n - m):=⟨_,rfl⟩;have hc1:c<=m:=by rw[hc];exact Nat.min_le_left _ _
  have hc2:c<=n - m:=by rw[hc];exact Nat.min_le_right _ _
  have hc3:1<=c:=by rw[hc];exact Nat.le_min.2 ⟨hm1,by omega⟩
  have hne:¬ n=m:=by omega
  have hwr:IntKind.i64.wrap ((m:Int)+c)=(m:Int)+c:=by rw[IntKind.wrap_i64];omega
  have HC:=q8 hc;clear hc
  go_wp2_with fail
  refine qA (S:=fun _=>True) (by kernel_rfl) 9 ?_;refine tkZ 0 38 (.int .i64 m) rfl rfl trivial (fun w' h=>?_) ?_
  ·go_simp
  refine tkZ 1 39 (.slice (some ⟨w.heap.size,0,none⟩) n n) rfl rfl trivial (fun w' h=>?_) ?_
  ·go_simp
  refine tkZ 2 40 (.int .i64 m) rfl rfl trivial (fun w' h=>?_) ?_
  ·go_simp
  refine tkZ 3 41 (.slice (some ⟨w.heap.size,m,none⟩) (n - m) (n - m)) rfl rfl trivial (fun w' h=>?_) ?_
  ·go_simp
  refine tkZ 4 42 (.slice (some ⟨w.heap.size,0,none⟩) n n) rfl rfl trivial (fun w' h=>?_) ?_
  ·go_simp
  refine tkZ 5 43 (.int .i64 m) rfl rfl trivial (fun w' h=>?_) ?_
  ·go_simp
  refine tkZ 6 44 (.slice (some ⟨w.heap.size,0,none⟩) m n) rfl rfl trivial (fun w' h=>?_) ?_
  ·go_simp
  obtain⟨w2,hcp,hr2,hk2⟩:=Qr (P:=Tryz.prog) wr.drew 45 45 3 3 w.heap.size 1 n m c (n - m) (n - m) m n ⟨w.heap.size,0,none⟩ 3 z kn Zz HR.out (by rw[←HC.out];simp) (fun j hj=>by
   rw[JN,Nat.zero_add];rw[HR.out.drew.cell (i:=j) (by omega)];unfold Qq
   rw[if_pos (by omega)]) (by omega)
  rw[←HC.out]at hcp;refine qm (i:=7) (by kernel_rfl) (qC 45 (.int .i64 c) w2 rfl rfl rfl (exec_copy rfl (by go_simp) (by go_simp) hcp) trivial ?_);refine qm (i:=8) (by kernel_rfl) (qC 46 (.int .i64 ((m+c:Nat):Int)) w2 rfl rfl rfl (by go_simp) trivial ?_);refine qm (i:=9) (by kernel_rfl) (qC 8 (.int .i64 ((m+c:Nat):Int)) w2 rfl rfl rfl (by go_simp) trivial (qL (by kernel_rfl) ?_ _));show Exit.inBlock 1 _ Exit.normal _ _;have HR3:=q8 hr2;have HB3:Hid (Below w.heap.size w w2):=q8 (HB.out.trans ((Below.refl _ _).drew.trans (hk2.below (B:=w.heap.size) (by exact HB.out.size) (fun i hi=>by omega))));clear hr2 hk2 hcp;refine⟨⟨.int .i64 ((m+c:Nat):Int),.int .i64 m,.slice (some ⟨w.heap.size,0,none⟩) n n,.int .i64 n,.bool true,.int .i64 m,.slice (some ⟨w.heap.size,0,none⟩) n n,.int .i64 m,.slice (some ⟨w.heap.size,m,none⟩) (n - m) (n - m),.slice (some ⟨w.heap.size,0,none⟩) n n,.int .i64 m,.slice (some ⟨w.heap.size,0,none⟩) m n,.int .i64 c,.int .i64 ((m+c:Nat):Int),⟨m+c,by omega,by omega,rfl,HR3.out,HB3.out⟩,?_⟩,?_⟩
  ·go_simp
  go_simp;simp[intOf];omega

end Go.Proofs.YtgjjhadbjmcnpaaGreatDoor
namespace Go.Proofs.YtgjjhadbjmcnpaaGreatDoor
open Go.RowKit

def zl (xs:List (Bool×Int)):List Value:=xs.flatMap fun x=>[.bool x.1,Z x.2]
theorem kN (x:Bool×Int) (xs:List (Bool×Int)):zl (x::xs) = .bool x.1::Z x.2::zl xs:=rfl
theorem Qs (xs ys:List (Bool×Int)):zl (xs++ys)=zl xs++zl ys:=by simp[zl]
theorem xy:∀xs:List (Bool×Int),(zl xs).length=xs.length*2
 | []=>rfl
 | x::xs=>by rw[kN,yi,yi,xy xs,yi];omega
theorem QS:∀(xs:List (Bool×Int)) (k:Nat),zl (xs.take k)=(zl xs).take (k*2)
 | [],k=>by simp[zl]
 | x::xs,0=>by simp[zl]
 | x::xs,k+1=>by rw[List.take_succ_cons,kN,kN,QS xs k,show(k+1)*2=k*2+1+1 by omega,List.take_succ_cons,List.take_succ_cons]
theorem QT:∀(xs:List (Bool×Int)) (k:Nat),zl (xs.drop k)=(zl xs).drop (k*2)
 | [],k=>by simp[zl]
 | x::xs,0=>by simp[zl]
 | x::xs,k+1=>by rw[List.drop_succ_cons,kN,QT xs k,show(k+1)*2=k*2+1+1 by omega,List.drop_succ_cons,List.drop_succ_cons]
theorem Qt:∀xs:List (Bool×Int),∀u∈zl xs,u.oneCell'=true:=by
 intro xs u hu;obtain⟨x,_,h⟩:=yU.1 hu;simp only[yC,yG,yl]at h;rcases h with rfl|rfl<;>rfl
theorem XW:∀{xs:List (Bool×Int)} {cs:Nat->List Value},(∀i (h:i<xs.length),cs i=[.bool xs[i].1,Z xs[i].2])->(List.range xs.length).flatMap cs=zl xs
 | [],_,_=>rfl
 | x::xs,cs,h=>by
  rw[yi,List.range_succ_eq_map,List.flatMap_cons,h 0 bV]
  have ih:=XW (xs:=xs) (cs:=fun i=>cs (i+1)) fun i hi=>by
   have:=h (i+1) (by simpa using hi);simpa using this
  unfold List.flatMap at ih ⊢;rw[yy];rw[show(List.range xs.length).map (cs∘Nat.succ)=(List.range xs.length).map (fun i=>cs (i+1))from rfl,ih];rfl

theorem SlO.row {w:World} {v:Value} {xs:List (Bool×Int)} {S:Blks} (h:SlO 44 2 jV w v xs S):w.ownsRow 0 44 2 v xs.length (zl xs)/\(∀x∈xs,I64 x.2)/\(∀g,v.ownBlock=some g->S g)/\InB w S:=by
 obtain⟨cs,T,h⟩:=h;refine⟨?_,fun x hx=>?_,h.blk,h.inb⟩
 ·have:=h.own
  rwa [XW fun i hi=>(h.el i hi).1]at this
 obtain⟨i,hi,rfl⟩:=yX hx;exact(h.el i hi).2
theorem SlO.ofRow {w:World} {v:Value} {xs:List (Bool×Int)} {S:Blks} (h:w.ownsRow 0 44 2 v xs.length (zl xs)) (hx:∀x∈xs,I64 x.2) (hv:∀g,v.ownBlock=some g->S g) (hS:InB w S):SlO 44 2 jV w v xs S:=by
 refine⟨Qn xs,fun _ _=>False,⟨?_,fun _ _=>rfl,fun i _=>XL xs i,fun i hi=>⟨?_,hx _ (zP hi)⟩,fun _ _ _ _ _ _ a _=>a,fun _ _ _ _ a=>a,hv,fun _ _ _ a=>a.elim,hS⟩⟩
 ·rw[XW fun i hi=>by unfold Qn;simp[List.getD,hi]];exact h
 unfold Qn;simp[List.getD,hi]

def RowAt (w:World) (e:TypeId) (g cap size:Nat) (cur:Array Value):Prop:=w.heap[g]?=some (.cells cur e (0,0))/\cur.size=cap*size/\cap<=maxLen
theorem RowAt.put {w:World} {e:TypeId} {g cap size:Nat} {cur:Array Value} (h:RowAt w e g cap size cur) {l:List Value} (hl:l.length=cap*size):RowAt (w.setRow g l.toArray) e g cap size l.toArray:=⟨setRow_heap w g cur _ e _ h.1,by simpa using hl,h.2.2⟩
theorem RowAt.drew {w:World} {e:TypeId} {g cap size:Nat} {cur:Array Value} (h:RowAt w e g cap size cur):RowAt w.drew e g cap size cur:=h
theorem RowAt.own {w:World} {e:TypeId} {g cap size:Nat} {cur:Array Value} (h:RowAt w e g cap size cur) {n:Nat} {xs:List Value} (hn:n<=cap) (hl:xs.length=n*size) (hx:cur.toList.take (n*size)=xs):w.ownsRow 0 e size (.slice (some (J g 0)) n cap) n xs:=
 ⟨hl,.inr ⟨g,cap,cur,rfl,Nat.zero_le _,h.1,hn,h.2.2,h.2.1,hx⟩⟩
theorem RowAt.cell {w:World} {e:TypeId} {g cap size:Nat} {cur:Array Value} (h:RowAt w e g cap size cur) (j:Nat):w.cell? (J g j)=cur[j]?:=cell_of_row w g j cur e (0,0) h.1
theorem RowAt.keep {w:World} {e:TypeId} {g cap size:Nat} {cur:Array Value} (_h:RowAt w e g cap size cur) (r:Array Value):Kept (fun k=>k=g) w (w.setRow g r):=⟨rfl,rfl,rfl,by simp[World.setRow],fun k _ hk=>setRow_other w g k _ hk⟩

section
variable {P : Program}
theorem step_append_row {ops:Array Oper} {o:Oper} {a:Act} {w:World} {K:Act->World->Prop} {Q:Exit->Act->World->Prop} {E:Prop}
  (hg:o.guard=none) (s x:Operand) (t:TypeId) (hop:o.op=Op.call { callee:=Callee.builtin Builtin.append,args:=#[s,x],argTypes:=#[t,t] })
  (e:TypeId) (i:TypeInfo) (size:Nat) (ht:P.underlying t=some (.slice e)) (hi:P.info? e=some i) (hsz:i.size=size)
  (g n cap:Nat) (cur:Array Value) (hs:a.eval s = .slice (some (J g 0)) n cap) (hr:RowAt w e g cap size cur)
  (ad:Addr) (m c:Nat) (news:List Value) (hx:a.eval x = .slice (some ad) m c) (hn:news.length=m*size) (hc:∀j u,news[j]?=some u->w.cell? (ad.add j)=some u) (h1c:∀u∈news,u.oneCell'=true)
  (hroom:n+m<=cap)
  (hK:K (a.put o.dst (.slice (some (J g 0)) (n+m) cap)) (w.setRow g (cur.toList.take (n*size)++news++cur.toList.drop (n*size+news.length)).toArray)) :
  if Region.wanted o (yielded ops a.tmps)=true then Oper.wp P o a w K Q else E:=by
 have hw:Region.wanted o (yielded ops a.tmps)=true:=by simp[Region.wanted,hg]
 rw[zZ hw];subst hsz;have hfit:n*i.size+news.length<=cur.size:=by rw[hn,hr.2.1,←Nat.add_mul];exact ye _ hroom
 have hrun:=run_append_room (P:=P) w t o.type e i ht hi g n cap cur hr.1 ad m c news hn hc h1c hroom hfit;unfold Oper.wp execOp;simp only[hop,resolve,invoke,builtin,Sem.run_bind,Sem.run_pure,Result.andThen_ok,List.map_toArray,yS,yw,hs,hx,hrun];exact hK
theorem run_clear_row (w:World) (t e ty:TypeId) (z:Value) (size:Nat) (ht:P.underlying t=some (.slice e)) (hv:∀w,(zeroValue e).run P w = .ok z w) (hz:z.cells.size=size) (h1:∀u∈z.cells.toList,u.oneCell'=true) (g o c:Nat) (cap:Nat) (cur:Array Value) (hr:RowAt w e g cap size cur) (hf:o+size<=cur.size) :
  (Builtin.clear_ #[t] ty #[.slice (some (J g o)) 1 c]).run P w = .ok (.tuple #[]) (w.setRow g (cur.toList.take o++z.cells.toList++cur.toList.drop (o+size)).toArray):=by
 have hzc:(Builtin.zeroCells z.cells 1).toList=z.cells.toList:=by
  unfold Builtin.zeroCells;apply yV
  ·simp
  intro i h1 h2;have h3:i<z.cells.size:=by simpa using h2
  simp[Nat.mod_eq_of_lt h3,getElem!_pos z.cells i h3]
 have hl:z.cells.toList.length=size:=by rw[Array.length_toList,hz]
 have hst:=run_storeCells_at P g o e z.cells.toList 0 cur w hr.1 (by rw[yJ,hl];exact hf) h1;simp only[yJ,hl]at hst;simp[Builtin.clear_,run_underlying ht,hv,hzc,hst]
end
end Go.Proofs.YtgjjhadbjmcnpaaGreatDoor
namespace Go.Proofs.YtgjjhadbjmcnpaaGreatDoor
open Go.RowKit Go.Shelf Go.Lib Go.Sort

theorem JO {w:World} {g q:Nat} {d:Array Int}:w.grownBy (putRow (Z) (Sort.ahead w q) g 0 d) (some g):=by
 refine⟨rfl,rfl,rfl,by simp[putRow,mapBlock,Sort.ahead],fun k _ hne=>?_⟩;have:g≠k:=fun e=>hne (by rw[e]);simp[putRow,mapBlock,Sort.ahead,Array.getElem?_modify,this]
end Go.Proofs.YtgjjhadbjmcnpaaGreatDoor
namespace Go.Proofs.YtgjjhadbjmcnpaaGreatDoor
open Go.RowKit Go.Shelf
attribute [local go_sem] Oper.semAt_some

structure BackSh (X:Nat) (p:Option Addr) (c:Nat) (xs:List Int) (W:World):Prop where
 box:W.cell? (J X 0)=some (.slice p xs.length c)
 el:∀i (h:i<xs.length),∃b o,p=some (J b o)/\W.cell? (J b (o+i))=some (Z xs[i])
theorem BackSh.other {X c:Nat} {p:Option Addr} {xs:List Int} {W W':World} (h:BackSh X p c xs W) (hk:∀b o v,W.cell? (J b o)=some v->(b=X\/∃o,p=some (J b o))->W'.cell? (J b o)=some v):BackSh X p c xs W':=
 ⟨hk _ _ _ h.box (.inl rfl),fun i hi=>by
  obtain⟨b,o,hp,hc⟩:=h.el i hi
  exact⟨b,o,hp,hk _ _ _ hc (.inr ⟨o,hp⟩)⟩⟩
theorem BackSh.putObj {X c:Nat} {p:Option Addr} {xs:List Int} {W:World} (h:BackSh X p c xs W) {l:Nat} {o:Obj} (o':Obj) (hl:W.heap[l]?=some o) (ho:o.isCells=false):BackSh X p c xs (W.putObj l o'):=
 h.other fun b o v hc _=>by
  have hne:b≠l:=v8 hl ho hc;exact(zN (a:=(J b o)) (World.putObj_heap_other bO)).trans hc
theorem own_back {X c:Nat} {p:Option Addr} {xs:List Int} {B:Nat}:OwnFrom B (fun(_:Nat) W=>BackSh X p c xs W):=fun s W W' row hs hg hr=>
 hs.other fun b o v hc _=>(zN (a:=(J b o)) (hg.block b (q9 hc) (fun e=>by
  obtain⟨_,x,hx,hn⟩:=hr b e.symm
  exact v8 hx hn hc rfl))).trans hc

def Kz (xs:List Int) (i:Nat):Array Value:=#[Z ((xs.length - 1 - i:Nat):Int),Z (xs.getD (xs.length - 1 - i) 0)]

theorem JP (p:Option Addr) (n c:Nat) (w:World) :
  Calls Tryz.prog 111 #[.slice p n c] w fun e w'=>e = .returned (.func (.func 126) #[] #[.pointer (some (J w.heap.size 0))])/\w'=w.alloc (.cells #[.slice p n c] 45):=by
 go_enter Tryz.func111,Tryz.ntmps111
 go_wp2
 go_ret
 exact⟨rfl,rfl⟩

theorem back_at (F:Fence) (n:Nat) (hF:F.fn 126) (hro:F.round=none) (hn:1<=n) (X c:Nat) (p:Option Addr) (xs:List Int) (w:World) (hl:xs.length<=140737488355328) (hsh:BackSh X p c xs w) :
  SeqAt F n Tryz.prog 126 #[.pointer (some (J X 0))] (Kz xs) xs.length (fun W W'=>BackSh X p c xs W->BackSh X p c xs W') w:=by
 intro l Jq Jx W hW _ _ hY h0;have HS:=q8 (hsh.other (W':=W) fun b o v hc _=>(hW.cell (p:=(J b o)) (q9 hc)).trans hc);have HY:=q8 hY;clear hsh hY hW;refine callsIn_of_wp Tryz.func126 rfl hF ?_ hro;simp only[Tryz.ntmps126,List.size_toArray,yi,List.length_nil,Nat.reduceAdd,Nat.reduceSub,Array.replicate_succ,Array.replicate_zero,List.push_toArray,List.append_toArray,List.nil_append,List.cons_append];have cb:=HS.out.box
 gi_wp2
 gi_loopw [3] (fun i wr=>∃m:Nat,m<=xs.length/\i=Z ((xs.length:Int) - 1 - m)/\Jq m wr/\BackSh X p c xs wr) (fun i _=>(intOf i+1).toNat)
 case atStart=>exact⟨0,by omega,by simp,h0,HS.out⟩
 case round=>
  clear cb;obtain⟨m,hm,rfl,hJ,hK⟩:=hrel;have cb:=hK.box;have HK:=q8 hK;clear hK
  by_cases hlt:m<xs.length
  rotate_left
  ·obtain rfl:m=xs.length:=by omega
   gi_wp2
   go_end0
   exact⟨⟨_,rfl⟩,.inl hJ⟩
  have hk:xs.length - 1 - m<xs.length:=by omega
  obtain⟨b,o,rfl,e1⟩:=HK.out.el _ hk;have hj:(xs.length:Int) - 1 - m=((xs.length - 1 - m:Nat):Int):=by omega
  obtain⟨fn,tmps,assign,body,hy,hR⟩:=HY.out _ wr hlt hJ
  have he:Kz xs m=#[Z ((xs.length - 1 - m:Nat):Int),Z (xs[xs.length - 1 - m])]:=by
   unfold Kz;rw[yO,zj hk];rfl
  rw[he]at hy;rw[hj];generalize hkk:xs.length - 1 - m=k at *;have HKK:=q8 hkk;have HR:=q8 hR;clear hR he hj hkk
  gi_wp2
  refine HR.out.mono ?_;rintro e W3 (⟨rfl,hJ3,hk3⟩|⟨rfl,hJx3⟩)
  ·have HK3:=q8 (hk3 HK.out);clear hk3
   gi_wp2
   go_roundw
   case rel=>exact⟨m+1,by omega,by have:=HKK.out;congr 1;omega,hJ3,HK3.out⟩
   case measure=>simp[intOf]
  gi_wp2
  refine zk (results_none rfl _ _ _) rfl ?_;exact⟨⟨_,rfl⟩,.inr ⟨_,hlt,hJx3⟩⟩
end Go.Proofs.YtgjjhadbjmcnpaaGreatDoor
namespace Go.Proofs.YtgjjhadbjmcnpaaGreatDoor
open Go.RowKit Go.Shelf

def X8 (Ds:List Nat):List Deferred:=Ds.map fun D=>{ target:=.collected D,args:=#[] }
theorem xK {F:Fence} {n:Nat} {P:Program} {fn:Func} {tmps:Array Value} {R:Ending->World->Prop} (B:Nat):∀(Ds:List Nat) (w:World),Ds.Nodup->(∀D∈Ds,B<=D/\w.heap[D]?=some (.deferred (some [])))->
  (∀w',w'.os=w.os->w'.tape=w.tape->w'.output=w.output->w.heap.size<=w'.heap.size->(∀k,k∉Ds->w'.heap[k]?=w.heap[k]?)->∃v,(results fn tmps).run P w' = .ok v w'/\R (.returned v) w')->LeavesInM F n P fn tmps R (X8 Ds) .returning w
 | [],w,_,_,h=>h w rfl rfl rfl (zK _) (fun _ _=>rfl)
 | D::Ds,w,hn,hD,h=>by
  obtain⟨hn1,hn2⟩:=List.nodup_cons.1 hn;refine⟨by simp,.inl ⟨D,_,rfl,run_takeDeferred (hD D yg).2,?_⟩⟩;refine xK B Ds _ hn2 (fun E hE=>?_) (fun w' h1 h2 h3 h4 h5=>?_)
  ·obtain⟨a,b⟩:=hD E (yc _ hE);exact⟨a,(World.putObj_heap_other (fun e=>hn1 (by rw[←e];exact hE))).trans b⟩
  refine h w' h1 h2 h3 (by simpa using h4) (fun k hk=>?_);rw[h5 k (fun hh=>hk (yc _ hh))];exact World.putObj_heap_other (fun e=>hk (by rw[e];exact yg))
attribute [local go_sem] Oper.semAt_some

theorem infoInt3:(Tryz.prog.info? 3).map (fun i=>(i.zero,i.size,i.bytes))=some (some (Z 0),1,8):=by kernel_rfl
theorem Yv:Tryz.prog.underlying 45=some (.slice 3):=by kernel_rfl
end Go.Proofs.YtgjjhadbjmcnpaaGreatDoor
namespace Go.Proofs.YtgjjhadbjmcnpaaGreatDoor
open Go.RowKit Go.Lib

theorem ChkOk.ins {u:UniL} (h:ChkOk u) {k:Nat} (hk:k<u.funcs.length):∀i∈allIns u.funcs[k],JD u u.funcs[k] i=0:=by
 intro i hi;have hb:=h.body k hk;unfold kX at hb;rw[zj hk]at hb;simp only at hb;unfold bodyE at hb
 split at hb
 ·obtain⟨b,hbm,him⟩:=yU.1 hi;obtain⟨j,hj,rfl⟩:=yX hbm;have hbj:=xY hb (Z6 u u.funcs[k] j) (yD.2 ⟨j,yR.2 hj,rfl⟩);unfold Z6 at hbj;rw[zj hj]at hbj;simp only at hbj;unfold Yi at hbj
  split at hbj
  ·exact xY hbj _ (yD.2 ⟨i,him,rfl⟩)
  rename_i hne
  exact absurd hbj hne
 rename_i hne
 exact absurd hb hne
end Go.Proofs.YtgjjhadbjmcnpaaGreatDoor
namespace Go.Proofs.YtgjjhadbjmcnpaaGreatDoor

def j6 (n:Nat) (had:Nat->Bool):Nat:=((List.range n).filter fun j=>!had j).length
theorem Qd {p q:Nat->Bool}:∀(l:List Nat),(∀x∈l,p x=true->q x=true)->(l.filter p).length<=(l.filter q).length
 | [],_=>by simp
 | a::l,h=>by
  have ih:=Qd l (fun x hx=>h x (yc _ hx));have ha:=h a yg
  by_cases hp:p a=true
  ·rw[List.filter_cons_of_pos hp,List.filter_cons_of_pos (ha hp)];simpa using ih
  rw[List.filter_cons_of_neg hp]
  by_cases hq:q a=true
  ·rw[List.filter_cons_of_pos hq];simp;omega
  rw[List.filter_cons_of_neg hq];exact ih
theorem ZA {p q:Nat->Bool} {k:Nat}:∀(l:List Nat),(∀x∈l,p x=true->q x=true)->k∈l->p k=false->q k=true->(l.filter p).length<(l.filter q).length
 | [],_,h,_,_=>by cases h
 | a::l,h,hk,h1,h2=>by
  have ha:=h a yg;rcases yC.1 hk with e|hk2
  ·subst e;have ih:=Qd l (fun x hx=>h x (yc _ hx));rw[List.filter_cons_of_neg (by simp[h1]),List.filter_cons_of_pos h2];simp;omega
  have ih:=ZA l (fun x hx=>h x (yc _ hx)) hk2 h1 h2
  by_cases hp:p a=true
  ·rw[List.filter_cons_of_pos hp,List.filter_cons_of_pos (ha hp)];simpa using ih
  rw[List.filter_cons_of_neg hp]
  by_cases hq:q a=true
  ·rw[List.filter_cons_of_pos hq];simp;omega
  rw[List.filter_cons_of_neg hq];exact ih
theorem QU {n:Nat} {p q:Nat->Bool} (h:∀j,p j=true->q j=true):j6 n q<=j6 n p:=
 Qd _ fun x _ hx=>by
  cases hp:p x with
  | false=>rfl
  | true=>rw[h x hp]at hx;cases hx
theorem Yw {n k:Nat} {p q:Nat->Bool} (h:∀j,p j=true->q j=true) (hk:k<n) (h1:p k=false) (h2:q k=true):j6 n q<j6 n p:=by
 refine ZA (k:=k) _ (fun x _ hx=>?_) (yR.2 hk) (by simp[h2]) (by simp[h1]);cases hp:p x with
 | false=>rfl
 | true=>rw[h x hp]at hx;cases hx

end Go.Proofs.YtgjjhadbjmcnpaaGreatDoor
