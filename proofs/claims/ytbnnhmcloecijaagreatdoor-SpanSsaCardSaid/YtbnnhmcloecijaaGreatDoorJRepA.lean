/-
  slices.Repeat of a row of one element: a new row (the shelf's math/bits.Mul laid for this 
-/
import Derived.Test.YtbnnhmcloecijaaGreatDoorJOwnJ
import Derived.Shelf.Bits.Mul64
set_option maxRecDepth 100000
set_option maxHeartbeats 16000000
namespace Go.Proofs.YtbnnhmcloecijaaGreatDoor
open Go.RowKit

section
variable {α β : Type} {e : TypeId} {size : Nat} {R : ElemO α} {R2 : ElemO β} {w w' : World} {v : Value} {xs : List α} {ys : List β} {S : Blks}
theorem SlO.imp (h:SlO e size R w v xs S) (hl:ys.length=xs.length) (hi:∀i (h1:i<xs.length) (h2:i<ys.length) cs T,(∀u∈cs,u.oneCell'=true)→R w cs xs[i] T→R2 w cs ys[i] T):SlO e size R2 w v ys S:=by
 obtain ⟨cs,T,h⟩:=h
 refine ⟨cs,T,?_,?_,?_,?_,?_,?_,h.blk,?_,h.inb⟩
 ·rw [hl];exact h.own
 ·rw [hl];exact h.len
 ·rw [hl];exact h.one
 ·intro i h1
  exact hi i (by omega) h1 _ _ (h.one i (by omega)) (h.el i (by omega))
 ·rw [hl];exact h.two
 ·rw [hl];exact h.off
 rw [hl];exact h.sub
theorem SlO.inner (hR:Qc R) (hsz:0<size) (h:SlO e size R w v xs S) {i:Nat} (hi:i<xs.length):∃g c cs T,v = .slice (some ⟨g,0,none⟩) xs.length c∧g<w.heap.size∧S g∧cs.length=size∧R w cs xs[i] T∧¬ T g∧(∀k,T k→S k)∧
  (∀j,j<size→w.cell? ⟨g,i*size+j,none⟩=cs[j]?)∧(∀o,w.frozen? ⟨g,o,none⟩=false)∧
  (∀(w':World) (x':α) (T':Blks),Kept T w w'→R w' cs x' T'→(∀k,T' k→(T k∨w.heap.size≤k)∧k<w'.heap.size)→SlO e size R w' v (xs.set i x') (fun k=>S k∨T' k))∧
  ∀(w1:World) (x':α) (T':Blks) (j:Nat) (u:Value),j<size→u.oneCell'=true→Kept T w w1→R (w1.setCell ⟨g,i*size+j,none⟩ u) (cs.set j u) x' T'→(∀k,T' k→(T k∨w.heap.size≤k)∧k<w1.heap.size)→SlO e size R (w1.setCell ⟨g,i*size+j,none⟩ u) v (xs.set i x') (fun k=>S k∨T' k):=by
 obtain ⟨cs0,T0,h0⟩:=id h
 obtain ⟨g,c,cs,T,hv,hg,hS,hl,hx,hT,hTS,hc,hf,⟨cur,hbJ⟩,put⟩:=h.focus hR hsz hi
 have hone:∀u∈cs,u.oneCell'=true:=by
  intro u hu
  obtain ⟨j,hj,rfl⟩:=yX hu
  obtain ⟨g2,c2,hv2,_,_,hc2⟩:=h0.cell hi
  rw [hv] at hv2
  injection hv2 with a _ _
  injection a with a
  injection a with a
  subst a
  have h1:=hc j (by omega)
  rw [hc2 j (by omega),zj hj] at h1
  exact h0.one i hi _ (List.mem_of_getElem? h1)
 refine ⟨g,c,cs,T,hv,hg,hS,hl,hx,hT,hTS,hc,hf,fun w' x' T' hk hr ht=>?_,fun w1 x' T' j u hj hu hk hr ht=>?_⟩
 ·refine put w' cs x' T' (RowPut.same hbJ (hk.block g hg hT) hc) hl hone hk.size (fun k h1 h2 h3=>hk.block k (h.inb k h1) h2) hr ht
 have hz:=yK w1 ⟨g,i*size+j,none⟩ u
 refine put _ (cs.set j u) x' T' (RowPut.set (RowPut.same hbJ (hk.block g hg hT) hc) hl hj u) (by simpa using hl) (fun a ha=>?_) (by rw [hz];exact hk.size) (fun k h1 h2 h3=>(zJ w1 _ u k h3).trans (hk.block k (h.inb k h1) h2)) hr (fun k hk2=>by rw [hz];exact ht k hk2)
 rcases List.mem_or_eq_of_mem_set ha with h1|h1
 ·exact hone a h1
 rw [h1];exact hu
theorem RowPut.trans_other {w w1 w2:World} {g o o2:Nat} {cs cs2:List Value} (h:RowPut w w1 e g o size cs) (k:RowPut w1 w2 e g o2 size cs2) (hd:o+size≤o2∨o2+size≤o) :
  ∃cur cur':Array Value,w.heap[g]?=some (.cells cur e (0,0))∧w2.heap[g]?=some (.cells cur' e (0,0))∧cur'.size=cur.size∧(∀j,j<size→cur'[o+j]?=cs[j]?)∧(∀j,j<size→cur'[o2+j]?=cs2[j]?)∧∀j,(j<o∨o+size≤j)→(j<o2∨o2+size≤j)→cur'[j]?=cur[j]?:=by
 obtain ⟨c0,c1,a1,a2,a3,a4,a5⟩:=h
 obtain ⟨c1',c2,b1,b2,b3,b4,b5⟩:=k
 rw [a2] at b1
 cases b1
 refine ⟨c0,c2,a1,b2,b3.trans a3,fun j hj=>?_,b4,fun j h1 h2=>(b5 j h2).trans (a5 j h1)⟩
 rw [b5 (o+j) (by omega)]
 exact a4 j hj
theorem SlW.put2 {cs:Nat→List Value} {T:Nat→Blks} {g i j:Nat} {w1 w2:World} {ci cj:List Value} {xi xj:α} {Ti Tj:Blks} (hR:Qc R) (hsz:0<size) (h:SlW e size R w v xs S cs T) (hob:v.ownBlock=some g) (hi:i<xs.length) (hj:j<xs.length) (hij:i≠j)
  (p1:RowPut w w1 e g (i*size) size ci) (p2:RowPut w1 w2 e g (j*size) size cj) (hli:ci.length=size) (hlj:cj.length=size) (hoi:∀u∈ci,u.oneCell'=true) (hoj:∀u∈cj,u.oneCell'=true) (hs:w.heap.size≤w2.heap.size)
  (hk:∀k,S k→¬ T i k→¬ T j k→k≠g→w2.heap[k]?=w.heap[k]?) (ri:R w2 ci xi Ti) (rj:R w2 cj xj Tj) (hap:Apart Ti Tj)
  (hTi:∀k,Ti k→(T i k∨T j k∨w.heap.size≤k)∧k<w2.heap.size) (hTj:∀k,Tj k→(T i k∨T j k∨w.heap.size≤k)∧k<w2.heap.size) :
  SlO e size R w2 v ((xs.set i xi).set j xj) (fun k=>S k∨Ti k∨Tj k):=by
 have hd:i*size+size≤j*size∨j*size+size≤i*size:=by
  rcases yq i j with a|a
  ·left
   have:(i+1)*size≤j*size:=ye _ a
   rw [Nat.add_mul] at this
   omega
  right
  have:(j+1)*size≤i*size:=ye _ (by omega)
  rw [Nat.add_mul] at this
  omega
 obtain ⟨cur,cur',q1,q2,q3,q4,q5,q6⟩:=p1.trans_other p2 hd
 rcases h.own.2 with ⟨_,h2⟩|⟨g',cap,cur0,hv,hb,hg,hc1,hc2,hc3,htk⟩
 ·omega
 have hgg:g'=g:=by
  rw [hv] at hob
  injection hob with hob
 subst hgg
 rw [hg] at q1
 cases q1
 have hgs:=(yL.1 hg).1
 have hcell:∀m jj,m<xs.length→jj<size→cur[m*size+jj]?=(cs m)[jj]?:=fun m jj hm hjj=>by
  have hlt:m*size+jj<xs.length*size:=by
   have:(m+1)*size≤xs.length*size:=ye _ hm
   rw [Nat.add_mul] at this
   omega
  rw [←xQ xs.length h.len m jj hm hjj,←htk,List.getElem?_take_of_lt hlt,xJ]
 have hlen:((xs.set i xi).set j xj).length=xs.length:=by simp
 have hS:∀m,m<xs.length→∀k,T m k→S k:=h.sub
 have key:∀(U:Blks),(∀k,U k→(T i k∨T j k∨w.heap.size≤k)∧k<w2.heap.size)→∀m,m<xs.length→m≠i→m≠j→Apart U (T m):=fun U hU m hm h1 h2 k a b=>by
  rcases (hU k a).1 with c|c|c
  ·exact h.two m i hm hi h1 k b c
  ·exact h.two m j hm hj h2 k b c
  have:=h.inb k (h.sub m hm k b)
  omega
 have koff:∀(U:Blks),(∀k,U k→(T i k∨T j k∨w.heap.size≤k)∧k<w2.heap.size)→¬ U g':=fun U hU a=>by
  rcases (hU _ a).1 with c|c|c
  ·exact h.off i hi _ hob c
  ·exact h.off j hj _ hob c
  omega
 refine ⟨fun m=>if m=i then ci else if m=j then cj else cs m,fun m=>if m=i then Ti else if m=j then Tj else T m,?_,fun m hm=>?_,fun m hm=>?_,fun m hm=>?_,fun m n hm hn hmn=>?_,fun m hm g2 hg2=>?_,fun g2 hg2=>.inl (h.blk g2 hg2),fun m hm k hk2=>?_,?_⟩
 ·rw [hlen]
  have hlc:∀m,m<xs.length→(if m=i then ci else if m=j then cj else cs m).length=size:=fun m hm=>by
   split
   ·exact hli
   split
   ·exact hlj
   exact h.len m hm
  refine ⟨by rw [qZ _ hlc],.inr ⟨g',cap,cur',hv,hb,q2,hc1,hc2,by rw [q3];exact hc3,?_⟩⟩
  have hle:xs.length*size≤cap*size:=ye _ hc1
  refine ym h.len hlc hsz (by simp;omega) fun m jj hm hjj=>?_
  have hlt:m*size+jj<xs.length*size:=by
   have:(m+1)*size≤xs.length*size:=ye _ hm
   rw [Nat.add_mul] at this
   omega
  rw [List.getElem?_take_of_lt hlt,xJ]
  have out:∀n,m≠n→m*size+jj<n*size∨n*size+size≤m*size+jj:=fun n hn=>by
   rcases yq m n with a|a
   ·left
    have:(m+1)*size≤n*size:=ye _ a
    rw [Nat.add_mul] at this
    omega
   right
   have:(n+1)*size≤m*size:=ye _ (by omega)
   rw [Nat.add_mul] at this
   omega
  by_cases e1:m=i
  ·subst e1
   rw [zZ rfl]
   exact q4 jj hjj
  rw [zQ e1]
  by_cases e2:m=j
  ·subst e2
   rw [zZ rfl]
   exact q5 jj hjj
  rw [zQ e2,q6 _ (out i e1) (out j e2)]
  exact hcell m jj hm hjj
 ·rw [hlen] at hm
  show (if m=i then ci else if m=j then cj else cs m).length=size
  split
  ·exact hli
  split
  ·exact hlj
  exact h.len m hm
 ·rw [hlen] at hm
  show ∀u∈(if m=i then ci else if m=j then cj else cs m),u.oneCell'=true
  split
  ·exact hoi
  split
  ·exact hoj
  exact h.one m hm
 ·have hm2:m<xs.length:=by rw [←hlen];exact hm
  by_cases e1:m=i
  ·subst e1
   simp only [if_true]
   rw [List.getElem_set_ne (Ne.symm hij),List.getElem_set_self]
   exact ri
  by_cases e2:m=j
  ·subst e2
   simp only [zQ e1,if_true]
   rw [List.getElem_set_self]
   exact rj
  simp only [zQ e1,zQ e2]
  rw [List.getElem_set_ne (Ne.symm e2),List.getElem_set_ne (Ne.symm e1)]
  refine hR _ _ _ _ _ (h.el m hm2) (fun k hk2=>hk k (h.sub m hm2 k hk2) (fun hk3=>h.two m i hm2 hi e1 k hk2 hk3) (fun hk3=>h.two m j hm2 hj e2 k hk2 hk3) (fun e2=>h.off m hm2 g' hob (by rw [←e2];exact hk2))) hs
 ·rw [hlen] at hm hn
  show Apart (if m=i then Ti else if m=j then Tj else T m) (if n=i then Ti else if n=j then Tj else T n)
  by_cases e1:m=i
  ·rw [zZ e1]
   by_cases e2:n=j
   ·rw [zQ (by omega),zZ e2]
    exact hap
   rw [zQ (by omega),zQ e2]
   exact key Ti hTi n hn (by omega) e2
  rw [zQ e1]
  by_cases e3:m=j
  ·rw [zZ e3]
   by_cases e2:n=i
   ·rw [zZ e2]
    exact hap.symm
   rw [zQ e2,zQ (by omega)]
   exact key Tj hTj n hn e2 (by omega)
  rw [zQ e3]
  by_cases e2:n=i
  ·rw [zZ e2]
   exact (key Ti hTi m hm e1 e3).symm
  rw [zQ e2]
  by_cases e4:n=j
  ·rw [zZ e4]
   exact (key Tj hTj m hm e1 e3).symm
  rw [zQ e4]
  exact h.two m n hm hn hmn
 ·rw [hlen] at hm
  rw [hob] at hg2
  cases hg2
  show ¬ (if m=i then Ti else if m=j then Tj else T m) g'
  split
  ·exact koff Ti hTi
  split
  ·exact koff Tj hTj
  exact h.off m hm _ hob
 ·rw [hlen] at hm
  have hk3:(if m=i then Ti else if m=j then Tj else T m) k:=hk2
  split at hk3
  ·exact .inr (.inl hk3)
  split at hk3
  ·exact .inr (.inr hk3)
  exact .inl (h.sub m hm k hk3)
 rintro k (a|a|a)
 ·exact (h.inb.mono hs) k a
 ·exact (hTi k a).2
 exact (hTj k a).2
theorem SlW.join {w':World} {v' u:Value} {zs:List α} {T:Blks} {cs ds:Nat→List Value} {U V:Nat→Blks} (hR:Qc R) (h:SlW e size R w v xs S cs U) (hz:SlW e size R w u zs T ds V) (hT:Apart S T)
  (hown:w'.ownsRow 0 e size v' (xs.length+zs.length) ((List.range xs.length).flatMap cs++(List.range zs.length).flatMap ds)) (hg:w.grownBy w' v.ownBlock) (hat:v'.ownBlock=v.ownBlock∨v'.ownBlock=some w.heap.size) :
  SlO e size R w' v' (xs++zs) (fun k=>S k∨T k∨v'.ownBlock=some k):=by
 have hlen:(xs++zs).length=xs.length+zs.length:=by simp
 have hin:∀g,v'.ownBlock=some g→0≤g∧g<w'.heap.size:=hown.lt
 have hoff:∀k g,(S k∧v.ownBlock≠some k)∨T k→v'.ownBlock=some g→k≠g:=fun k g hk hg' ek=>by
  subst ek
  rcases hat with a|a
  ·rcases hk with ⟨_,b⟩|b
   ·exact b (a.symm.trans hg')
   exact hT k (h.blk k (a.symm.trans hg')) b
  have hks:k<w.heap.size:=by
   rcases hk with ⟨b,_⟩|b
   ·exact h.inb k b
   exact hz.inb k b
  rw [a] at hg'
  injection hg' with hg'
  omega
 have hkeep:∀k,k<w.heap.size→v.ownBlock≠some k→w'.heap[k]?=w.heap[k]?:=fun k hk hn=>hg.block k hk (fun e1=>hn e1.symm)
 refine ⟨fun m=>if m<xs.length then cs m else ds (m - xs.length),fun m=>if m<xs.length then U m else V (m - xs.length),?_,fun m hm=>?_,fun m hm=>?_,fun m hm=>?_,fun m n hm hn hmn=>?_,fun m hm g' hg'=>?_,fun g' hg'=>.inr (.inr hg'),fun m hm k hk2=>?_,?_⟩
 ·rw [hlen,List.range_add,yn]
  have e1:(List.range xs.length).flatMap (fun m=>if m<xs.length then cs m else ds (m - xs.length))=(List.range xs.length).flatMap cs:=by
   unfold List.flatMap
   congr 1
   refine ya fun m hm=>?_
   have:=yR.1 hm
   rw [zZ (by omega)]
  have e2:((List.range zs.length).map (xs.length+·)).flatMap (fun m=>if m<xs.length then cs m else ds (m - xs.length))=(List.range zs.length).flatMap ds:=by
   unfold List.flatMap
   rw [yy]
   congr 1
   refine ya fun m hm=>?_
   show (if xs.length+m<xs.length then cs (xs.length+m) else ds (xs.length+m - xs.length))=ds m
   rw [zQ (by omega)]
   congr 1
   omega
  rw [e1,e2]
  exact hown
 ·rw [hlen] at hm
  show (if m<xs.length then cs m else ds (m - xs.length)).length=size
  split
  ·exact h.len m (by omega)
  exact hz.len _ (by omega)
 ·rw [hlen] at hm
  show ∀u∈(if m<xs.length then cs m else ds (m - xs.length)),u.oneCell'=true
  split
  ·exact h.one m (by omega)
  exact hz.one _ (by omega)
 ·have hm1:m<xs.length+zs.length:=by rw [←hlen];exact hm
  by_cases e1:m<xs.length
  ·simp only [zZ e1,List.getElem_append_left e1]
   exact hR _ _ _ _ _ (h.el m e1) (fun k hk=>hkeep k (h.inb k (h.sub m e1 k hk)) (fun e3=>h.off m e1 k e3 hk)) hg.size
  simp only [zQ e1,List.getElem_append_right (Nat.le_of_not_lt e1)]
  exact hR _ _ _ _ _ (hz.el (m - xs.length) (by omega)) (fun k hk=>hkeep k (hz.inb k (hz.sub _ (by omega) k hk)) (fun e3=>hT k (h.blk k e3) (hz.sub _ (by omega) k hk))) hg.size
 ·rw [hlen] at hm hn
  show Apart (if m<xs.length then U m else V (m - xs.length)) (if n<xs.length then U n else V (n - xs.length))
  split
  ·next e1=>
   split
   ·exact h.two m n e1 (by omega) hmn
   exact fun k a b=>hT k (h.sub m e1 k a) (hz.sub _ (by omega) k b)
  next e1=>
  split
  ·next e2=>exact fun k a b=>hT k (h.sub n e2 k b) (hz.sub _ (by omega) k a)
  exact hz.two _ _ (by omega) (by omega) (by omega)
 ·rw [hlen] at hm
  show ¬ (if m<xs.length then U m else V (m - xs.length)) g'
  split
  ·next e1=>exact fun a=>hoff g' g' (.inl ⟨h.sub m e1 g' a,fun e3=>h.off m e1 g' e3 a⟩) hg' rfl
  exact fun a=>hoff g' g' (.inr (hz.sub _ (by omega) g' a)) hg' rfl
 ·rw [hlen] at hm
  have hk3:(if m<xs.length then U m else V (m - xs.length)) k:=hk2
  split at hk3
  ·next e1=>exact .inl (h.sub m e1 k hk3)
  exact .inr (.inl (hz.sub _ (by omega) k hk3))
 rintro k (a|a|a)
 ·exact (h.inb.mono hg.size) k a
 ·exact (hz.inb.mono hg.size) k a
 exact (hin k a).2
end
def Joined {α:Type} (e:TypeId) (size:Nat) (R:ElemO α) (w:World) (zs:List α) (S T:Blks) (v':Value) (w':World):Prop:=
 ∃S':Blks,SlO e size R w' v' zs S'∧(∀k,S' k→S k∨T k∨w.heap.size≤k)∧Kept S w w'
section
variable {P : Program} {α : Type} {R : ElemO α}
theorem ZV (w:World) (t ty e:TypeId) (i:TypeInfo) (z:Value) (size bytes:Nat) (ht:P.underlying t=some (.slice e)) (hi:P.info? e=some i) (hz:i.zero=some z)
  (hsize:i.size=size) (hby:i.bytes=bytes) (hzs:z.cells.size=size) (hsz:0<size) (hR:Qc R) {v u:Value} {xs ys:List α} {S T:Blks} (hO:SlO e size R w v xs S) (hY:SlO e size R w u ys T) (hT:Apart S T)
  (h63:xs.length+ys.length≤maxLen) (hbytes:(xs.length+ys.length)*bytes≤140737488355328) :
  ∃v' w',(Builtin.append_ #[t,t] ty #[v,u]).run P w = .ok v' w'∧Joined e size R w (xs++ys) S T v' w':=by
 obtain ⟨cs,U,h⟩:=hO
 obtain ⟨ds,V,hy⟩:=hY
 rcases hy.own.2 with ⟨rfl,h0⟩|⟨g,cap,cur,rfl,_,hg,hnc,hcm,hcs,htk⟩
 ·obtain rfl:=yd.1 h0
  refine ⟨v,w,run_append_owned_none (P:=P) w 0 t ty e i size ht hi v _ _ h.own,S,?_,fun k hk=>.inl hk,Kept.refl _ _⟩
  rw [List.append_nil]
  exact ⟨cs,U,h⟩
 obtain ⟨v',w',hr,h2,h3,_,h5⟩:=run_append_own_at (P:=P) w 0 t ty e i z size bytes ht hi hz hsize hby hzs hsz v _ _ h.own ⟨g,0,none⟩ ys.length cap ((List.range ys.length).flatMap ds) (qZ _ hy.len) (fun j x hx=>hy.own.cells (g:=g) rfl j x hx) (jD fun i hi=>hy.one i hi) h63 hbytes (Nat.zero_le _)
 refine ⟨v',w',hr,_,h.join hR hy hT h2 h3 h5,fun k hk=>?_,Kept.of_grown h3 h.blk⟩
 rcases hk with a|a|a
 ·exact .inl a
 ·exact .inr (.inl a)
 rcases h5 with b|b
 ·exact .inl (h.blk k (b.symm.trans a))
 rw [b] at a
 injection a with a
 exact .inr (.inr (by omega))
end
/-! cells taken over from what was there -/
def DatO {α:Type} (R:List Value→α→Prop):ElemO α:=fun _ cs x _=>R cs x
theorem Vd {α:Type} (R:List Value→α→Prop):Qc (DatO R):=fun _ _ _ _ _ h _ _=>h
def jE {α:Type} (RO:ElemO α) (R:List Value→α→Prop):ElemO (Bool×α):=fun w cs x S=>if x.1=true then RO w cs x.2 S else R cs x.2
theorem ZW {α:Type} {RO:ElemO α} (h:Qc RO) (R:List Value→α→Prop):Qc (jE RO R):=fun w w' cs x S hx hk hs=>by
 unfold jE at hx ⊢
 split
 ·next e=>rw [zZ e] at hx;exact h _ _ _ _ _ hx hk hs
 next e=>rw [zQ e] at hx;exact hx
def jF (w:World) (p:Option Addr) (size i:Nat):List Value:=(List.range size).map fun j=>(w.cell? ((p.getD default).add (i*size+j))).getD default
theorem vH (w:World) (p:Option Addr) (size i:Nat):(jF w p size i).length=size:=by simp [jF]
theorem SliceAt.old {α:Type} {w:World} {size:Nat} {R:List Value→α→Prop} {p:Option Addr} {xs:List α} (h:SliceAt w size R p xs) {i:Nat} (hi:i<xs.length):R (jF w p size i) xs[i]∧∀j,j<size→∀a,p=some a→w.cell? (a.add (i*size+j))=(jF w p size i)[j]?:=by
 obtain ⟨b,o,cs,rfl,hl,hc,hr⟩:=h.get hi
 have key:∀j,j<size→w.cell? ((⟨b,o,none⟩:Addr).add (i*size+j))=cs[j]?:=fun j hj=>by
  rw [vC,←Nat.add_assoc]
  exact hc j hj
 have e:jF w (some ⟨b,o,none⟩) size i=cs:=by
  refine List.ext_getElem? fun j=>?_
  rcases yq j size with g|g
  ·unfold jF
   rw [List.getElem?_map,List.getElem?_range g]
   show some ((w.cell? ((⟨b,o,none⟩:Addr).add (i*size+j))).getD default)=_
   rw [key j g,zj (by omega)]
   rfl
  rw [yk (by rw [vH];exact g),yk (by omega)]
 rw [e]
 exact ⟨hr,fun j hj a ha=>by cases ha;exact key j hj⟩
def six (w:World) (g o:Nat) (a0 a1 a2 a3 a4 a5:Value):World:=(((((w.setCell ⟨g,o,none⟩ a0).setCell ⟨g,o+1,none⟩ a1).setCell ⟨g,o+2,none⟩ a2).setCell ⟨g,o+3,none⟩ a3).setCell ⟨g,o+4,none⟩ a4).setCell ⟨g,o+5,none⟩ a5
theorem six_other (w:World) (g o:Nat) (a0 a1 a2 a3 a4 a5:Value) {i:Nat} (h:i≠g):(six w g o a0 a1 a2 a3 a4 a5).heap[i]?=w.heap[i]?:=by
 unfold six
 repeat rw [zJ _ _ _ i h]
theorem six_size (w:World) (g o:Nat) (a0 a1 a2 a3 a4 a5:Value):(six w g o a0 a1 a2 a3 a4 a5).heap.size=w.heap.size:=by simp [six,World.setCell]
theorem Y7 (w:World) (g o:Nat) (a0 a1 a2 a3 a4 a5:Value):Kept (fun i=>i=g) w (six w g o a0 a1 a2 a3 a4 a5):=by
 unfold six
 have h0:Kept (fun i=>i=g) w w:=Kept.refl _ w
 have h1:=h0.setCell (p:=⟨g,o,none⟩) rfl a0
 have h2:=h1.setCell (p:=⟨g,o+1,none⟩) rfl a1
 have h3:=h2.setCell (p:=⟨g,o+2,none⟩) rfl a2
 have h4:=h3.setCell (p:=⟨g,o+3,none⟩) rfl a3
 have h5:=h4.setCell (p:=⟨g,o+4,none⟩) rfl a4
 exact h5.setCell (p:=⟨g,o+5,none⟩) rfl a5
theorem RowPut.six {w w1:World} {e:TypeId} {g o:Nat} {cs:List Value} (h:RowPut w w1 e g o 6 cs) (hl:cs.length=6) (a0 a1 a2 a3 a4 a5:Value):RowPut w (Go.Proofs.YtbnnhmcloecijaaGreatDoor.six w1 g o a0 a1 a2 a3 a4 a5) e g o 6 [a0,a1,a2,a3,a4,a5]:=by
 obtain ⟨c0,c1,c2,c3,c4,c5,rfl⟩:=len_6 hl
 have h0:=RowPut.set h rfl (j:=0) (by omega) a0
 simp only [yJ,yQ] at h0
 have h1:=RowPut.set h0 rfl (j:=1) (by omega) a1
 simp only [yZ,yQ] at h1
 have h2:=RowPut.set h1 rfl (j:=2) (by omega) a2
 simp only [yZ,yQ] at h2
 have h3:=RowPut.set h2 rfl (j:=3) (by omega) a3
 simp only [yZ,yQ] at h3
 have h4:=RowPut.set h3 rfl (j:=4) (by omega) a4
 simp only [yZ,yQ] at h4
 have h5:=RowPut.set h4 rfl (j:=5) (by omega) a5
 simp only [yZ,yQ] at h5
 unfold Go.Proofs.YtbnnhmcloecijaaGreatDoor.six
 exact h5
end Go.Proofs.YtbnnhmcloecijaaGreatDoor
namespace Go.Proofs
open Go.Shelf Go.RowKit Go.Lib
def Tryz.lays212_ren:Go.Shelf.Ren:=⟨fun|212=>101|263=>138|264=>139|n=>n,fun|46=>149|51=>193|53=>196|146=>194|148=>197|n=>n,fun|n=>n⟩
theorem Tryz.lays212:Go.Proofs.Lays.n212 Tryz.prog Tryz.lays212_ren:={
 mixed:=by kernel_rfl
 f212:=Tryz.func101.trans (congrArg some (by kernel_rfl))
 f263:=Tryz.func138.trans (congrArg some (by kernel_rfl))
 f264:=Tryz.func139.trans (congrArg some (by kernel_rfl))
 t46:=Tryz.underlying149
 a46:=Tryz.isAgg149
 z46:=Tryz.sizeOf149
 v46:=Tryz.zeroValue149
 t51:=Tryz.underlying193
 a51:=Tryz.isAgg193
 z51:=Tryz.sizeOf193
 v51:=Tryz.zeroValue193
 t53:=Tryz.underlying196
 a53:=Tryz.isAgg196
 z53:=Tryz.sizeOf196
 v53:=Tryz.zeroValue196
 t146:=Tryz.underlying194
 a146:=Tryz.isAgg194
 z146:=Tryz.sizeOf194
 v146:=Tryz.zeroValue194
 t148:=Tryz.underlying197
 a148:=Tryz.isAgg197
 z148:=Tryz.sizeOf197
 v148:=Tryz.zeroValue197 }
end Go.Proofs
namespace Go.Proofs.YtbnnhmcloecijaaGreatDoor
open Go.RowKit Go.Shelf Go.Lib

theorem ZX (x y:Nat) (hx:x<18446744073709551616) (hy:y<18446744073709551616) (w:World) :
  Calls Tryz.prog 101 #[.int .u64 x,.int .u64 y] w fun e w'=>e = .returned (.tuple #[.int .u64 ((x*y / 18446744073709551616:Nat):Int),.int .u64 ((x*y % 18446744073709551616:Nat):Int)])∧w'=w:=
 Any.bits_Mul Tryz.lays212 x y hx hy w

theorem vZ {P:Program} (w:World) (dT sT ty elem:TypeId) (g o dLen dCap size:Nat) (a:Addr) (sLen sCap:Nat) (cur:Array Value) (t:TypeId) (cs:List Value)
  (hu:P.underlying dT=some (.slice elem)) (hs:(P.info? elem).map (·.size)=some size)
  (hg:w.heap[g]?=some (.cells cur t (0,0))) (hn:cs.length=Nat.min sLen dLen*size)
  (hsrc:∀j v,cs[j]?=some v→w.cell? (a.add j)=some v) (hfit:o+cs.length≤cur.size) (h1:∀v∈cs,v.oneCell'=true) :
  (Builtin.copy_ #[dT,sT] ty #[.slice (some ⟨g,o,none⟩) dLen dCap,.slice (some a) sLen sCap]).run P w =
   .ok (goInt (Nat.min sLen dLen:Nat)) (w.setRow g (cur.toList.take o++cs++cur.toList.drop (o+cs.length)).toArray):=by
 have hl:=run_loadCells_list (P:=P) w a cs hsrc
 have hst:=run_storeCells_at P g o t cs 0 cur w hg (by simpa using hfit) h1
 cases hq:P.info? elem with
 | none=>simp [hq] at hs
 | some i=>
  have hi:i.size=size:=by simpa [hq] using hs
  simp [Builtin.copy_,run_underlying hu,Builtin.lenOf,Builtin.firstCells,sizeOf,typeInfo,hq,hi,←hn,hl,hst]

theorem kv (b o j:Nat):(⟨b,o,none⟩:Addr).add j=⟨b,o+j,none⟩:=by unfold Addr.add;split<;>simp_all
def vI (z:Int) (m:Nat) (j:Nat):Value:=if j<m then .int .i64 z else .int .i64 0

theorem jP {P:Program} (w:World) (dT sT ty elem:TypeId) (g size N m c dLen dCap sLen sCap:Nat) (a:Addr) (t:TypeId) (z:Int)
  (hu:P.underlying dT=some (.slice elem)) (hs:(P.info? elem).map (·.size)=some size)
  (hg:w.rowIs g t N (vI z m)) (hn:c=Nat.min sLen dLen*size) (hsrc:∀j,j<c→w.cell? (a.add j)=some (.int .i64 z)) (hfit:m+c≤N) :
  ∃w',(Builtin.copy_ #[dT,sT] ty #[.slice (some ⟨g,m,none⟩) dLen dCap,.slice (some a) sLen sCap]).run P w = .ok (goInt (Nat.min sLen dLen:Nat)) w'∧w'.rowIs g t N (vI z (m+c))∧Kept (fun k=>k=g) w w':=by
 obtain ⟨cur,h1,h2,h3⟩:=hg
 have hr:=vZ (P:=P) w dT sT ty elem g m dLen dCap size a sLen sCap cur t (List.replicate c (.int .i64 z)) hu hs h1 (by simpa using hn)
  (fun j v hj=>by
   rw [List.getElem?_replicate] at hj
   split at hj
   ·next hlt=>
    injection hj with hj
    rw [←hj]
    exact hsrc j hlt
   cases hj)
  (by simp;omega) (fun v hv=>by rw [(List.mem_replicate.1 hv).2];rfl)
 refine ⟨_,hr,⟨_,setRow_heap w g cur _ t _ h1,by simp;omega,fun i hi=>?_⟩,⟨rfl,rfl,rfl,by simp [World.setRow],fun k _ hn=>setRow_other w g k _ (fun e=>hn e)⟩⟩
 have hcl:cur.toList.length=N:=by simpa using h2
 rw [zE,yF]
 unfold vI
 by_cases a1:i<m
 ·rw [zZ (by omega),List.getElem?_append_left (by simp;omega),List.getElem?_take_of_lt a1,xJ,h3 i hi]
  unfold vI
  rw [zZ a1]
 rw [List.getElem?_append_right (by simp;omega)]
 have e1:(cur.toList.take m).length=m:=by simp;omega
 rw [e1]
 by_cases a2:i<m+c
 ·rw [zZ a2,List.getElem?_append_left (by simp;omega),List.getElem?_replicate,zZ (by omega)]
 rw [zQ a2,List.getElem?_append_right (by simp;omega),List.length_replicate,List.getElem?_drop]
 have e2:m+c+(i - m - c)=i:=by omega
 rw [e2,xJ,h3 i hi]
 unfold vI
 rw [zQ a1]
theorem Ve {P:Program} {o:Oper} {a:Act} {w w':World} {d s:Operand} {t t':TypeId} {u v v':Value} (ho:o.op = .call { callee:=.builtin .copy,args:=#[d,s],argTypes:=#[t,t'] }) (hd:a.eval d=v) (hs:a.eval s=u) (h:(Builtin.copy_ #[t,t'] o.type #[v,u]).run P w = .ok v' w') :
  (execOp a.eval o).run P w = .ok (.value v') w':=by
 unfold execOp
 simp only [ho,resolve,invoke,builtin,Sem.run_bind,Sem.run_pure,Result.andThen_ok,List.map_toArray,yS,yw,hd,hs,h]
theorem Km:(Tryz.prog.info? 3).map (fun i=>(i.zero,i.size,i.bytes))=some (some (.int .i64 0),1,8):=by kernel_rfl
theorem ZY:(Tryz.prog.info? 3).map (·.size)=some 1:=by kernel_rfl
theorem kw:Tryz.prog.underlying 41=some (.slice 3):=by kernel_rfl
theorem QT (xb xo xc:Nat) (z:Int) (n:Nat) (w:World) (hn:n≤1000000) (hx:∀j,j<1→w.cell? ⟨xb,xo+j,none⟩=some (.int .i64 z)) :
  Calls Tryz.prog 98 #[.slice (some ⟨xb,xo,none⟩) 1 xc,.int .i64 n] w fun e w'=>e = .returned (.slice (some ⟨w.heap.size,0,none⟩) n n)∧w'.rowIs w.heap.size 3 n (fun _=>.int .i64 z)∧Below w.heap.size w w':=by
 obtain ⟨i1,k1,k2,k3,k4⟩:=info_parts Km
 have hmk:=run_make_row 41 3 i1 (.int .i64 0) kw k1 k2 k3 rfl .i64 .i64 n (by rw [k4];omega) (by omega)
 have hrow:=World.rowIs_made w (.int .i64 0) n 3
 have hbm:=ZX 1 n (by omega) (by omega)
 have e0:1*n / 18446744073709551616=0:=by omega
 have e1:1*n % 18446744073709551616=n:=by omega
 have eu1:IntKind.u64.wrap 1=1:=by decide
 have eun:IntKind.u64.wrap (n:Int)=n:=by rw [IntKind.wrap_u64];omega
 have ein:IntKind.i64.wrap (n:Int)=n:=by rw [xI];omega
 simp only [e0,e1] at hbm
 have HX:=q7 hx
 have HR:=q7 hrow
 clear hx hrow e0 e1
 obtain ⟨q,hq,hqn,hq1,hq0⟩:∃q,q=Nat.min 1 n∧q≤n∧q≤1∧(q=0→n=0):=⟨Nat.min 1 n,rfl,Nat.min_le_right _ _,Nat.min_le_left _ _,fun h=>by
  have:Nat.min 1 n=1∨Nat.min 1 n=n:=by
   rcases Nat.le_total 1 n with a|a
   ·exact .inl (Nat.min_eq_left a)
   exact .inr (Nat.min_eq_right a)
  omega⟩
 obtain ⟨w2,hcp,hr2,hk2⟩:=jP (P:=Tryz.prog) (w.alloc (.cells (madeCells #[.int .i64 0] n) 3)) 41 41 3 3 w.heap.size 1 n 0 q n n 1 xc ⟨xb,xo,none⟩ 3 z kw ZY
  (HR.out.congr fun i _=>by unfold vI;rw [zQ (by omega)]) (by rw [←hq];simp) (fun j hj=>by
   have h1:=HX.out j (by omega)
   rw [kv]
   exact (zN (xG w _ _ (qd h1))).trans h1) (by omega)
 rw [←hq] at hcp
 have hgi:goInt (q:Nat) = .int .i64 (q:Int):=rfl
 rw [hgi] at hcp
 have HR2:=q7 hr2
 have HB2:Hid (Below w.heap.size w w2):=q7 (yo ((zI _ _).alloc (zK _) _) (hk2.below (by simp) (fun i hi=>by omega)))
 have HQ:=q7 hq
 clear hr2 hk2 hq HR HX hgi
 go_enter Tryz.func98,Tryz.ntmps98
 go_wp2_with fail
 refine (hbm _).mono ?_
 rintro e w' ⟨rfl,hw⟩
 rw [hw]
 clear hw
 go_wp2_with fail
 clear hcp hmk hbm
 go_loopw [8] (fun i wr=>∃m:Nat,m≤n∧(m=0→n=0)∧i = .int .i64 m∧wr.rowIs w.heap.size 3 n (vI z m)∧Below w.heap.size w wr) (fun i _=>n - (intOf i).toNat)
 case atStart=>exact ⟨q,hqn,hq0,rfl,by simpa using HR2.out,HB2.out⟩
 case round=>
  clear HR2 HB2 HQ hqn hq1 hq0
  obtain ⟨m,hm,hm0,rfl,hR,hb⟩:=hrel
  have HR:=q7 hR
  have HB:=q7 hb
  clear hR hb
  by_cases hlt:m<n
  rotate_left
  ·go_wp2
   go_ret
   obtain rfl:m=n:=by omega
   exact ⟨rfl,HR.out.congr fun i hi=>by unfold vI;rw [zZ hi],HB.out⟩
  have hlt2:(m:Int)<n:=by omega
  have hm1:1≤m:=by omega
  obtain ⟨c,hc⟩:∃c,c=Nat.min m (n - m):=⟨_,rfl⟩
  have hc1:c≤m:=by rw [hc];exact Nat.min_le_left _ _
  have hc2:c≤n - m:=by rw [hc];exact Nat.min_le_right _ _
  have hc3:1≤c:=by rw [hc];exact Nat.le_min.2 ⟨hm1,by omega⟩
  have hne:¬ n=m:=by omega
  have hwr:IntKind.i64.wrap ((m:Int)+c)=(m:Int)+c:=by rw [xI];omega
  have HC:=q7 hc
  clear hc
  go_wp2_with fail
  refine qr (S:=fun _=>True) (by kernel_rfl) 9 ?_
  refine tkZ 0 38 (.int .i64 m) rfl rfl trivial (fun w' h=>?_) ?_
  ·go_simp
  refine tkZ 1 39 (.slice (some ⟨w.heap.size,0,none⟩) n n) rfl rfl trivial (fun w' h=>?_) ?_
  ·go_simp
  refine tkZ 2 40 (.int .i64 m) rfl rfl trivial (fun w' h=>?_) ?_
  ·go_simp
  refine tkZ 3 41 (.slice (some ⟨w.heap.size,m,none⟩) (n - m) (n - m)) rfl rfl trivial (fun w' h=>?_) ?_
  ·go_simp
  refine tkZ 4 42 (.slice (some ⟨w.heap.size,0,none⟩) n n) rfl rfl trivial (fun w' h=>?_) ?_
  ·go_simp
  refine tkZ 5 43 (.int .i64 m) rfl rfl trivial (fun w' h=>?_) ?_
  ·go_simp
  refine tkZ 6 44 (.slice (some ⟨w.heap.size,0,none⟩) m n) rfl rfl trivial (fun w' h=>?_) ?_
  ·go_simp
  obtain ⟨w2,hcp,hr2,hk2⟩:=jP (P:=Tryz.prog) wr.drew 41 41 3 3 w.heap.size 1 n m c (n - m) (n - m) m n ⟨w.heap.size,0,none⟩ 3 z kw ZY HR.out (by rw [←HC.out];simp) (fun j hj=>by
   rw [kv,yx]
   rw [HR.out.drew.cell (i:=j) (by omega)]
   unfold vI
   rw [zZ (by omega)]) (by omega)
  rw [←HC.out] at hcp
  refine qk (i:=7) (by kernel_rfl) (qz 45 (.int .i64 c) w2 rfl rfl rfl (Ve rfl (by go_simp) (by go_simp) hcp) trivial ?_)
  refine qk (i:=8) (by kernel_rfl) (qz 46 (.int .i64 ((m+c:Nat):Int)) w2 rfl rfl rfl (by go_simp) trivial ?_)
  refine qk (i:=9) (by kernel_rfl) (qz 8 (.int .i64 ((m+c:Nat):Int)) w2 rfl rfl rfl (by go_simp) trivial (qx (by kernel_rfl) ?_ _))
  show Exit.inBlock 1 _ Exit.normal _ _
  have HR3:=q7 hr2
  have HB3:Hid (Below w.heap.size w w2):=q7 (HB.out.trans ((zI _ _).drew.trans (hk2.below (B:=w.heap.size) (by exact HB.out.size) (fun i hi=>by omega))))
  clear hr2 hk2 hcp
  refine ⟨⟨.int .i64 ((m+c:Nat):Int),.int .i64 m,.slice (some ⟨w.heap.size,0,none⟩) n n,.int .i64 n,.bool true,.int .i64 m,.slice (some ⟨w.heap.size,0,none⟩) n n,.int .i64 m,.slice (some ⟨w.heap.size,m,none⟩) (n - m) (n - m),.slice (some ⟨w.heap.size,0,none⟩) n n,.int .i64 m,.slice (some ⟨w.heap.size,0,none⟩) m n,.int .i64 c,.int .i64 ((m+c:Nat):Int),⟨m+c,by omega,by omega,rfl,HR3.out,HB3.out⟩,?_⟩,?_⟩
  ·go_simp
  go_simp
  simp [intOf];omega

theorem m6:(Tryz.prog.info? 114).map (fun i=>(i.zero,i.size,i.bytes))=some (some (.agg #[.int .i64 0,.int .i64 0]),2,16):=by kernel_rfl
theorem XJ:(Tryz.prog.info? 114).map (·.size)=some 2:=by kernel_rfl
theorem Qj:Tryz.prog.underlying 111=some (.slice 114):=by kernel_rfl
theorem Vf (xb xo xc:Nat) (z:Int) (n:Nat) (w:World) (hn:n≤1000000) (hx:∀j,j<2→w.cell? ⟨xb,xo+j,none⟩=some (.int .i64 z)) :
  Calls Tryz.prog 54 #[.slice (some ⟨xb,xo,none⟩) 1 xc,.int .i64 n] w fun e w'=>e = .returned (.slice (some ⟨w.heap.size,0,none⟩) n n)∧w'.rowIs w.heap.size 114 (n*2) (fun _=>.int .i64 z)∧Below w.heap.size w w':=by
 obtain ⟨i1,k1,k2,k3,k4⟩:=info_parts m6
 have hmk:∀w,(Instr.makeSlice 111 (.int .i64 (n:Int)) (.int .i64 (n:Int))).run Tryz.prog w = .ok (.slice (some ⟨w.heap.size,0,none⟩) n n) (w.alloc (.cells (madeCells #[.int .i64 0,.int .i64 0] (n*2)) 114)):=fun w=>by
  have hr:=run_make (P:=Tryz.prog) w 111 114 i1 _ Qj k1 k2 .i64 .i64 n n (by omega) (Int.le_refl _) (by rw [k4];omega) (by omega)
  simp only [xC,k3] at hr
  exact hr
 have hrow:(w.alloc (.cells (madeCells #[.int .i64 0,.int .i64 0] (n*2)) 114)).rowIs w.heap.size 114 (n*2) (fun _=>.int .i64 0):=
  ⟨_,qn w _,by rw [size_madeCells],fun i hi=>by
   have h2:i % 2=0∨i % 2=1:=by omega
   rcases h2 with h2|h2<;>simp [madeCells,hi,h2]⟩
 have hbm:=ZX 1 n (by omega) (by omega)
 have e0:1*n / 18446744073709551616=0:=by omega
 have e1:1*n % 18446744073709551616=n:=by omega
 have eu1:IntKind.u64.wrap 1=1:=by decide
 have eun:IntKind.u64.wrap (n:Int)=n:=by rw [IntKind.wrap_u64];omega
 have ein:IntKind.i64.wrap (n:Int)=n:=by rw [xI];omega
 simp only [e0,e1] at hbm
 have HX:=q7 hx
 have HR:=q7 hrow
 clear hx hrow e0 e1
 obtain ⟨q,hq,hqn,hq1,hq0⟩:∃q,q=Nat.min 1 n∧q≤n∧q≤1∧(q=0→n=0):=⟨Nat.min 1 n,rfl,Nat.min_le_right _ _,Nat.min_le_left _ _,fun h=>by
  have:Nat.min 1 n=1∨Nat.min 1 n=n:=by
   rcases Nat.le_total 1 n with a|a
   ·exact .inl (Nat.min_eq_left a)
   exact .inr (Nat.min_eq_right a)
  omega⟩
 obtain ⟨w2,hcp,hr2,hk2⟩:=jP (P:=Tryz.prog) (w.alloc (.cells (madeCells #[.int .i64 0,.int .i64 0] (n*2)) 114)) 111 111 3 114 w.heap.size 2 (n*2) 0 (q*2) n n 1 xc ⟨xb,xo,none⟩ 114 z Qj XJ
  (HR.out.congr fun i _=>by unfold vI;rw [zQ (by omega)]) (by rw [←hq]) (fun j hj=>by
   have h1:=HX.out j (by omega)
   rw [kv]
   exact (zN (xG w _ _ (qd h1))).trans h1) (by omega)
 rw [←hq] at hcp
 have hgi:goInt (q:Nat) = .int .i64 (q:Int):=rfl
 rw [hgi] at hcp
 have HR2:=q7 hr2
 have HB2:Hid (Below w.heap.size w w2):=q7 (yo ((zI _ _).alloc (zK _) _) (hk2.below (by simp) (fun i hi=>by omega)))
 have HQ:=q7 hq
 clear hr2 hk2 hq HR HX hgi
 go_enter Tryz.func54,Tryz.ntmps54
 go_wp2_with fail
 refine (hbm _).mono ?_
 rintro e w' ⟨rfl,hw⟩
 rw [hw]
 clear hw
 go_wp2_with fail
 clear hcp hmk hbm
 go_loopw [8] (fun i wr=>∃m:Nat,m≤n∧(m=0→n=0)∧i = .int .i64 m∧wr.rowIs w.heap.size 114 (n*2) (vI z (m*2))∧Below w.heap.size w wr) (fun i _=>n - (intOf i).toNat)
 case atStart=>exact ⟨q,hqn,hq0,rfl,by simpa using HR2.out,HB2.out⟩
 case round=>
  clear HR2 HB2 HQ hqn hq1 hq0
  obtain ⟨m,hm,hm0,rfl,hR,hb⟩:=hrel
  have HR:=q7 hR
  have HB:=q7 hb
  clear hR hb
  by_cases hlt:m<n
  rotate_left
  ·go_wp2
   go_ret
   obtain rfl:m=n:=by omega
   exact ⟨rfl,HR.out.congr fun i hi=>by unfold vI;rw [zZ hi],HB.out⟩
  have hlt2:(m:Int)<n:=by omega
  have hm1:1≤m:=by omega
  obtain ⟨c,hc⟩:∃c,c=Nat.min m (n - m):=⟨_,rfl⟩
  have hc1:c≤m:=by rw [hc];exact Nat.min_le_left _ _
  have hc2:c≤n - m:=by rw [hc];exact Nat.min_le_right _ _
  have hc3:1≤c:=by rw [hc];exact Nat.le_min.2 ⟨hm1,by omega⟩
  have hne:¬ n=m:=by omega
  have hwr:IntKind.i64.wrap ((m:Int)+c)=(m:Int)+c:=by rw [xI];omega
  have HC:=q7 hc
  clear hc
  go_wp2_with fail
  refine qr (S:=fun _=>True) (by kernel_rfl) 9 ?_
  refine tkZ 0 38 (.int .i64 m) rfl rfl trivial (fun w' h=>?_) ?_
  ·go_simp
  refine tkZ 1 39 (.slice (some ⟨w.heap.size,0,none⟩) n n) rfl rfl trivial (fun w' h=>?_) ?_
  ·go_simp
  refine tkZ 2 40 (.int .i64 m) rfl rfl trivial (fun w' h=>?_) ?_
  ·go_simp
  refine tkZ 3 41 (.slice (some ⟨w.heap.size,(m*2),none⟩) (n - m) (n - m)) rfl rfl trivial (fun w' h=>?_) ?_
  ·go_simp
  refine tkZ 4 42 (.slice (some ⟨w.heap.size,0,none⟩) n n) rfl rfl trivial (fun w' h=>?_) ?_
  ·go_simp
  refine tkZ 5 43 (.int .i64 m) rfl rfl trivial (fun w' h=>?_) ?_
  ·go_simp
  refine tkZ 6 44 (.slice (some ⟨w.heap.size,0,none⟩) m n) rfl rfl trivial (fun w' h=>?_) ?_
  ·go_simp
  obtain ⟨w2,hcp,hr2,hk2⟩:=jP (P:=Tryz.prog) wr.drew 111 111 3 114 w.heap.size 2 (n*2) (m*2) (c*2) (n - m) (n - m) m n ⟨w.heap.size,0,none⟩ 114 z Qj XJ HR.out (by rw [←HC.out]) (fun j hj=>by
   rw [kv,yx]
   rw [HR.out.drew.cell (i:=j) (by omega)]
   unfold vI
   rw [zZ (by omega)]) (by omega)
  rw [←HC.out] at hcp
  refine qk (i:=7) (by kernel_rfl) (qz 45 (.int .i64 c) w2 rfl rfl rfl (Ve rfl (by go_simp) (by go_simp) hcp) trivial ?_)
  refine qk (i:=8) (by kernel_rfl) (qz 46 (.int .i64 ((m+c:Nat):Int)) w2 rfl rfl rfl (by go_simp) trivial ?_)
  refine qk (i:=9) (by kernel_rfl) (qz 8 (.int .i64 ((m+c:Nat):Int)) w2 rfl rfl rfl (by go_simp) trivial (qx (by kernel_rfl) ?_ _))
  show Exit.inBlock 1 _ Exit.normal _ _
  have HR3:=q7 hr2
  have HB3:Hid (Below w.heap.size w w2):=q7 (HB.out.trans ((zI _ _).drew.trans (hk2.below (B:=w.heap.size) (by exact HB.out.size) (fun i hi=>by omega))))
  clear hr2 hk2 hcp
  refine ⟨⟨.int .i64 ((m+c:Nat):Int),.int .i64 m,.slice (some ⟨w.heap.size,0,none⟩) n n,.int .i64 n,.bool true,.int .i64 m,.slice (some ⟨w.heap.size,0,none⟩) n n,.int .i64 m,.slice (some ⟨w.heap.size,(m*2),none⟩) (n - m) (n - m),.slice (some ⟨w.heap.size,0,none⟩) n n,.int .i64 m,.slice (some ⟨w.heap.size,0,none⟩) m n,.int .i64 c,.int .i64 ((m+c:Nat):Int),⟨m+c,by omega,by omega,rfl,(by rw [Nat.add_mul];exact HR3.out),HB3.out⟩,?_⟩,?_⟩
  ·go_simp
  go_simp
  simp [intOf];omega
end Go.Proofs.YtbnnhmcloecijaaGreatDoor
