/-
  The contracts of slices.Clone: values, numbers.
-/
import Derived.Test.YtecdphhdmjmmnaaGreatDoorJCalC
set_option maxRecDepth 100000
set_option maxHeartbeats 16000000
namespace Go.Proofs.YtecdphhdmjmmnaaGreatDoor
open Go.RowKit

abbrev Blks:=Nat→Prop
def Apart (S T:Blks):Prop:=∀k,S k→T k→False
theorem Apart.symm {S T:Blks} (h:Apart S T):Apart T S:=fun k a b=>h k b a
theorem Apart.mono {S T S' T':Blks} (h:Apart S T) (h1:∀k,S' k→S k) (h2:∀k,T' k→T k):Apart S' T':=fun k a b=>h k (h1 k a) (h2 k b)

structure Kept (S:Blks) (w w':World):Prop where
 os:w'.os=w.os
 tape:w'.tape=w.tape
 output:w'.output=w.output
 size:w.heap.size≤w'.heap.size
 block:∀k,k<w.heap.size→¬ S k→w'.heap[k]?=w.heap[k]?
theorem Kept.refl (S:Blks) (w:World):Kept S w w:=⟨rfl,rfl,rfl,Nat.le_refl _,fun _ _ _=>rfl⟩
theorem Kept.trans {S S':Blks} {a b c:World} (h:Kept S a b) (k:Kept S' b c) (hs:∀i,i<a.heap.size→S' i→S i):Kept S a c:=
 ⟨k.os.trans h.os,k.tape.trans h.tape,k.output.trans h.output,Nat.le_trans h.size k.size,fun i hi hn=>(k.block i (Nat.lt_of_lt_of_le hi h.size) (fun e=>hn (hs i hi e))).trans (h.block i hi hn)⟩
theorem Kept.mono {S S':Blks} {a b:World} (h:Kept S a b) (hs:∀i,i<a.heap.size→S i→S' i):Kept S' a b:=
 ⟨h.os,h.tape,h.output,h.size,fun i hi hn=>h.block i hi (fun e=>hn (hs i hi e))⟩
theorem Kept.below {S:Blks} {a b:World} (h:Kept S a b) {B:Nat} (hB:B≤a.heap.size) (hs:∀i,S i→B≤i):Below B a b:=
 ⟨h.os,h.tape,h.output,h.size,fun k hk=>h.block k (by omega) (fun e=>by have:=hs k e;omega)⟩
theorem Kept.of_below {S:Blks} {a b:World} (h:Below a.heap.size a b):Kept S a b:=⟨h.os,h.tape,h.output,h.size,fun k hk _=>h.block k hk⟩
theorem Kept.of_grown {S:Blks} {a b:World} {r:Option Nat} (h:a.grownBy b r) (hr:∀g,r=some g→S g):Kept S a b:=
 ⟨h.os,h.tape,h.output,h.size,fun k hk hn=>h.block k hk (fun e=>hn (hr k e.symm))⟩
theorem Kept.setCell {S:Blks} {a b:World} (h:Kept S a b) {p:Addr} (hp:S p.block) (v:Value):Kept S a (b.setCell p v):=
 ⟨h.os,h.tape,h.output,by rw[Go.Deep.nblk_setCell];exact h.size,fun k hk hn=>(Go.Deep.blk_setCell_other b p v k (fun e=>hn (by rw[e];exact hp))).trans (h.block k hk hn)⟩
theorem Kept.alloc {S:Blks} {a b:World} (h:Kept S a b) (o:Obj):Kept S a (b.alloc o):=
 ⟨h.os,h.tape,h.output,by have:=h.size;simp;omega,fun k hk hn=>(Below.heap_alloc b o k (Nat.lt_of_lt_of_le hk h.size)).trans (h.block k hk hn)⟩
theorem Kept.drew {S:Blks} {a b:World} (h:Kept S a b):Kept S a b.drew:=⟨h.os,h.tape,h.output,h.size,h.block⟩
theorem Kept.cell {S:Blks} {a b:World} (h:Kept S a b) {p:Addr} (hp:p.block<a.heap.size) (hn:¬ S p.block):b.cell? p=a.cell? p:=World.cell?_of_block (h.block _ hp hn)
theorem Kept.frozen {S:Blks} {a b:World} (h:Kept S a b) {p:Addr} (hp:p.block<a.heap.size) (hn:¬ S p.block):b.frozen? p=a.frozen? p:=World.frozen?_of_block (h.block _ hp hn)

abbrev ElemO (α:Type):=World→List Value→α→Blks→Prop
def vd {α:Type} (R:ElemO α):Prop:=∀w w' cs x S,R w cs x S→(∀k,S k→w'.heap[k]?=w.heap[k]?)→w.heap.size≤w'.heap.size→R w' cs x S
def InB (w:World) (S:Blks):Prop:=∀k,S k→k<w.heap.size
theorem InB.mono {w w':World} {S:Blks} (h:InB w S) (hs:w.heap.size≤w'.heap.size):InB w' S:=fun k hk=>Nat.lt_of_lt_of_le (h k hk) hs

structure SlW {α:Type} (e:TypeId) (size:Nat) (R:ElemO α) (w:World) (v:Value) (xs:List α) (S:Blks) (cs:Nat→List Value) (T:Nat→Blks):Prop where
 own:w.ownsRow 0 e size v xs.length ((List.range xs.length).flatMap cs)
 len:∀i,i<xs.length→(cs i).length=size
 one:∀i,i<xs.length→∀u∈cs i,u.oneCell'=true
 el:∀i (h:i<xs.length),R w (cs i) xs[i] (T i)
 two:∀i j,i<xs.length→j<xs.length→i≠j→Apart (T i) (T j)
 off:∀i,i<xs.length→∀g,v.ownBlock=some g→¬ T i g
 blk:∀g,v.ownBlock=some g→S g
 sub:∀i,i<xs.length→∀k,T i k→S k
 inb:InB w S
def SlO {α:Type} (e:TypeId) (size:Nat) (R:ElemO α) (w:World) (v:Value) (xs:List α) (S:Blks):Prop:=∃cs T,SlW e size R w v xs S cs T

section
variable {α : Type} {e : TypeId} {size : Nat} {R : ElemO α} {w w' : World} {v : Value} {xs : List α} {S : Blks}
theorem SlO.nil (e:TypeId) (size:Nat) (R:ElemO α) (w:World) {S:Blks} (h:InB w S):SlO e size R w (.slice none 0 0) [] S:=
 ⟨fun _=>[],fun _ _=>False,World.ownsRow_nil _ _ _ _,fun i h=>(by simp at h),fun i h=>(by simp at h),fun i h=>(by simp at h),fun i j h=>(by simp at h),fun i h=>(by simp at h),fun g h=>(by cases h),fun i h=>(by simp at h),h⟩
theorem SlO.inb (h:SlO e size R w v xs S):InB w S:=by obtain⟨_,_,h⟩:=h;exact h.inb
theorem SlO.val (h:SlO e size R w v xs S):∃p c,v = .slice p xs.length c∧(p=none→xs.length=0∧c=0)∧xs.length≤c:=by
 obtain⟨_,_,h⟩:=h
 rcases h.own.2 with⟨h1,h2⟩|⟨g,cap,cur,h1,_,_,hc,_⟩
 ·exact⟨none,0,by rw[h1,h2],fun _=>⟨h2,rfl⟩,by omega⟩
 exact⟨_,_,h1,fun e=>(by cases e),hc⟩
theorem SlO.loc (hR:vd R) (h:SlO e size R w v xs S) (hk:∀k,S k→w'.heap[k]?=w.heap[k]?) (hs:w.heap.size≤w'.heap.size):SlO e size R w' v xs S:=by
 obtain⟨cs,T,h⟩:=h
 refine⟨cs,T,?_,h.len,h.one,fun i hi=>hR _ _ _ _ _ (h.el i hi) (fun k hk2=>hk k (h.sub i hi k hk2)) hs,h.two,h.off,h.blk,h.sub,h.inb.mono hs⟩
 refine⟨h.own.1,?_⟩
 rcases h.own.2 with h1|⟨g,cap,cur,hv,hb,hg,r⟩
 ·exact .inl h1
 exact .inr ⟨g,cap,cur,hv,hb,by rw[hk g (h.blk g (by rw[hv];rfl))];exact hg,r⟩
theorem SlO.kept {U:Blks} (hR:vd R) (h:SlO e size R w v xs S) (hk:Kept U w w') (ha:Apart U S):SlO e size R w' v xs S:=
 h.loc hR (fun k hs=>hk.block k (h.inb k hs) (fun hu=>ha k hu hs)) hk.size
theorem SlO.below (hR:vd R) (h:SlO e size R w v xs S) (hb:Below w.heap.size w w'):SlO e size R w' v xs S:=h.kept (U:=fun _=>False) hR (Kept.of_below hb) (fun _ h _=>h)
theorem SlO.grow (h:SlO e size R w v xs S) {S':Blks} (hs:∀k,S k→S' k) (hi:InB w S'):SlO e size R w v xs S':=by
 obtain⟨cs,T,h⟩:=h
 exact⟨cs,T,h.own,h.len,h.one,h.el,h.two,h.off,fun g hg=>hs g (h.blk g hg),fun i hi k hk=>hs k (h.sub i hi k hk),hi⟩
end

theorem qE {cs:Nat→List Value} {size:Nat}:∀n,(∀i,i<n→(cs i).length=size)→((List.range n).flatMap cs).length=n*size
 | 0,_=>by simp
 | n+1,h=>by
  rw[List.range_succ,List.flatMap_append,List.length_append,qE n (fun i hi=>h i (by omega)),Nat.add_mul]
  simp[h n (by omega)]
theorem zj {cs:Nat→List Value} {size:Nat}:∀n,(∀i,i<n→(cs i).length=size)→∀i j,i<n→j<size→((List.range n).flatMap cs)[i*size+j]?=(cs i)[j]?
 | 0,_,i,j,hi,hj=>by omega
 | n+1,h,i,j,hi,hj=>by
  have hl:=qE n (fun i hi=>h i (by omega))
  rw[List.range_succ,List.flatMap_append]
  rcases Nat.lt_or_ge i n with g|g
  ·have:i*size+j<n*size:=by
    have:(i+1)*size≤n*size:=Nat.mul_le_mul_right _ g
    rw[Nat.add_mul]at this
    omega
   rw[List.getElem?_append_left (by rw[hl];exact this),zj n (fun i hi=>h i (by omega)) i j g hj]
  obtain rfl:i=n:=by omega
  rw[List.getElem?_append_right (by rw[hl];omega),hl]
  simp
theorem Zp {n size:Nat} {cs ds:Nat→List Value} (_h1:∀i,i<n→(cs i).length=size) (h2:∀i,i<n→(ds i).length=size) (hsz:0<size) {l:List Value} (hl:l.length=n*size) (h:∀i j,i<n→j<size→l[i*size+j]?=(ds i)[j]?):l=(List.range n).flatMap ds:=by
 refine List.ext_getElem? fun k=>?_
 rcases Nat.lt_or_ge k (n*size)with g|g
 ·have hi:k / size<n:=Nat.div_lt_of_lt_mul (by rw[Nat.mul_comm];exact g)
  have hj:=Nat.mod_lt k hsz
  have e:k=k / size*size+k % size:=by rw[Nat.mul_comm];exact(Nat.div_add_mod k size).symm
  rw[e,zj n h2 _ _ hi hj]
  exact h _ _ hi hj
 rw[List.getElem?_eq_none (by omega),List.getElem?_eq_none (by rw[qE n h2];exact g)]

def RowPut (w w':World) (e:TypeId) (g o size:Nat) (cs:List Value):Prop:=
 ∃cur cur':Array Value,w.heap[g]?=some (.cells cur e (0,0))∧w'.heap[g]?=some (.cells cur' e (0,0))∧cur'.size=cur.size∧(∀j,j<size→cur'[o+j]?=cs[j]?)∧∀j,(j<o∨o+size≤j)→cur'[j]?=cur[j]?
theorem RowPut.same {w w':World} {e:TypeId} {g o size:Nat} {cs:List Value} {cur:Array Value} (h:w.heap[g]?=some (.cells cur e (0,0))) (h2:w'.heap[g]?=w.heap[g]?) (hc:∀j,j<size→w.cell? ⟨g,o+j,none⟩=cs[j]?):RowPut w w' e g o size cs:=
 ⟨cur,cur,h,h2.trans h,rfl,fun j hj=>by rw[←hc j hj,cell_of_row w g _ cur e (0,0) h],fun _ _=>rfl⟩
theorem Zq {w:World} {g:Nat} {cur:Array Value} {e:TypeId} (h:w.heap[g]?=some (.cells cur e (0,0))) (i:Nat) (v:Value):(w.setCell ⟨g,i,none⟩ v).heap[g]?=some (.cells (cur.setIfInBounds i v) e (0,0)):=by
 unfold World.setCell
 rw[Array.getElem?_modify,if_pos rfl,h]
 rfl
theorem RowPut.set {w w':World} {e:TypeId} {g o size j:Nat} {cs:List Value} (h:RowPut w w' e g o size cs) (hl:cs.length=size) (hj:j<size) (v:Value):RowPut w (w'.setCell ⟨g,o+j,none⟩ v) e g o size (cs.set j v):=by
 obtain⟨cur,cur',h1,h2,h3,h4,h5⟩:=h
 refine⟨cur,cur'.setIfInBounds (o+j) v,h1,Zq h2 _ v,by simpa using h3,fun k hk=>?_,fun k hk=>?_⟩
 ·rw[Array.getElem?_setIfInBounds,List.getElem?_set]
  have hlt:o+j<cur'.size:=by
   rcases Nat.lt_or_ge (o+j) cur'.size with a|a
   ·exact a
   have:=h4 j hj
   rw[Array.getElem?_eq_none a,List.getElem?_eq_getElem (by omega)]at this
   cases this
  by_cases e1:j=k
  ·subst e1
   rw[if_pos rfl,if_pos rfl,if_pos hlt,if_pos (by omega)]
  rw[if_neg (by omega),if_neg e1]
  exact h4 k hk
 rw[Array.getElem?_setIfInBounds,if_neg (by omega)]
 exact h5 k hk

section
variable {α : Type} {e : TypeId} {size : Nat} {R : ElemO α} {w : World} {v : Value} {xs : List α} {S : Blks}
theorem SlO.focus (hR:vd R) (hsz:0<size) (h:SlO e size R w v xs S) {i:Nat} (hi:i<xs.length):∃g c cs T,v = .slice (some ⟨g,0,none⟩) xs.length c∧g<w.heap.size∧S g∧cs.length=size∧R w cs xs[i] T∧¬ T g∧(∀k,T k→S k)∧
  (∀j,j<size→w.cell? ⟨g,i*size+j,none⟩=cs[j]?)∧(∀o,w.frozen? ⟨g,o,none⟩=false)∧(∃cur,w.heap[g]?=some (.cells cur e (0,0)))∧
  ∀(w':World) (cs':List Value) (x':α) (T':Blks),RowPut w w' e g (i*size) size cs'→cs'.length=size→(∀u∈cs',u.oneCell'=true)→w.heap.size≤w'.heap.size→(∀k,S k→¬ T k→k≠g→w'.heap[k]?=w.heap[k]?)→
   R w' cs' x' T'→(∀k,T' k→(T k∨w.heap.size≤k)∧k<w'.heap.size)→SlO e size R w' v (xs.set i x') (fun k=>S k∨T' k):=by
 obtain⟨cs,T,h⟩:=h
 rcases h.own.2 with⟨_,h2⟩|⟨g,cap,cur,hv,hb,hg,hc1,hc2,hc3,htk⟩
 ·omega
 have hgs:=(Array.getElem?_eq_some_iff.1 hg).1
 have hcell:∀m j,m<xs.length→j<size→cur[m*size+j]?=(cs m)[j]?:=fun m j hm hj=>by
  have hlt:m*size+j<xs.length*size:=by
   have:(m+1)*size≤xs.length*size:=Nat.mul_le_mul_right _ hm
   rw[Nat.add_mul]at this
   omega
  rw[←zj xs.length h.len m j hm hj,←htk,List.getElem?_take_of_lt hlt,Array.getElem?_toList]
 have hob:v.ownBlock=some g:=by rw[hv];rfl
 refine⟨g,cap,cs i,T i,hv,hgs,h.blk g hob,h.len i hi,h.el i hi,h.off i hi g hob,h.sub i hi,fun j hj=>?_,fun o=>(blk hg).2 o,⟨cur,hg⟩,?_⟩
 ·rw[cell_of_row w g _ cur e (0,0) hg]
  exact hcell i j hi hj
 rintro w' cs' x' T' ⟨cu,cur',p1,p2,p3,p4,p5⟩ hl' h1' hs hk hR' hT'
 rw[hg]at p1
 cases p1
 have hlen:(xs.set i x').length=xs.length:=by simp
 refine⟨fun m=>if m=i then cs' else cs m,fun m=>if m=i then T' else T m,?_,fun m hm=>?_,fun m hm=>?_,fun m hm=>?_,fun m n hm hn hmn=>?_,fun m hm g' hg'=>?_,fun g' hg'=>.inl (h.blk g' hg'),fun m hm k hk2=>?_,?_⟩
 ·rw[hlen]
  have hlc:∀m,m<xs.length→(if m=i then cs' else cs m).length=size:=fun m hm=>by
   split
   ·exact hl'
   exact h.len m hm
  refine⟨by rw[qE _ hlc],.inr ⟨g,cap,cur',hv,hb,p2,hc1,hc2,by rw[p3];exact hc3,?_⟩⟩
  have hle:xs.length*size≤cap*size:=Nat.mul_le_mul_right _ hc1
  refine Zp h.len hlc hsz (by simp;omega) fun m j hm hj=>?_
  have hlt:m*size+j<xs.length*size:=by
   have:(m+1)*size≤xs.length*size:=Nat.mul_le_mul_right _ hm
   rw[Nat.add_mul]at this
   omega
  rw[List.getElem?_take_of_lt hlt,Array.getElem?_toList]
  by_cases e1:m=i
  ·subst e1
   rw[if_pos rfl]
   exact p4 j hj
  rw[if_neg e1,p5 _ ?_]
  ·exact hcell m j hm hj
  rcases Nat.lt_or_ge m i with a|a
  ·left
   have:(m+1)*size≤i*size:=Nat.mul_le_mul_right _ a
   rw[Nat.add_mul]at this
   omega
  right
  have:(i+1)*size≤m*size:=Nat.mul_le_mul_right _ (by omega)
  rw[Nat.add_mul]at this
  omega
 ·rw[hlen]at hm
  split
  ·exact hl'
  exact h.len m hm
 ·rw[hlen]at hm
  split
  ·exact h1'
  exact h.one m hm
 ·have hm2:m<xs.length:=by rw[←hlen];exact hm
  by_cases e1:m=i
  ·subst e1
   simpa using hR'
  simp only[if_neg e1,List.getElem_set_ne (Ne.symm e1)]
  refine hR _ _ _ _ _ (h.el m hm2) (fun k hk2=>hk k (h.sub m hm2 k hk2) (fun hk3=>h.two m i hm2 hi e1 k hk2 hk3) (fun e2=>h.off m hm2 g hob (by rw[←e2];exact hk2))) hs
 ·rw[hlen]at hm hn
  have key:∀m,m<xs.length→m≠i→Apart T' (T m):=fun m hm hmi k a b=>by
   rcases (hT' k a).1 with c|c
   ·exact h.two m i hm hi hmi k b c
   have:=h.inb k (h.sub m hm k b)
   omega
  split
  ·next e1=>
   rw[if_neg (by omega)]
   exact key n hn (by omega)
  next e1=>
  split
  ·exact(key m hm e1).symm
  exact h.two m n hm hn hmn
 ·rw[hlen]at hm
  rw[hob]at hg'
  cases hg'
  split
  ·intro a
   rcases (hT' _ a).1 with c|c
   ·exact h.off i hi _ hob c
   omega
  exact h.off m hm _ hob
 ·rw[hlen]at hm
  split at hk2
  ·exact .inr hk2
  exact .inl (h.sub m hm k hk2)
 rintro k (a|a)
 ·exact(h.inb.mono hs) k a
 exact(hT' k a).2
theorem SlW.snoc {w':World} {v':Value} {c:List Value} {x:α} {T:Blks} {cs:Nat→List Value} {U:Nat→Blks} (hR:vd R) (h:SlW e size R w v xs S cs U) (hx:R w c x T) (hl:c.length=size) (h1:∀u∈c,u.oneCell'=true) (hT:Apart S T) (hTi:InB w T)
  (hown:w'.ownsRow 0 e size v' (xs.length+1) ((List.range xs.length).flatMap cs++c)) (hg:w.grownBy w' v.ownBlock) (hat:v'.ownBlock=v.ownBlock∨v'.ownBlock=some w.heap.size) :
  SlO e size R w' v' (xs++[x]) (fun k=>S k∨T k∨v'.ownBlock=some k):=by
 have hlen:(xs++[x]).length=xs.length+1:=by simp
 have hin:∀g,v'.ownBlock=some g→0≤g∧g<w'.heap.size:=hown.lt
 have hoff:∀k g,(S k∧v.ownBlock≠some k)∨T k→v'.ownBlock=some g→k≠g:=fun k g hk hg' ek=>by
  subst ek
  rcases hat with a|a
  ·rcases hk with⟨_,b⟩|b
   ·exact b (a.symm.trans hg')
   exact hT k (h.blk k (a.symm.trans hg')) b
  have hks:k<w.heap.size:=by
   rcases hk with⟨b,_⟩|b
   ·exact h.inb k b
   exact hTi k b
  rw[a]at hg'
  injection hg' with hg'
  omega
 have hkeep:∀k,k<w.heap.size→v.ownBlock≠some k→w'.heap[k]?=w.heap[k]?:=fun k hk hn=>hg.block k hk (fun e1=>hn e1.symm)
 refine⟨fun m=>if m=xs.length then c else cs m,fun m=>if m=xs.length then T else U m,?_,fun m hm=>?_,fun m hm=>?_,fun m hm=>?_,fun m n hm hn hmn=>?_,fun m hm g' hg'=>?_,fun g' hg'=>.inr (.inr hg'),fun m hm k hk2=>?_,?_⟩
 ·rw[hlen,List.range_succ,List.flatMap_append]
  have e1:(List.range xs.length).flatMap (fun m=>if m=xs.length then c else cs m)=(List.range xs.length).flatMap cs:=by
   unfold List.flatMap
   congr 1
   refine List.map_congr_left fun m hm=>?_
   have:=List.mem_range.1 hm
   rw[if_neg (by omega)]
  rw[e1]
  simpa using hown
 ·split
  ·exact hl
  exact h.len m (by omega)
 ·split
  ·exact h1
  exact h.one m (by omega)
 ·by_cases e1:m=xs.length
  ·subst e1
   simp only[if_true]
   have e2:(xs++[x])[xs.length]=x:=by simp
   rw[e2]
   exact hR _ _ _ _ _ hx (fun k hk=>hkeep k (hTi k hk) (fun e3=>hT k (h.blk k e3) hk)) hg.size
  have hm2:m<xs.length:=by omega
  simp only[if_neg e1,List.getElem_append_left hm2]
  exact hR _ _ _ _ _ (h.el m hm2) (fun k hk=>hkeep k (h.inb k (h.sub m hm2 k hk)) (fun e3=>h.off m hm2 k e3 hk)) hg.size
 ·split
  ·next e1=>
   rw[if_neg (by omega)]
   exact fun k a b=>hT k (h.sub n (by omega) k b) a
  next e1=>
  split
  ·exact fun k a b=>hT k (h.sub m (by omega) k a) b
  exact h.two m n (by omega) (by omega) hmn
 ·split
  ·exact fun a=>hoff g' g' (.inr a) hg' rfl
  next e1=>
  intro a
  refine hoff g' g' (.inl ⟨h.sub m (by omega) g' a,fun e3=>h.off m (by omega) g' e3 a⟩) hg' rfl
 ·split at hk2
  ·exact .inr (.inl hk2)
  exact .inl (h.sub m (by omega) k hk2)
 rintro k (a|a|a)
 ·exact(h.inb.mono hg.size) k a
 ·exact(hTi.mono hg.size) k a
 exact(hin k a).2
end
def Snoc {α:Type} (e:TypeId) (size:Nat) (R:ElemO α) (w:World) (xs:List α) (S T:Blks) (v':Value) (w':World):Prop:=
 ∃S':Blks,SlO e size R w' v' xs S'∧(∀k,S' k→S k∨T k∨w.heap.size≤k)∧Kept S w w'
section
variable {P : Program} {α : Type} {R : ElemO α}
theorem vG (w:World) (t ty e:TypeId) (i:TypeInfo) (z:Value) (size bytes:Nat) (ht:P.underlying t=some (.slice e)) (hi:P.info? e=some i) (hz:i.zero=some z)
  (hsize:i.size=size) (hby:i.bytes=bytes) (hzs:z.cells.size=size) (hsz:0<size) (hR:vd R) {v:Value} {xs:List α} {S T:Blks} (hO:SlO e size R w v xs S)
  (ad:Addr) (cc:Nat) (c:List Value) (x:α) (hl:c.length=size) (hnews:∀j u,c[j]?=some u→w.cell? (ad.add j)=some u) (h1:∀u∈c,u.oneCell'=true) (hx:R w c x T) (hT:Apart S T) (hTi:InB w T)
  (h63:xs.length+1≤maxLen) (hbytes:(xs.length+1)*bytes≤140737488355328) :
  ∃v' w',(Builtin.append_ #[t,t] ty #[v,.slice (some ad) 1 cc]).run P w = .ok v' w'∧Snoc e size R w (xs++[x]) S T v' w':=by
 obtain⟨cs,U,h⟩:=hO
 obtain⟨v',w',hr,h2,h3,_,h5⟩:=run_append_own_at (P:=P) w 0 t ty e i z size bytes ht hi hz hsize hby hzs hsz v _ _ h.own ad 1 cc c (by rw[hl,Nat.one_mul]) hnews h1 h63 hbytes (Nat.zero_le _)
 refine⟨v',w',hr,_,h.snoc hR hx hl h1 hT hTi h2 h3 h5,fun k hk=>?_,Kept.of_grown h3 h.blk⟩
 rcases hk with a|a|a
 ·exact .inl a
 ·exact .inr (.inl a)
 rcases h5 with b|b
 ·exact .inl (h.blk k (b.symm.trans a))
 rw[b]at a
 injection a with a
 exact .inr (.inr (by omega))
theorem qF (w:World) {ops:Array Oper} {rest:List Oper} {o:Oper} {a:Act} {Q:Exit→Act→World→Prop} (hgd:o.guard=none) (s x:Operand) (t:TypeId)
  (ho:o.op = .call { callee:=.builtin .append,args:=#[s,x],argTypes:=#[t,t] })
  (e:TypeId) (i:TypeInfo) (z:Value) (size bytes:Nat) (ht:P.underlying t=some (.slice e)) (hi:P.info? e=some i) (hz:i.zero=some z)
  (hsize:i.size=size) (hby:i.bytes=bytes) (hzs:z.cells.size=size) (hsz:0<size) (hR:vd R)
  {v:Value} {xs:List α} {S T:Blks} (hs:a.eval s=v) (hO:SlO e size R w v xs S)
  (ad:Addr) (cc:Nat) (c:List Value) (y:α) (hx:a.eval x = .slice (some ad) 1 cc) (hl:c.length=size) (hnews:∀j u,c[j]?=some u→w.cell? (ad.add j)=some u) (h1:∀u∈c,u.oneCell'=true) (hy:R w c y T) (hT:Apart S T) (hTi:InB w T)
  (h63:xs.length+1≤maxLen) (hbytes:(xs.length+1)*bytes≤140737488355328)
  (h:∀v' w',Snoc e size R w (xs++[y]) S T v' w'→wpList P ops Q rest (a.put o.dst v') w') :
  wpList P ops Q (o::rest) a w:=by
 refine wpList_plain hgd fun K hK=>?_
 obtain⟨v',w',hr,h2⟩:=vG (P:=P) w t o.type e i z size bytes ht hi hz hsize hby hzs hsz hR hO ad cc c y hl hnews h1 hy hT hTi h63 hbytes
 unfold Oper.wp execOp
 simp only[ho,resolve,invoke,builtin,Sem.run_bind,Sem.run_pure,Result.andThen_ok,List.map_toArray,List.map_cons,List.map_nil,hs,hx,hr]
 exact hK _ _ (h v' w' h2)
end
theorem x8 (w:World) (c:List Value) (t:TypeId) {b:Nat} (hb:b=w.heap.size):∀j u,c[j]?=some u→(w.alloc (.cells c.toArray t)).cell? ((⟨b,0,none⟩:Addr).add j)=some u:=by
 intro j u hj
 subst hb
 rw[JI,cell_of_row _ _ j c.toArray t (0,0) (heap_alloc_new w _)]
 simpa using hj

def JJ:ElemO (Bool×Int):=fun _ cs v _=>kR cs v
def Qe:ElemO Int:=fun _ cs n _=>ju cs n
structure SlQ {α:Type} (e:TypeId) (size bytes:Nat) (R:ElemO α) (w:World) (v:Value) (xs:List α) (S:Blks):Prop where
 sl:SlO e size R w v xs S
 bd:xs.length*bytes≤reachBytes
def InsO:ElemO InsL:=fun w cs i S=>∃v,cs=[.int .i64 i.op,.int .i64 i.dst,.bool i.ar,.int .i64 i.an,.bool i.br,.int .i64 i.bn,.int .i64 i.fn,v]∧
 I64 i.op∧I64 i.dst∧I64 i.an∧I64 i.bn∧I64 i.fn∧SlQ 43 2 16 JJ w v i.args S
def PhiO:ElemO PhiL:=fun w cs x S=>∃v,cs=[.int .i64 x.dst,v]∧I64 x.dst∧SlQ 43 2 16 JJ w v x.src S
def BlkO:ElemO BlkL:=fun w cs x S=>∃v1 v2 v3 S1 S2 S3,cs=[v1,v2,.int .i64 x.fin.kind,.bool x.fin.onr,.int .i64 x.fin.onn,v3]∧I64 x.fin.kind∧I64 x.fin.onn∧
 SlQ 101 2 32 PhiO w v1 x.phis S1∧SlQ 53 8 80 InsO w v2 x.list S2∧SlQ 3 1 8 Qe w v3 x.fin.to S3∧Apart S1 S2∧Apart S1 S3∧Apart S2 S3∧(∀k,S1 k→S k)∧(∀k,S2 k→S k)∧∀k,S3 k→S k
def FunO:ElemO FunL:=fun w cs x S=>∃v,cs=[.string x.name,.int .i64 x.params,.int .i64 x.regs,v]∧x.name.size≤reachBytes∧I64 x.params∧I64 x.regs∧SlQ 48 6 96 BlkO w v x.blocks S
def GloO:ElemO GloL:=fun w cs x S=>∃v,cs=[.string x.name,.int .i64 x.size,v]∧x.name.size≤reachBytes∧I64 x.size∧SlQ 3 1 8 Qe w v x.init S

theorem xk:vd JJ:=fun _ _ _ _ _ h _ _=>h
theorem qX:vd Qe:=fun _ _ _ _ _ h _ _=>h
theorem SlQ.loc {α:Type} {e:TypeId} {size bytes:Nat} {R:ElemO α} {w w':World} {v:Value} {xs:List α} {S T:Blks} (hR:vd R) (h:SlQ e size bytes R w v xs S) (hs:∀k,S k→T k) (hk:∀k,T k→w'.heap[k]?=w.heap[k]?) (hz:w.heap.size≤w'.heap.size):SlQ e size bytes R w' v xs S:=
 ⟨h.sl.loc hR (fun k g=>hk k (hs k g)) hz,h.bd⟩
theorem qU:vd InsO:=fun w w' cs x S h hk hs=>by
 obtain⟨v,h0,h1,h2,h3,h4,h5,h6⟩:=h
 exact⟨v,h0,h1,h2,h3,h4,h5,h6.loc xk (fun _ g=>g) hk hs⟩
theorem zQ:vd PhiO:=fun w w' cs x S h hk hs=>by
 obtain⟨v,h0,h1,h6⟩:=h
 exact⟨v,h0,h1,h6.loc xk (fun _ g=>g) hk hs⟩
theorem qK:vd BlkO:=fun w w' cs x S h hk hs=>by
 obtain⟨v1,v2,v3,S1,S2,S3,h0,h1,h2,h3,h4,h5,a1,a2,a3,g1,g2,g3⟩:=h
 exact⟨v1,v2,v3,S1,S2,S3,h0,h1,h2,h3.loc zQ g1 hk hs,h4.loc qU g2 hk hs,h5.loc qX g3 hk hs,a1,a2,a3,g1,g2,g3⟩
theorem xl:vd FunO:=fun w w' cs x S h hk hs=>by
 obtain⟨v,h0,h1,h2,h3,h6⟩:=h
 exact⟨v,h0,h1,h2,h3,h6.loc qK (fun _ g=>g) hk hs⟩
theorem xF:vd GloO:=fun w w' cs x S h hk hs=>by
 obtain⟨v,h0,h1,h2,h6⟩:=h
 exact⟨v,h0,h1,h2,h6.loc qX (fun _ g=>g) hk hs⟩

theorem SlF.outC {α:Type} {w:World} {size bytes:Nat} {R:List Value→α→Prop} {v:Value} {xs:List α} (h:SlF w size bytes R v xs):∃p c,v = .slice p xs.length c∧(p=none→xs.length=0∧c=0)∧xs.length≤c∧SliceAt w size R p xs:=by
 obtain⟨p,c,h1,h2,h3,_,h5⟩:=h
 exact⟨p,c,h1,h2,h3,h5⟩
theorem SlF.bdC {α:Type} {w:World} {size bytes:Nat} {R:List Value→α→Prop} {v:Value} {xs:List α} (h:SlF w size bytes R v xs):xs.length*bytes≤reachBytes:=by
 obtain⟨p,c,_,_,_,h4,_⟩:=h
 exact h4
/-! what is owned reads as data -/
theorem SlO.read {α:Type} {e:TypeId} {size:Nat} {R:ElemO α} {R':List Value→α→Prop} {w:World} {v:Value} {xs:List α} {S:Blks} (hR:vd R) (hsz:0<size) (h:SlO e size R w v xs S) (hr:∀cs x T,R w cs x T→R' cs x) :
  ∃p c,v = .slice p xs.length c∧(p=none→xs.length=0∧c=0)∧xs.length≤c∧SliceAt w size R' p xs:=by
 obtain⟨p,c,hv,h1,h2⟩:=h.val
 refine⟨p,c,hv,h1,h2,?_⟩
 rcases Nat.eq_zero_or_pos xs.length with h0|h0
 ·exact .inl (List.length_eq_zero_iff.1 h0)
 obtain⟨g,c',cs,T,hv',_⟩:=h.focus hR hsz h0
 rw[hv]at hv'
 injection hv' with hp _ _
 subst hp
 refine .inr ⟨g,0,rfl,fun i hi=>?_⟩
 obtain⟨g2,c2,cs2,T2,hv2,_,_,hl,hx,_,_,hc,_⟩:=h.focus hR hsz hi
 rw[hv]at hv2
 injection hv2 with hp2 _ _
 cases hp2
 refine⟨cs2,hl,fun j hj=>?_,hr _ _ _ hx⟩
 rw[Nat.zero_add]
 exact hc j hj
theorem SlQ.read {α:Type} {e:TypeId} {size bytes:Nat} {R:ElemO α} {R':List Value→α→Prop} {w:World} {v:Value} {xs:List α} {S:Blks} (hR:vd R) (hsz:0<size) (h:SlQ e size bytes R w v xs S) (hr:∀cs x T,R w cs x T→R' cs x):SlF w size bytes R' v xs:=by
 obtain⟨p,c,hv,h1,h2,h3⟩:=h.sl.read hR hsz hr
 exact⟨p,c,hv,h1,h2,h.bd,h3⟩
theorem InsO.read {w:World} {cs:List Value} {x:InsL} {S:Blks} (h:InsO w cs x S):InsR w cs x:=by
 obtain⟨v,h0,h1,h2,h3,h4,h5,h6⟩:=h
 exact⟨v,h0,h1,h2,h3,h4,h5,h6.read xk (by omega) fun _ _ _ h=>h⟩
theorem PhiO.read {w:World} {cs:List Value} {x:PhiL} {S:Blks} (h:PhiO w cs x S):PhiR w cs x:=by
 obtain⟨v,h0,h1,h6⟩:=h
 exact⟨v,h0,h1,h6.read xk (by omega) fun _ _ _ h=>h⟩
theorem BlkO.read {w:World} {cs:List Value} {x:BlkL} {S:Blks} (h:BlkO w cs x S):BlkR w cs x:=by
 obtain⟨v1,v2,v3,S1,S2,S3,h0,h1,h2,h3,h4,h5,_⟩:=h
 exact⟨v1,v2,v3,h0,h1,h2,h3.read zQ (by omega) fun _ _ _ h=>h.read,h4.read qU (by omega) fun _ _ _ h=>h.read,h5.read qX (by omega) fun _ _ _ h=>h⟩
theorem FunO.read {w:World} {cs:List Value} {x:FunL} {S:Blks} (h:FunO w cs x S):FunR w cs x:=by
 obtain⟨v,h0,h1,h2,h3,h6⟩:=h
 exact⟨v,h0,h1,h2,h3,h6.read qK (by omega) fun _ _ _ h=>h.read⟩
theorem GloO.read {w:World} {cs:List Value} {x:GloL} {S:Blks} (h:GloO w cs x S):GloR w cs x:=by
 obtain⟨v,h0,h1,h2,h6⟩:=h
 exact⟨v,h0,h1,h2,h6.read qX (by omega) fun _ _ _ h=>h⟩

theorem SlO.flat {α:Type} {e:TypeId} {size base:Nat} {R:ElemO α} {w:World} {v:Value} {xs:List α} {cs:Nat→List Value} (h:w.ownsRow base e size v xs.length ((List.range xs.length).flatMap cs)) (hl:∀i,i<xs.length→(cs i).length=size) (h1:∀i,i<xs.length→∀u∈cs i,u.oneCell'=true)
  (hx:∀i (hi:i<xs.length),R w (cs i) xs[i] (fun _=>False)):SlO e size R w v xs (fun k=>v.ownBlock=some k):=by
 refine⟨cs,fun _ _=>False,⟨jM h (Nat.zero_le _),hl,h1,hx,fun _ _ _ _ _ _ a _=>a,fun _ _ _ _ a=>a,fun _ hg=>hg,fun _ _ _ a=>a.elim,fun k hk=>(h.lt k hk).2⟩⟩

def LoB (B:Nat) (S:Blks):Prop:=∀k,S k→B≤k
def Qf (xs:List (Bool×Int)) (i:Nat):List Value:=[.bool (xs.getD i (false,0)).1,.int .i64 (xs.getD i (false,0)).2]
def X9 (xs:List Int) (i:Nat):List Value:=[.int .i64 (xs.getD i 0)]
theorem kZ:(Tryz.prog.info? 43).map (fun i=>(i.zero,i.size,i.bytes))=some (some (.agg #[.bool false,.int .i64 0]),2,16):=by kernel_rfl
theorem infoIntC:(Tryz.prog.info? 3).map (fun i=>(i.zero,i.size,i.bytes))=some (some (.int .i64 0),1,8):=by kernel_rfl
theorem ja {w:World} {e:TypeId} {B g size:Nat} (h:w.heap[g]?=some (.cells #[] e (0,0))) (hB:B≤g):w.ownsRow B e size (.slice (some ⟨g,0,none⟩) 0 0) 0 []:=
 ⟨by simp,.inr ⟨g,0,#[],rfl,hB,h,by simp,by simp,by simp,by simp⟩⟩
theorem J7 (xs:List (Bool×Int)) (i:Nat):∀u∈Qf xs i,u.oneCell'=true:=by
 intro u hu
 simp only[Qf,List.mem_cons,List.not_mem_nil,or_false]at hu
 rcases hu with rfl|rfl<;>rfl
theorem int_one (xs:List Int) (i:Nat):∀u∈X9 xs i,u.oneCell'=true:=by
 intro u hu
 simp only[X9,List.mem_cons,List.not_mem_nil,or_false]at hu
 rw[hu]
 rfl
theorem xr {cs:Nat→List Value} {n:Nat} {P:Value→Prop} (h:∀i,i<n→∀u∈cs i,P u):∀u∈(List.range n).flatMap cs,P u:=by
 intro u hu
 obtain⟨i,hi,h2⟩:=List.mem_flatMap.1 hu
 exact h i (List.mem_range.1 hi) u h2
theorem zk (b o j:Nat):(⟨b,o,none⟩:Addr).add j=⟨b,o+j,none⟩:=by
 by_cases hz:j=0<;>simp[Addr.add,hz]
theorem QV {α:Type} {w:World} {size:Nat} {R:List Value→α→Prop} {a:Addr} {xs:List α} {cs:Nat→List Value} (h:SliceAt w size R (some a) xs) (hsz:0<size) (hl:∀i,i<xs.length→(cs i).length=size) (hc:∀i (hi:i<xs.length) c,R c xs[i]→c=cs i) :
  ∀j u,((List.range xs.length).flatMap cs)[j]?=some u→w.cell? (a.add j)=some u:=by
 intro j u hu
 rcases h with rfl|⟨b,o,ha,h⟩
 ·simp at hu
 cases ha
 have hj:j<xs.length*size:=by
  rw[←qE _ hl]
  exact(List.getElem?_eq_some_iff.1 hu).1
 have hi:j / size<xs.length:=Nat.div_lt_of_lt_mul (by rw[Nat.mul_comm];exact hj)
 have hm:=Nat.mod_lt j hsz
 have e:j=j / size*size+j % size:=by rw[Nat.mul_comm];exact(Nat.div_add_mod j size).symm
 obtain⟨c,_,hcell,hr⟩:=h _ hi
 have h1:=hcell _ hm
 rw[hc _ hi c hr]at h1
 rw[e,zj _ hl _ _ hi hm]at hu
 have ea:(⟨b,o,none⟩:Addr).add j=⟨b,o+j / size*size+j % size,none⟩:=by
  have e3:o+j / size*size+j % size=o+j:=by omega
  rw[e3]
  exact zk b o j
 rw[ea,h1,hu]

theorem vh (xs:List (Bool×Int)) (p:Option Addr) (c:Nat) (w:World) (h:SliceAt w 2 kR p xs) (hp:p=none→xs.length=0∧c=0) (hl:xs.length*16≤reachBytes) :
  Calls Tryz.prog 96 #[.slice p xs.length c] w fun e w'=>∃p' c',e = .returned (.slice p' xs.length c')∧(∃S,SlQ 43 2 16 JJ w' (.slice p' xs.length c') xs S∧LoB w.heap.size S)∧Below w.heap.size w w':=by
 have hlr:xs.length*16≤140737488351232:=hl
 rcases p with _|a
 ·obtain⟨h0,rfl⟩:=hp rfl
  obtain rfl:=List.length_eq_zero_iff.1 h0
  have he:∀w:World,(binOp .eql 51 (.slice none 0 0) (.slice none 0 0)).run Tryz.prog w = .ok (.bool true) w:=fun _=>rfl
  go_enter Tryz.func96,Tryz.ntmps96
  go_wp2_with fail
  go_ret
  exact⟨none,0,rfl,⟨fun _=>False,⟨SlO.nil _ _ _ _ (fun _ h=>h.elim),by simp⟩,fun _ h=>h.elim⟩,Below.refl _ _⟩
 obtain⟨i1,k1,k2,k3,k4⟩:=info_parts kZ
 have HT:=q7 h
 have HV:Hid (∀i (hi:i<xs.length) cs,kR cs xs[i]→cs=Qf xs i):=q7 fun i hi cs hr=>by
  obtain⟨e,_⟩:=hr
  rw[e]
  unfold Qf
  simp[List.getD,hi]
 have HL:Hid (∀i,i<xs.length→(Qf xs i).length=2):=q7 fun _ _=>rfl
 have HX:Hid (∀i (hi:i<xs.length),I64 xs[i].2):=q7 fun i hi=>by
  rcases h with rfl|⟨b,o,_,h⟩
  ·simp at hi
  obtain⟨_,_,_,hr⟩:=h i hi
  exact hr.2
 have he:∀w:World,(binOp .eql 51 (.slice (some a) xs.length c) (.slice none 0 0)).run Tryz.prog w = .ok (.bool false) w:=fun _=>rfl
 clear h
 go_enter Tryz.func96,Tryz.ntmps96
 go_wp2_with (at_builtin;refine wpList_append_own _ rfl (.tmp 5) (.tmp 6) 51 rfl w.heap.size 43 i1 _ 2 16 Tryz.underlying51 k1 k2 k3 k4 rfl (by decide) _ 0 [] rfl ?c0 a xs.length c ((List.range xs.length).flatMap (Qf xs)) rfl ?c1 ?c2 ?c3 ?c4 ?c5 ?c6 ?_)
 case c0=>exact ja (qm _ _) (Nat.le_refl _)
 case c1=>exact qE _ HL.out
 case c2=>exact QV (HT.out.mono ((Below.refl _ w).alloc (Nat.le_refl _) _) (by omega) fun _ _ g=>g) (by omega) HL.out HV.out
 case c3=>exact xr fun i _=>J7 xs i
 case c4=>unfold maxLen;omega
 case c5=>omega
 case c6=>simp
 intro v' w' hown hg _
 have hval:∃p' c',v' = .slice p' xs.length c':=by
  rcases hown.2 with⟨h1,h2⟩|⟨g,cap,cur,h1,_⟩
  ·exact⟨none,0,by rw[h1,show xs.length=0 by omega]⟩
  exact⟨some ⟨g,0,none⟩,cap,by rw[h1]⟩
 obtain⟨p',c',rfl⟩:=hval
 go_wp2
 refine bodyPost_ret (v:=.slice p' xs.length c') ?_ rfl ⟨p',c',rfl,⟨_,⟨SlO.flat (base:=w.heap.size) (cs:=Qf xs) (by simpa using hown) HL.out (fun i _=>J7 xs i) (fun i hi=>?_),hl⟩,fun k hk=>(hown.lt k hk).1⟩,?_⟩
 ·simp[results,Tryz.results96,go_sem]
 ·have hx:=HX.out i hi
  unfold JJ kR Qf
  simp[List.getD,hi,hx]
 exact Below.grown bZ hg (by simp) (fun b e=>by cases e;exact Nat.le_refl _)

theorem vj (xs:List (Int)) (p:Option Addr) (c:Nat) (w:World) (h:SliceAt w 1 ju p xs) (hp:p=none→xs.length=0∧c=0) (hl:xs.length*8≤reachBytes) :
  Calls Tryz.prog 43 #[.slice p xs.length c] w fun e w'=>∃p' c',e = .returned (.slice p' xs.length c')∧(∃S,SlQ 3 1 8 Qe w' (.slice p' xs.length c') xs S∧LoB w.heap.size S)∧Below w.heap.size w w':=by
 have hlr:xs.length*8≤140737488351232:=hl
 rcases p with _|a
 ·obtain⟨h0,rfl⟩:=hp rfl
  obtain rfl:=List.length_eq_zero_iff.1 h0
  have he:∀w:World,(binOp .eql 44 (.slice none 0 0) (.slice none 0 0)).run Tryz.prog w = .ok (.bool true) w:=fun _=>rfl
  go_enter Tryz.func43,Tryz.ntmps43
  go_wp2_with fail
  go_ret
  exact⟨none,0,rfl,⟨fun _=>False,⟨SlO.nil _ _ _ _ (fun _ h=>h.elim),by simp⟩,fun _ h=>h.elim⟩,Below.refl _ _⟩
 obtain⟨i1,k1,k2,k3,k4⟩:=info_parts infoIntC
 have HT:=q7 h
 have HV:Hid (∀i (hi:i<xs.length) cs,ju cs xs[i]→cs=X9 xs i):=q7 fun i hi cs hr=>by
  obtain⟨e,_⟩:=hr
  rw[e]
  unfold X9
  simp[List.getD,hi]
 have HL:Hid (∀i,i<xs.length→(X9 xs i).length=1):=q7 fun _ _=>rfl
 have HX:Hid (∀i (hi:i<xs.length),I64 xs[i]):=q7 fun i hi=>by
  rcases h with rfl|⟨b,o,_,h⟩
  ·simp at hi
  obtain⟨_,_,_,hr⟩:=h i hi
  exact hr.2
 have he:∀w:World,(binOp .eql 44 (.slice (some a) xs.length c) (.slice none 0 0)).run Tryz.prog w = .ok (.bool false) w:=fun _=>rfl
 clear h
 go_enter Tryz.func43,Tryz.ntmps43
 go_wp2_with (at_builtin;refine wpList_append_own _ rfl (.tmp 5) (.tmp 6) 44 rfl w.heap.size 3 i1 _ 1 8 Tryz.underlying44 k1 k2 k3 k4 rfl (by decide) _ 0 [] rfl ?c0 a xs.length c ((List.range xs.length).flatMap (X9 xs)) rfl ?c1 ?c2 ?c3 ?c4 ?c5 ?c6 ?_)
 case c0=>exact ja (qm _ _) (Nat.le_refl _)
 case c1=>exact qE _ HL.out
 case c2=>exact QV (HT.out.mono ((Below.refl _ w).alloc (Nat.le_refl _) _) (by omega) fun _ _ g=>g) (by omega) HL.out HV.out
 case c3=>exact xr fun i _=>int_one xs i
 case c4=>unfold maxLen;omega
 case c5=>omega
 case c6=>simp
 intro v' w' hown hg _
 have hval:∃p' c',v' = .slice p' xs.length c':=by
  rcases hown.2 with⟨h1,h2⟩|⟨g,cap,cur,h1,_⟩
  ·exact⟨none,0,by rw[h1,show xs.length=0 by omega]⟩
  exact⟨some ⟨g,0,none⟩,cap,by rw[h1]⟩
 obtain⟨p',c',rfl⟩:=hval
 go_wp2
 refine bodyPost_ret (v:=.slice p' xs.length c') ?_ rfl ⟨p',c',rfl,⟨_,⟨SlO.flat (base:=w.heap.size) (cs:=X9 xs) (by simpa using hown) HL.out (fun i _=>int_one xs i) (fun i hi=>?_),hl⟩,fun k hk=>(hown.lt k hk).1⟩,?_⟩
 ·simp[results,Tryz.results43,go_sem]
 ·have hx:=HX.out i hi
  unfold Qe ju X9
  simp[List.getD,hi,hx]
 exact Below.grown bZ hg (by simp) (fun b e=>by cases e;exact Nat.le_refl _)
end Go.Proofs.YtecdphhdmjmmnaaGreatDoor
