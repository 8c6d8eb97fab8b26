/-
  The contract of calls.Each: an iterator over the instructions of a function.
-/
import Derived.Test.YtecdphhdmjmmnaaGreatDoorJCalC
import Derived.RangeFuncNested
import Derived.RangeFuncBound
import Derived.RangeFuncCalls
import Derived.RangeFuncLeaves
import Derived.RangeFuncBox
import Derived.Shelf.Abstract
import Derived.Shelf.RegionOpen
import Derived.OwnWalkIn
import Derived.TacticsInMore
import Derived.LoopNIn
import Derived.LoopIn
set_option maxRecDepth 100000
set_option maxHeartbeats 16000000
namespace Go.Proofs.YtecdphhdmjmmnaaGreatDoor
open Go.RowKit

abbrev Blks:=Nat→Prop
def Apart (S T:Blks):Prop:=∀k,S k→T k→False
theorem Apart.symm {S T:Blks} (h:Apart S T):Apart T S:=fun k a b=>h k b a
theorem Apart.mono {S T S' T':Blks} (h:Apart S T) (h1:∀k,S' k→S k) (h2:∀k,T' k→T k):Apart S' T':=fun k a b=>h k (h1 k a) (h2 k b)

structure Kept (S:Blks) (w w':World):Prop where
 os:w'.os=w.os
 tape:w'.tape=w.tape
 output:w'.output=w.output
 size:w.heap.size≤w'.heap.size
 block:∀k,k<w.heap.size→¬ S k→w'.heap[k]?=w.heap[k]?
theorem Kept.refl (S:Blks) (w:World):Kept S w w:=⟨rfl,rfl,rfl,Nat.le_refl _,fun _ _ _=>rfl⟩
theorem Kept.trans {S S':Blks} {a b c:World} (h:Kept S a b) (k:Kept S' b c) (hs:∀i,i<a.heap.size→S' i→S i):Kept S a c:=
 ⟨k.os.trans h.os,k.tape.trans h.tape,k.output.trans h.output,Nat.le_trans h.size k.size,fun i hi hn=>(k.block i (Nat.lt_of_lt_of_le hi h.size) (fun e=>hn (hs i hi e))).trans (h.block i hi hn)⟩
theorem Kept.mono {S S':Blks} {a b:World} (h:Kept S a b) (hs:∀i,i<a.heap.size→S i→S' i):Kept S' a b:=
 ⟨h.os,h.tape,h.output,h.size,fun i hi hn=>h.block i hi (fun e=>hn (hs i hi e))⟩
theorem Kept.below {S:Blks} {a b:World} (h:Kept S a b) {B:Nat} (hB:B≤a.heap.size) (hs:∀i,S i→B≤i):Below B a b:=
 ⟨h.os,h.tape,h.output,h.size,fun k hk=>h.block k (by omega) (fun e=>by have:=hs k e;omega)⟩
theorem Kept.of_below {S:Blks} {a b:World} (h:Below a.heap.size a b):Kept S a b:=⟨h.os,h.tape,h.output,h.size,fun k hk _=>h.block k hk⟩
theorem Kept.of_grown {S:Blks} {a b:World} {r:Option Nat} (h:a.grownBy b r) (hr:∀g,r=some g→S g):Kept S a b:=
 ⟨h.os,h.tape,h.output,h.size,fun k hk hn=>h.block k hk (fun e=>hn (hr k e.symm))⟩
theorem Kept.setCell {S:Blks} {a b:World} (h:Kept S a b) {p:Addr} (hp:S p.block) (v:Value):Kept S a (b.setCell p v):=
 ⟨h.os,h.tape,h.output,by rw[Go.Deep.nblk_setCell];exact h.size,fun k hk hn=>(Go.Deep.blk_setCell_other b p v k (fun e=>hn (by rw[e];exact hp))).trans (h.block k hk hn)⟩
theorem Kept.alloc {S:Blks} {a b:World} (h:Kept S a b) (o:Obj):Kept S a (b.alloc o):=
 ⟨h.os,h.tape,h.output,by have:=h.size;simp;omega,fun k hk hn=>(Below.heap_alloc b o k (Nat.lt_of_lt_of_le hk h.size)).trans (h.block k hk hn)⟩
theorem Kept.drew {S:Blks} {a b:World} (h:Kept S a b):Kept S a b.drew:=⟨h.os,h.tape,h.output,h.size,h.block⟩
theorem Kept.cell {S:Blks} {a b:World} (h:Kept S a b) {p:Addr} (hp:p.block<a.heap.size) (hn:¬ S p.block):b.cell? p=a.cell? p:=World.cell?_of_block (h.block _ hp hn)
theorem Kept.frozen {S:Blks} {a b:World} (h:Kept S a b) {p:Addr} (hp:p.block<a.heap.size) (hn:¬ S p.block):b.frozen? p=a.frozen? p:=World.frozen?_of_block (h.block _ hp hn)

abbrev ElemO (α:Type):=World→List Value→α→Blks→Prop
def jN {α:Type} (R:ElemO α):Prop:=∀w w' cs x S,R w cs x S→(∀k,S k→w'.heap[k]?=w.heap[k]?)→w.heap.size≤w'.heap.size→R w' cs x S
def InB (w:World) (S:Blks):Prop:=∀k,S k→k<w.heap.size
theorem InB.mono {w w':World} {S:Blks} (h:InB w S) (hs:w.heap.size≤w'.heap.size):InB w' S:=fun k hk=>Nat.lt_of_lt_of_le (h k hk) hs

structure SlW {α:Type} (e:TypeId) (size:Nat) (R:ElemO α) (w:World) (v:Value) (xs:List α) (S:Blks) (cs:Nat→List Value) (T:Nat→Blks):Prop where
 own:w.ownsRow 0 e size v xs.length ((List.range xs.length).flatMap cs)
 len:∀i,i<xs.length→(cs i).length=size
 one:∀i,i<xs.length→∀u∈cs i,u.oneCell'=true
 el:∀i (h:i<xs.length),R w (cs i) xs[i] (T i)
 two:∀i j,i<xs.length→j<xs.length→i≠j→Apart (T i) (T j)
 off:∀i,i<xs.length→∀g,v.ownBlock=some g→¬ T i g
 blk:∀g,v.ownBlock=some g→S g
 sub:∀i,i<xs.length→∀k,T i k→S k
 inb:InB w S
def SlO {α:Type} (e:TypeId) (size:Nat) (R:ElemO α) (w:World) (v:Value) (xs:List α) (S:Blks):Prop:=∃cs T,SlW e size R w v xs S cs T

section
variable {α : Type} {e : TypeId} {size : Nat} {R : ElemO α} {w w' : World} {v : Value} {xs : List α} {S : Blks}
theorem SlO.nil (e:TypeId) (size:Nat) (R:ElemO α) (w:World) {S:Blks} (h:InB w S):SlO e size R w (.slice none 0 0) [] S:=
 ⟨fun _=>[],fun _ _=>False,World.ownsRow_nil _ _ _ _,fun i h=>(by simp at h),fun i h=>(by simp at h),fun i h=>(by simp at h),fun i j h=>(by simp at h),fun i h=>(by simp at h),fun g h=>(by cases h),fun i h=>(by simp at h),h⟩
theorem SlO.inb (h:SlO e size R w v xs S):InB w S:=by obtain⟨_,_,h⟩:=h;exact h.inb
theorem SlO.val (h:SlO e size R w v xs S):∃p c,v = .slice p xs.length c∧(p=none→xs.length=0∧c=0)∧xs.length≤c:=by
 obtain⟨_,_,h⟩:=h
 rcases h.own.2 with⟨h1,h2⟩|⟨g,cap,cur,h1,_,_,hc,_⟩
 ·exact⟨none,0,by rw[h1,h2],fun _=>⟨h2,rfl⟩,by omega⟩
 exact⟨_,_,h1,fun e=>(by cases e),hc⟩
theorem SlO.loc (hR:jN R) (h:SlO e size R w v xs S) (hk:∀k,S k→w'.heap[k]?=w.heap[k]?) (hs:w.heap.size≤w'.heap.size):SlO e size R w' v xs S:=by
 obtain⟨cs,T,h⟩:=h
 refine⟨cs,T,?_,h.len,h.one,fun i hi=>hR _ _ _ _ _ (h.el i hi) (fun k hk2=>hk k (h.sub i hi k hk2)) hs,h.two,h.off,h.blk,h.sub,h.inb.mono hs⟩
 refine⟨h.own.1,?_⟩
 rcases h.own.2 with h1|⟨g,cap,cur,hv,hb,hg,r⟩
 ·exact .inl h1
 exact .inr ⟨g,cap,cur,hv,hb,by rw[hk g (h.blk g (by rw[hv];rfl))];exact hg,r⟩
theorem SlO.kept {U:Blks} (hR:jN R) (h:SlO e size R w v xs S) (hk:Kept U w w') (ha:Apart U S):SlO e size R w' v xs S:=
 h.loc hR (fun k hs=>hk.block k (h.inb k hs) (fun hu=>ha k hu hs)) hk.size
theorem SlO.below (hR:jN R) (h:SlO e size R w v xs S) (hb:Below w.heap.size w w'):SlO e size R w' v xs S:=h.kept (U:=fun _=>False) hR (Kept.of_below hb) (fun _ h _=>h)
theorem SlO.grow (h:SlO e size R w v xs S) {S':Blks} (hs:∀k,S k→S' k) (hi:InB w S'):SlO e size R w v xs S':=by
 obtain⟨cs,T,h⟩:=h
 exact⟨cs,T,h.own,h.len,h.one,h.el,h.two,h.off,fun g hg=>hs g (h.blk g hg),fun i hi k hk=>hs k (h.sub i hi k hk),hi⟩
end

theorem qI {cs:Nat→List Value} {size:Nat}:∀n,(∀i,i<n→(cs i).length=size)→((List.range n).flatMap cs).length=n*size
 | 0,_=>by simp
 | n+1,h=>by
  rw[List.range_succ,List.flatMap_append,List.length_append,qI n (fun i hi=>h i (by omega)),Nat.add_mul]
  simp[h n (by omega)]
theorem zm {cs:Nat→List Value} {size:Nat}:∀n,(∀i,i<n→(cs i).length=size)→∀i j,i<n→j<size→((List.range n).flatMap cs)[i*size+j]?=(cs i)[j]?
 | 0,_,i,j,hi,hj=>by omega
 | n+1,h,i,j,hi,hj=>by
  have hl:=qI n (fun i hi=>h i (by omega))
  rw[List.range_succ,List.flatMap_append]
  rcases Nat.lt_or_ge i n with g|g
  ·have:i*size+j<n*size:=by
    have:(i+1)*size≤n*size:=Nat.mul_le_mul_right _ g
    rw[Nat.add_mul]at this
    omega
   rw[List.getElem?_append_left (by rw[hl];exact this),zm n (fun i hi=>h i (by omega)) i j g hj]
  obtain rfl:i=n:=by omega
  rw[List.getElem?_append_right (by rw[hl];omega),hl]
  simp
theorem ZB {n size:Nat} {cs ds:Nat→List Value} (_h1:∀i,i<n→(cs i).length=size) (h2:∀i,i<n→(ds i).length=size) (hsz:0<size) {l:List Value} (hl:l.length=n*size) (h:∀i j,i<n→j<size→l[i*size+j]?=(ds i)[j]?):l=(List.range n).flatMap ds:=by
 refine List.ext_getElem? fun k=>?_
 rcases Nat.lt_or_ge k (n*size)with g|g
 ·have hi:k / size<n:=Nat.div_lt_of_lt_mul (by rw[Nat.mul_comm];exact g)
  have hj:=Nat.mod_lt k hsz
  have e:k=k / size*size+k % size:=by rw[Nat.mul_comm];exact(Nat.div_add_mod k size).symm
  rw[e,zm n h2 _ _ hi hj]
  exact h _ _ hi hj
 rw[List.getElem?_eq_none (by omega),List.getElem?_eq_none (by rw[qI n h2];exact g)]

def RowPut (w w':World) (e:TypeId) (g o size:Nat) (cs:List Value):Prop:=
 ∃cur cur':Array Value,w.heap[g]?=some (.cells cur e (0,0))∧w'.heap[g]?=some (.cells cur' e (0,0))∧cur'.size=cur.size∧(∀j,j<size→cur'[o+j]?=cs[j]?)∧∀j,(j<o∨o+size≤j)→cur'[j]?=cur[j]?
theorem RowPut.same {w w':World} {e:TypeId} {g o size:Nat} {cs:List Value} {cur:Array Value} (h:w.heap[g]?=some (.cells cur e (0,0))) (h2:w'.heap[g]?=w.heap[g]?) (hc:∀j,j<size→w.cell? ⟨g,o+j,none⟩=cs[j]?):RowPut w w' e g o size cs:=
 ⟨cur,cur,h,h2.trans h,rfl,fun j hj=>by rw[←hc j hj,cell_of_row w g _ cur e (0,0) h],fun _ _=>rfl⟩
theorem ZC {w:World} {g:Nat} {cur:Array Value} {e:TypeId} (h:w.heap[g]?=some (.cells cur e (0,0))) (i:Nat) (v:Value):(w.setCell ⟨g,i,none⟩ v).heap[g]?=some (.cells (cur.setIfInBounds i v) e (0,0)):=by
 unfold World.setCell
 rw[Array.getElem?_modify,if_pos rfl,h]
 rfl
theorem RowPut.set {w w':World} {e:TypeId} {g o size j:Nat} {cs:List Value} (h:RowPut w w' e g o size cs) (hl:cs.length=size) (hj:j<size) (v:Value):RowPut w (w'.setCell ⟨g,o+j,none⟩ v) e g o size (cs.set j v):=by
 obtain⟨cur,cur',h1,h2,h3,h4,h5⟩:=h
 refine⟨cur,cur'.setIfInBounds (o+j) v,h1,ZC h2 _ v,by simpa using h3,fun k hk=>?_,fun k hk=>?_⟩
 ·rw[Array.getElem?_setIfInBounds,List.getElem?_set]
  have hlt:o+j<cur'.size:=by
   rcases Nat.lt_or_ge (o+j) cur'.size with a|a
   ·exact a
   have:=h4 j hj
   rw[Array.getElem?_eq_none a,List.getElem?_eq_getElem (by omega)]at this
   cases this
  by_cases e1:j=k
  ·subst e1
   rw[if_pos rfl,if_pos rfl,if_pos hlt,if_pos (by omega)]
  rw[if_neg (by omega),if_neg e1]
  exact h4 k hk
 rw[Array.getElem?_setIfInBounds,if_neg (by omega)]
 exact h5 k hk

section
variable {α : Type} {e : TypeId} {size : Nat} {R : ElemO α} {w : World} {v : Value} {xs : List α} {S : Blks}
theorem SlO.focus (hR:jN R) (hsz:0<size) (h:SlO e size R w v xs S) {i:Nat} (hi:i<xs.length):∃g c cs T,v = .slice (some ⟨g,0,none⟩) xs.length c∧g<w.heap.size∧S g∧cs.length=size∧R w cs xs[i] T∧¬ T g∧(∀k,T k→S k)∧
  (∀j,j<size→w.cell? ⟨g,i*size+j,none⟩=cs[j]?)∧(∀o,w.frozen? ⟨g,o,none⟩=false)∧(∃cur,w.heap[g]?=some (.cells cur e (0,0)))∧
  ∀(w':World) (cs':List Value) (x':α) (T':Blks),RowPut w w' e g (i*size) size cs'→cs'.length=size→(∀u∈cs',u.oneCell'=true)→w.heap.size≤w'.heap.size→(∀k,S k→¬ T k→k≠g→w'.heap[k]?=w.heap[k]?)→
   R w' cs' x' T'→(∀k,T' k→(T k∨w.heap.size≤k)∧k<w'.heap.size)→SlO e size R w' v (xs.set i x') (fun k=>S k∨T' k):=by
 obtain⟨cs,T,h⟩:=h
 rcases h.own.2 with⟨_,h2⟩|⟨g,cap,cur,hv,hb,hg,hc1,hc2,hc3,htk⟩
 ·omega
 have hgs:=(Array.getElem?_eq_some_iff.1 hg).1
 have hcell:∀m j,m<xs.length→j<size→cur[m*size+j]?=(cs m)[j]?:=fun m j hm hj=>by
  have hlt:m*size+j<xs.length*size:=by
   have:(m+1)*size≤xs.length*size:=Nat.mul_le_mul_right _ hm
   rw[Nat.add_mul]at this
   omega
  rw[←zm xs.length h.len m j hm hj,←htk,List.getElem?_take_of_lt hlt,Array.getElem?_toList]
 have hob:v.ownBlock=some g:=by rw[hv];rfl
 refine⟨g,cap,cs i,T i,hv,hgs,h.blk g hob,h.len i hi,h.el i hi,h.off i hi g hob,h.sub i hi,fun j hj=>?_,fun o=>(blk hg).2 o,⟨cur,hg⟩,?_⟩
 ·rw[cell_of_row w g _ cur e (0,0) hg]
  exact hcell i j hi hj
 rintro w' cs' x' T' ⟨cu,cur',p1,p2,p3,p4,p5⟩ hl' h1' hs hk hR' hT'
 rw[hg]at p1
 cases p1
 have hlen:(xs.set i x').length=xs.length:=by simp
 refine⟨fun m=>if m=i then cs' else cs m,fun m=>if m=i then T' else T m,?_,fun m hm=>?_,fun m hm=>?_,fun m hm=>?_,fun m n hm hn hmn=>?_,fun m hm g' hg'=>?_,fun g' hg'=>.inl (h.blk g' hg'),fun m hm k hk2=>?_,?_⟩
 ·rw[hlen]
  have hlc:∀m,m<xs.length→(if m=i then cs' else cs m).length=size:=fun m hm=>by
   split
   ·exact hl'
   exact h.len m hm
  refine⟨by rw[qI _ hlc],.inr ⟨g,cap,cur',hv,hb,p2,hc1,hc2,by rw[p3];exact hc3,?_⟩⟩
  have hle:xs.length*size≤cap*size:=Nat.mul_le_mul_right _ hc1
  refine ZB h.len hlc hsz (by simp;omega) fun m j hm hj=>?_
  have hlt:m*size+j<xs.length*size:=by
   have:(m+1)*size≤xs.length*size:=Nat.mul_le_mul_right _ hm
   rw[Nat.add_mul]at this
   omega
  rw[List.getElem?_take_of_lt hlt,Array.getElem?_toList]
  by_cases e1:m=i
  ·subst e1
   rw[if_pos rfl]
   exact p4 j hj
  rw[if_neg e1,p5 _ ?_]
  ·exact hcell m j hm hj
  rcases Nat.lt_or_ge m i with a|a
  ·left
   have:(m+1)*size≤i*size:=Nat.mul_le_mul_right _ a
   rw[Nat.add_mul]at this
   omega
  right
  have:(i+1)*size≤m*size:=Nat.mul_le_mul_right _ (by omega)
  rw[Nat.add_mul]at this
  omega
 ·rw[hlen]at hm
  split
  ·exact hl'
  exact h.len m hm
 ·rw[hlen]at hm
  split
  ·exact h1'
  exact h.one m hm
 ·have hm2:m<xs.length:=by rw[←hlen];exact hm
  by_cases e1:m=i
  ·subst e1
   simpa using hR'
  simp only[if_neg e1,List.getElem_set_ne (Ne.symm e1)]
  refine hR _ _ _ _ _ (h.el m hm2) (fun k hk2=>hk k (h.sub m hm2 k hk2) (fun hk3=>h.two m i hm2 hi e1 k hk2 hk3) (fun e2=>h.off m hm2 g hob (by rw[←e2];exact hk2))) hs
 ·rw[hlen]at hm hn
  have key:∀m,m<xs.length→m≠i→Apart T' (T m):=fun m hm hmi k a b=>by
   rcases (hT' k a).1 with c|c
   ·exact h.two m i hm hi hmi k b c
   have:=h.inb k (h.sub m hm k b)
   omega
  split
  ·next e1=>
   rw[if_neg (by omega)]
   exact key n hn (by omega)
  next e1=>
  split
  ·exact(key m hm e1).symm
  exact h.two m n hm hn hmn
 ·rw[hlen]at hm
  rw[hob]at hg'
  cases hg'
  split
  ·intro a
   rcases (hT' _ a).1 with c|c
   ·exact h.off i hi _ hob c
   omega
  exact h.off m hm _ hob
 ·rw[hlen]at hm
  split at hk2
  ·exact .inr hk2
  exact .inl (h.sub m hm k hk2)
 rintro k (a|a)
 ·exact(h.inb.mono hs) k a
 exact(hT' k a).2
theorem SlW.snoc {w':World} {v':Value} {c:List Value} {x:α} {T:Blks} {cs:Nat→List Value} {U:Nat→Blks} (hR:jN R) (h:SlW e size R w v xs S cs U) (hx:R w c x T) (hl:c.length=size) (h1:∀u∈c,u.oneCell'=true) (hT:Apart S T) (hTi:InB w T)
  (hown:w'.ownsRow 0 e size v' (xs.length+1) ((List.range xs.length).flatMap cs++c)) (hg:w.grownBy w' v.ownBlock) (hat:v'.ownBlock=v.ownBlock∨v'.ownBlock=some w.heap.size) :
  SlO e size R w' v' (xs++[x]) (fun k=>S k∨T k∨v'.ownBlock=some k):=by
 have hlen:(xs++[x]).length=xs.length+1:=by simp
 have hin:∀g,v'.ownBlock=some g→0≤g∧g<w'.heap.size:=hown.lt
 have hoff:∀k g,(S k∧v.ownBlock≠some k)∨T k→v'.ownBlock=some g→k≠g:=fun k g hk hg' ek=>by
  subst ek
  rcases hat with a|a
  ·rcases hk with⟨_,b⟩|b
   ·exact b (a.symm.trans hg')
   exact hT k (h.blk k (a.symm.trans hg')) b
  have hks:k<w.heap.size:=by
   rcases hk with⟨b,_⟩|b
   ·exact h.inb k b
   exact hTi k b
  rw[a]at hg'
  injection hg' with hg'
  omega
 have hkeep:∀k,k<w.heap.size→v.ownBlock≠some k→w'.heap[k]?=w.heap[k]?:=fun k hk hn=>hg.block k hk (fun e1=>hn e1.symm)
 refine⟨fun m=>if m=xs.length then c else cs m,fun m=>if m=xs.length then T else U m,?_,fun m hm=>?_,fun m hm=>?_,fun m hm=>?_,fun m n hm hn hmn=>?_,fun m hm g' hg'=>?_,fun g' hg'=>.inr (.inr hg'),fun m hm k hk2=>?_,?_⟩
 ·rw[hlen,List.range_succ,List.flatMap_append]
  have e1:(List.range xs.length).flatMap (fun m=>if m=xs.length then c else cs m)=(List.range xs.length).flatMap cs:=by
   unfold List.flatMap
   congr 1
   refine List.map_congr_left fun m hm=>?_
   have:=List.mem_range.1 hm
   rw[if_neg (by omega)]
  rw[e1]
  simpa using hown
 ·split
  ·exact hl
  exact h.len m (by omega)
 ·split
  ·exact h1
  exact h.one m (by omega)
 ·by_cases e1:m=xs.length
  ·subst e1
   simp only[if_true]
   have e2:(xs++[x])[xs.length]=x:=by simp
   rw[e2]
   exact hR _ _ _ _ _ hx (fun k hk=>hkeep k (hTi k hk) (fun e3=>hT k (h.blk k e3) hk)) hg.size
  have hm2:m<xs.length:=by omega
  simp only[if_neg e1,List.getElem_append_left hm2]
  exact hR _ _ _ _ _ (h.el m hm2) (fun k hk=>hkeep k (h.inb k (h.sub m hm2 k hk)) (fun e3=>h.off m hm2 k e3 hk)) hg.size
 ·split
  ·next e1=>
   rw[if_neg (by omega)]
   exact fun k a b=>hT k (h.sub n (by omega) k b) a
  next e1=>
  split
  ·exact fun k a b=>hT k (h.sub m (by omega) k a) b
  exact h.two m n (by omega) (by omega) hmn
 ·split
  ·exact fun a=>hoff g' g' (.inr a) hg' rfl
  next e1=>
  intro a
  refine hoff g' g' (.inl ⟨h.sub m (by omega) g' a,fun e3=>h.off m (by omega) g' e3 a⟩) hg' rfl
 ·split at hk2
  ·exact .inr (.inl hk2)
  exact .inl (h.sub m (by omega) k hk2)
 rintro k (a|a|a)
 ·exact(h.inb.mono hg.size) k a
 ·exact(hTi.mono hg.size) k a
 exact(hin k a).2
end
def Snoc {α:Type} (e:TypeId) (size:Nat) (R:ElemO α) (w:World) (xs:List α) (S T:Blks) (v':Value) (w':World):Prop:=
 ∃S':Blks,SlO e size R w' v' xs S'∧(∀k,S' k→S k∨T k∨w.heap.size≤k)∧Kept S w w'
section
variable {P : Program} {α : Type} {R : ElemO α}
theorem vU (w:World) (t ty e:TypeId) (i:TypeInfo) (z:Value) (size bytes:Nat) (ht:P.underlying t=some (.slice e)) (hi:P.info? e=some i) (hz:i.zero=some z)
  (hsize:i.size=size) (hby:i.bytes=bytes) (hzs:z.cells.size=size) (hsz:0<size) (hR:jN R) {v:Value} {xs:List α} {S T:Blks} (hO:SlO e size R w v xs S)
  (ad:Addr) (cc:Nat) (c:List Value) (x:α) (hl:c.length=size) (hnews:∀j u,c[j]?=some u→w.cell? (ad.add j)=some u) (h1:∀u∈c,u.oneCell'=true) (hx:R w c x T) (hT:Apart S T) (hTi:InB w T)
  (h63:xs.length+1≤maxLen) (hbytes:(xs.length+1)*bytes≤140737488355328) :
  ∃v' w',(Builtin.append_ #[t,t] ty #[v,.slice (some ad) 1 cc]).run P w = .ok v' w'∧Snoc e size R w (xs++[x]) S T v' w':=by
 obtain⟨cs,U,h⟩:=hO
 obtain⟨v',w',hr,h2,h3,_,h5⟩:=run_append_own_at (P:=P) w 0 t ty e i z size bytes ht hi hz hsize hby hzs hsz v _ _ h.own ad 1 cc c (by rw[hl,Nat.one_mul]) hnews h1 h63 hbytes (Nat.zero_le _)
 refine⟨v',w',hr,_,h.snoc hR hx hl h1 hT hTi h2 h3 h5,fun k hk=>?_,Kept.of_grown h3 h.blk⟩
 rcases hk with a|a|a
 ·exact .inl a
 ·exact .inr (.inl a)
 rcases h5 with b|b
 ·exact .inl (h.blk k (b.symm.trans a))
 rw[b]at a
 injection a with a
 exact .inr (.inr (by omega))
theorem qD (w:World) {ops:Array Oper} {rest:List Oper} {o:Oper} {a:Act} {Q:Exit→Act→World→Prop} (hgd:o.guard=none) (s x:Operand) (t:TypeId)
  (ho:o.op = .call { callee:=.builtin .append,args:=#[s,x],argTypes:=#[t,t] })
  (e:TypeId) (i:TypeInfo) (z:Value) (size bytes:Nat) (ht:P.underlying t=some (.slice e)) (hi:P.info? e=some i) (hz:i.zero=some z)
  (hsize:i.size=size) (hby:i.bytes=bytes) (hzs:z.cells.size=size) (hsz:0<size) (hR:jN R)
  {v:Value} {xs:List α} {S T:Blks} (hs:a.eval s=v) (hO:SlO e size R w v xs S)
  (ad:Addr) (cc:Nat) (c:List Value) (y:α) (hx:a.eval x = .slice (some ad) 1 cc) (hl:c.length=size) (hnews:∀j u,c[j]?=some u→w.cell? (ad.add j)=some u) (h1:∀u∈c,u.oneCell'=true) (hy:R w c y T) (hT:Apart S T) (hTi:InB w T)
  (h63:xs.length+1≤maxLen) (hbytes:(xs.length+1)*bytes≤140737488355328)
  (h:∀v' w',Snoc e size R w (xs++[y]) S T v' w'→wpList P ops Q rest (a.put o.dst v') w') :
  wpList P ops Q (o::rest) a w:=by
 refine wpList_plain hgd fun K hK=>?_
 obtain⟨v',w',hr,h2⟩:=vU (P:=P) w t o.type e i z size bytes ht hi hz hsize hby hzs hsz hR hO ad cc c y hl hnews h1 hy hT hTi h63 hbytes
 unfold Oper.wp execOp
 simp only[ho,resolve,invoke,builtin,Sem.run_bind,Sem.run_pure,Result.andThen_ok,List.map_toArray,List.map_cons,List.map_nil,hs,hx,hr]
 exact hK _ _ (h v' w' h2)
end
theorem qS (w:World) (c:List Value) (t:TypeId) {b:Nat} (hb:b=w.heap.size):∀j u,c[j]?=some u→(w.alloc (.cells c.toArray t)).cell? ((⟨b,0,none⟩:Addr).add j)=some u:=by
 intro j u hj
 subst hb
 rw[V2,cell_of_row _ _ j c.toArray t (0,0) (heap_alloc_new w _)]
 simpa using hj

def Xu:ElemO (Bool×Int):=fun _ cs v _=>vO cs v
def kP:ElemO Int:=fun _ cs n _=>xC cs n
structure SlQ {α:Type} (e:TypeId) (size bytes:Nat) (R:ElemO α) (w:World) (v:Value) (xs:List α) (S:Blks):Prop where
 sl:SlO e size R w v xs S
 bd:xs.length*bytes≤reachBytes
def InsO:ElemO InsL:=fun w cs i S=>∃v,cs=[.int .i64 i.op,.int .i64 i.dst,.bool i.ar,.int .i64 i.an,.bool i.br,.int .i64 i.bn,.int .i64 i.fn,v]∧
 I64 i.op∧I64 i.dst∧I64 i.an∧I64 i.bn∧I64 i.fn∧SlQ 43 2 16 Xu w v i.args S
def PhiO:ElemO PhiL:=fun w cs x S=>∃v,cs=[.int .i64 x.dst,v]∧I64 x.dst∧SlQ 43 2 16 Xu w v x.src S
def BlkO:ElemO BlkL:=fun w cs x S=>∃v1 v2 v3 S1 S2 S3,cs=[v1,v2,.int .i64 x.fin.kind,.bool x.fin.onr,.int .i64 x.fin.onn,v3]∧I64 x.fin.kind∧I64 x.fin.onn∧
 SlQ 101 2 32 PhiO w v1 x.phis S1∧SlQ 53 8 80 InsO w v2 x.list S2∧SlQ 3 1 8 kP w v3 x.fin.to S3∧Apart S1 S2∧Apart S1 S3∧Apart S2 S3∧(∀k,S1 k→S k)∧(∀k,S2 k→S k)∧∀k,S3 k→S k
def FunO:ElemO FunL:=fun w cs x S=>∃v,cs=[.string x.name,.int .i64 x.params,.int .i64 x.regs,v]∧x.name.size≤reachBytes∧I64 x.params∧I64 x.regs∧SlQ 48 6 96 BlkO w v x.blocks S
def GloO:ElemO GloL:=fun w cs x S=>∃v,cs=[.string x.name,.int .i64 x.size,v]∧x.name.size≤reachBytes∧I64 x.size∧SlQ 3 1 8 kP w v x.init S

theorem zT:jN Xu:=fun _ _ _ _ _ h _ _=>h
theorem qT:jN kP:=fun _ _ _ _ _ h _ _=>h
theorem SlQ.loc {α:Type} {e:TypeId} {size bytes:Nat} {R:ElemO α} {w w':World} {v:Value} {xs:List α} {S T:Blks} (hR:jN R) (h:SlQ e size bytes R w v xs S) (hs:∀k,S k→T k) (hk:∀k,T k→w'.heap[k]?=w.heap[k]?) (hz:w.heap.size≤w'.heap.size):SlQ e size bytes R w' v xs S:=
 ⟨h.sl.loc hR (fun k g=>hk k (hs k g)) hz,h.bd⟩
theorem qH:jN InsO:=fun w w' cs x S h hk hs=>by
 obtain⟨v,h0,h1,h2,h3,h4,h5,h6⟩:=h
 exact⟨v,h0,h1,h2,h3,h4,h5,h6.loc zT (fun _ g=>g) hk hs⟩
theorem zq:jN PhiO:=fun w w' cs x S h hk hs=>by
 obtain⟨v,h0,h1,h6⟩:=h
 exact⟨v,h0,h1,h6.loc zT (fun _ g=>g) hk hs⟩
theorem qE:jN BlkO:=fun w w' cs x S h hk hs=>by
 obtain⟨v1,v2,v3,S1,S2,S3,h0,h1,h2,h3,h4,h5,a1,a2,a3,g1,g2,g3⟩:=h
 exact⟨v1,v2,v3,S1,S2,S3,h0,h1,h2,h3.loc zq g1 hk hs,h4.loc qH g2 hk hs,h5.loc qT g3 hk hs,a1,a2,a3,g1,g2,g3⟩
theorem zj:jN FunO:=fun w w' cs x S h hk hs=>by
 obtain⟨v,h0,h1,h2,h3,h6⟩:=h
 exact⟨v,h0,h1,h2,h3,h6.loc qE (fun _ g=>g) hk hs⟩
theorem zC:jN GloO:=fun w w' cs x S h hk hs=>by
 obtain⟨v,h0,h1,h2,h6⟩:=h
 exact⟨v,h0,h1,h2,h6.loc qT (fun _ g=>g) hk hs⟩

theorem SlF.outC {α:Type} {w:World} {size bytes:Nat} {R:List Value→α→Prop} {v:Value} {xs:List α} (h:SlF w size bytes R v xs):∃p c,v = .slice p xs.length c∧(p=none→xs.length=0∧c=0)∧xs.length≤c∧SliceAt w size R p xs:=by
 obtain⟨p,c,h1,h2,h3,_,h5⟩:=h
 exact⟨p,c,h1,h2,h3,h5⟩
theorem SlF.bdC {α:Type} {w:World} {size bytes:Nat} {R:List Value→α→Prop} {v:Value} {xs:List α} (h:SlF w size bytes R v xs):xs.length*bytes≤reachBytes:=by
 obtain⟨p,c,_,_,_,h4,_⟩:=h
 exact h4
/-! what is owned reads as data -/
theorem SlO.read {α:Type} {e:TypeId} {size:Nat} {R:ElemO α} {R':List Value→α→Prop} {w:World} {v:Value} {xs:List α} {S:Blks} (hR:jN R) (hsz:0<size) (h:SlO e size R w v xs S) (hr:∀cs x T,R w cs x T→R' cs x) :
  ∃p c,v = .slice p xs.length c∧(p=none→xs.length=0∧c=0)∧xs.length≤c∧SliceAt w size R' p xs:=by
 obtain⟨p,c,hv,h1,h2⟩:=h.val
 refine⟨p,c,hv,h1,h2,?_⟩
 rcases Nat.eq_zero_or_pos xs.length with h0|h0
 ·exact .inl (List.length_eq_zero_iff.1 h0)
 obtain⟨g,c',cs,T,hv',_⟩:=h.focus hR hsz h0
 rw[hv]at hv'
 injection hv' with hp _ _
 subst hp
 refine .inr ⟨g,0,rfl,fun i hi=>?_⟩
 obtain⟨g2,c2,cs2,T2,hv2,_,_,hl,hx,_,_,hc,_⟩:=h.focus hR hsz hi
 rw[hv]at hv2
 injection hv2 with hp2 _ _
 cases hp2
 refine⟨cs2,hl,fun j hj=>?_,hr _ _ _ hx⟩
 rw[Nat.zero_add]
 exact hc j hj
theorem SlQ.read {α:Type} {e:TypeId} {size bytes:Nat} {R:ElemO α} {R':List Value→α→Prop} {w:World} {v:Value} {xs:List α} {S:Blks} (hR:jN R) (hsz:0<size) (h:SlQ e size bytes R w v xs S) (hr:∀cs x T,R w cs x T→R' cs x):SlF w size bytes R' v xs:=by
 obtain⟨p,c,hv,h1,h2,h3⟩:=h.sl.read hR hsz hr
 exact⟨p,c,hv,h1,h2,h.bd,h3⟩
theorem InsO.read {w:World} {cs:List Value} {x:InsL} {S:Blks} (h:InsO w cs x S):InsR w cs x:=by
 obtain⟨v,h0,h1,h2,h3,h4,h5,h6⟩:=h
 exact⟨v,h0,h1,h2,h3,h4,h5,h6.read zT (by omega) fun _ _ _ h=>h⟩
theorem PhiO.read {w:World} {cs:List Value} {x:PhiL} {S:Blks} (h:PhiO w cs x S):PhiR w cs x:=by
 obtain⟨v,h0,h1,h6⟩:=h
 exact⟨v,h0,h1,h6.read zT (by omega) fun _ _ _ h=>h⟩
theorem BlkO.read {w:World} {cs:List Value} {x:BlkL} {S:Blks} (h:BlkO w cs x S):BlkR w cs x:=by
 obtain⟨v1,v2,v3,S1,S2,S3,h0,h1,h2,h3,h4,h5,_⟩:=h
 exact⟨v1,v2,v3,h0,h1,h2,h3.read zq (by omega) fun _ _ _ h=>h.read,h4.read qH (by omega) fun _ _ _ h=>h.read,h5.read qT (by omega) fun _ _ _ h=>h⟩
theorem FunO.read {w:World} {cs:List Value} {x:FunL} {S:Blks} (h:FunO w cs x S):FunR w cs x:=by
 obtain⟨v,h0,h1,h2,h3,h6⟩:=h
 exact⟨v,h0,h1,h2,h3,h6.read qE (by omega) fun _ _ _ h=>h.read⟩
theorem GloO.read {w:World} {cs:List Value} {x:GloL} {S:Blks} (h:GloO w cs x S):GloR w cs x:=by
 obtain⟨v,h0,h1,h2,h6⟩:=h
 exact⟨v,h0,h1,h2,h6.read qT (by omega) fun _ _ _ h=>h⟩

theorem SlO.flat {α:Type} {e:TypeId} {size base:Nat} {R:ElemO α} {w:World} {v:Value} {xs:List α} {cs:Nat→List Value} (h:w.ownsRow base e size v xs.length ((List.range xs.length).flatMap cs)) (hl:∀i,i<xs.length→(cs i).length=size) (h1:∀i,i<xs.length→∀u∈cs i,u.oneCell'=true)
  (hx:∀i (hi:i<xs.length),R w (cs i) xs[i] (fun _=>False)):SlO e size R w v xs (fun k=>v.ownBlock=some k):=by
 refine⟨cs,fun _ _=>False,⟨jS h (Nat.zero_le _),hl,h1,hx,fun _ _ _ _ _ _ a _=>a,fun _ _ _ _ a=>a,fun _ hg=>hg,fun _ _ _ a=>a.elim,fun k hk=>(h.lt k hk).2⟩⟩

def LoB (B:Nat) (S:Blks):Prop:=∀k,S k→B≤k
def kj (xs:List (Bool×Int)) (i:Nat):List Value:=[.bool (xs.getD i (false,0)).1,.int .i64 (xs.getD i (false,0)).2]
def Qs (xs:List Int) (i:Nat):List Value:=[.int .i64 (xs.getD i 0)]
theorem kl:(Tryz.prog.info? 43).map (fun i=>(i.zero,i.size,i.bytes))=some (some (.agg #[.bool false,.int .i64 0]),2,16):=by kernel_rfl
theorem V3:(Tryz.prog.info? 3).map (fun i=>(i.zero,i.size,i.bytes))=some (some (.int .i64 0),1,8):=by kernel_rfl
theorem ji {w:World} {e:TypeId} {B g size:Nat} (h:w.heap[g]?=some (.cells #[] e (0,0))) (hB:B≤g):w.ownsRow B e size (.slice (some ⟨g,0,none⟩) 0 0) 0 []:=
 ⟨by simp,.inr ⟨g,0,#[],rfl,hB,h,by simp,by simp,by simp,by simp⟩⟩
theorem ZD (xs:List (Bool×Int)) (i:Nat):∀u∈kj xs i,u.oneCell'=true:=by
 intro u hu
 simp only[kj,List.mem_cons,List.not_mem_nil,or_false]at hu
 rcases hu with rfl|rfl<;>rfl
theorem Jv (xs:List Int) (i:Nat):∀u∈Qs xs i,u.oneCell'=true:=by
 intro u hu
 simp only[Qs,List.mem_cons,List.not_mem_nil,or_false]at hu
 rw[hu]
 rfl
theorem xk {cs:Nat→List Value} {n:Nat} {P:Value→Prop} (h:∀i,i<n→∀u∈cs i,P u):∀u∈(List.range n).flatMap cs,P u:=by
 intro u hu
 obtain⟨i,hi,h2⟩:=List.mem_flatMap.1 hu
 exact h i (List.mem_range.1 hi) u h2
theorem zw (b o j:Nat):(⟨b,o,none⟩:Addr).add j=⟨b,o+j,none⟩:=by
 by_cases hz:j=0<;>simp[Addr.add,hz]
theorem kQ {α:Type} {w:World} {size:Nat} {R:List Value→α→Prop} {a:Addr} {xs:List α} {cs:Nat→List Value} (h:SliceAt w size R (some a) xs) (hsz:0<size) (hl:∀i,i<xs.length→(cs i).length=size) (hc:∀i (hi:i<xs.length) c,R c xs[i]→c=cs i) :
  ∀j u,((List.range xs.length).flatMap cs)[j]?=some u→w.cell? (a.add j)=some u:=by
 intro j u hu
 rcases h with rfl|⟨b,o,ha,h⟩
 ·simp at hu
 cases ha
 have hj:j<xs.length*size:=by
  rw[←qI _ hl]
  exact(List.getElem?_eq_some_iff.1 hu).1
 have hi:j / size<xs.length:=Nat.div_lt_of_lt_mul (by rw[Nat.mul_comm];exact hj)
 have hm:=Nat.mod_lt j hsz
 have e:j=j / size*size+j % size:=by rw[Nat.mul_comm];exact(Nat.div_add_mod j size).symm
 obtain⟨c,_,hcell,hr⟩:=h _ hi
 have h1:=hcell _ hm
 rw[hc _ hi c hr]at h1
 rw[e,zm _ hl _ _ hi hm]at hu
 have ea:(⟨b,o,none⟩:Addr).add j=⟨b,o+j / size*size+j % size,none⟩:=by
  have e3:o+j / size*size+j % size=o+j:=by omega
  rw[e3]
  exact zw b o j
 rw[ea,h1,hu]

theorem vy (xs:List (Bool×Int)) (p:Option Addr) (c:Nat) (w:World) (h:SliceAt w 2 vO p xs) (hp:p=none→xs.length=0∧c=0) (hl:xs.length*16≤reachBytes) :
  Calls Tryz.prog 96 #[.slice p xs.length c] w fun e w'=>∃p' c',e = .returned (.slice p' xs.length c')∧(∃S,SlQ 43 2 16 Xu w' (.slice p' xs.length c') xs S∧LoB w.heap.size S)∧Below w.heap.size w w':=by
 have hlr:xs.length*16≤140737488351232:=hl
 rcases p with _|a
 ·obtain⟨h0,rfl⟩:=hp rfl
  obtain rfl:=List.length_eq_zero_iff.1 h0
  have he:∀w:World,(binOp .eql 51 (.slice none 0 0) (.slice none 0 0)).run Tryz.prog w = .ok (.bool true) w:=fun _=>rfl
  go_enter Tryz.func96,Tryz.ntmps96
  go_wp2_with fail
  go_ret
  exact⟨none,0,rfl,⟨fun _=>False,⟨SlO.nil _ _ _ _ (fun _ h=>h.elim),by simp⟩,fun _ h=>h.elim⟩,Below.refl _ _⟩
 obtain⟨i1,k1,k2,k3,k4⟩:=info_parts kl
 have HT:=q7 h
 have HV:Hid (∀i (hi:i<xs.length) cs,vO cs xs[i]→cs=kj xs i):=q7 fun i hi cs hr=>by
  obtain⟨e,_⟩:=hr
  rw[e]
  unfold kj
  simp[List.getD,hi]
 have HL:Hid (∀i,i<xs.length→(kj xs i).length=2):=q7 fun _ _=>rfl
 have HX:Hid (∀i (hi:i<xs.length),I64 xs[i].2):=q7 fun i hi=>by
  rcases h with rfl|⟨b,o,_,h⟩
  ·simp at hi
  obtain⟨_,_,_,hr⟩:=h i hi
  exact hr.2
 have he:∀w:World,(binOp .eql 51 (.slice (some a) xs.length c) (.slice none 0 0)).run Tryz.prog w = .ok (.bool false) w:=fun _=>rfl
 clear h
 go_enter Tryz.func96,Tryz.ntmps96
 go_wp2_with (at_builtin;refine wpList_append_own _ rfl (.tmp 5) (.tmp 6) 51 rfl w.heap.size 43 i1 _ 2 16 Tryz.underlying51 k1 k2 k3 k4 rfl (by decide) _ 0 [] rfl ?c0 a xs.length c ((List.range xs.length).flatMap (kj xs)) rfl ?c1 ?c2 ?c3 ?c4 ?c5 ?c6 ?_)
 case c0=>exact ji (qr _ _) (Nat.le_refl _)
 case c1=>exact qI _ HL.out
 case c2=>exact kQ (HT.out.mono ((Below.refl _ w).alloc (Nat.le_refl _) _) (by omega) fun _ _ g=>g) (by omega) HL.out HV.out
 case c3=>exact xk fun i _=>ZD xs i
 case c4=>unfold maxLen;omega
 case c5=>omega
 case c6=>simp
 intro v' w' hown hg _
 have hval:∃p' c',v' = .slice p' xs.length c':=by
  rcases hown.2 with⟨h1,h2⟩|⟨g,cap,cur,h1,_⟩
  ·exact⟨none,0,by rw[h1,show xs.length=0 by omega]⟩
  exact⟨some ⟨g,0,none⟩,cap,by rw[h1]⟩
 obtain⟨p',c',rfl⟩:=hval
 go_wp2
 refine bodyPost_ret (v:=.slice p' xs.length c') ?_ rfl ⟨p',c',rfl,⟨_,⟨SlO.flat (base:=w.heap.size) (cs:=kj xs) (by simpa using hown) HL.out (fun i _=>ZD xs i) (fun i hi=>?_),hl⟩,fun k hk=>(hown.lt k hk).1⟩,?_⟩
 ·simp[results,Tryz.results96,go_sem]
 ·have hx:=HX.out i hi
  unfold Xu vO kj
  simp[List.getD,hi,hx]
 exact Below.grown bZ hg (by simp) (fun b e=>by cases e;exact Nat.le_refl _)

theorem vB (xs:List (Int)) (p:Option Addr) (c:Nat) (w:World) (h:SliceAt w 1 xC p xs) (hp:p=none→xs.length=0∧c=0) (hl:xs.length*8≤reachBytes) :
  Calls Tryz.prog 43 #[.slice p xs.length c] w fun e w'=>∃p' c',e = .returned (.slice p' xs.length c')∧(∃S,SlQ 3 1 8 kP w' (.slice p' xs.length c') xs S∧LoB w.heap.size S)∧Below w.heap.size w w':=by
 have hlr:xs.length*8≤140737488351232:=hl
 rcases p with _|a
 ·obtain⟨h0,rfl⟩:=hp rfl
  obtain rfl:=List.length_eq_zero_iff.1 h0
  have he:∀w:World,(binOp .eql 44 (.slice none 0 0) (.slice none 0 0)).run Tryz.prog w = .ok (.bool true) w:=fun _=>rfl
  go_enter Tryz.func43,Tryz.ntmps43
  go_wp2_with fail
  go_ret
  exact⟨none,0,rfl,⟨fun _=>False,⟨SlO.nil _ _ _ _ (fun _ h=>h.elim),by simp⟩,fun _ h=>h.elim⟩,Below.refl _ _⟩
 obtain⟨i1,k1,k2,k3,k4⟩:=info_parts V3
 have HT:=q7 h
 have HV:Hid (∀i (hi:i<xs.length) cs,xC cs xs[i]→cs=Qs xs i):=q7 fun i hi cs hr=>by
  obtain⟨e,_⟩:=hr
  rw[e]
  unfold Qs
  simp[List.getD,hi]
 have HL:Hid (∀i,i<xs.length→(Qs xs i).length=1):=q7 fun _ _=>rfl
 have HX:Hid (∀i (hi:i<xs.length),I64 xs[i]):=q7 fun i hi=>by
  rcases h with rfl|⟨b,o,_,h⟩
  ·simp at hi
  obtain⟨_,_,_,hr⟩:=h i hi
  exact hr.2
 have he:∀w:World,(binOp .eql 44 (.slice (some a) xs.length c) (.slice none 0 0)).run Tryz.prog w = .ok (.bool false) w:=fun _=>rfl
 clear h
 go_enter Tryz.func43,Tryz.ntmps43
 go_wp2_with (at_builtin;refine wpList_append_own _ rfl (.tmp 5) (.tmp 6) 44 rfl w.heap.size 3 i1 _ 1 8 Tryz.underlying44 k1 k2 k3 k4 rfl (by decide) _ 0 [] rfl ?c0 a xs.length c ((List.range xs.length).flatMap (Qs xs)) rfl ?c1 ?c2 ?c3 ?c4 ?c5 ?c6 ?_)
 case c0=>exact ji (qr _ _) (Nat.le_refl _)
 case c1=>exact qI _ HL.out
 case c2=>exact kQ (HT.out.mono ((Below.refl _ w).alloc (Nat.le_refl _) _) (by omega) fun _ _ g=>g) (by omega) HL.out HV.out
 case c3=>exact xk fun i _=>Jv xs i
 case c4=>unfold maxLen;omega
 case c5=>omega
 case c6=>simp
 intro v' w' hown hg _
 have hval:∃p' c',v' = .slice p' xs.length c':=by
  rcases hown.2 with⟨h1,h2⟩|⟨g,cap,cur,h1,_⟩
  ·exact⟨none,0,by rw[h1,show xs.length=0 by omega]⟩
  exact⟨some ⟨g,0,none⟩,cap,by rw[h1]⟩
 obtain⟨p',c',rfl⟩:=hval
 go_wp2
 refine bodyPost_ret (v:=.slice p' xs.length c') ?_ rfl ⟨p',c',rfl,⟨_,⟨SlO.flat (base:=w.heap.size) (cs:=Qs xs) (by simpa using hown) HL.out (fun i _=>Jv xs i) (fun i hi=>?_),hl⟩,fun k hk=>(hown.lt k hk).1⟩,?_⟩
 ·simp[results,Tryz.results43,go_sem]
 ·have hx:=HX.out i hi
  unfold kP xC Qs
  simp[List.getD,hi,hx]
 exact Below.grown bZ hg (by simp) (fun b e=>by cases e;exact Nat.le_refl _)

theorem ZE:(Tryz.prog.info? 101).map (fun i=>(i.zero,i.size,i.bytes))=some (some (.agg #[.int .i64 0,.slice none 0 0]),2,32):=by kernel_rfl
theorem vC:(Tryz.prog.info? 53).map (fun i=>(i.zero,i.size,i.bytes))=some (some (.agg #[.int .i64 0,.int .i64 0,.bool false,.int .i64 0,.bool false,.int .i64 0,.int .i64 0,.slice none 0 0]),8,80):=by kernel_rfl
theorem SliceAt.get {α:Type} {w:World} {size:Nat} {R:List Value→α→Prop} {p:Option Addr} {xs:List α} (h:SliceAt w size R p xs) {i:Nat} (hi:i<xs.length):∃b o cs,p=some ⟨b,o,none⟩∧cs.length=size∧(∀j,j<size→w.cell? ⟨b,o+i*size+j,none⟩=cs[j]?)∧R cs xs[i]:=by
 rcases h with rfl|⟨b,o,hp,h⟩
 ·simp at hi
 obtain⟨cs,hl,hc,hr⟩:=h i hi
 exact⟨b,o,cs,hp,hl,hc,hr⟩
theorem SlO.set_alloc {α:Type} {e:TypeId} {size:Nat} {R:ElemO α} (hR:jN R) {w:World} {v:Value} {xs:List α} {S:Blks} (h:SlO e size R w v xs S) {n j:Nat} (hS:¬ S n) (u:Value) (o:Obj):SlO e size R ((w.setCell ⟨n,j,none⟩ u).alloc o) v xs S:=
 h.loc hR (fun k hk=>(Below.heap_alloc _ o k (by rw[Go.Deep.nblk_setCell];exact h.inb k hk)).trans (Go.Deep.blk_setCell_other w ⟨n,j,none⟩ u k (fun e=>hS (by rw[←show k=n from e];exact hk)))) (by simp[World.setCell])
theorem SlQ.set_alloc {α:Type} {e:TypeId} {size bytes:Nat} {R:ElemO α} (hR:jN R) {w:World} {v:Value} {xs:List α} {S:Blks} (h:SlQ e size bytes R w v xs S) {n j:Nat} (hS:¬ S n) (u:Value) (o:Obj):SlQ e size bytes R ((w.setCell ⟨n,j,none⟩ u).alloc o) v xs S:=⟨h.sl.set_alloc hR hS u o,h.bd⟩
theorem InB.set_alloc {w:World} {S:Blks} (h:InB w S) (a:Addr) (u:Value) (o:Obj):InB ((w.setCell a u).alloc o) S:=h.mono (by simp[World.setCell])

theorem Jw (b:BlkL) (q1 q2 q3:Option Addr) (e1 e2 e3:Nat) (w:World) (hn:SlF w 2 32 (PhiR w) (.slice q1 b.phis.length e1) b.phis) (hI:SlF w 8 80 (InsR w) (.slice q2 b.list.length e2) b.list) (hT:SlF w 1 8 xC (.slice q3 b.fin.to.length e3) b.fin.to) (i1:I64 b.fin.kind) (i2:I64 b.fin.onn) :
  Calls Tryz.prog 78 #[.agg #[.slice q1 b.phis.length e1,.slice q2 b.list.length e2,.int .i64 b.fin.kind,.bool b.fin.onr,.int .i64 b.fin.onn,.slice q3 b.fin.to.length e3]] w fun e w'=>(∃p1 c1 p2 c2 p3 c3,e = .returned (.agg #[.slice p1 b.phis.length c1,.slice p2 b.list.length c2,.int .i64 b.fin.kind,.bool b.fin.onr,.int .i64 b.fin.onn,.slice p3 b.fin.to.length c3])∧
   ∃S,BlkO w' [.slice p1 b.phis.length c1,.slice p2 b.list.length c2,.int .i64 b.fin.kind,.bool b.fin.onr,.int .i64 b.fin.onn,.slice p3 b.fin.to.length c3] b S∧LoB w.heap.size S)∧Below w.heap.size w w':=by
 obtain⟨iP,k1,k2,k3,k4⟩:=info_parts ZE
 obtain⟨iI,l1,l2,l3,l4⟩:=info_parts vC
 have hlp:b.phis.length*32≤140737488351232:=hn.out.elim fun _ h=>h.elim fun _ h=>h.2.1
 have hli:b.list.length*80≤140737488351232:=hI.out.elim fun _ h=>h.elim fun _ h=>h.2.1
 have hnp:SliceAt w 2 (PhiR w) q1 b.phis:=by
  obtain⟨p,c,e,_,_,h⟩:=hn.outC
  cases e
  exact h
 have hni:SliceAt w 8 (InsR w) q2 b.list:=by
  obtain⟨p,c,e,_,_,h⟩:=hI.outC
  cases e
  exact h
 have HN:=q7 hnp
 have HI:=q7 hni
 have HT:=q7 hT
 have HI1:=q7 i1
 have HI2:=q7 i2
 have HBd:=q7 (And.intro hn.bdC (And.intro hI.bdC hT.bdC))
 clear hn hI hT i1 i2 hnp hni
 go_enter Tryz.func78,Tryz.ntmps78
 go_wp2_with fail
 obtain⟨W0,hW0⟩:∃W0,W0=(w.alloc (.cells #[.slice q1 b.phis.length e1,.slice q2 b.list.length e2,.int .i64 b.fin.kind,.bool b.fin.onr,.int .i64 b.fin.onn,.slice q3 b.fin.to.length e3] 48)).alloc (.cells #[.slice none 0 0,.slice none 0 0,.int .i64 0,.bool false,.int .i64 0,.slice none 0 0] 48):=⟨_,rfl⟩
 rw[←hW0]
 have hz0:W0.heap.size=w.heap.size+1+1:=by rw[hW0];simp
 have HB0:Hid (Below w.heap.size w W0):=q7 (by rw[hW0];exact bZ)
 have HA:Hid (W0.heap[w.heap.size]?=some (.cells #[.slice q1 b.phis.length e1,.slice q2 b.list.length e2,.int .i64 b.fin.kind,.bool b.fin.onr,.int .i64 b.fin.onn,.slice q3 b.fin.to.length e3] 48 (0,0))):=q7 (by rw[hW0];exact qj (qh rfl))
 have HZ:Hid (W0.heap[w.heap.size+1]?=some (.cells #[.slice none 0 0,.slice none 0 0,.int .i64 0,.bool false,.int .i64 0,.slice none 0 0] 48 (0,0))):=q7 (by rw[hW0];exact qh (by simp))
 clear hW0
 go_loopw [3,12] (fun v i wr=>∃k:Nat,k≤b.phis.length∧i = .int .i64 k∧(∃S,SlO 101 2 PhiO wr v (b.phis.take k) S∧LoB W0.heap.size S)∧Below W0.heap.size W0 wr) (fun _ i _=>b.phis.length - (intOf i).toNat)
 case atStart=>exact⟨0,by omega,rfl,⟨fun _=>False,SlO.nil _ _ _ _ (fun _ h=>h.elim),fun _ h=>h.elim⟩,Below.refl _ _⟩
 case round=>
  obtain⟨k,hk,rfl,⟨S,hO,hL⟩,hb⟩:=hrel
  obtain⟨vpA,vcA,hv,_⟩:=hO.val
  rw[List.length_take_of_le hk]at hv
  subst hv
  have HO:=q7 hO
  have HL:=q7 hL
  have HB:=q7 hb
  have hsz:=hb.size
  have HBw:Hid (Below w.heap.size w wr):=HB0.out.trans (hb.mono (by omega))
  clear hO hL hb
  by_cases hlt:k<b.phis.length
  ·obtain⟨bp,op,cs,hp,_,hc,pv,rfl,hd,hs⟩:=HN.out.get hlt
   subst hp
   obtain⟨q,c,rfl,hq0,_,hql,hqs⟩:=hs
   have hc0:=hc 0 (by omega)
   have hc1:=hc 1 (by omega)
   have hbp:=q8 hc0
   have c0:=(HBw.out.cell (p:=⟨bp,_,none⟩) hbp).trans hc0
   have c1:=(HBw.out.cell (p:=⟨bp,_,none⟩) hbp).trans hc1
   simp only[List.getElem?_cons_zero,List.getElem?_cons_succ,Nat.add_zero]at c0 c1
   have HQ0:=q7 hq0
   have HQl:=q7 hql
   have HQs:=q7 hqs
   have HD:=q7 hd
   clear hc hc0 hc1 hq0 hql hqs hd
   go_wp2_with fail
   refine(vy b.phis[k].src q c _ (HQs.out.mono (HBw.out.trans bZ) (by omega) fun _ _ g=>g) HQ0.out HQl.out).mono ?_
   rintro e w5 ⟨p',c',rfl,⟨S2,hS2,hL2⟩,hb5⟩
   have hr5:Below wr.heap.size wr w5:=Below.trans bZ (hb5.mono (by simp))
   have hu:=qd hb5 (k:=wr.heap.size) (by simp) (qr wr _)
   obtain⟨hu0,hu1⟩:=blk hu
   have zu:=(Array.getElem?_eq_some_iff.1 hu).1
   have hN5:¬ S wr.heap.size:=fun h=>by have:=HO.out.inb _ h;omega
   have hL2':∀k,S2 k→wr.heap.size+1≤k:=fun k h=>by have:=hL2 k h;simpa using this
   have hN2:¬ S2 wr.heap.size:=fun h=>by have:=hL2' _ h;omega
   have HO5:=q7 (HO.out.below zq hr5)
   have HS2:=q7 hS2
   have HL2:=q7 hL2'
   have HR5:=q7 hr5
   have HNN:=q7 (And.intro hN5 hN2)
   have hep:=hr5.size
   clear hb5 hr5 hu hS2 hL2 hL2' hN5 hN2
   go_wp2_with (at_builtin;refine qD _ rfl _ _ 40 rfl 101 iP _ 2 32 Tryz.underlying40 k1 k2 k3 k4 rfl (by decide) zq rfl (HO5.out.set_alloc zq HNN.out.1 _ _) ⟨w5.heap.size,0,none⟩ 1 [.int .i64 b.phis[k].dst,.slice p' b.phis[k].src.length c'] b.phis[k] rfl rfl ?hn ?ho (T:=S2) ⟨_,rfl,HD.out,HS2.out.set_alloc zT HNN.out.2 _ _⟩ ?ha ?ht ?hm ?hb ?_)
   case hn=>exact qS _ _ _ (by simp[World.setCell])
   case ho=>intro u hu;simp only[List.mem_cons,List.not_mem_nil,or_false]at hu;rcases hu with rfl|rfl<;>rfl
   case ha=>exact fun k h1 h2=>by have:=HO.out.inb k h1;have:=HL2.out k h2;omega
   case ht=>exact HS2.out.sl.inb.set_alloc _ _ _
   case hm=>unfold maxLen;simp;omega
   case hb=>simp;omega
   intro v2 w8 ⟨S',hO8,hsub,hK⟩
   have hrel:(∃S,SlO 101 2 PhiO w8 v2 (b.phis.take (k+1)) S∧LoB W0.heap.size S)∧Below W0.heap.size W0 w8:=by
    refine⟨⟨S',by first|exact hO8|(rw[List.take_succ_eq_append_getElem hlt];exact hO8),fun k hk=>?_⟩,?_⟩
    ·rcases hsub k hk with h|h|h
     ·exact HL.out k h
     ·have:=HL2.out k h;omega
     simp[World.setCell]at h;omega
    refine(((HB.out.trans (HR5.out.mono hsz)).setCell hsz _).alloc (by simp[World.setCell];omega) _).trans (hK.below (by simp[World.setCell];omega) HL.out)
   have ha7:=q7 hrel
   clear hO8 hsub hK hrel
   go_wp2_with fail
   exact⟨⟨k+1,by omega,by go_num,ha7.out.1,ha7.out.2⟩,by simp[intOf];omega⟩
  obtain rfl:k=b.phis.length:=by omega
  rw[List.take_length]at HO
  have HOp:=q7 HO.out
  have HLp:=q7 HL.out
  clear HO HL
  obtain⟨W1,hW1⟩:∃W1,W1=wr:=⟨_,rfl⟩
  rw[←hW1]
  rw[←hW1]at HOp HB HBw hsz
  have HB1:=q7 HBw.out
  have hhB:=q7 HB.out
  obtain⟨Sp,hSp⟩:∃Sp,Sp=S:=⟨_,rfl⟩
  rw[←hSp]at HOp HLp
  have hu1:=qd hhB.out (k:=w.heap.size) (by omega) HA.out
  have k1c:W1.cell? ⟨w.heap.size,1,none⟩=some (.slice q2 b.list.length e2):=(blk hu1).1 1
  have zz1:w.heap.size<W1.heap.size:=by omega
  clear HB HBw hW1 hSp hu1
  go_wp2_with fail
  go_loopw [6,28] (fun v i wr=>∃k:Nat,k≤b.list.length∧i = .int .i64 k∧(∃S,SlO 53 8 InsO wr v (b.list.take k) S∧LoB W1.heap.size S)∧Below W1.heap.size W1 wr) (fun _ i _=>b.list.length - (intOf i).toNat)
  case atStart=>exact⟨0,by omega,rfl,⟨fun _=>False,SlO.nil _ _ _ _ (fun _ h=>h.elim),fun _ h=>h.elim⟩,Below.refl _ _⟩
  case round=>
   obtain⟨k,hk,rfl,⟨S,hO,hL⟩,hb⟩:=hrel
   obtain⟨vpB,vcB,hv,_⟩:=hO.val
   rw[List.length_take_of_le hk]at hv
   subst hv
   have HO:=q7 hO
   have HL:=q7 hL
   have HB:=q7 hb
   have hsz:=hb.size
   have HBw:Hid (Below w.heap.size w wr):=HB1.out.trans (hb.mono (by omega))
   clear hO hL hb
   by_cases hlt:k<b.list.length
   ·obtain⟨bp,op,cs,hp,_,hc,pv,rfl,hd1,hd2,hd3,hd4,hd5,hs⟩:=HI.out.get hlt
    subst hp
    obtain⟨q,c,rfl,hq0,_,hql,hqs⟩:=hs
    have hc0:=hc 0 (by omega)
    have hc1:=hc 1 (by omega)
    have hc2:=hc 2 (by omega)
    have hc3:=hc 3 (by omega)
    have hc4:=hc 4 (by omega)
    have hc5:=hc 5 (by omega)
    have hc6:=hc 6 (by omega)
    have hc7:=hc 7 (by omega)
    have hbp:=q8 hc0
    have c0:=(HBw.out.cell (p:=⟨bp,_,none⟩) hbp).trans hc0
    have c1:=(HBw.out.cell (p:=⟨bp,_,none⟩) hbp).trans hc1
    have c2:=(HBw.out.cell (p:=⟨bp,_,none⟩) hbp).trans hc2
    have c3:=(HBw.out.cell (p:=⟨bp,_,none⟩) hbp).trans hc3
    have c4:=(HBw.out.cell (p:=⟨bp,_,none⟩) hbp).trans hc4
    have c5:=(HBw.out.cell (p:=⟨bp,_,none⟩) hbp).trans hc5
    have c6:=(HBw.out.cell (p:=⟨bp,_,none⟩) hbp).trans hc6
    have c7:=(HBw.out.cell (p:=⟨bp,_,none⟩) hbp).trans hc7
    simp only[List.getElem?_cons_zero,List.getElem?_cons_succ,Nat.add_zero]at c0 c1 c2 c3 c4 c5 c6 c7
    have HQ0:=q7 hq0
    have HQl:=q7 hql
    have HQs:=q7 hqs
    have HD:=q7 (And.intro hd1 (And.intro hd2 (And.intro hd3 (And.intro hd4 hd5))))
    clear hc hc0 hc1 hc2 hc3 hc4 hc5 hc6 hc7 hq0 hql hqs hd1 hd2 hd3 hd4 hd5
    go_wp2_with fail
    refine(vy b.list[k].args q c _ (HQs.out.mono (HBw.out.trans bZ) (by omega) fun _ _ g=>g) HQ0.out HQl.out).mono ?_
    rintro e w5 ⟨p',c',rfl,⟨S2,hS2,hL2⟩,hb5⟩
    have hr5:Below wr.heap.size wr w5:=Below.trans bZ (hb5.mono (by simp))
    have hu:=qd hb5 (k:=wr.heap.size) (by simp) (qr wr _)
    obtain⟨hu0,hu1⟩:=blk hu
    have zu:=(Array.getElem?_eq_some_iff.1 hu).1
    have hN5:¬ S wr.heap.size:=fun h=>by have:=HO.out.inb _ h;omega
    have hL2':∀k,S2 k→wr.heap.size+1≤k:=fun k h=>by have:=hL2 k h;simpa using this
    have hN2:¬ S2 wr.heap.size:=fun h=>by have:=hL2' _ h;omega
    have HO5:=q7 (HO.out.below qH hr5)
    have HS2:=q7 hS2
    have HL2:=q7 hL2'
    have HR5:=q7 hr5
    have HNN:=q7 (And.intro hN5 hN2)
    have hep:=hr5.size
    clear hb5 hr5 hu hS2 hL2 hL2' hN5 hN2
    go_wp2_with (at_builtin;refine qD _ rfl _ _ 41 rfl 53 iI _ 8 80 Tryz.underlying41 l1 l2 l3 l4 rfl (by decide) qH rfl (HO5.out.set_alloc qH HNN.out.1 _ _) ⟨w5.heap.size,0,none⟩ 1 [.int .i64 b.list[k].op,.int .i64 b.list[k].dst,.bool b.list[k].ar,.int .i64 b.list[k].an,.bool b.list[k].br,.int .i64 b.list[k].bn,.int .i64 b.list[k].fn,.slice p' b.list[k].args.length c'] b.list[k] rfl rfl ?hn ?ho (T:=S2) ⟨_,rfl,HD.out.1,HD.out.2.1,HD.out.2.2.1,HD.out.2.2.2.1,HD.out.2.2.2.2,HS2.out.set_alloc zT HNN.out.2 _ _⟩ ?ha ?ht ?hm ?hb ?_)
    case hn=>exact qS _ _ _ (by simp[World.setCell])
    case ho=>intro u hu;simp only[List.mem_cons,List.not_mem_nil,or_false]at hu;rcases hu with rfl|rfl|rfl|rfl|rfl|rfl|rfl|rfl<;>rfl
    case ha=>exact fun k h1 h2=>by have:=HO.out.inb k h1;have:=HL2.out k h2;omega
    case ht=>exact HS2.out.sl.inb.set_alloc _ _ _
    case hm=>unfold maxLen;simp;omega
    case hb=>simp;omega
    intro v2 w8 ⟨S',hO8,hsub,hK⟩
    have hrel:(∃S,SlO 53 8 InsO w8 v2 (b.list.take (k+1)) S∧LoB W1.heap.size S)∧Below W1.heap.size W1 w8:=by
     refine⟨⟨S',by first|exact hO8|(rw[List.take_succ_eq_append_getElem hlt];exact hO8),fun k hk=>?_⟩,?_⟩
     ·rcases hsub k hk with h|h|h
      ·exact HL.out k h
      ·have:=HL2.out k h;omega
      simp[World.setCell]at h;omega
     refine(((HB.out.trans (HR5.out.mono hsz)).setCell hsz _).alloc (by simp[World.setCell];omega) _).trans (hK.below (by simp[World.setCell];omega) HL.out)
    have ha7:=q7 hrel
    clear hO8 hsub hK hrel
    go_wp2_with fail
    exact⟨⟨k+1,by omega,by go_num,ha7.out.1,ha7.out.2⟩,by simp[intOf];omega⟩
   obtain rfl:k=b.list.length:=by omega
   rw[List.take_length]at HO
   have HOl:=q7 HO.out
   have HLl:=q7 HL.out
   clear HO HL
   obtain⟨W2,hW2⟩:∃W2,W2=wr:=⟨_,rfl⟩
   rw[←hW2]
   rw[←hW2]at HOl HB HBw hsz
   obtain⟨Sl,hSl⟩:∃Sl,Sl=S:=⟨_,rfl⟩
   rw[←hSl]at HOl HLl
   have het:=q7 HB.out
   have hA2:=qd HB.out (k:=w.heap.size) (by omega) (qd hhB.out (k:=w.heap.size) (by omega) HA.out)
   have hZ2:=qd HB.out (k:=w.heap.size+1) (by omega) (qd hhB.out (k:=w.heap.size+1) (by omega) HZ.out)
   obtain⟨ka,fa⟩:=blk hA2
   have kc0:W2.cell? ⟨w.heap.size,0,none⟩=some (.slice q1 b.phis.length e1):=ka 0
   have kc1:W2.cell? ⟨w.heap.size,1,none⟩=some (.slice q2 b.list.length e2):=ka 1
   have kc5:W2.cell? ⟨w.heap.size,5,none⟩=some (.slice q3 b.fin.to.length e3):=ka 5
   have HA2:=q7 hA2
   have HZ2:=q7 hZ2
   have zz2:w.heap.size<W2.heap.size:=by omega
   have zz3:w.heap.size+1<W2.heap.size:=by omega
   clear HB hW2 hSl hA2 hZ2 ka k1c zz1
   go_wp2_with fail
   obtain⟨W3,hW3⟩:∃W3,W3=(W2.setCell ⟨w.heap.size,0,none⟩ (.slice vpA b.phis.length vcA)).setCell ⟨w.heap.size,1,none⟩ (.slice vpB b.list.length vcB):=⟨_,rfl⟩
   rw[←hW3]
   have hA3:W3.heap[w.heap.size]?=some (.cells #[.slice vpA b.phis.length vcA,.slice vpB b.list.length vcB,.int .i64 b.fin.kind,.bool b.fin.onr,.int .i64 b.fin.onn,.slice q3 b.fin.to.length e3] 48 (0,0)):=by
    rw[hW3,qg (qg HA2.out 0 _) 1 _]
    rfl
   have hO3:∀k,k≠w.heap.size→W3.heap[k]?=W2.heap[k]?:=fun k hk=>by
    rw[hW3]
    exact(Go.Deep.blk_setCell_other _ ⟨w.heap.size,1,none⟩ _ k hk).trans (Go.Deep.blk_setCell_other _ ⟨w.heap.size,0,none⟩ _ k hk)
   have hs3:W3.heap.size=W2.heap.size:=by rw[hW3,Go.Deep.nblk_setCell,Go.Deep.nblk_setCell]
   have hB3:Below w.heap.size w W3:=by rw[hW3];exact(HBw.out.setCell (Nat.le_refl _) _).setCell (Nat.le_refl _) _
   obtain⟨q3',e3',hq3,hqn,_,hql,hqs⟩:=HT.out
   cases hq3
   have HO3:=q7 hO3
   have HB3:=q7 hB3
   have HA3:=q7 hA3
   have HQn:=q7 hqn
   have HQl:=q7 hql
   have HQs:=q7 hqs
   clear hO3 hB3 hA3 hqn hql hqs hW3 kc0 kc1 kc5 fa HT
   refine(vB b.fin.to q3 e3 W3 (HQs.out.mono HB3.out (by omega) fun _ _ g=>g) HQn.out HQl.out).mono ?_
   rintro e w9 ⟨p3,c3,rfl,⟨S3,hS3,hL3⟩,hb9⟩
   have hA9:=qd hb9 (k:=w.heap.size) (by omega) HA3.out
   have hZ9:=qd hb9 (k:=w.heap.size+1) (by omega) ((HO3.out (w.heap.size+1) (by omega)).trans HZ2.out)
   obtain⟨ka,fa⟩:=blk hA9
   obtain⟨kz,fz⟩:=blk hZ9
   have zz4:=(Array.getElem?_eq_some_iff.1 hA9).1
   have zz5:=(Array.getElem?_eq_some_iff.1 hZ9).1
   have HA9:=q7 hA9
   have HZ9:=q7 hZ9
   have HS3:=q7 hS3
   have HL3:=q7 hL3
   have HB9:=q7 hb9
   clear hA9 hZ9 hS3 hL3 hb9
   go_wp2_with fail
   obtain⟨WF,hWF⟩:∃WF,WF=((((((w9.setCell ⟨w.heap.size,5,none⟩ (.slice p3 b.fin.to.length c3)).setCell ⟨w.heap.size+1,0,none⟩ (.slice vpA b.phis.length vcA)).setCell ⟨w.heap.size+1,1,none⟩ (.slice vpB b.list.length vcB)).setCell ⟨w.heap.size+1,2,none⟩ (.int .i64 b.fin.kind)).setCell ⟨w.heap.size+1,3,none⟩ (.bool b.fin.onr)).setCell ⟨w.heap.size+1,4,none⟩ (.int .i64 b.fin.onn)).setCell ⟨w.heap.size+1,5,none⟩ (.slice p3 b.fin.to.length c3):=⟨_,rfl⟩
   rw[←hWF]
   have hF1:WF.heap[w.heap.size+1]?=some (.cells #[.slice vpA b.phis.length vcA,.slice vpB b.list.length vcB,.int .i64 b.fin.kind,.bool b.fin.onr,.int .i64 b.fin.onn,.slice p3 b.fin.to.length c3] 48 (0,0)):=by
    rw[hWF,qg (qg (qg (qg (qg (qg ((Go.Deep.blk_setCell_other w9 ⟨w.heap.size,5,none⟩ _ (w.heap.size+1) (fun e=>by have e2:w.heap.size+1=w.heap.size:=e;omega)).trans HZ9.out) 0 _) 1 _) 2 _) 3 _) 4 _) 5 _]
    rfl
   have hFo:∀k,k≠w.heap.size→k≠w.heap.size+1→WF.heap[k]?=w9.heap[k]?:=fun k h1 h2=>by
    rw[hWF]
    repeat rw[Go.Deep.blk_setCell_other _ _ _ _ (by assumption)]
   have hFs:WF.heap.size=w9.heap.size:=by rw[hWF];simp[World.setCell]
   have hFb:Below w.heap.size w9 WF:=by
    rw[hWF]
    exact bZ
   have hz9:=HB9.out.size
   have hoV:=het.out.size
   have k0:=(blk hF1).1 0
   have k1':=(blk hF1).1 1
   have k2':=(blk hF1).1 2
   have k3':=(blk hF1).1 3
   have k4':=(blk hF1).1 4
   have k5':=(blk hF1).1 5
   clear hWF
   refine bodyPost_ret (v:=.agg #[.slice vpA b.phis.length vcA,.slice vpB b.list.length vcB,.int .i64 b.fin.kind,.bool b.fin.onr,.int .i64 b.fin.onn,.slice p3 b.fin.to.length c3]) ?_ rfl ⟨⟨vpA,vcA,vpB,vcB,p3,c3,rfl,fun k=>Sp k∨Sl k∨S3 k,?_,?_⟩,?_⟩
   ·simp[results,Tryz.results78,go_sem,k0,k1',k2',k3',k4',k5']
   ·have f29:∀k,w.heap.size+1<k→k<W2.heap.size→WF.heap[k]?=W2.heap[k]?:=fun k h1 h2=>(hFo k (by omega) (by omega)).trans ((HB9.out.block k (by omega)).trans (HO3.out k (by omega)))
    have hOp:=(HOp.out.below zq het.out).loc (w':=WF) zq (fun k hk=>f29 k (by have:=HLp.out k hk;omega) (by have:=HOp.out.inb k hk;omega)) (by omega)
    have hOl:=HOl.out.loc (w':=WF) qH (fun k hk=>f29 k (by have:=HLl.out k hk;omega) (HOl.out.inb k hk)) (by omega)
    have hO3:=HS3.out.sl.loc (w':=WF) qT (fun k hk=>hFo k (by have:=HL3.out k hk;omega) (by have:=HL3.out k hk;omega)) (by omega)
    refine⟨_,_,_,Sp,Sl,S3,rfl,HI1.out,HI2.out,⟨hOp,HBd.out.1⟩,⟨hOl,HBd.out.2.1⟩,⟨hO3,HBd.out.2.2⟩,fun k a c=>?_,fun k a c=>?_,fun k a c=>?_,fun _ h=>.inl h,fun _ h=>.inr (.inl h),fun _ h=>.inr (.inr h)⟩
    ·have:=HOp.out.inb k a;have:=HLl.out k c;omega
    ·have:=HOp.out.inb k a;have:=HL3.out k c;omega
    have:=HOl.out.inb k a;have:=HL3.out k c;omega
   ·rintro k (h|h|h)
    ·have:=HLp.out k h;omega
    ·have:=HLl.out k h;omega
    have:=HL3.out k h;omega
   exact(HB3.out.trans (HB9.out.mono (by omega))).trans hFb
end Go.Proofs.YtecdphhdmjmmnaaGreatDoor
namespace Go.Proofs.YtecdphhdmjmmnaaGreatDoor
open Go.RowKit Go.Shelf
attribute [local go_sem] Oper.semAt_some

def allIns (f:FunL):List InsL:=f.blocks.flatMap fun b=>b.list
end Go.Proofs.YtecdphhdmjmmnaaGreatDoor
