/-
  Plain: a function whose blocks are put into their order (zi): its graph, its order.
-/
import Derived.Test.YtgjjhadbjmcnpaaGreatDoorJDomA
namespace Go.Proofs.YtgjjhadbjmcnpaaGreatDoor

def upN (u:Nat→Int) (c:Nat):Nat:=(u c).toNat
def mkN (u:Nat→Int) (c:Nat):Prop:=0≤u c
def XT (u:Nat→Int) (c:Nat) (m:Int) (a:Nat):Int:=if a=c then m else u a
def QE (u:Nat→Int) (pl:Nat→Nat) (b:Int) (p:Nat):Int:=
 if u p<0 then b else if b<0 then (p:Int) else (Jl (upN u) pl (pl b.toNat+pl p+1) b.toNat p:Nat)
def Xs (u:Nat→Int) (pl:Nat→Nat) (l:List Nat):Int:=l.foldl (QE u pl) (-1)

section
variable {R : Nat → Prop} {pl : Nat → Nat} {u : Nat → Int}

structure BestTo (u:Nat→Int) (b:Int) (l:List Nat) (r:Int):Prop where
 made:0≤r∧mkN u r.toNat
 had:0≤b→Ch (upN u) b.toNat r.toNat
 on:∀p∈l,mkN u p→Ch (upN u) p r.toNat
 all:∀x,(0≤b→Ch (upN u) b.toNat x)→(∀p∈l,mkN u p→Ch (upN u) p x)→Ch (upN u) r.toNat x

theorem DomI.bests (h:DomI R pl (mkN u) (upN u)):∀(l:List Nat) (b:Int),(0≤b→mkN u b.toNat)→(0≤b∨∃p∈l,mkN u p)→BestTo u b l (l.foldl (QE u pl) b)
 | [],b,hb,hor=>by
  have h0:0≤b:=hor.resolve_right (by simp)
  exact ⟨⟨h0,hb h0⟩,fun _=>.refl _,(by simp),fun x hx _=>hx h0⟩
 | p::l,b,hb,hor=>by
  show BestTo u b (p::l) (l.foldl (QE u pl) (QE u pl b p))
  by_cases hp:u p<0
  ·have e:QE u pl b p=b:=by unfold QE;rw [if_pos hp]
   have np:¬ mkN u p:=fun hm=>by unfold mkN at hm;omega
   rw [e]
   have ih:=h.bests l b hb (by
    rcases hor with h0|⟨q,hq,hm⟩
    ·exact .inl h0
    rcases List.mem_cons.1 hq with e|hq
    ·subst e;exact absurd hm np
    exact .inr ⟨q,hq,hm⟩)
   refine ⟨ih.made,ih.had,fun q hq hm=>?_,fun x h1 h2=>ih.all x h1 fun q hq=>h2 q (List.mem_cons_of_mem _ hq)⟩
   rcases List.mem_cons.1 hq with e|hq
   ·subst e;exact absurd hm np
   exact ih.on q hq hm
  have hm:mkN u p:=by unfold mkN;omega
  by_cases h0:b<0
  ·have e:QE u pl b p=(p:Int):=by unfold QE;rw [if_neg hp,if_pos h0]
   rw [e]
   have ih:=h.bests l (p:Int) (fun _=>hm) (.inl (by omega))
   refine ⟨ih.made,fun hb0=>by omega,fun q hq hmq=>?_,fun x _ h2=>ih.all x (fun _=>h2 p List.mem_cons_self hm) fun q hq=>h2 q (List.mem_cons_of_mem _ hq)⟩
   rcases List.mem_cons.1 hq with e|hq
   ·subst e;exact ih.had (by omega)
   exact ih.on q hq hmq
  have hb0:0≤b:=by omega
  have hmb:=hb hb0
  have hbJ:=h.meet (pl b.toNat+pl p+1) b.toNat p (by omega) hmb hm
  have e:QE u pl b p=((Jl (upN u) pl (pl b.toNat+pl p+1) b.toNat p:Nat):Int):=by unfold QE;rw [if_neg hp,if_neg h0]
  rw [e]
  generalize Jl (upN u) pl (pl b.toNat+pl p+1) b.toNat p=m at hbJ
  have hmm:=(h.ch hbJ.right hm).1
  have ih:=h.bests l (m:Int) (fun _=>hmm) (.inl (by omega))
  have hh:Ch (upN u) m (l.foldl (QE u pl) (m:Int)).toNat:=ih.had (by omega)
  refine ⟨ih.made,fun _=>hbJ.left.trans hh,fun q hq hmq=>?_,fun x h1 h2=>ih.all x (fun _=>hbJ.all x (h1 hb0) (h2 p List.mem_cons_self hm)) fun q hq=>h2 q (List.mem_cons_of_mem _ hq)⟩
  rcases List.mem_cons.1 hq with e|hq
  ·subst e;exact hbJ.right.trans hh
  exact ih.on q hq hmq

variable {ins : Nat → List Nat} {par : Nat → Nat} {j : Nat}
theorem DomJ.best (h:DomJ R pl ins par j (mkN u) (upN u)) {c:Nat} (hR:R c) (hj:pl c=j) (h0:c≠0) :
  ∃m:Nat,Xs u pl (ins c)=(m:Int)∧BestOf ins (mkN u) (upN u) c m∧mkN u m∧pl m<pl c:=by
 obtain ⟨q1,q2,q3⟩:=h.parIn c hR h0
 have hp:mkN u (par c):=h.past _ q2 (by omega)
 have hb:=h.bests (ins c) (-1) (fun hn=>by omega) (.inr ⟨_,q1,hp⟩)
 refine ⟨(Xs u pl (ins c)).toNat,?_,⟨hb.on,fun x hx=>hb.all x (fun hn=>by omega) hx⟩,hb.made.2,?_⟩
 ·have:=hb.made.1
  unfold Xs
  omega
 have:=(h.ch (hb.on _ q1 hp) hp).2
 unfold Xs
 omega

def ZI (pl:Nat→Nat) (n:Nat) (u:Nat→Int) (c:Nat):Nat:=if u c<0 then n else pl (u c).toNat
def Q4 (pl:Nat→Nat) (n:Nat) (l:List Nat) (u:Nat→Int):Nat:=(l.map (ZI pl n u)).sum

theorem vU {n c a:Nat} {m:Int} (h:a≠c):ZI pl n (XT u c m) a=ZI pl n u a:=by
 unfold ZI XT;simp [h]
theorem kt {n c:Nat} {m:Nat}:ZI pl n (XT u c (m:Int)) c=pl m:=by
 unfold ZI XT
 rw [if_pos rfl,if_neg (by omega)]
 rfl
theorem V2 {n c m:Nat} (hle:pl m≤ZI pl n u c):∀l:List Nat,Q4 pl n l (XT u c (m:Int))≤Q4 pl n l u
 | []=>Nat.le_refl _
 | a::l=>by
  have ih:=V2 hle l
  unfold Q4 at ih ⊢
  simp only [List.map_cons,List.sum_cons]
  by_cases e:a=c
  ·subst e;rw [kt];omega
  rw [vU e];omega
theorem V3 {n c m:Nat} (hle:pl m<ZI pl n u c):∀l:List Nat,c∈l→Q4 pl n l (XT u c (m:Int))<Q4 pl n l u
 | [],hc=>by cases hc
 | a::l,hc=>by
  have ih0:=V2 (Nat.le_of_lt hle) l
  have ih:c∈l→_:=V3 hle l
  unfold Q4 at ih ih0 ⊢
  simp only [List.map_cons,List.sum_cons]
  by_cases e:a=c
  ·subst e;rw [kt];omega
  rw [vU e]
  have:=ih ((List.mem_cons.1 hc).resolve_left (fun h=>e h.symm))
  omega

theorem DomJ.falls {n:Nat} (h:DomJ R pl ins par j (mkN u) (upN u)) (hn:∀c,R c→pl c<n) {c m:Nat} (hR:R c) (hj:pl c=j) (h0:c≠0) (hb:BestOf ins (mkN u) (upN u) c m) (hlt:pl m<pl c) (hne:u c≠(m:Int)) (l:List Nat) (hc:c∈l) :
  Q4 pl n l (XT u c (m:Int))<Q4 pl n l u:=by
 refine V3 ?_ l hc
 unfold ZI
 by_cases hu:u c<0
 ·rw [if_pos hu]
  have:=hn c hR
  omega
 rw [if_neg hu]
 have hm:mkN u c:=by unfold mkN;omega
 refine h.chLess (h.mkUp _ hm) (h.rise hj h0 hb hm) fun e=>hne ?_
 unfold upN at e
 omega

theorem mkN_put {c:Nat} {m:Nat}:mkN (XT u c (m:Int))=fun a=>a=c∨mkN u a:=by
 funext a
 unfold mkN XT
 by_cases e:a=c
 ·simp [e]
 simp [e]
theorem upN_put {c:Nat} {m:Nat}:upN (XT u c (m:Int))=QZ (upN u) c m:=by
 funext a
 unfold upN XT QZ
 by_cases e:a=c<;>simp [e]
theorem DomJ.turnI (h:DomJ R pl ins par j (mkN u) (upN u)) {c m:Nat} (hR:R c) (hj:pl c=j) (h0:c≠0) (hb:BestOf ins (mkN u) (upN u) c m) :
  DomJ R pl ins par (j+1) (mkN (XT u c (m:Int))) (upN (XT u c (m:Int))):=by
 rw [mkN_put,upN_put]
 exact h.turn hR hj h0 hb
theorem putI_same {c:Nat}:XT u c (u c)=u:=by
 funext a
 unfold XT
 by_cases e:a=c<;>simp [e]
end

theorem Beh.at {tos:Nat→List Int} {P:Nat→Prop}:∀{l:List Nat},Beh tos P l→∀i (h:i<l.length),P l[i]∨∃j,∃h2:j<l.length,i<j∧(l[i]:Int)∈tos l[j]
 | [],_,i,h=>by simp at h
 | x::l,hB,0,h=>by
  rcases hB.1 with g|⟨p,hp,e⟩
  ·exact .inl g
  obtain ⟨k,hk,rfl⟩:=List.getElem_of_mem hp
  exact .inr ⟨k+1,by simp;omega,by omega,by simpa using e⟩
 | x::l,hB,i+1,h=>by
  rcases hB.2.at i (by simpa using h) with g|⟨j,hj,hl,e⟩
  ·exact .inl (by simpa using g)
  exact .inr ⟨j+1,by simp;omega,by omega,by simpa using e⟩

def plN (o:List Nat) (b:Nat):Nat:=if b∈o then o.idxOf b else 0
theorem v6 {o:List Nat} (ho:o.Nodup) {i:Nat} (h:i<o.length):plN o o[i]=i:=by
 unfold plN
 rw [if_pos (List.getElem_mem h)]
 exact ho.idxOf_getElem i h

structure OrdOk (bs:List BlkL) (o:List Nat):Prop where
 ints:jb bs=o.map fun (x:Nat)=>(x:Int)
 once:o.Nodup
 root:∃l,o=0::l
 inb:∀x∈o,x<bs.length
 par:∀i (h:i<o.length),o[i]≠0→∃j,∃h2:j<o.length,j<i∧(o[i]:Int)∈tosB bs o[j]

theorem orderB_ok {bs:List BlkL} (h0:0<bs.length) (hT:∀b,b<bs.length→∀x∈tosB bs b,0≤x∧x<(bs.length:Int)):∃o,OrdOk bs o:=by
 obtain ⟨l,h1,h2,h3,h4⟩:=postL_is h0 hT
 refine ⟨(l++[0]).reverse,by unfold jb;rw [h1,List.map_reverse],by unfold List.Nodup;exact List.pairwise_reverse.2 (h2.imp fun h=>Ne.symm h),⟨l.reverse,by simp⟩,fun x hx=>h3 x (List.mem_reverse.1 hx),fun i h hne=>?_⟩
 rw [List.length_reverse] at h
 have e:∀k (hk:k<(l++[0]).length) (hk2:k<(l++[0]).reverse.length),(l++[0]).reverse[k]=(l++[0])[(l++[0]).length - 1 - k]:=fun k hk hk2=>List.getElem_reverse _
 rw [e i h] at hne
 rcases h4.at ((l++[0]).length - 1 - i) (by omega) with g|⟨j,hj,hl,g⟩
 ·exact absurd g hne
 refine ⟨(l++[0]).length - 1 - j,by rw [List.length_reverse];omega,by omega,?_⟩
 rw [e i h,e _ (by omega)]
 have e2:(l++[0]).length - 1 - ((l++[0]).length - 1 - j)=j:=by omega
 simp only [e2]
 exact g

theorem OrdOk.start {bs:List BlkL} {o:List Nat} (h:OrdOk bs o) (ins:Nat→List Nat) (hins:∀(b c:Nat),b<bs.length→(c:Int)∈tosB bs b→b∈ins c) {up:Nat→Nat} (hu:up 0=0) :
  ∃par,DomJ (fun b=>b∈o) (plN o) ins par 1 (fun a=>a=0) up:=by
 obtain ⟨l,hl⟩:=h.root
 have h0:0∈o:=by rw [hl];simp
 have hay:∀c,∃p,c∈o→c≠0→p∈ins c∧p∈o∧plN o p<plN o c:=fun c=>by
  by_cases hc:c∈o
  ·obtain ⟨i,hi,rfl⟩:=List.getElem_of_mem hc
   by_cases hne:o[i]=0
   ·exact ⟨0,fun _ g=>absurd hne g⟩
   obtain ⟨j,hj,hlt,e⟩:=h.par i hi hne
   exact ⟨o[j],fun _ _=>⟨hins _ _ (h.inb _ (List.getElem_mem hj)) e,List.getElem_mem hj,by rw [v6 h.once hi,v6 h.once hj];exact hlt⟩⟩
  exact ⟨0,fun g=>absurd g hc⟩
 refine ⟨fun c=>(hay c).choose,DomJ.start (fun a b ha hb e=>?_) h0 ?_ (fun c hc hne=>(hay c).choose_spec hc hne) hu⟩
 ·obtain ⟨i,hi,rfl⟩:=List.getElem_of_mem ha
  obtain ⟨j,hj,rfl⟩:=List.getElem_of_mem hb
  rw [v6 h.once hi,v6 h.once hj] at e
  subst e;rfl
 have:=v6 h.once (i:=0) (by rw [hl];simp)
 simpa [hl] using this

def VJ (pl:Nat→Nat) (ins:Nat→List Nat) (u:Nat→Int) (c:Nat):Nat→Int:=XT u c (Xs u pl (ins c))
def vV (pl:Nat→Nat) (ins:Nat→List Nat) (o:List Nat) (u:Nat→Int):Nat→Nat→Int
 | 0=>u
 | 1=>u
 | i+2=>VJ pl ins (vV pl ins o u (i+1)) (o.getD (i+1) 0)

variable {bs : List BlkL} {o : List Nat} {ins : Nat → List Nat} {par : Nat → Nat} {u : Nat → Int}
theorem OrdOk.round (h:OrdOk bs o) (hJ:DomJ (fun b=>b∈o) (plN o) ins par 1 (mkN u) (upN u)):∀i,i+1≤o.length→
  DomJ (fun b=>b∈o) (plN o) ins par (i+1) (mkN (vV (plN o) ins o u (i+1))) (upN (vV (plN o) ins o u (i+1)))∧
   (vV (plN o) ins o u (i+1)=u∨Q4 (plN o) o.length o (vV (plN o) ins o u (i+1))<Q4 (plN o) o.length o u)
 | 0,_=>⟨hJ,.inl rfl⟩
 | i+1,hi=>by
  obtain ⟨h1,h2⟩:=h.round hJ i (by omega)
  have hlt:i+1<o.length:=by omega
  have hg:o.getD (i+1) 0=o[i+1]:=by
   rw [List.getD_eq_getElem?_getD,List.getElem?_eq_getElem hlt];rfl
  have hc:o[i+1]∈o:=List.getElem_mem hlt
  have hp:=v6 h.once hlt
  have h0:o[i+1]≠0:=fun e=>by
   obtain ⟨l,hl⟩:=h.root
   have hz:=v6 h.once (i:=0) (by omega)
   have e0:o[0]'(by omega)=0:=by simp [hl]
   rw [e0] at hz
   rw [e] at hp
   omega
  show DomJ _ _ _ _ (i+1+1) (mkN (VJ (plN o) ins (vV (plN o) ins o u (i+1)) (o.getD (i+1) 0))) (upN (VJ (plN o) ins (vV (plN o) ins o u (i+1)) (o.getD (i+1) 0)))∧
   (VJ (plN o) ins (vV (plN o) ins o u (i+1)) (o.getD (i+1) 0)=u∨Q4 (plN o) o.length o (VJ (plN o) ins (vV (plN o) ins o u (i+1)) (o.getD (i+1) 0))<Q4 (plN o) o.length o u)
  rw [hg]
  unfold VJ
  generalize vV (plN o) ins o u (i+1)=v at *
  obtain ⟨m,hm,hb,_,hml⟩:=h1.best hc hp h0
  rw [hm]
  refine ⟨h1.turnI hc hp h0 hb,?_⟩
  by_cases e:v o[i+1]=(m:Int)
  ·rw [←e,putI_same]
   exact h2
  have h3:=h1.falls (n:=o.length) (fun c hc'=>by
   obtain ⟨k,hk,rfl⟩:=List.getElem_of_mem hc'
   rw [v6 h.once hk];exact hk) hc hp h0 hb hml e o hc
  rcases h2 with h2|h2
  ·rw [h2] at h3 ⊢;exact .inr h3
  exact .inr (Nat.lt_trans h3 h2)

variable {bs : List BlkL} {o : List Nat} {ins : Nat → List Nat} {par : Nat → Nat} {u : Nat → Int}
theorem OrdOk.getD (h:OrdOk bs o) {i:Nat} (hi:i+1<o.length):o.getD (i+1) 0=o[i+1]∧o[i+1]∈o∧plN o o[i+1]=i+1∧o[i+1]≠0∧o[i+1]<bs.length:=by
 have hc:o[i+1]∈o:=List.getElem_mem hi
 have hp:=v6 h.once hi
 refine ⟨by rw [List.getD_eq_getElem?_getD,List.getElem?_eq_getElem hi];rfl,hc,hp,fun e=>?_,h.inb _ hc⟩
 obtain ⟨l,hl⟩:=h.root
 have hz:=v6 h.once (i:=0) (by omega)
 have e0:o[0]'(by omega)=0:=by simp [hl]
 rw [e0] at hz
 rw [e] at hp
 omega
theorem OrdOk.pos (h:OrdOk bs o):0<o.length:=by
 obtain ⟨l,hl⟩:=h.root
 rw [hl];simp
theorem OrdOk.lt (h:OrdOk bs o) {c:Nat} (hc:c∈o):plN o c<o.length:=by
 obtain ⟨k,hk,rfl⟩:=List.getElem_of_mem hc
 rw [v6 h.once hk];exact hk

def jc (bs:List BlkL):List Nat:=(jb bs).map Int.toNat
theorem OrdOk.nats (h:OrdOk bs o):jc bs=o:=by
 unfold jc
 rw [h.ints,List.map_map]
 exact (List.map_congr_left (g:=id) fun x _=>by simp).trans (by simp)
end Go.Proofs.YtgjjhadbjmcnpaaGreatDoor
namespace Go.Proofs.YtgjjhadbjmcnpaaGreatDoor
open Go.RowKit

theorem ChkOk.bodyZ {u:UniL} (h:ChkOk u) {k:Nat} (hk:k<u.funcs.length):jL u u.funcs[k]=0:=(Zu hk).symm.trans (h.body k hk)
theorem Zd {u:UniL} {f:FunL} (h:jL u f=0):qA (f.blocks.map fun b=>JM f b.fin)=0∧qA ((List.range f.blocks.length).map (XY u f))=0:=by
 unfold jL at h
 by_cases e:qA (f.blocks.map fun b=>JM f b.fin)=0
 ·rw [if_pos e] at h;exact ⟨e,h⟩
 rw [if_neg e] at h;exact absurd h e
theorem bodyE_end {u:UniL} {f:FunL} (h:jL u f=0) {b:Nat} (hb:b<f.blocks.length):JM f f.blocks[b].fin=0:=
 xl (Zd h).1 _ (List.mem_map.2 ⟨_,List.getElem_mem hb,rfl⟩)
theorem Xt {u:UniL} {f:FunL} (h:jL u f=0) {b:Nat} (hb:b<f.blocks.length) :
  (∀p∈f.blocks[b].phis,Xd f b (qZ (xr f) b).length p=0)∧∀x∈f.blocks[b].list,insL u f x=0:=by
 have h1:=xl (Zd h).2 (XY u f b) (List.mem_map.2 ⟨b,List.mem_range.2 hb,rfl⟩)
 rw [Qm hb] at h1
 unfold blkE at h1
 by_cases e:qA (f.blocks[b].phis.map (Xd f b (qZ (xr f) b).length))=0
 ·rw [if_pos e] at h1
  exact ⟨fun p hp=>xl e _ (List.mem_map.2 ⟨p,hp,rfl⟩),fun x hx=>xl h1 _ (List.mem_map.2 ⟨x,hx,rfl⟩)⟩
 rw [if_neg e] at h1;exact absurd h1 e
def Q5 (regs:Int) (r:Bool) (n:Int):Prop:=r=true→0≤n∧n<regs
theorem valE_zero {regs:Int} {r:Bool} {n:Int} (h:xd regs r n=0):Q5 regs r n:=by
 intro hr
 unfold xd at h
 by_cases e:r=true∧¬(0≤n∧n≤regs - 1)
 ·rw [if_pos e] at h;cases h
 rcases Decidable.em (0≤n∧n≤regs - 1) with g|g
 ·omega
 exact absurd ⟨hr,g⟩ e
theorem Ze (T:List (List Int)):∀(n i:Nat) (t:Int),i<n→t∈T.getD i []→(t.toNat,i)∈qT T n
 | 0,i,t,h,_=>by omega
 | n+1,i,t,h,ht=>by
  unfold qT
  rcases Nat.lt_or_ge i n with g|g
  ·exact List.mem_append_left _ (Ze T n i t g ht)
  obtain rfl:i=n:=by omega
  exact List.mem_append_right _ (List.mem_map.2 ⟨t,ht,rfl⟩)
theorem rowOf_mem {ps:List (Nat×Nat)} {t i:Nat} (h:(t,i)∈ps):i∈qZ ps t:=by
 unfold qZ
 exact List.mem_map.2 ⟨(t,i),List.mem_filter.2 ⟨h,by simp⟩,rfl⟩
theorem row_mem {f:FunL} {b:Nat} (hb:b<f.blocks.length) {t:Int} (ht:t∈f.blocks[b].fin.to):b∈qZ (xr f) t.toNat:=
 rowOf_mem (Ze _ _ _ _ hb (by rw [vm f b hb];exact ht))

structure FunS (f:FunL):Prop where
 n1:0<f.blocks.length
 n40:f.blocks.length≤40
 two:∀k (h:k<f.blocks.length),f.blocks[k].fin.to.length≤2
 tos:∀k (h:k<f.blocks.length),∀t∈f.blocks[k].fin.to,1≤t∧t<(f.blocks.length:Int)
theorem FunS.tosB {f:FunL} (h:FunS f):∀b,b<f.blocks.length→∀x∈tosB f.blocks b,0≤x∧x<(f.blocks.length:Int):=fun b hb x hx=>by
 rw [zF hb] at hx
 have:=h.tos b hb x hx
 omega
theorem FunS.tosD {f:FunL} (h:FunS f):∀i,i<f.blocks.length→((Q3 f).getD i []).length≤2∧∀t∈(Q3 f).getD i [],1≤t∧t<(f.blocks.length:Int):=fun i hi=>by
 rw [vm f i hi]
 exact ⟨h.two i hi,h.tos i hi⟩
theorem xE:∀(n:Nat) (l:List Nat),l.Nodup→(∀x∈l,x<n)→l.length≤n
 | 0,l,_,h=>by
  cases l with
  | nil=>simp
  | cons x l=>have:=h x List.mem_cons_self;omega
 | n+1,l,hd,h=>by
  by_cases hn:n∈l
  ·have h1:=xE n (l.erase n) (hd.erase n) (fun x hx=>by
    have h2:=hd.mem_erase_iff.1 hx
    have:=h x h2.2
    have:=h2.1
    omega)
   rw [List.length_erase_of_mem hn] at h1
   omega
  have h1:=xE n l hd (fun x hx=>by
   have:=h x hx
   have:x≠n:=fun e=>hn (e ▸ hx)
   omega)
  omega
theorem Xu {T:List (List Int)}:∀{n:Nat} {p:Nat×Nat},p∈qT T n→p.2<n∧∃t∈T.getD p.2 [],p.1=t.toNat
 | 0,p,h=>by unfold qT at h;cases h
 | n+1,p,h=>by
  unfold qT at h
  rcases List.mem_append.1 h with h|h
  ·obtain ⟨h1,h2⟩:=Xu h
   exact ⟨by omega,h2⟩
  obtain ⟨t,ht,rfl⟩:=List.mem_map.1 h
  exact ⟨by simp,t,ht,rfl⟩
theorem row_lt {f:FunL} {c p:Nat} (h:p∈qZ (xr f) c):p<f.blocks.length:=by
 unfold qZ at h
 obtain ⟨q,hq,rfl⟩:=List.mem_map.1 h
 exact (Xu (List.mem_filter.1 hq).1).1
def insN (f:FunL) (c:Nat):List Nat:=qZ (xr f) c
theorem ins_of {f:FunL} (b c:Nat) (hb:b<f.blocks.length) (h:(c:Int)∈tosB f.blocks b):b∈insN f c:=by
 rw [zF hb] at h
 have:=row_mem hb h
 rw [Int.toNat_natCast] at this
 exact this
theorem V4 {f:FunL} (h:FunS f) (c:Nat):(insN f c).length≤80:=by
 have h1:=Qd (xr f) c
 have h2:(xr f).length≤2*f.blocks.length:=ke (Q3 f) _ _ (Nat.le_refl _) (fun i hi=>(h.tosD i hi).1)
 have:=h.n40
 show (qZ _ _).length≤_
 omega
theorem FunS.ord {f:FunL} (h:FunS f):OrdOk f.blocks (jc f.blocks):=by
 obtain ⟨o,ho⟩:=orderB_ok h.n1 h.tosB
 rw [ho.nats]
 exact ho
theorem FunS.ordLen {f:FunL} (h:FunS f):(jc f.blocks).length≤f.blocks.length:=xE _ _ h.ord.once h.ord.inb
theorem FunS.postLen {f:FunL} (h:FunS f):(jZ f.blocks).length≤1000000:=by
 have h1:(jb f.blocks).length=(jc f.blocks).length:=by unfold jc;simp
 have h2:(jb f.blocks).length=(jZ f.blocks).length:=by unfold jb;simp
 have:=h.ordLen
 have:=h.n40
 omega


def qB (o:List Nat) (b:Nat):Int:=if b∈o then (o.idxOf b:Int) else -1
def V5 (at_:Nat→Int) (ah:List Nat) (src:List (Bool×Int)):List (Int×(Bool×Int)):=
 ((ah.zip src).map fun e=>(at_ e.1,e.2)).filter fun e=>decide (0≤e.1)
def sortK (l:List (Int×(Bool×Int))):List (Int×(Bool×Int)):=l.mergeSort fun a b=>decide (a.1≤b.1)
def srcK (at_:Nat→Int) (ah:List Nat) (src:List (Bool×Int)):List (Bool×Int):=(sortK (V5 at_ ah src)).map (·.2)
def endK (at_:Nat→Int) (x:EndL):EndL:={ x with «to»:=x.to.map fun t=>at_ t.toNat }
def blkK (at_:Nat→Int) (ah:List Nat) (x:BlkL):BlkL:=
 { phis:=x.phis.map fun p=>{ p with src:=srcK at_ ah p.src },list:=x.list,fin:=endK at_ x.fin }
def ku:BlkL:=⟨[],[],⟨1,false,0,[]⟩⟩
def atF (f:FunL) (b:Nat):BlkL:=f.blocks.getD b ku
theorem qL {f:FunL} {b:Nat} (h:b<f.blocks.length):atF f b=f.blocks[b]:=by
 unfold atF
 simp [h]
def zi (o:List Nat) (f:FunL):FunL:={ f with blocks:=o.map fun b=>blkK (qB o) (insN f b) (atF f b) }

def Xv (ah:List Nat) (old now:Nat):Nat:=(ah.filter fun a=>decide (a<now∧a≠old)).length
def Q6 (ah:List Nat) (old now:Nat) (src:List (Bool×Int)):List (Bool×Int):=
 ((src.eraseIdx (ah.idxOf old)).take (Xv ah old now))++src.getD (ah.idxOf old) (false,0)::((src.eraseIdx (ah.idxOf old)).drop (Xv ah old now))
def qP (f:FunL) (old now:Nat):FunL:=
 { f with blocks:=f.blocks.mapIdx fun i x=>if (i:Int)∈(atF f old).fin.to then { x with phis:=x.phis.map fun p=>{ p with src:=Q6 (insN f i) old now p.src } } else x }
def x8 (f:FunL) (b t:Nat):FunL:=
 let g:=qP f t b
 { g with blocks:=(g.blocks.set b { phis:=(atF g b).phis,list:=(atF g b).list++(atF g t).list,fin:=(atF g t).fin }).set t ku }
def jq (f:FunL) (b:Nat):Option Nat:=
 let t:=((atF f b).fin.to.getD 0 0).toNat
 if (atF f b).fin.kind=2∧¬(t=b∨0<(atF f t).phis.length∨1<(insN f t).length) then some t else none
def qW:Nat→FunL→Nat→FunL
 | 0,f,_=>f
 | c+1,f,b=>match jq f b with
  | none=>f
  | some t=>qW c (x8 f b t) b
def qQ (f:FunL):FunL:=(List.range f.blocks.length).foldl (fun g b=>qW (f.blocks.length+1) g b) f

abbrev NamS:=(Nat→Int)×Int
def jl (s:NamS) (r:Nat):NamS:=if s.1 r<0 then (fun i=>if i=r then s.2 else s.1 i,s.2+1) else s
def xq (v:Bool×Int):List Nat:=if v.1=true then [v.2.toNat] else []
def vN (x:InsL):List Nat:=xq (x.ar,x.an)++xq (x.br,x.bn)++x.args.flatMap xq
def jg (d:Int):List Nat:=if 0≤d then [d.toNat] else []
def XU (x:BlkL):List Nat:=x.phis.map (fun p=>p.dst.toNat)++x.list.flatMap (fun i=>vN i++jg i.dst)++xq (x.fin.onr,x.fin.onn)
def Z0 (x:BlkL):List Nat:=x.phis.flatMap (fun p=>p.dst.toNat::p.src.flatMap xq)++x.list.flatMap (fun i=>vN i++jg i.dst)++xq (x.fin.onr,x.fin.onn)
def k8 (f:FunL):List Nat:=List.range f.params.toNat++f.blocks.flatMap XU
def Qg (f:FunL):List Nat:=f.blocks.flatMap Z0
def nam0:NamS:=(fun _=>-1,0)
def xK (f:FunL):NamS:=(k8 f++Qg f).foldl jl nam0
def zD (m:Nat→Int) (v:Bool×Int):Bool×Int:=if v.1=true then (true,m v.2.toNat) else v
def xU (m:Nat→Int) (x:InsL):InsL:=
 { x with dst:=if 0≤x.dst then m x.dst.toNat else x.dst,an:=(zD m (x.ar,x.an)).2,bn:=(zD m (x.br,x.bn)).2,args:=x.args.map (zD m) }
def kP (m:Nat→Int) (x:BlkL):BlkL:=
 { phis:=x.phis.map fun p=>{ dst:=m p.dst.toNat,src:=p.src.map (zD m) },list:=x.list.map (xU m),fin:={ x.fin with onn:=(zD m (x.fin.onr,x.fin.onn)).2 } }
def qH (f:FunL):FunL:={ f with regs:=(xK f).2,blocks:=f.blocks.map (kP (xK f).1) }
def jN (f:FunL):FunL:=zi (jc f.blocks) f
def xV (f:FunL):FunL:=qH (jN f)
def doT (f:FunL):FunL:=xV (qQ (jN f))
def largeT (f:FunL):Bool:=decide (40<f.blocks.length∨300<xm f∨100<f.regs)
def qG (u:UniL):UniL:={ u with funcs:=u.funcs.map doT }
structure FunD (f:FunL):Prop extends FunS f where
 once:∀k (h:k<f.blocks.length),(f.blocks[k].fin.to).Nodup

theorem rowWays {T:List (List Int)} {t:Nat} (h0:∀i,∀x∈T.getD i [],0≤x) (h1:∀i,(T.getD i []).Nodup):∀n:Nat,qZ (qT T n) t=(List.range n).filter fun i=>decide ((t:Int)∈T.getD i [])
 | 0=>rfl
 | n+1=>by
  have ih:=rowWays (t:=t) h0 h1 n
  rw [List.range_succ,List.filter_append,←ih]
  show qZ (qT T n++_) t=_
  unfold qZ
  rw [List.filter_append,List.map_append]
  congr 1
  have a0:=h0 n
  have a1:=h1 n
  rw [show ([n].filter fun i=>decide ((t:Int)∈T.getD i []))=if (t:Int)∈T.getD n [] then [n] else [] by by_cases e:(t:Int)∈T.getD n []<;>simp only [List.filter_cons,List.filter_nil,e,decide_true,decide_false,if_true,if_false,Bool.false_eq_true]]
  generalize T.getD n []=l at a0 a1
  have key:∀l:List Int,(∀x∈l,0≤x)→l.Nodup→((l.map fun x=>(x.toNat,n)).filter fun x=>x.1 == t).map (·.2)=if (t:Int)∈l then [n] else []:=by
   intro l
   induction l with
   | nil=>intro _ _;rfl
   | cons x l ih=>
    intro b0 b1
    obtain ⟨c1,c2⟩:=List.nodup_cons.1 b1
    have ih:=ih (fun y hy=>b0 y (.tail _ hy)) c2
    have hx:=b0 x (.head _)
    rw [List.map_cons,List.filter_cons]
    by_cases e:x.toNat=t
    ·have e2:x=(t:Int):=by omega
     subst e2
     rw [if_neg c1] at ih
     simp only [e,beq_self_eq_true,if_true,List.map_cons,ih,List.mem_cons,true_or]
    have e2:(t:Int)≠x:=by omega
    have e3:(x.toNat == t)=false:=by simpa using e
    rw [if_neg (by simp [e3]),ih]
    simp [e2]
  exact key l a0 a1

theorem QF (f:FunL) (i:Nat):(Q3 f).getD i []=tosB f.blocks i:=by
 unfold Q3 tosB
 by_cases h:i<f.blocks.length
 ·simp [h]
 simp [h]
theorem FunD.insN {f:FunL} (h:FunD f) (c:Nat):insN f c=(List.range f.blocks.length).filter fun i=>decide ((c:Int)∈tosB f.blocks i):=by
 have:=rowWays (T:=Q3 f) (t:=c) (fun i x hx=>by
  rw [QF] at hx
  by_cases hi:i<f.blocks.length
  ·exact (h.tosB i hi x hx).1
  ·simp [Go.Proofs.YtgjjhadbjmcnpaaGreatDoor.tosB,hi] at hx) (fun i=>by
  rw [QF]
  by_cases hi:i<f.blocks.length
  ·rw [zF hi];exact h.once i hi
  simp [Go.Proofs.YtgjjhadbjmcnpaaGreatDoor.tosB,hi]) f.blocks.length
 unfold Go.Proofs.YtgjjhadbjmcnpaaGreatDoor.insN xr
 rw [this]
 simp only [QF]
theorem FunD.insD {f:FunL} (h:FunD f) (c:Nat):(Go.Proofs.YtgjjhadbjmcnpaaGreatDoor.insN f c).Nodup:=by
 rw [h.insN]
 exact List.nodup_range.filter _
theorem FunD.mem {f:FunL} (h:FunD f) {c b:Nat}:b∈Go.Proofs.YtgjjhadbjmcnpaaGreatDoor.insN f c↔b<f.blocks.length∧(c:Int)∈tosB f.blocks b:=by
 rw [h.insN,List.mem_filter,List.mem_range]
 simp

def CloV (tos:Nat→List Int) (s s':PostS):Prop:=(∀x,s.1 x=true→s'.1 x=true)∧∀x,s'.1 x=true→s.1 x=true∨∀t∈tos x,s'.1 t.toNat=true
theorem CloV.refl (tos:Nat→List Int) (s:PostS):CloV tos s s:=⟨fun _ h=>h,fun _ h=>.inl h⟩
theorem CloV.trans {tos:Nat→List Int} {a b c:PostS} (h:CloV tos a b) (k:CloV tos b c):CloV tos a c:=
 ⟨fun x e=>k.1 x (h.1 x e),fun x e=>(k.2 x e).elim (fun e=>(h.2 x e).imp id fun g t ht=>k.1 _ (g t ht)) .inr⟩

theorem visTo_c {n:Nat} {tos:Nat→List Int} {rec:Nat→PostS→PostS} {xs:List Int} (hx:∀x∈xs,0≤x∧x<(n:Int)) {s:PostS}
  (h:∀b s',b<n→s'.1 b=false→xn n s'.1≤xn n s.1→CloV tos s' (rec b s')∧(rec b s').1 b=true):∀i,i≤xs.length→CloV tos s (zY rec xs s i)∧∀j (hj:j<xs.length),xs.length - i≤j→(zY rec xs s i).1 xs[j].toNat=true
 | 0,_=>⟨.refl _ _,fun j hj g=>by omega⟩
 | i+1,hi=>by
  obtain ⟨ih,i2⟩:=visTo_c hx h i (by omega)
  show CloV tos s (zW rec (zY rec xs s i) (xs.getD (xs.length - 1 - i) 0))∧∀j (hj:j<xs.length),_→(zW rec (zY rec xs s i) (xs.getD (xs.length - 1 - i) 0)).1 _=true
  have hk:xs.length - 1 - i<xs.length:=by omega
  have hm:=hx _ (List.getElem_mem hk)
  have hg:xs.getD (xs.length - 1 - i) 0=xs[xs.length - 1 - i]:=by
   rw [List.getD_eq_getElem?_getD,List.getElem?_eq_getElem hk];rfl
  rw [hg]
  unfold zW
  cases e:(zY rec xs s i).1 (xs[xs.length - 1 - i]).toNat
  ·obtain ⟨h1,h2⟩:=h (xs[xs.length - 1 - i]).toNat _ (by omega) e (kO ih.1)
   refine ⟨ih.trans h1,fun j hj g=>?_⟩
   by_cases ej:j=xs.length - 1 - i
   ·subst ej;exact h2
   exact h1.1 _ (i2 j hj (by omega))
  refine ⟨ih,fun j hj g=>?_⟩
  by_cases ej:j=xs.length - 1 - i
  ·subst ej;exact e
  exact i2 j hj (by omega)
theorem visF_c {n:Nat} {tos:Nat→List Int} (hT:∀b,b<n→∀x∈tos b,0≤x∧x<(n:Int)):∀(c b:Nat) (s:PostS),xn n s.1<c→b<n→s.1 b=false→CloV tos s (jy tos c b s)∧(jy tos c b s).1 b=true
 | 0,_,_,h,_,_=>by omega
 | c+1,b,s,hc,hb,hs=>by
  have h1:=jw (n:=n) hb hs
  obtain ⟨h2,h3⟩:=visTo_c (n:=n) (tos:=tos) (rec:=jy tos c) (xs:=tos b) (hT b hb) (s:=xh b s) (fun b' s' hb' h' hle=>visF_c hT c b' s' (by omega) hb' h') (tos b).length (Nat.le_refl _)
  have hb1:(xh b s).1 b=true:=by show (if b=b then true else _)=true;simp
  refine ⟨⟨fun x e=>h2.1 x (ZG e),fun x e=>?_⟩,h2.1 b hb1⟩
  rcases h2.2 x e with g|g
  ·by_cases ex:x=b
   ·subst ex
    refine .inr fun t ht=>?_
    obtain ⟨j,hj,rfl⟩:=List.mem_iff_getElem.1 ht
    exact h3 j hj (by omega)
   have g:(if x=b then true else s.1 x)=true:=g
   rw [if_neg ex] at g
   exact .inl g
  exact .inr g

theorem FunS.closed {f:FunL} (h:FunS f) {b:Nat} (hb:b∈jc f.blocks) {t:Int} (ht:t∈Go.Proofs.YtgjjhadbjmcnpaaGreatDoor.tosB f.blocks b):t.toNat∈jc f.blocks:=by
 obtain ⟨l,hp⟩:=V1 (n:=f.blocks.length) h.tosB (f.blocks.length+1) 0 (fun _=>false,[]) (Nat.lt_succ_of_le (jD _ _)) h.n1 rfl
 obtain ⟨hc,_⟩:=visF_c (n:=f.blocks.length) h.tosB (f.blocks.length+1) 0 (fun _=>false,[]) (Nat.lt_succ_of_le (jD _ _)) h.n1 rfl
 have he:∀x,x∈jc f.blocks↔(jy (Go.Proofs.YtgjjhadbjmcnpaaGreatDoor.tosB f.blocks) (f.blocks.length+1) 0 (fun _=>false,[])).1 x=true:=fun x=>by
  rw [hp.seen x]
  unfold jc jb jZ
  rw [hp.left]
  simp [or_comm]
 rw [he] at hb ⊢
 rcases hc.2 b hb with g|g
 ·cases g
 exact g t ht
/-! ## renamed graphs -/

theorem V6 {n:Nat} {r1 r2:Nat→PostS→PostS} {xs:List Int} (hx:∀x∈xs,0≤x∧x<(n:Int)) {s:PostS}
  (h:∀b s',b<n→s'.1 b=false→xn n s'.1≤xn n s.1→r1 b s'=r2 b s'∧xn n (r1 b s').1≤xn n s'.1):∀i,i≤xs.length→zY r1 xs s i=zY r2 xs s i∧xn n (zY r1 xs s i).1≤xn n s.1
 | 0,_=>⟨rfl,Nat.le_refl _⟩
 | i+1,hi=>by
  obtain ⟨ih,i2⟩:=V6 hx h i (by omega)
  show zW r1 (zY r1 xs s i) (xs.getD (xs.length - 1 - i) 0)=zW r2 (zY r2 xs s i) (xs.getD (xs.length - 1 - i) 0)∧xn n (zW r1 (zY r1 xs s i) (xs.getD (xs.length - 1 - i) 0)).1≤_
  rw [←ih]
  have hk:xs.length - 1 - i<xs.length:=by omega
  have hm:=hx _ (List.getElem_mem hk)
  have hg:xs.getD (xs.length - 1 - i) 0=xs[xs.length - 1 - i]:=by
   rw [List.getD_eq_getElem?_getD,List.getElem?_eq_getElem hk];rfl
  rw [hg]
  unfold zW
  cases e:(zY r1 xs s i).1 (xs[xs.length - 1 - i]).toNat
  ·obtain ⟨h1,h2⟩:=h (xs[xs.length - 1 - i]).toNat _ (by omega) e i2
   exact ⟨h1,Nat.le_trans h2 i2⟩
  exact ⟨rfl,i2⟩
theorem Xw {n:Nat} {tos:Nat→List Int} (hT:∀b,b<n→∀x∈tos b,0≤x∧x<(n:Int)):∀(c d b:Nat) (s:PostS),xn n s.1<c→xn n s.1<d→b<n→s.1 b=false→jy tos c b s=jy tos d b s
 | 0,_,_,_,h,_,_,_=>by omega
 | _+1,0,_,_,_,h,_,_=>by omega
 | c+1,d+1,b,s,hc,hd,hb,hs=>by
  have h1:=jw (n:=n) hb hs
  obtain ⟨h2,_⟩:=V6 (n:=n) (r1:=jy tos c) (r2:=jy tos d) (xs:=tos b) (hT b hb) (s:=xh b s) (fun b' s' hb' h' hle=>⟨Xw hT c d b' s' (by omega) (by omega) hb' h',by
   obtain ⟨l,hl⟩:=V1 hT c b' s' (by omega) hb' h'
   exact hl.up⟩) (tos b).length (Nat.le_refl _)
  show ((zY (jy tos c) (tos b) (xh b s) (tos b).length).1,_)=((zY (jy tos d) (tos b) (xh b s) (tos b).length).1,_)
  rw [h2]

structure IsoV (R:Nat→Prop) (p:Nat→Nat) (s s':PostS):Prop where
 seen:∀x,R x→s'.1 (p x)=s.1 x
 left:s'.2=s.2.map fun x=>(p x.toNat:Int)
theorem Xx {R:Nat→Prop} {p:Nat→Nat} {r1 r2:Nat→PostS→PostS} (hr:∀b a a',R b→IsoV R p a a'→IsoV R p (r1 b a) (r2 (p b) a')) {xs:List Int} (hx:∀x∈xs,R x.toNat) {s s':PostS} (h:IsoV R p s s'):∀i,i≤xs.length→IsoV R p (zY r1 xs s i) (zY r2 (xs.map fun x=>(p x.toNat:Int)) s' i)
 | 0,_=>h
 | i+1,hi=>by
  have ih:=Xx hr hx h i (by omega)
  show IsoV R p (zW r1 _ (xs.getD (xs.length - 1 - i) 0)) (zW r2 _ ((xs.map fun x=>(p x.toNat:Int)).getD ((xs.map fun x=>(p x.toNat:Int)).length - 1 - i) 0))
  have hk:xs.length - 1 - i<xs.length:=by omega
  have hg:xs.getD (xs.length - 1 - i) 0=xs[xs.length - 1 - i]:=by
   rw [List.getD_eq_getElem?_getD,List.getElem?_eq_getElem hk];rfl
  have hg2:(xs.map fun x=>(p x.toNat:Int)).getD ((xs.map fun x=>(p x.toNat:Int)).length - 1 - i) 0=(p (xs[xs.length - 1 - i]).toNat:Int):=by
   rw [List.length_map,List.getD_eq_getElem?_getD,List.getElem?_map,List.getElem?_eq_getElem hk];rfl
  rw [hg,hg2]
  have hR:=hx _ (List.getElem_mem hk)
  unfold zW
  rw [Int.toNat_natCast,ih.seen _ hR]
  split
  ·exact ih
  exact hr _ _ _ hR ih
theorem V7 {R:Nat→Prop} {p:Nat→Nat} {t1 t2:Nat→List Int} (hinj:∀x y,R x→R y→p x=p y→x=y) (hT:∀x,R x→(∀t∈t1 x,R t.toNat)∧t2 (p x)=(t1 x).map fun t=>(p t.toNat:Int)):∀(c b:Nat) (s s':PostS),R b→IsoV R p s s'→IsoV R p (jy t1 c b s) (jy t2 c (p b) s')
 | 0,_,_,_,_,h=>h
 | c+1,b,s,s',hb,h=>by
  have hm:IsoV R p (xh b s) (xh (p b) s'):=⟨fun x hx=>by
   show (if p x=p b then true else s'.1 (p x))=(if x=b then true else s.1 x)
   rw [h.seen x hx]
   by_cases e:x=b
   ·subst e;simp
   rw [if_neg e,if_neg fun g=>e (hinj x b hx hb g)],h.left⟩
  have h2:=Xx (r1:=jy t1 c) (r2:=jy t2 c) (fun b' a a' hb' ha=>V7 hinj hT c b' a a' hb' ha) (hT b hb).1 hm (t1 b).length (Nat.le_refl _)
  have e2:jy t2 (c+1) (p b) s'=((zY (jy t2 c) (t2 (p b)) (xh (p b) s') (t2 (p b)).length).1,(zY (jy t2 c) (t2 (p b)) (xh (p b) s') (t2 (p b)).length).2++[((p b:Nat):Int)]):=rfl
  rw [e2,(hT b hb).2,List.length_map]
  refine ⟨h2.seen,?_⟩
  show _++[((p b:Nat):Int)]=(_++[(b:Int)]).map _
  rw [List.map_append,h2.left]
  simp

structure OrdC (f:FunL) (o:List Nat):Prop where
 once:o.Nodup
 root:∃l,o=0::l
 inb:∀x∈o,x<f.blocks.length
 closed:∀b∈o,∀t∈tosB f.blocks b,t.toNat∈o
theorem FunS.ordC {f:FunL} (h:FunS f):OrdC f (jc f.blocks):=⟨h.ord.once,h.ord.root,h.ord.inb,fun _ hb _ ht=>h.closed hb ht⟩

theorem xp {o:List Nat} {b:Nat} (h:b∈o):qB o b=(o.idxOf b:Int):=by unfold qB;rw [if_pos h]
theorem xx {o:List Nat} {b:Nat} (h:b∈o):∃hi:o.idxOf b<o.length,o[o.idxOf b]=b:=⟨List.idxOf_lt_length_of_mem h,List.getElem_idxOf (List.idxOf_lt_length_of_mem h)⟩
theorem kQ {o:List Nat} {a b:Nat} (ha:a∈o) (hb:b∈o) (e:o.idxOf a=o.idxOf b):a=b:=by
 obtain ⟨h1,e1⟩:=xx ha
 obtain ⟨h2,e2⟩:=xx hb
 rw [←e1,←e2]
 simp only [e]
theorem OrdC.pos {f:FunL} {o:List Nat} (h:OrdC f o):0<o.length∧o.idxOf 0=0∧0∈o:=by
 obtain ⟨l,rfl⟩:=h.root
 simp

theorem zq (o:List Nat) (f:FunL):(zi o f).blocks.length=o.length:=by simp [zi]
theorem QG (o:List Nat) (f:FunL) {i:Nat} (hi:i<o.length):(zi o f).blocks[i]'(by rw [zq];exact hi)=blkK (qB o) (insN f o[i]) (atF f o[i]):=by simp [zi]
theorem kv {o:List Nat} {f:FunL} (h:OrdC f o) {i:Nat} (hi:i<o.length):tosB (zi o f).blocks i=(tosB f.blocks o[i]).map fun t=>(o.idxOf t.toNat:Int):=by
 have h1:=h.inb _ (List.getElem_mem hi)
 rw [zF (by rw [zq];exact hi),QG o f hi,zF h1]
 unfold blkK endK
 rw [qL h1]
 refine List.map_congr_left fun t ht=>?_
 rw [←zF h1] at ht
 exact xp (h.closed _ (List.getElem_mem hi) t ht)
theorem Jm {o:List Nat} {f:FunL} (h:OrdC f o) {b:Nat} (hb:b∈o):tosB (zi o f).blocks (o.idxOf b)=(tosB f.blocks b).map fun t=>(o.idxOf t.toNat:Int):=by
 obtain ⟨h1,h2⟩:=xx hb
 rw [kv h h1,h2]

theorem FunD.keep {f:FunL} (hf:FunD f) {o:List Nat} (h:OrdC f o):FunD (zi o f):=by
 have hle:o.length≤f.blocks.length:=xE _ _ h.once h.inb
 have ht:∀(k:Nat) (hk:k<(zi o f).blocks.length),((zi o f).blocks[k]).fin.to=(tosB f.blocks (o[k]'(by rw [←zq o f];exact hk))).map fun t=>(o.idxOf t.toNat:Int):=fun k hk=>by
  rw [←zF hk]
  exact kv h _
 have hin:∀(k:Nat) (hk:k<(zi o f).blocks.length),(o[k]'(by rw [←zq o f];exact hk))<f.blocks.length:=fun k hk=>h.inb _ (List.getElem_mem _)
 refine ⟨⟨by rw [zq];exact h.pos.1,by rw [zq];have:=hf.n40;omega,fun k hk=>?_,fun k hk t hm=>?_⟩,fun k hk=>?_⟩
 ·rw [ht k hk,List.length_map,zF (hin k hk)]
  exact hf.two _ _
 ·rw [ht k hk] at hm
  obtain ⟨s,hs,rfl⟩:=List.mem_map.1 hm
  have h1:=h.closed _ (List.getElem_mem (by rw [←zq o f];exact hk)) s hs
  rw [zF (hin k hk)] at hs
  have h2:=hf.tos _ _ s hs
  obtain ⟨h3,h4⟩:=xx h1
  rw [zq]
  refine ⟨?_,by omega⟩
  have:o.idxOf s.toNat≠0:=fun e=>by
   have:=kQ h1 h.pos.2.2 (e.trans h.pos.2.1.symm)
   omega
  omega
 rw [ht k hk,zF (hin k hk)]
 refine List.pairwise_map.2 (List.Pairwise.imp_of_mem (fun {x y} hx hy ne e=>ne ?_) (hf.once _ (hin k hk)))
 have hx':=h.closed _ (List.getElem_mem (by rw [←zq o f];exact hk)) x (by rw [zF (hin k hk)];exact hx)
 have hy':=h.closed _ (List.getElem_mem (by rw [←zq o f];exact hk)) y (by rw [zF (hin k hk)];exact hy)
 have h1:=hf.tos _ _ x hx
 have h2:=hf.tos _ _ y hy
 have:=kQ hx' hy' (by omega)
 omega

theorem FunD.order {f:FunL} (hf:FunD f):jc (jN f).blocks=List.range (jc f.blocks).length:=by
 have h:=hf.toFunS.ordC
 have hd:=hf.keep h
 obtain ⟨o,ho⟩:∃o,o=jc f.blocks:=⟨_,rfl⟩
 have hle:o.length≤f.blocks.length:=by rw [ho];exact xE _ _ h.once h.inb
 unfold jN
 rw [←ho] at h hd ⊢
 have hI:=V7 (R:=fun b=>b∈o) (p:=fun b=>o.idxOf b) (t1:=tosB f.blocks) (t2:=tosB (zi o f).blocks) (fun x y hx hy e=>kQ hx hy e) (fun x hx=>⟨h.closed x hx,Jm h hx⟩) (f.blocks.length+1) 0 (fun _=>false,[]) (fun _=>false,[]) h.pos.2.2 ⟨fun _ _=>rfl,rfl⟩
 rw [h.pos.2.1] at hI
 have hm:=Xw (n:=(zi o f).blocks.length) hd.tosB (f.blocks.length+1) ((zi o f).blocks.length+1) 0 (fun _=>false,[]) (by have h5:xn (zi o f).blocks.length (fun _=>false)≤_:=jD (zi o f).blocks.length (fun _=>false);have h6:=zq o f;show xn _ (fun _=>false)<_;omega) (Nat.lt_succ_of_le (jD _ _)) hd.n1 rfl
 have e1:jZ (zi o f).blocks=(jZ f.blocks).map fun x=>(o.idxOf x.toNat:Int):=by
  unfold jZ
  rw [←hm,hI.left]
 have e2:jc (zi o f).blocks=o.map fun x=>o.idxOf x:=by
  have e3:jc (zi o f).blocks=(jc f.blocks).map fun x=>o.idxOf x:=by
   unfold jc jb
   rw [e1,←List.map_reverse,List.map_map,List.map_map]
   exact List.map_congr_left fun x _=>by simp
  rw [e3,←ho]
 rw [e2]
 refine List.ext_getElem (by simp) fun i h1 h2=>?_
 simp only [List.getElem_map,List.getElem_range]
 exact h.once.idxOf_getElem i (by simpa using h1)
end Go.Proofs.YtgjjhadbjmcnpaaGreatDoor
