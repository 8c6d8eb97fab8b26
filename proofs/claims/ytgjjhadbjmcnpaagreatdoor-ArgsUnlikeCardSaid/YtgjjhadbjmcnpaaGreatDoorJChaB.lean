/-
  Plain: what stands when a block has gone into another one, in memory.
-/
import Derived.Test.YtgjjhadbjmcnpaaGreatDoorJDomD
namespace Go.Proofs.YtgjjhadbjmcnpaaGreatDoor
open Go.RowKit

def Jt:ElemO (Value×BlkL):=fun w cs x S=>∃v1 v3 S1 S3,cs=[v1,x.1,.int .i64 x.2.fin.kind,.bool x.2.fin.onr,.int .i64 x.2.fin.onn,v3]∧(∃p l c,x.1 = .slice p l c)∧I64 x.2.fin.kind∧I64 x.2.fin.onn∧
 SlQ 84 2 32 PhiO w v1 x.2.phis S1∧SlQ 3 1 8 IntO w v3 x.2.fin.to S3∧Apart S1 S3∧(∀k,S1 k→S k)∧∀k,S3 k→S k
theorem jp:vS Jt:=fun w w' cs x S h hk hs=>by
 obtain ⟨v1,v3,S1,S3,h0,hv,h1,h2,h3,h5,a2,g1,g3⟩:=h
 exact ⟨v1,v3,S1,S3,h0,hv,h1,h2,h3.loc zZ g1 hk hs,h5.loc xe g3 hk hs,a2,g1,g3⟩
def jJ (V:Nat→Value) (bs:List BlkL):List (Value×BlkL):=bs.mapIdx fun i x=>(V i,x)
theorem x7 (V:Nat→Value) (bs:List BlkL):(jJ V bs).length=bs.length:=by simp [jJ]
theorem xy {V:Nat→Value} {bs:List BlkL} {i:Nat} (h:i<(jJ V bs).length):(jJ V bs)[i]=(V i,bs[i]'(by rw [←x7 V bs];exact h)):=by simp [jJ]
theorem zipV_set {V:Nat→Value} {bs:List BlkL} {i:Nat} (x:BlkL):(jJ V bs).set i (V i,x)=jJ V (bs.set i x):=by
 refine List.ext_getElem (by simp [jJ]) fun k h1 h2=>?_
 rw [xy h2,List.getElem_set,List.getElem_set]
 split
 ·next e=>subst e;rfl
 rw [xy]
theorem SlW.innerT {α:Type} {e:TypeId} {size:Nat} {R:ElemO α} {w w':World} {v:Value} {xs:List α} {S:Blks} {cs:Nat→List Value} {T:Nat→Blks} (h:SlW e size R w v xs S cs T) (hR:vS R) {i:Nat} (hi:i<xs.length) {x':α} (hk:Kept (T i) w w') (hr:R w' (cs i) x' (T i)):SlW e size R w' v (xs.set i x') S cs T:=by
 have hl:(xs.set i x').length=xs.length:=by simp
 refine ⟨?_,?_,?_,fun m hm=>?_,?_,?_,h.blk,?_,h.inb.mono hk.size⟩
 ·rw [hl]
  refine ⟨h.own.1,?_⟩
  rcases h.own.2 with h1|⟨g,cap,cur,hv,hb,hg,r⟩
  ·exact .inl h1
  exact .inr ⟨g,cap,cur,hv,hb,by rw [hk.block g (Array.getElem?_eq_some_iff.1 hg).1 (h.off i hi g (by rw [hv];rfl))];exact hg,r⟩
 ·rw [hl];exact h.len
 ·rw [hl];exact h.one
 ·have hm2:m<xs.length:=by rw [←hl];exact hm
  by_cases e1:m=i
  ·subst e1
   rw [List.getElem_set_self]
   exact hr
  rw [List.getElem_set_ne (Ne.symm e1)]
  exact hR _ _ _ _ _ (h.el m hm2) (fun k hk2=>hk.block k (h.inb k (h.sub m hm2 k hk2)) (fun hk3=>h.two m i hm2 hi e1 k hk2 hk3)) hk.size
 ·rw [hl];exact h.two
 ·rw [hl];exact h.off
 rw [hl];exact h.sub
theorem blkAtN {w w':World} {g c:Nat} {f:FunL} {V:Nat→Value} {S:Blks} {cs:Nat→List Value} {T:Nat→Blks} (h:SlW 49 6 Jt w (.slice (some ⟨g,0,none⟩) f.blocks.length c) (jJ V f.blocks) S cs T) (hb:Below w.heap.size w w') (i:Nat) (hi:i<f.blocks.length):XX w' g 0 i ((Q3 f).getD i []):=by
 have hi2:i<(jJ V f.blocks).length:=by rw [x7];exact hi
 obtain ⟨g',c',e,_,hg,hc⟩:=h.cell hi2
 have hgg:g'=g:=by
  injection e with a _ _
  injection a with a
  injection a with a
  exact a.symm
 subst hgg
 have he:=h.el i hi2
 rw [xy hi2] at he
 obtain ⟨v1,v3,S1,S3,h0,⟨p,l,k,hv⟩,_,_,h3,h5,_⟩:=he
 obtain ⟨p1,c1,rfl,_⟩:=h3.sl.val
 obtain ⟨p3,c3,rfl,_⟩:=h5.sl.val
 rw [vm f i hi]
 rw [h0] at hc
 dsimp only at hv hc
 rw [hv] at hc
 have hr:=h5.read (R':=vX) xe (by omega) fun _ _ _ h=>h
 have hs:SliceAt w 1 vX p3 f.blocks[i].fin.to:=by
  obtain ⟨_,_,e,_,_,h⟩:=hr.outC
  cases e
  exact h
 refine ⟨p1,f.blocks[i].phis.length,c1,p,l,k,f.blocks[i].fin.kind,f.blocks[i].fin.onr,f.blocks[i].fin.onn,p3,c3,?_,?_,?_,?_,?_,?_,hs.mono hb (by omega) fun _ _ h=>h⟩
 all_goals rw [Nat.zero_add]
 ·exact (hb.cell (p:=⟨g',i*6,none⟩) hg).trans (hc 0 (by omega))
 ·exact (hb.cell (p:=⟨g',i*6+1,none⟩) hg).trans (hc 1 (by omega))
 ·exact (hb.cell (p:=⟨g',i*6+2,none⟩) hg).trans (hc 2 (by omega))
 ·exact (hb.cell (p:=⟨g',i*6+3,none⟩) hg).trans (hc 3 (by omega))
 ·exact (hb.cell (p:=⟨g',i*6+4,none⟩) hg).trans (hc 4 (by omega))
 exact (hb.cell (p:=⟨g',i*6+5,none⟩) hg).trans (hc 5 (by omega))

def K1 (ah:List Nat) (old now m:Nat):Nat:=((ah.take m).filter fun a=>decide (a<now∧a≠old)).length
theorem cntR_le (ah:List Nat) (old now:Nat) {m:Nat} (_:m≤ah.length):K1 ah old now m≤m:=Nat.le_trans (List.length_filter_le _ _) (by rw [List.length_take];omega)
theorem cntR_full (ah:List Nat) (old now:Nat):K1 ah old now ah.length=Xv ah old now:=by unfold K1;rw [List.take_length];rfl
theorem cntR_succ {ah:List Nat} {old now m:Nat} (h:m<ah.length):K1 ah old now (m+1)=K1 ah old now m+if ah[m]<now∧ah[m]≠old then 1 else 0:=by
 unfold K1
 rw [List.take_succ_eq_append_getElem h,List.filter_append,List.length_append]
 congr 1
 by_cases h:ah[m]<now∧ah[m]≠old
 ·rw [if_pos h,List.filter_cons_of_pos (by simpa using h)]
  rfl
 rw [if_neg h,List.filter_cons_of_neg (by simpa using h)]
 rfl
def Zk (ah:List Nat) (old now:Nat) (p:PhiL):PhiL:={ p with src:=Q6 ah old now p.src }
def XG (f:FunL) (old now i:Nat):List BlkL:=f.blocks.mapIdx fun k x=>if (k:Int)∈((atF f old).fin.to).take i then { x with phis:=x.phis.map (Zk (insN f k) old now) } else x
theorem vK (f:FunL) (old now i:Nat):(XG f old now i).length=f.blocks.length:=by simp [XG]
theorem renK_zero (f:FunL) (old now:Nat):XG f old now 0=f.blocks:=by
 refine List.ext_getElem (vK f old now 0) fun k h1 h2=>?_
 simp [XG]
theorem renK_full (f:FunL) (old now:Nat):XG f old now ((atF f old).fin.to).length=(qP f old now).blocks:=by
 unfold XG qP
 rw [List.take_length]
 rfl
theorem Ju {f:FunL} {old now i k:Nat} (h:k<(XG f old now i).length):(XG f old now i)[k]=if (k:Int)∈((atF f old).fin.to).take i then { (f.blocks[k]'(by rw [←vK f old now i];exact h)) with phis:=(f.blocks[k]'(by rw [←vK f old now i];exact h)).phis.map (Zk (insN f k) old now) } else f.blocks[k]'(by rw [←vK f old now i];exact h):=by simp [XG]
theorem renK_succ {f:FunL} {old now i t:Nat} (hi:i<((atF f old).fin.to).length) (ht:((atF f old).fin.to)[i]=(t:Int)) (hd:((atF f old).fin.to).Nodup) (htl:t<f.blocks.length):(∃h,(XG f old now i)[t]'h=f.blocks[t])∧(XG f old now i).set t { f.blocks[t] with phis:=f.blocks[t].phis.map (Zk (insN f t) old now) }=XG f old now (i+1):=by
 have hl:t<(XG f old now i).length:=by rw [vK];exact htl
 have hn:¬ (t:Int)∈((atF f old).fin.to).take i:=fun h=>by
  rw [List.mem_take_iff_getElem] at h
  obtain ⟨j,hj,e⟩:=h
  rw [←ht] at e
  have h2:=congrArg ((atF f old).fin.to).idxOf e
  rw [hd.idxOf_getElem j (by omega),hd.idxOf_getElem i hi] at h2
  omega
 refine ⟨⟨hl,by rw [Ju hl,if_neg hn]⟩,?_⟩
 refine List.ext_getElem (by simp [XG]) fun k h1 h2=>?_
 have h3:k<(XG f old now i).length:=by simpa using h1
 rw [List.getElem_set,Ju h2]
 have e0:(k:Int)∈((atF f old).fin.to).take (i+1)↔(k:Int)∈((atF f old).fin.to).take i∨k=t:=by
  rw [List.take_succ_eq_append_getElem hi,List.mem_append,List.mem_singleton,ht]
  constructor
  ·rintro (h|h)
   ·exact .inl h
   exact .inr (by omega)
  rintro (h|h)
  ·exact .inl h
  exact .inr (by omega)
 split
 ·next e=>
  subst e
  rw [if_pos (e0.2 (.inr rfl))]
 next e=>
 rw [Ju h3]
 by_cases g:(k:Int)∈((atF f old).fin.to).take i
 ·rw [if_pos g,if_pos (e0.2 (.inl g))]
 rw [if_neg g,if_neg fun h=>(e0.1 h).elim g (fun h=>e h.symm)]

def vW (f:FunL):Nat:=((List.range f.blocks.length).map fun i=>if (atF f i).fin.kind=2 then 1 else 0).sum
theorem Vm (f:FunL):vW f≤f.blocks.length:=by
 unfold vW
 have:∀n,((List.range n).map fun i=>if (atF f i).fin.kind=2 then 1 else 0).sum≤n:=by
  intro n
  induction n with
  | zero=>simp
  | succ n ih=>
   rw [List.range_succ,List.map_append,List.sum_append]
   simp only [List.map_cons,List.map_nil,List.sum_cons,List.sum_nil]
   split<;>omega
 exact this _
theorem XH {f:FunL} {b t:Nat} (h:jq f b=some t):(atF f b).fin.kind=2:=by
 unfold jq at h
 dsimp only at h
 split at h
 ·rename_i hc;exact hc.1
 cases h
theorem Zl {f:FunL} {b t:Nat} (h:MayJ f b t) (hk:(atF f b).fin.kind=2):vW (x8 f b t)+1=vW f:=by
 unfold vW
 rw [qM]
 obtain ⟨u,hu⟩:∃u:Nat→Nat,u=fun i=>if (atF f i).fin.kind=2 then 1 else 0:=⟨_,rfl⟩
 have e1:((List.range f.blocks.length).map fun i=>if (atF (x8 f b t) i).fin.kind=2 then 1 else 0)=(List.range f.blocks.length).map fun j=>if j=t then 0 else if j=b then u t else u j:=by
  refine List.map_congr_left fun i hi=>?_
  have hi:=List.mem_range.1 hi
  rw [vd hi h.hb h.ht]
  by_cases e:i=t
  ·rw [if_pos e,if_pos e];rfl
  rw [if_neg e,if_neg e]
  by_cases e2:i=b
  ·simp only [if_pos e2,hu]
  simp only [if_neg e2,hu]
 have e2:((List.range f.blocks.length).map fun i=>if (atF f i).fin.kind=2 then 1 else 0)=(List.range f.blocks.length).map u:=by rw [hu]
 rw [e1,e2]
 have s1:=QH (fun j=>if j=b then u t else u j) 0 t f.blocks.length
 have s2:=QH u (u t) b f.blocks.length
 have ub:u b=1:=by rw [hu];exact if_pos hk
 rw [if_pos h.ht,if_pos h.ht,if_neg h.ne] at s1
 rw [if_pos h.hb,if_pos h.hb,ub] at s2
 omega
theorem FunC.last {nf:Nat} {P:Nat→Int}:∀(c:Nat) {f:FunL} {b:Nat},FunC nf P f→b<f.blocks.length→vW f<c→jq (qW c f b) b=none
 | 0,_,_,_,_,h=>by omega
 | c+1,f,b,h,hb,hj=>by
  unfold qW
  cases e:jq f b with
  | none=>exact e
  | some t=>
   have hm:=mayJ h hb e
   have:=Zl hm (XH e)
   exact FunC.last c (h.join hm) (by rw [qM];exact hb) (by omega)

theorem FunC.may_iff {nf:Nat} {P:Nat→Int} {f:FunL} (h:FunC nf P f) {b:Nat} (hb:b<f.blocks.length) {t:Nat}:jq f b=some t↔MayJ f b t:=by
 refine ⟨mayJ h hb,fun m=>?_⟩
 have e0:(atF f b).fin.to=[(t:Int)]:=by rw [←kx f hb];exact m.to
 have e1:(atF f b).fin.kind=2:=by
  have h1:=h.fin b hb
  have h2:=h1.len
  rw [qL hb] at e0 ⊢
  rw [e0] at h2
  simp at h2
  omega
 unfold jq
 dsimp only
 rw [e0]
 have e2:(([(t:Int)]:List Int).getD 0 0).toNat=t:=by simp
 rw [e2,e1,qL m.ht,m.phi,m.one,if_pos ⟨rfl,by have:=m.ne;simp [this]⟩]

theorem FunC.none_join {nf:Nat} {P:Nat→Int} {f:FunL} (h:FunC nf P f) {b t:Nat} (m:MayJ f b t) {x:Nat} (hx:x<f.blocks.length) (hn:jq f x=none):jq (x8 f b t) x=none:=by
 have hj:=h.join m
 cases e:jq (x8 f b t) x with
 | none=>rfl
 | some y=>
  exfalso
  have hd:=h.funD
  have g:=mayJ hj (by rw [qM];exact hx) e
  have hxb:x≠b:=fun e=>by
   subst e
   rw [(h.may_iff m.hb).2 m] at hn
   cases hn
  have hy:y<f.blocks.length:=by have:=g.ht;rw [qM] at this;exact this
  have hto:=g.to
  rw [vE m hx] at hto
  by_cases hxt:x=t
  ·rw [if_pos hxt] at hto;cases hto
  rw [if_neg hxt,if_neg hxb] at hto
  have hyt:y≠t:=fun e2=>by
   have:x∈insN f t:=hd.mem.2 ⟨hx,by rw [hto,e2];simp⟩
   rw [m.one,List.mem_singleton] at this
   exact hxb this
  have hm:MayJ f x y:=by
   refine ⟨hx,hy,hto,g.ne,?_,?_⟩
   ·have hp:=g.phi
    rw [←qL g.ht,vd hy m.hb m.ht,if_neg hyt] at hp
    have hp:XD f b t y=[]:=hp
    have:=congrArg List.length hp
    unfold XD at this
    rw [List.length_map,qL hy] at this
    exact List.eq_nil_of_length_eq_zero (by simpa using this)
   have hi:=fun a=>Qh hd m (i:=y) (a:=a) hyt
   rw [g.one] at hi
   by_cases hc:(y:Int)∈tosB f.blocks t
   ·have:=(hi b).2 (by rw [if_pos hc];exact .inl rfl)
    rw [List.mem_singleton] at this
    exact absurd this.symm hxb
   refine XA (xF hd y) (by simp) fun a=>?_
   have:=hi a
   rw [if_neg hc] at this
   exact this.symm
  rw [(h.may_iff hx).2 hm] at hn
  cases hn
theorem FunC.none_chain {nf:Nat} {P:Nat→Int} {x:Nat}:∀(c:Nat) {f:FunL} {b:Nat},FunC nf P f→b<f.blocks.length→x<f.blocks.length→jq f x=none→jq (qW c f b) x=none
 | 0,_,_,_,_,_,h=>h
 | c+1,f,b,h,hb,hx,hn=>by
  unfold qW
  cases e:jq f b with
  | none=>exact hn
  | some t=>
   have hm:=mayJ h hb e
   exact FunC.none_chain c (h.join hm) (by rw [qM];exact hb) (by rw [qM];exact hx) (h.none_join hm hx hn)
theorem FunC.chained {nf:Nat} {P:Nat→Int} {f:FunL} (h:FunC nf P f) {x:Nat} (hx:x<f.blocks.length):jq (qQ f) x=none:=by
 unfold qQ
 have key:∀k,k≤f.blocks.length→FunC nf P ((List.range k).foldl (fun g b=>qW (f.blocks.length+1) g b) f)∧((List.range k).foldl (fun g b=>qW (f.blocks.length+1) g b) f).blocks.length=f.blocks.length∧∀x,x<k→jq ((List.range k).foldl (fun g b=>qW (f.blocks.length+1) g b) f) x=none:=by
  intro k
  induction k with
  | zero=>intro _;exact ⟨h,rfl,fun x hx=>by omega⟩
  | succ k ih=>
   intro hk
   obtain ⟨h1,h2,h3⟩:=ih (by omega)
   rw [List.range_succ,List.foldl_append,List.foldl_cons,List.foldl_nil]
   have hkb:k<((List.range k).foldl (fun g b=>qW (f.blocks.length+1) g b) f).blocks.length:=by rw [h2];omega
   obtain ⟨g1,g2⟩:=h1.chain (f.blocks.length+1) hkb
   refine ⟨g1,g2.trans h2,fun x hx=>?_⟩
   by_cases e:x=k
   ·subst e
    refine h1.last _ hkb ?_
    have:=Vm ((List.range x).foldl (fun g b=>qW (f.blocks.length+1) g b) f)
    rw [h2] at this
    omega
   exact h1.none_chain _ hkb (by rw [h2];omega) (h3 x (by omega))
 exact (key _ (Nat.le_refl _)).2.2 x hx

structure ChS (w:World) (gq c:Nat) (bs:List BlkL) (V:Nat→Value) (N:Blks) (L:Nat→Blks):Prop where
 row:SlO 49 6 Jt w (.slice (some ⟨gq,0,none⟩) bs.length c) (jJ V bs) N
 lst:∀i (h:i<bs.length),SlQ 51 8 80 InsO w (V i) bs[i].list (L i)
 two:∀i j,i<bs.length→j<bs.length→i≠j→Apart (L i) (L j)
 off:∀i,i<bs.length→Apart N (L i)
theorem ChS.of {w:World} {gq c:Nat} {bs:List BlkL} {S:Blks} (h:SlO 49 6 BlkO w (.slice (some ⟨gq,0,none⟩) bs.length c) bs S) (_h0:0<bs.length):∃V N L,ChS w gq c bs V N L∧(∀k,N k→S k)∧∀i,i<bs.length→∀k,L i k→S k:=by
 obtain ⟨cs,T,hW⟩:=h
 have key:∀i,∃v:Value,∃A B:Blks,∀(h:i<bs.length),Jt w (cs i) (v,bs[i]) A∧SlQ 51 8 80 InsO w v bs[i].list B∧Apart A B∧(∀k,A k→T i k)∧∀k,B k→T i k:=fun i=>by
  by_cases h:i<bs.length
  ·obtain ⟨v1,v2,v3,S1,S2,S3,hcs,j1,j2,h3,h4,h5,a1,a2,a3,g1,g2,g3⟩:=hW.el i h
   obtain ⟨p,cc,hv,_⟩:=h4.sl.val
   exact ⟨v2,fun k=>S1 k∨S3 k,S2,fun _=>⟨⟨v1,v3,S1,S3,hcs,⟨p,_,cc,hv⟩,j1,j2,h3,h5,a2,fun _ h=>.inl h,fun _ h=>.inr h⟩,h4,fun k a b=>a.elim (fun a=>a1 k a b) (fun a=>a3 k b a),fun k a=>a.elim (g1 k) (g3 k),g2⟩⟩
  exact ⟨.slice none 0 0,fun _=>False,fun _=>False,fun h'=>absurd h' h⟩
 obtain ⟨V,hV⟩:=Classical.axiomOfChoice key
 obtain ⟨A,hA⟩:=Classical.axiomOfChoice hV
 obtain ⟨L,hL⟩:=Classical.axiomOfChoice hA
 have hlen:(jJ V bs).length=bs.length:=x7 V bs
 refine ⟨V,fun k=>k=gq∨∃i,i<bs.length∧A i k,L,⟨⟨cs,A,?_⟩,fun i h=>(hL i h).2.1,fun i j hi hj hij k a b=>hW.two i j hi hj hij k ((hL i hi).2.2.2.2 k a) ((hL j hj).2.2.2.2 k b),fun i hi k a b=>?_⟩,fun k hk=>?_,fun i hi k hk=>hW.sub i hi k ((hL i hi).2.2.2.2 k hk)⟩
 ·refine ⟨?_,?_,?_,fun i hi=>?_,?_,?_,fun g hg=>.inl (Option.some.inj hg).symm,?_,?_⟩
  ·rw [hlen];exact hW.own
  ·rw [hlen];exact hW.len
  ·rw [hlen];exact hW.one
  ·rw [xy hi]
   exact (hL i (by rw [←hlen];exact hi)).1
  ·rw [hlen]
   exact fun i j hi hj hij k a b=>hW.two i j hi hj hij k ((hL i hi).2.2.2.1 k a) ((hL j hj).2.2.2.1 k b)
  ·rw [hlen]
   exact fun i hi g hg a=>hW.off i hi g hg ((hL i hi).2.2.2.1 g a)
  ·rw [hlen]
   exact fun i hi k a=>.inr ⟨i,hi,a⟩
  rintro k (rfl|⟨i,hi,a⟩)
  ·exact (hW.own.lt k rfl).2
  exact hW.inb k (hW.sub i hi k ((hL i hi).2.2.2.1 k a))
 ·rcases a with rfl|⟨j,hj,a⟩
  ·exact hW.off i hi k rfl ((hL i hi).2.2.2.2 k b)
  by_cases e:j=i
  ·subst e
   exact (hL j hj).2.2.1 k a b
  exact hW.two j i hj hi e k ((hL j hj).2.2.2.1 k a) ((hL i hi).2.2.2.2 k b)
 rcases hk with rfl|⟨i,hi,a⟩
 ·exact hW.blk k rfl
 exact hW.sub i hi k ((hL i hi).2.2.2.1 k a)
theorem ChS.to {w:World} {gq c:Nat} {bs:List BlkL} {V:Nat→Value} {N:Blks} {L:Nat→Blks} (h:ChS w gq c bs V N L):SlO 49 6 BlkO w (.slice (some ⟨gq,0,none⟩) bs.length c) bs (fun k=>N k∨∃i,i<bs.length∧L i k):=by
 obtain ⟨⟨cs,T,hW⟩,hl,h2,ho⟩:=h
 have hlen:(jJ V bs).length=bs.length:=x7 V bs
 have hT:∀i,i<bs.length→∀k,T i k→N k:=fun i hi=>hW.sub i (by rw [hlen];exact hi)
 have hhE:=hW.two
 have hoff:=hW.off
 have hown:=hW.own
 have hle:=hW.len
 have hone:=hW.one
 rw [hlen] at hhE hoff hown hle hone
 refine ⟨cs,fun i k=>T i k∨L i k,⟨hown,hle,hone,fun i hi=>?_,fun i j hi hj hij k a b=>?_,fun i hi g hg a=>?_,fun g hg=>.inl (hW.blk g hg),fun i hi k a=>?_,?_⟩⟩
 ·have hi2:i<(jJ V bs).length:=by rw [hlen];exact hi
  have he:=hW.el i hi2
  rw [xy hi2] at he
  obtain ⟨v1,v3,S1,S3,hcs,_,j1,j2,h3,h5,a2,g1,g3⟩:=he
  exact ⟨v1,V i,v3,S1,L i,S3,hcs,j1,j2,h3,hl i hi,h5,fun k a b=>ho i hi k (hT i hi k (g1 k a)) b,a2,fun k a b=>ho i hi k (hT i hi k (g3 k b)) a,fun k a=>.inl (g1 k a),fun k a=>.inr a,fun k a=>.inl (g3 k a)⟩
 ·rcases a with a|a<;>rcases b with b|b
  ·exact hhE i j hi hj hij k a b
  ·exact ho j hj k (hT i hi k a) b
  ·exact ho i hi k (hT j hj k b) a
  exact h2 i j hi hj hij k a b
 ·rcases a with a|a
  ·exact hoff i hi g hg a
  exact ho i hi g (hW.blk g hg) a
 ·rcases a with a|a
  ·exact .inl (hT i hi k a)
  exact .inr ⟨i,hi,a⟩
 rintro k (a|⟨i,hi,a⟩)
 ·exact hW.inb k a
 exact (hl i hi).sl.inb k a
theorem ChS.kept {U:Blks} {w w':World} {gq c:Nat} {bs:List BlkL} {V:Nat→Value} {N:Blks} {L:Nat→Blks} (h:ChS w gq c bs V N L) (hk:Kept U w w') (hN:Apart U N) (hL:∀i,i<bs.length→Apart U (L i)):ChS w' gq c bs V N L:=
 ⟨h.row.kept jp hk hN,fun i hi=>⟨(h.lst i hi).sl.kept zR hk (hL i hi),(h.lst i hi).bd⟩,h.two,h.off⟩
theorem ChS.below {w w':World} {gq c:Nat} {bs:List BlkL} {V:Nat→Value} {N:Blks} {L:Nat→Blks} (h:ChS w gq c bs V N L) (hb:Below w.heap.size w w'):ChS w' gq c bs V N L:=h.kept (U:=fun _=>False) (Kept.of_below hb) (fun _ a _=>a) (fun _ _ _ a _=>a)
theorem Zm:∀{l:List Nat} {x:Nat},x∈l→x≤l.sum
 | y::l,x,h=>by
  rw [List.sum_cons]
  rcases List.mem_cons.1 h with rfl|h
  ·omega
  have:=Zm h
  omega
theorem XI {f:FunL} {b:Nat} (h:b<f.blocks.length):f.blocks[b].list.length≤xm f:=by
 rw [jE]
 have:=Zm (l:=(List.range f.blocks.length).map fun b=>(atF f b).phis.length+(atF f b).list.length) (List.mem_map.2 ⟨b,List.mem_range.2 h,rfl⟩)
 rw [qL h] at this
 omega
theorem ChS.at {w:World} {gq c:Nat} {bs:List BlkL} {V:Nat→Value} {N:Blks} {L:Nat→Blks} (h:ChS w gq c bs V N L) {i:Nat} (hi:i<bs.length):∃q1 d1 p2 d2 q3 d3,V i = .slice p2 bs[i].list.length d2∧(∀j,j<6→w.cell? ⟨gq,i*6+j,none⟩=[Value.slice q1 bs[i].phis.length d1,.slice p2 bs[i].list.length d2,.int .i64 bs[i].fin.kind,.bool bs[i].fin.onr,.int .i64 bs[i].fin.onn,.slice q3 bs[i].fin.to.length d3][j]?)∧N gq∧gq<w.heap.size∧(∀o,w.frozen? ⟨gq,o,none⟩=false)∧
  SliceAt w 1 vX q3 bs[i].fin.to:=by
 obtain ⟨p2,d2,hv,_⟩:=(h.lst i hi).sl.val
 have hi2:i<(jJ V bs).length:=by rw [x7];exact hi
 obtain ⟨g,cc,cs,T,hgv,hg,hS,hl,hx,_,_,hc,hf,_⟩:=h.row.focus jp (by omega) hi2
 have hgg:g=gq:=by
  injection hgv with a _ _
  injection a with a
  injection a with a
  exact a.symm
 subst hgg
 rw [xy hi2] at hx
 obtain ⟨v1,v3,S1,S3,rfl,_,_,_,h3,h5,_⟩:=hx
 obtain ⟨q1,d1,rfl,_⟩:=h3.sl.val
 obtain ⟨q3,d3,rfl,_⟩:=h5.sl.val
 dsimp only at hc h5
 rw [hv] at hc
 have hr:=h5.read (R':=vX) xe (by omega) fun _ _ _ h=>h
 refine ⟨q1,d1,p2,d2,q3,d3,hv,hc,hS,hg,hf,?_⟩
 obtain ⟨_,_,e,_,_,hh⟩:=hr.outC
 cases e
 exact hh

def vJ (V:Nat→Value) (b:Nat) (v:Value) (i:Nat):Value:=if i=b then v else V i
def v2J (V:Nat→Value) (b t:Nat) (v:Value) (i:Nat):Value:=if i=t then .slice none 0 0 else vJ V b v i
def l2J (L:Nat→Blks) (b t:Nat) (Lb:Blks) (i:Nat):Blks:=if i=t then fun _=>False else if i=b then Lb else L i
def backB (g:FunL) (b t:Nat):BlkL:={ phis:=(atF (qP g t b) b).phis,list:=(atF (qP g t b) b).list++(atF (qP g t b) t).list,fin:=(atF (qP g t b) t).fin }
theorem XJ (g:FunL) (b t:Nat):(x8 g b t).blocks=((qP g t b).blocks.set b (backB g b t)).set t ku:=rfl
theorem zipJ {V:Nat→Value} {b t:Nat} {v:Value} {bs:List BlkL} {x y:BlkL} (h:t≠b):((jJ (vJ V b v) bs).set b (v,x)).set t (.slice none 0 0,y)=jJ (v2J V b t v) ((bs.set b x).set t y):=by
 refine List.ext_getElem (by simp [jJ]) fun k h1 h2=>?_
 rw [xy h2,List.getElem_set,List.getElem_set,List.getElem_set,List.getElem_set]
 by_cases e:t=k
 ·subst e
  rw [if_pos rfl,if_pos rfl]
  simp [v2J]
 rw [if_neg e,if_neg e]
 by_cases e2:b=k
 ·subst e2
  rw [if_pos rfl,if_pos rfl]
  simp [v2J,vJ,Ne.symm h]
 rw [if_neg e2,if_neg e2,xy]
 simp [v2J,vJ,Ne.symm e,Ne.symm e2]
theorem zipV_vJ {V:Nat→Value} {b:Nat} {v:Value} {bs:List BlkL} (h:b<bs.length):(jJ V bs).set b (v,bs[b])=jJ (vJ V b v) bs:=by
 refine List.ext_getElem (by simp [jJ]) fun k h1 h2=>?_
 rw [xy h2,List.getElem_set]
 by_cases e:b=k
 ·subst e
  rw [if_pos rfl]
  simp [vJ]
 rw [if_neg e,xy]
 simp [vJ,Ne.symm e]
theorem rowN_swap {w:World} {gq c:Nat} {bs:List BlkL} {V:Nat→Value} {N:Blks} (h:SlO 49 6 Jt w (.slice (some ⟨gq,0,none⟩) bs.length c) (jJ V bs) N) {b:Nat} (hb:b<bs.length) {p:Option Addr} {l k:Nat}:SlO 49 6 Jt (w.setCell ⟨gq,b*6+1,none⟩ (.slice p l k)) (.slice (some ⟨gq,0,none⟩) bs.length c) (jJ (vJ V b (.slice p l k)) bs) N:=by
 have hbz:b<(jJ V bs).length:=by rw [x7];exact hb
 obtain ⟨g,cc,cs,T,hgv,hg,hS,hl,hx,hT,hTS,hc,hf,_,put⟩:=h.inner jp (by omega) hbz
 have hgg:g=gq:=by
  injection hgv with a _ _
  injection a with a
  injection a with a
  exact a.symm
 subst hgg
 rw [xy hbz] at hx
 have h1:=put w (.slice p l k,bs[b]) T 1 (.slice p l k) (by omega) rfl (Kept.refl _ _) (by
  obtain ⟨v1,v3,S1,S3,rfl,_,j1,j2,h3,h5,a2,g1,g3⟩:=hx
  exact ⟨v1,v3,S1,S3,rfl,⟨_,_,_,rfl⟩,j1,j2,h3.loc zZ g1 (fun k hk=>Go.Deep.blk_setCell_other _ _ _ k (fun e=>hT (by rw [←show k=g from e];exact hk))) (by simp [World.setCell]),h5.loc xe g3 (fun k hk=>Go.Deep.blk_setCell_other _ _ _ k (fun e=>hT (by rw [←show k=g from e];exact hk))) (by simp [World.setCell]),a2,g1,g3⟩) (fun k hk=>⟨.inl hk,h.inb k (hTS k hk)⟩)
 rw [zipV_vJ hb] at h1
 exact h1.grow (fun k hk=>hk.elim id (hTS k)) (h.inb.mono (by simp [World.setCell]))
def four (w:World) (g o:Nat) (a2 a3 a4 a5:Value):World:=(((w.setCell ⟨g,o+2,none⟩ a2).setCell ⟨g,o+2+1,none⟩ a3).setCell ⟨g,o+2+2,none⟩ a4).setCell ⟨g,o+2+3,none⟩ a5
theorem four_kept (w:World) (g o:Nat) (a2 a3 a4 a5:Value):Kept (fun i=>i=g) w (four w g o a2 a3 a4 a5):=by
 unfold four
 have h0:Kept (fun i=>i=g) w w:=Kept.refl _ w
 have h3:=h0.setCell (p:=⟨g,o+2,none⟩) rfl a2
 have h4:=h3.setCell (p:=⟨g,o+2+1,none⟩) rfl a3
 have h5:=h4.setCell (p:=⟨g,o+2+2,none⟩) rfl a4
 exact h5.setCell (p:=⟨g,o+2+3,none⟩) rfl a5
theorem RowPut.four {w w1:World} {e:TypeId} {g o:Nat} {c0 c1 c2 c3 c4 c5:Value} (h:RowPut w w1 e g o 6 [c0,c1,c2,c3,c4,c5]) (a2 a3 a4 a5:Value):RowPut w (Go.Proofs.YtgjjhadbjmcnpaaGreatDoor.four w1 g o a2 a3 a4 a5) e g o 6 [c0,c1,a2,a3,a4,a5]:=by
 have h2:=RowPut.set h rfl (j:=2) (by omega) a2
 simp only [List.set_cons_succ,List.set_cons_zero] at h2
 have h3:=RowPut.set h2 rfl (j:=3) (by omega) a3
 simp only [List.set_cons_succ,List.set_cons_zero] at h3
 have h4:=RowPut.set h3 rfl (j:=4) (by omega) a4
 simp only [List.set_cons_succ,List.set_cons_zero] at h4
 have h5:=RowPut.set h4 rfl (j:=5) (by omega) a5
 simp only [List.set_cons_succ,List.set_cons_zero] at h5
 unfold Go.Proofs.YtgjjhadbjmcnpaaGreatDoor.four
 exact h5
theorem ChS.joined {w2 wa wf:World} {gq c:Nat} {g:FunL} {V:Nat→Value} {N:Blks} {L:Nat→Blks} {b t:Nat} {v' v1b v3t:Value} {Lb:Blks} (hb:b<g.blocks.length) (ht:t<g.blocks.length) (hne:t≠b)
  (hrow:SlO 49 6 Jt w2 (.slice (some ⟨gq,0,none⟩) g.blocks.length c) (jJ (vJ V b v') (qP g t b).blocks) N)
  (hlb:SlQ 51 8 80 InsO w2 v' ((atF g b).list++(atF g t).list) Lb) (hob:Apart N Lb) (hlo:∀i (hi:i<g.blocks.length),i≠b→i≠t→SlQ 51 8 80 InsO w2 (V i) g.blocks[i].list (L i)∧Apart (L i) Lb∧Apart N (L i))
  (hhE:∀i j,i<g.blocks.length→j<g.blocks.length→i≠j→Apart (L i) (L j))
  (hv1:w2.cell? ⟨gq,b*6,none⟩=some v1b) (hv3:w2.cell? ⟨gq,t*6+5,none⟩=some v3t)
  (p1:RowPut w2 wa 49 gq (b*6) 6 [v1b,v',.int .i64 (atF g t).fin.kind,.bool (atF g t).fin.onr,.int .i64 (atF g t).fin.onn,v3t])
  (p2:RowPut wa wf 49 gq (t*6) 6 [.slice none 0 0,.slice none 0 0,.int .i64 1,.bool false,.int .i64 0,.slice none 0 0])
  (hk:Kept (fun k=>k=gq) w2 wf):ChS wf gq c (x8 g b t).blocks (v2J V b t v') N (l2J L b t Lb):=by
 have hrl:(qP g t b).blocks.length=g.blocks.length:=vD g b t
 have hjl:(x8 g b t).blocks.length=g.blocks.length:=qM g b t
 obtain ⟨cs,T,hW⟩:=hrow
 have hzl:(jJ (vJ V b v') (qP g t b).blocks).length=g.blocks.length:=by rw [x7,hrl]
 have hbz:b<(jJ (vJ V b v') (qP g t b).blocks).length:=by rw [hzl];exact hb
 have htz:t<(jJ (vJ V b v') (qP g t b).blocks).length:=by rw [hzl];exact ht
 have hbr:b<(qP g t b).blocks.length:=by rw [hrl];exact hb
 have htr:t<(qP g t b).blocks.length:=by rw [hrl];exact ht
 have hgN:N gq:=hW.blk gq rfl
 have eb:=hW.el b hbz
 have et:=hW.el t htz
 rw [xy hbz] at eb
 rw [xy htz] at et
 obtain ⟨x1,x3,A1,A3,hcb,_,_,_,h3b,_,_,g1b,_⟩:=eb
 obtain ⟨y1,y3,B1,B3,hct,_,k1t,k2t,_,h5t,_,_,g3t⟩:=et
 have e1:v1b=x1:=by
  obtain ⟨g',c',e,_,_,hc⟩:=hW.cell hbz
  have hgg:g'=gq:=by
   injection e with a _ _
   injection a with a
   injection a with a
   exact a.symm
  subst hgg
  have:=hc 0 (by omega)
  rw [Nat.add_zero,hv1,hcb] at this
  exact Option.some.inj this
 have e3:v3t=y3:=by
  obtain ⟨g',c',e,_,_,hc⟩:=hW.cell htz
  have hgg:g'=gq:=by
   injection e with a _ _
   injection a with a
   injection a with a
   exact a.symm
  subst hgg
  have:=hc 5 (by omega)
  rw [hv3,hct] at this
  exact Option.some.inj this
 subst e1 e3
 dsimp only at h3b h5t k1t k2t
 have hfb:atF (qP g t b) b=(qP g t b).blocks[b]:=qL hbr
 have hft:atF (qP g t b) t=(qP g t b).blocks[t]:=qL htr
 have hra:=v8 (f:=g) (b:=b) (t:=t) hb
 have hrt:=v8 (f:=g) (b:=b) (t:=t) ht
 have hfin:(atF (qP g t b) t).fin=(atF g t).fin:=by rw [hrt]
 have hA1:∀k,A1 k→k≠gq∧k<w2.heap.size:=fun k hk2=>⟨fun e=>hW.off b hbz gq rfl (by rw [←e];exact g1b k hk2),h3b.sl.inb k hk2⟩
 have hB3:∀k,B3 k→k≠gq∧k<w2.heap.size:=fun k hk2=>⟨fun e=>hW.off t htz gq rfl (by rw [←e];exact g3t k hk2),h5t.sl.inb k hk2⟩
 obtain ⟨pv,lv,cv,hvs⟩:∃p l c,v' = .slice p l c:=by
  obtain ⟨p,c,h,_⟩:=hlb.sl.val
  exact ⟨p,_,c,h⟩
 have hput:=hW.put2 (w1:=wa) (w2:=wf) (xi:=(v',backB g b t)) (xj:=(.slice none 0 0,ku)) (Ti:=fun k=>A1 k∨B3 k) (Tj:=fun _=>False) jp (by omega) rfl hbz htz (Ne.symm hne) p1 p2 rfl rfl (fun u hu=>by
   obtain ⟨_,_,r1,_⟩:=h3b.sl.val
   obtain ⟨_,_,r3,_⟩:=h5t.sl.val
   simp only [List.mem_cons,List.not_mem_nil,or_false] at hu
   rcases hu with rfl|rfl|rfl|rfl|rfl|rfl
   ·rw [r1];rfl
   ·rw [hvs];rfl
   ·rfl
   ·rfl
   ·rfl
   ·rw [r3];rfl) (fun u hu=>by
   simp only [List.mem_cons,List.not_mem_nil,or_false] at hu
   rcases hu with rfl|rfl|rfl|rfl|rfl|rfl<;>rfl) hk.size (fun k h1 _ _ h4=>hk.block k (hW.inb k h1) h4)
  ⟨v1b,v3t,A1,B3,by rw [←hfin];rfl,⟨pv,lv,cv,hvs⟩,by
    show I64 (atF (qP g t b) t).fin.kind
    rw [hft];exact k1t,by
    show I64 (atF (qP g t b) t).fin.onn
    rw [hft];exact k2t,by
    show SlQ _ _ _ _ _ _ (atF (qP g t b) b).phis _
    rw [hfb];exact ⟨h3b.sl.kept zZ hk (fun k a b=>(hA1 k b).1 a),h3b.bd⟩,by
    show SlQ _ _ _ _ _ _ (atF (qP g t b) t).fin.to _
    rw [hft];exact ⟨h5t.sl.kept xe hk (fun k a b=>(hB3 k b).1 a),h5t.bd⟩,fun k a c=>hW.two b t hbz htz (Ne.symm hne) k (g1b k a) (g3t k c),fun _ h=>.inl h,fun _ h=>.inr h⟩
  ⟨.slice none 0 0,.slice none 0 0,fun _=>False,fun _=>False,rfl,⟨none,0,0,rfl⟩,by show I64 1;unfold I64;omega,by show I64 0;unfold I64;omega,⟨SlO.nil _ _ _ _ (fun _ h=>h.elim),by simp [ku]⟩,⟨SlO.nil _ _ _ _ (fun _ h=>h.elim),by simp [ku]⟩,fun _ h _=>h.elim,fun _ h=>h.elim,fun _ h=>h.elim⟩
  (fun _ _ h=>h) (fun k h=>⟨h.elim (fun h=>.inl (g1b k h)) (fun h=>.inr (.inl (g3t k h))),Nat.lt_of_lt_of_le (h.elim (fun h=>(hA1 k h).2) (fun h=>(hB3 k h).2)) hk.size⟩) (fun k h=>h.elim)
 rw [zipJ hne,←XJ] at hput
 refine ⟨?_,fun i hi=>?_,fun i j hi hj hij=>?_,fun i hi=>?_⟩
 ·rw [hjl]
  exact hput.grow (fun k h=>h.elim id fun h=>h.elim (fun h=>h.elim (fun h=>hW.sub b hbz k (g1b k h)) (fun h=>hW.sub t htz k (g3t k h))) (fun h=>h.elim)) (fun k h=>Nat.lt_of_lt_of_le (hW.inb k h) hk.size)
 ·have hi2:i<g.blocks.length:=by rw [←hjl];exact hi
  have hj:=vd (f:=g) hi2 hb ht
  rw [qL hi] at hj
  rw [hj]
  by_cases e1:i=t
  ·subst e1
   simp only [v2J,l2J,if_true]
   exact ⟨SlO.nil _ _ _ _ (fun _ h=>h.elim),by simp [ku]⟩
  by_cases e2:i=b
  ·subst e2
   simp only [v2J,l2J,vJ,if_neg e1,if_true]
   exact ⟨hlb.sl.kept zR hk (fun k a c=>hob k (by rw [a];exact hgN) c),hlb.bd⟩
  obtain ⟨q1,q2,q3⟩:=hlo i hi2 e2 e1
  simp only [v2J,l2J,vJ,if_neg e1,if_neg e2]
  rw [qL hi2]
  exact ⟨q1.sl.kept zR hk (fun k a c=>q3 k (by rw [a];exact hgN) c),q1.bd⟩
 ·rw [hjl] at hi hj
  unfold l2J
  intro k a c
  by_cases e1:i=t
  ·rw [if_pos e1] at a;exact a
  by_cases e2:j=t
  ·rw [if_pos e2] at c;exact c
  rw [if_neg e1] at a
  rw [if_neg e2] at c
  by_cases e3:i=b
  ·rw [if_pos e3] at a
   rw [if_neg (by omega)] at c
   exact (hlo j hj (by omega) e2).2.1 k c a
  rw [if_neg e3] at a
  by_cases e4:j=b
  ·rw [if_pos e4] at c
   exact (hlo i hi e3 e1).2.1 k a c
  rw [if_neg e4] at c
  exact hhE i j hi hj hij k a c
 rw [hjl] at hi
 unfold l2J
 intro k a c
 by_cases e1:i=t
 ·rw [if_pos e1] at c;exact c
 rw [if_neg e1] at c
 by_cases e2:i=b
 ·rw [if_pos e2] at c;exact hob k a c
 rw [if_neg e2] at c
 exact (hlo i hi e2 e1).2.2 k a c
end Go.Proofs.YtgjjhadbjmcnpaaGreatDoor
