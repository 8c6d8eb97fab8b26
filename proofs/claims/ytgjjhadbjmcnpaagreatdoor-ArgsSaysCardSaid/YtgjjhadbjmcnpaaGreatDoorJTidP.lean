/-
  Plain: a function tidied twice is tidied once (FunC.twice).
-/
import Derived.Test.YtgjjhadbjmcnpaaGreatDoorJKeeB
import Derived.Lib.Overlaps
import Derived.Laws.Externs
import Derived.Test.YtgjjhadbjmcnpaaGreatDoorJArgR
set_option maxRecDepth 100000
set_option maxHeartbeats 16000000
namespace Go.Proofs.YtgjjhadbjmcnpaaGreatDoor
open Go.RowKit

def VX:ElemO (Value×BlkL):=fun w cs x S=>∃v1 v3 S1 S3,cs=[v1,x.1,Z x.2.fin.kind,.bool x.2.fin.onr,Z x.2.fin.onn,v3]/\(∃p l c,x.1 = .slice p l c)/\I64 x.2.fin.kind/\I64 x.2.fin.onn/\
 SlQ 84 2 32 PhiO w v1 x.2.phis S1/\SlQ 3 1 8 IntO w v3 x.2.fin.to S3/\Apart S1 S3/\(∀k,S1 k->S k)/\∀k,S3 k->S k
theorem vl:kY VX:=fun w w' cs x S h hk hs=>by
 obtain⟨v1,v3,S1,S3,h0,hv,h1,h2,h3,h5,a2,g1,g3⟩:=h;exact⟨v1,v3,S1,S3,h0,hv,h1,h2,h3.loc x8 g1 hk hs,h5.loc xk g3 hk hs,a2,g1,g3⟩
def k8 (V:Nat->Value) (bs:List BlkL):List (Value×BlkL):=bs.mapIdx fun i x=>(V i,x)
theorem xR (V:Nat->Value) (bs:List BlkL):(k8 V bs).length=bs.length:=by simp[k8]
theorem jb {V:Nat->Value} {bs:List BlkL} {i:Nat} (h:i<(k8 V bs).length):(k8 V bs)[i]=(V i,bs[i]'(by rw[←xR V bs];exact h)):=by simp[k8]
theorem zipV_set {V:Nat->Value} {bs:List BlkL} {i:Nat} (x:BlkL):(k8 V bs).set i (V i,x)=k8 V (bs.set i x):=by
 refine yV (by simp[k8]) fun k h1 h2=>?_;rw[jb h2,y8,y8]
 split
 ·next e=>subst e;rfl
 rw[jb]
theorem SlW.innerT {α:Type} {e:TypeId} {size:Nat} {R:ElemO α} {w w':World} {v:Value} {xs:List α} {S:Blks} {cs:Nat->List Value} {T:Nat->Blks} (h:SlW e size R w v xs S cs T) (hR:kY R) {i:Nat} (hi:i<xs.length) {x':α} (hk:Kept (T i) w w') (hr:R w' (cs i) x' (T i)):SlW e size R w' v (xs.set i x') S cs T:=by
 have hl:(xs.set i x').length=xs.length:=by simp
 refine⟨?_,?_,?_,fun m hm=>?_,?_,?_,h.blk,?_,h.inb.mono hk.size⟩
 ·rw[hl];refine⟨h.own.1,?_⟩;rcases h.own.2 with h1|⟨g,cap,cur,hv,hb,hg,r⟩
  ·exact .inl h1
  exact .inr ⟨g,cap,cur,hv,hb,by rw[hk.block g (yL.1 hg).1 (h.off i hi g (by rw[hv];rfl))];exact hg,r⟩
 ·rw[hl];exact h.len
 ·rw[hl];exact h.one
 ·have hm2:m<xs.length:=by rw[←hl];exact hm
  by_cases e1:m=i
  ·subst e1;rw[List.getElem_set_self];exact hr
  rw[List.getElem_set_ne (Ne.symm e1)];exact hR _ _ _ _ _ (h.el m hm2) (fun k hk2=>hk.block k (h.inb k (h.sub m hm2 k hk2)) (fun hk3=>h.two m i hm2 hi e1 k hk2 hk3)) hk.size
 ·rw[hl];exact h.two
 ·rw[hl];exact h.off
 rw[hl];exact h.sub
theorem blkAtN {w w':World} {g c:Nat} {f:FunL} {V:Nat->Value} {S:Blks} {cs:Nat->List Value} {T:Nat->Blks} (h:SlW 49 6 VX w (.slice (some (J g 0)) f.blocks.length c) (k8 V f.blocks) S cs T) (hb:Below w.heap.size w w') (i:Nat) (hi:i<f.blocks.length):Vv w' g 0 i ((kE f).getD i []):=by
 have hi2:i<(k8 V f.blocks).length:=by rw[xR];exact hi
 obtain⟨g',c',e,_,hg,hc⟩:=h.cell hi2
 have hgg:g'=g:=by
  injection e with a _ _;injection a with a;injection a with a;exact a.symm
 subst hgg;have he:=h.el i hi2;rw[jb hi2]at he;obtain⟨v1,v3,S1,S3,h0,⟨p,l,k,hv⟩,_,_,h3,h5,_⟩:=he;obtain⟨p1,c1,rfl,_⟩:=h3.sl.val;obtain⟨p3,c3,rfl,_⟩:=h5.sl.val;rw[kF f i hi];rw[h0]at hc;dsimp only at hv hc;rw[hv]at hc;have hr:=h5.read (R':=jM) xk bO fun _ _ _ h=>h
 have hs:SliceAt w 1 jM p3 f.blocks[i].fin.to:=by
  obtain⟨_,_,e,_,_,h⟩:=hr.outC;cases e;exact h
 refine⟨p1,f.blocks[i].phis.length,c1,p,l,k,f.blocks[i].fin.kind,f.blocks[i].fin.onr,f.blocks[i].fin.onn,p3,c3,?_,?_,?_,?_,?_,?_,hs.mono hb bO fun _ _ h=>h⟩
 all_goals rw[yx]
 ·exact(hb.cell (p:=(J g' (i*6))) hg).trans (hc 0 bO)
 ·exact(hb.cell (p:=(J g' (i*6+1))) hg).trans (hc 1 bO)
 ·exact(hb.cell (p:=(J g' (i*6+2))) hg).trans (hc 2 bO)
 ·exact(hb.cell (p:=(J g' (i*6+3))) hg).trans (hc 3 bO)
 ·exact(hb.cell (p:=(J g' (i*6+4))) hg).trans (hc 4 bO)
 exact(hb.cell (p:=(J g' (i*6+5))) hg).trans (hc 5 bO)

def YW (ah:List Nat) (old now m:Nat):Nat:=((ah.take m).filter fun a=>decide (a<now/\a≠old)).length
theorem cntR_le (ah:List Nat) (old now:Nat) {m:Nat} (_:m<=ah.length):YW ah old now m<=m:=yv (List.length_filter_le _ _) (by rw[yr];omega)
theorem cntR_full (ah:List Nat) (old now:Nat):YW ah old now ah.length=JT ah old now:=by unfold YW;rw[yP];rfl
theorem cntR_succ {ah:List Nat} {old now m:Nat} (h:m<ah.length):YW ah old now (m+1)=YW ah old now m+if ah[m]<now/\ah[m]≠old then 1 else 0:=by
 unfold YW;rw[yA h,List.filter_append,yN];congr 1
 by_cases h:ah[m]<now/\ah[m]≠old
 ·rw[zZ h,List.filter_cons_of_pos (by simpa using h)];rfl
 rw[zQ h,List.filter_cons_of_neg (by simpa using h)];rfl
def Xr (ah:List Nat) (old now:Nat) (p:PhiL):PhiL:={ p with src:=Za ah old now p.src }
def V5 (f:FunL) (old now i:Nat):List BlkL:=f.blocks.mapIdx fun k x=>if(k:Int)∈((atF f old).fin.to).take i then { x with phis:=x.phis.map (Xr (insN f k) old now) } else x
theorem kT (f:FunL) (old now i:Nat):(V5 f old now i).length=f.blocks.length:=by simp[V5]
theorem renK_zero (f:FunL) (old now:Nat):V5 f old now 0=f.blocks:=by
 refine yV (kT f old now 0) fun k h1 h2=>?_;simp[V5]
theorem renK_full (f:FunL) (old now:Nat):V5 f old now ((atF f old).fin.to).length=(qY f old now).blocks:=by
 unfold V5 qY;rw[yP];rfl
theorem VY {f:FunL} {old now i k:Nat} (h:k<(V5 f old now i).length):(V5 f old now i)[k]=if(k:Int)∈((atF f old).fin.to).take i then { (f.blocks[k]'(by rw[←kT f old now i];exact h))with phis:=(f.blocks[k]'(by rw[←kT f old now i];exact h)).phis.map (Xr (insN f k) old now) } else f.blocks[k]'(by rw[←kT f old now i];exact h):=by simp[V5]
theorem renK_succ {f:FunL} {old now i t:Nat} (hi:i<((atF f old).fin.to).length) (ht:((atF f old).fin.to)[i]=(t:Int)) (hd:((atF f old).fin.to).Nodup) (htl:t<f.blocks.length):(∃h,(V5 f old now i)[t]'h=f.blocks[t])/\(V5 f old now i).set t { f.blocks[t]with phis:=f.blocks[t].phis.map (Xr (insN f t) old now) }=V5 f old now (i+1):=by
 have hl:t<(V5 f old now i).length:=by rw[kT];exact htl
 have hn:¬ (t:Int)∈((atF f old).fin.to).take i:=fun h=>by
  rw[List.mem_take_iff_getElem]at h;obtain⟨j,hj,e⟩:=h;rw[←ht]at e;have h2:=congrArg ((atF f old).fin.to).idxOf e;rw[hd.idxOf_getElem j bO,hd.idxOf_getElem i hi]at h2;omega
 refine⟨⟨hl,by rw[VY hl,zQ hn]⟩,?_⟩;refine yV (by simp[V5]) fun k h1 h2=>?_;have h3:k<(V5 f old now i).length:=by simpa using h1
 rw[y8,VY h2]
 have e0:(k:Int)∈((atF f old).fin.to).take (i+1)↔(k:Int)∈((atF f old).fin.to).take i\/k=t:=by
  rw[yA hi,yH,yI,ht];constructor
  ·rintro(h|h)
   ·exact .inl h
   exact .inr bO
  rintro(h|h)
  ·exact .inl h
  exact .inr bO
 split
 ·next e=>
  subst e;rw[zZ (e0.2 (.inr rfl))]
 next e=>
 rw[VY h3]
 by_cases g:(k:Int)∈((atF f old).fin.to).take i
 ·rw[zZ g,zZ (e0.2 (.inl g))]
 rw[zQ g,zQ fun h=>(e0.1 h).elim g (fun h=>e h.symm)]

def Q6 (f:FunL):Nat:=((List.range f.blocks.length).map fun i=>if(atF f i).fin.kind=2 then 1 else 0).sum
theorem KZ (f:FunL):Q6 f<=f.blocks.length:=by
 unfold Q6
 have:∀n,((List.range n).map fun i=>if(atF f i).fin.kind=2 then 1 else 0).sum<=n:=by
  intro n
  induction n with
  | zero=>simp
  | succ n ih=>
   rw[yt,yW,List.sum_append];simp only[yS,yw,List.sum_cons,List.sum_nil]
   split<;>omega
 exact this _
theorem V6 {f:FunL} {b t:Nat} (h:vt f b=some t):(atF f b).fin.kind=2:=by
 unfold vt at h;dsimp only at h
 split at h
 ·rename_i hc;exact hc.1
 cases h
theorem Xs {f:FunL} {b t:Nat} (h:MayJ f b t) (hk:(atF f b).fin.kind=2):Q6 (xX f b t)+1=Q6 f:=by
 unfold Q6;rw[qX];obtain⟨u,hu⟩:∃u:Nat->Nat,u=fun i=>if(atF f i).fin.kind=2 then 1 else 0:=⟨_,rfl⟩
 have e1:((List.range f.blocks.length).map fun i=>if(atF (xX f b t) i).fin.kind=2 then 1 else 0)=(List.range f.blocks.length).map fun j=>if j=t then 0 else if j=b then u t else u j:=by
  refine ya fun i hi=>?_;have hi:=yR.1 hi;rw[ks hi h.hb h.ht]
  by_cases e:i=t
  ·rw[zZ e,zZ e];rfl
  rw[zQ e,zQ e]
  by_cases e2:i=b
  ·simp only[zZ e2,hu]
  simp only[zQ e2,hu]
 have e2:((List.range f.blocks.length).map fun i=>if(atF f i).fin.kind=2 then 1 else 0)=(List.range f.blocks.length).map u:=by rw[hu]
 rw[e1,e2];have s1:=ZH (fun j=>if j=b then u t else u j) 0 t f.blocks.length;have s2:=ZH u (u t) b f.blocks.length;have ub:u b=1:=by rw[hu];exact zZ hk
 rw[zZ h.ht,zZ h.ht,zQ h.ne]at s1;rw[zZ h.hb,zZ h.hb,ub]at s2;omega
theorem FunC.last {nf:Nat} {P:Nat->Int}:∀(c:Nat) {f:FunL} {b:Nat},FunC nf P f->b<f.blocks.length->Q6 f<c->vt (zt c f b) b=none
 | 0,_,_,_,_,h=>by omega
 | c+1,f,b,h,hb,hj=>by
  unfold zt;cases e:vt f b with
  | none=>exact e
  | some t=>
   have hm:=mayJ h hb e;have:=Xs hm (V6 e);exact FunC.last c (h.join hm) (by rw[qX];exact hb) bO

theorem FunC.may_iff {nf:Nat} {P:Nat->Int} {f:FunL} (h:FunC nf P f) {b:Nat} (hb:b<f.blocks.length) {t:Nat}:vt f b=some t↔MayJ f b t:=by
 refine⟨mayJ h hb,fun m=>?_⟩;have e0:(atF f b).fin.to=[(t:Int)]:=by rw[←QB f hb];exact m.to
 have e1:(atF f b).fin.kind=2:=by
  have h1:=h.fin b hb;have h2:=h1.len;rw[qW hb]at e0 ⊢;rw[e0]at h2;simp at h2;omega
 unfold vt;dsimp only;rw[e0];have e2:(([(t:Int)]:List Int).getD 0 0).toNat=t:=by simp
 rw[e2,e1,qW m.ht,m.phi,m.one,zZ ⟨rfl,by have:=m.ne;simp[this]⟩]

theorem FunC.none_join {nf:Nat} {P:Nat->Int} {f:FunL} (h:FunC nf P f) {b t:Nat} (m:MayJ f b t) {x:Nat} (hx:x<f.blocks.length) (hn:vt f x=none):vt (xX f b t) x=none:=by
 have hj:=h.join m;cases e:vt (xX f b t) x with
 | none=>rfl
 | some y=>
  exfalso;have hd:=h.funD;have g:=mayJ hj (by rw[qX];exact hx) e
  have hxb:x≠b:=fun e=>by
   subst e;rw[(h.may_iff m.hb).2 m]at hn;cases hn
  have hy:y<f.blocks.length:=by have:=g.ht;rw[qX]at this;exact this
  have hto:=g.to;rw[kQ m hx]at hto
  by_cases hxt:x=t
  ·rw[zZ hxt]at hto;cases hto
  rw[zQ hxt,zQ hxb]at hto
  have hyt:y≠t:=fun e2=>by
   have:x∈insN f t:=hd.mem.2 ⟨hx,by rw[hto,e2];simp⟩;rw[m.one,yI]at this;exact hxb this
  have hm:MayJ f x y:=by
   refine⟨hx,hy,hto,g.ne,?_,?_⟩
   ·have hp:=g.phi;rw[←qW g.ht,ks hy m.hb m.ht,zQ hyt]at hp;have hp:V1 f b t y=[]:=hp;have:=congrArg List.length hp;unfold V1 at this;rw[yT,qW hy]at this;exact List.eq_nil_of_length_eq_zero (by simpa using this)
   have hi:=fun a=>Zi hd m (i:=y) (a:=a) hyt;rw[g.one]at hi
   by_cases hc:(y:Int)∈tosB f.blocks t
   ·have:=(hi b).2 (by rw[zZ hc];exact .inl rfl);rw[yI]at this;exact absurd this.symm hxb
   refine JY (jn hd y) bV fun a=>?_;have:=hi a;rw[zQ hc]at this;exact this.symm
  rw[(h.may_iff hx).2 hm]at hn;cases hn
theorem FunC.none_chain {nf:Nat} {P:Nat->Int} {x:Nat}:∀(c:Nat) {f:FunL} {b:Nat},FunC nf P f->b<f.blocks.length->x<f.blocks.length->vt f x=none->vt (zt c f b) x=none
 | 0,_,_,_,_,_,h=>h
 | c+1,f,b,h,hb,hx,hn=>by
  unfold zt;cases e:vt f b with
  | none=>exact hn
  | some t=>
   have hm:=mayJ h hb e;exact FunC.none_chain c (h.join hm) (by rw[qX];exact hb) (by rw[qX];exact hx) (h.none_join hm hx hn)
theorem FunC.chained {nf:Nat} {P:Nat->Int} {f:FunL} (h:FunC nf P f) {x:Nat} (hx:x<f.blocks.length):vt (zM f) x=none:=by
 unfold zM
 have key:∀k,k<=f.blocks.length->FunC nf P ((List.range k).foldl (fun g b=>zt (f.blocks.length+1) g b) f)/\((List.range k).foldl (fun g b=>zt (f.blocks.length+1) g b) f).blocks.length=f.blocks.length/\∀x,x<k->vt ((List.range k).foldl (fun g b=>zt (f.blocks.length+1) g b) f) x=none:=by
  intro k
  induction k with
  | zero=>intro _;exact⟨h,rfl,fun x hx=>by omega⟩
  | succ k ih=>
   intro hk;obtain⟨h1,h2,h3⟩:=ih bO;rw[yt,yh,List.foldl_cons,List.foldl_nil];have hkb:k<((List.range k).foldl (fun g b=>zt (f.blocks.length+1) g b) f).blocks.length:=(by rw[h2];omega);obtain⟨g1,g2⟩:=h1.chain (f.blocks.length+1) hkb;refine⟨g1,g2.trans h2,fun x hx=>?_⟩
   by_cases e:x=k
   ·subst e;refine h1.last _ hkb ?_;have:=KZ ((List.range x).foldl (fun g b=>zt (f.blocks.length+1) g b) f);rw[h2]at this;omega
   exact h1.none_chain _ hkb (by rw[h2];omega) (h3 x bO)
 exact(key _ (zK _)).2.2 x hx

structure ChS (w:World) (gq c:Nat) (bs:List BlkL) (V:Nat->Value) (N:Blks) (L:Nat->Blks):Prop where
 row:SlO 49 6 VX w (.slice (some (J gq 0)) bs.length c) (k8 V bs) N
 lst:∀i (h:i<bs.length),SlQ 51 8 80 InsO w (V i) bs[i].list (L i)
 two:∀i j,i<bs.length->j<bs.length->i≠j->Apart (L i) (L j)
 off:∀i,i<bs.length->Apart N (L i)
theorem ChS.of {w:World} {gq c:Nat} {bs:List BlkL} {S:Blks} (h:SlO 49 6 BlkO w (.slice (some (J gq 0)) bs.length c) bs S) (_h0:0<bs.length):∃V N L,ChS w gq c bs V N L/\(∀k,N k->S k)/\∀i,i<bs.length->∀k,L i k->S k:=by
 obtain⟨cs,T,hW⟩:=h
 have key:∀i,∃v:Value,∃A B:Blks,∀(h:i<bs.length),VX w (cs i) (v,bs[i]) A/\SlQ 51 8 80 InsO w v bs[i].list B/\Apart A B/\(∀k,A k->T i k)/\∀k,B k->T i k:=fun i=>by
  by_cases h:i<bs.length
  ·obtain⟨v1,v2,v3,S1,S2,S3,hcs,j1,j2,h3,h4,h5,a1,a2,a3,g1,g2,g3⟩:=hW.el i h;obtain⟨p,cc,hv,_⟩:=h4.sl.val;exact⟨v2,fun k=>S1 k\/S3 k,S2,fun _=>⟨⟨v1,v3,S1,S3,hcs,⟨p,_,cc,hv⟩,j1,j2,h3,h5,a2,fun _ h=>.inl h,fun _ h=>.inr h⟩,h4,fun k a b=>a.elim (fun a=>a1 k a b) (fun a=>a3 k b a),fun k a=>a.elim (g1 k) (g3 k),g2⟩⟩
  exact⟨.slice none 0 0,fun _=>False,fun _=>False,fun h'=>absurd h' h⟩
 obtain⟨V,hV⟩:=Classical.axiomOfChoice key;obtain⟨A,hA⟩:=Classical.axiomOfChoice hV;obtain⟨L,hL⟩:=Classical.axiomOfChoice hA;have hlen:(k8 V bs).length=bs.length:=xR V bs;refine⟨V,fun k=>k=gq\/∃i,i<bs.length/\A i k,L,⟨⟨cs,A,?_⟩,fun i h=>(hL i h).2.1,fun i j hi hj hij k a b=>hW.two i j hi hj hij k ((hL i hi).2.2.2.2 k a) ((hL j hj).2.2.2.2 k b),fun i hi k a b=>?_⟩,fun k hk=>?_,fun i hi k hk=>hW.sub i hi k ((hL i hi).2.2.2.2 k hk)⟩
 ·refine⟨?_,?_,?_,fun i hi=>?_,?_,?_,fun g hg=>.inl (Option.some.inj hg).symm,?_,?_⟩
  ·rw[hlen];exact hW.own
  ·rw[hlen];exact hW.len
  ·rw[hlen];exact hW.one
  ·rw[jb hi];exact(hL i (by rw[←hlen];exact hi)).1
  ·rw[hlen];exact fun i j hi hj hij k a b=>hW.two i j hi hj hij k ((hL i hi).2.2.2.1 k a) ((hL j hj).2.2.2.1 k b)
  ·rw[hlen];exact fun i hi g hg a=>hW.off i hi g hg ((hL i hi).2.2.2.1 g a)
  ·rw[hlen];exact fun i hi k a=>.inr ⟨i,hi,a⟩
  rintro k (rfl|⟨i,hi,a⟩)
  ·exact(hW.own.lt k rfl).2
  exact hW.inb k (hW.sub i hi k ((hL i hi).2.2.2.1 k a))
 ·rcases a with rfl|⟨j,hj,a⟩
  ·exact hW.off i hi k rfl ((hL i hi).2.2.2.2 k b)
  by_cases e:j=i
  ·subst e;exact(hL j hj).2.2.1 k a b
  exact hW.two j i hj hi e k ((hL j hj).2.2.2.1 k a) ((hL i hi).2.2.2.2 k b)
 rcases hk with rfl|⟨i,hi,a⟩
 ·exact hW.blk k rfl
 exact hW.sub i hi k ((hL i hi).2.2.2.1 k a)
theorem ChS.to {w:World} {gq c:Nat} {bs:List BlkL} {V:Nat->Value} {N:Blks} {L:Nat->Blks} (h:ChS w gq c bs V N L):SlO 49 6 BlkO w (.slice (some (J gq 0)) bs.length c) bs (fun k=>N k\/∃i,i<bs.length/\L i k):=by
 obtain⟨⟨cs,T,hW⟩,hl,h2,ho⟩:=h;have hlen:(k8 V bs).length=bs.length:=xR V bs;have hT:∀i,i<bs.length->∀k,T i k->N k:=fun i hi=>hW.sub i (by rw[hlen];exact hi);have hjB:=hW.two;have hoff:=hW.off;have hown:=hW.own;have hle:=hW.len;have hone:=hW.one;rw[hlen]at hjB hoff hown hle hone;refine⟨cs,fun i k=>T i k\/L i k,⟨hown,hle,hone,fun i hi=>?_,fun i j hi hj hij k a b=>?_,fun i hi g hg a=>?_,fun g hg=>.inl (hW.blk g hg),fun i hi k a=>?_,?_⟩⟩
 ·have hi2:i<(k8 V bs).length:=by rw[hlen];exact hi
  have he:=hW.el i hi2;rw[jb hi2]at he;obtain⟨v1,v3,S1,S3,hcs,_,j1,j2,h3,h5,a2,g1,g3⟩:=he;exact⟨v1,V i,v3,S1,L i,S3,hcs,j1,j2,h3,hl i hi,h5,fun k a b=>ho i hi k (hT i hi k (g1 k a)) b,a2,fun k a b=>ho i hi k (hT i hi k (g3 k b)) a,fun k a=>.inl (g1 k a),fun k a=>.inr a,fun k a=>.inl (g3 k a)⟩
 ·rcases a with a|a<;>rcases b with b|b
  ·exact hjB i j hi hj hij k a b
  ·exact ho j hj k (hT i hi k a) b
  ·exact ho i hi k (hT j hj k b) a
  exact h2 i j hi hj hij k a b
 ·rcases a with a|a
  ·exact hoff i hi g hg a
  exact ho i hi g (hW.blk g hg) a
 ·rcases a with a|a
  ·exact .inl (hT i hi k a)
  exact .inr ⟨i,hi,a⟩
 rintro k (a|⟨i,hi,a⟩)
 ·exact hW.inb k a
 exact(hl i hi).sl.inb k a
theorem ChS.kept {U:Blks} {w w':World} {gq c:Nat} {bs:List BlkL} {V:Nat->Value} {N:Blks} {L:Nat->Blks} (h:ChS w gq c bs V N L) (hk:Kept U w w') (hN:Apart U N) (hL:∀i,i<bs.length->Apart U (L i)):ChS w' gq c bs V N L:=
 ⟨h.row.kept vl hk hN,fun i hi=>⟨(h.lst i hi).sl.kept qT hk (hL i hi),(h.lst i hi).bd⟩,h.two,h.off⟩
theorem ChS.below {w w':World} {gq c:Nat} {bs:List BlkL} {V:Nat->Value} {N:Blks} {L:Nat->Blks} (h:ChS w gq c bs V N L) (hb:Below w.heap.size w w'):ChS w' gq c bs V N L:=h.kept (U:=fun _=>False) (Kept.of_below hb) (fun _ a _=>a) (fun _ _ _ a _=>a)
theorem Xt:∀{l:List Nat} {x:Nat},x∈l->x<=l.sum
 | y::l,x,h=>by
  rw[List.sum_cons];rcases yC.1 h with rfl|h
  ·omega
  have:=Xt h;omega
theorem V7 {f:FunL} {b:Nat} (h:b<f.blocks.length):f.blocks[b].list.length<=xu f:=by
 rw[k5];have:=Xt (l:=(List.range f.blocks.length).map fun b=>(atF f b).phis.length+(atF f b).list.length) (yD.2 ⟨b,yR.2 h,rfl⟩);rw[qW h]at this;omega
theorem ChS.at {w:World} {gq c:Nat} {bs:List BlkL} {V:Nat->Value} {N:Blks} {L:Nat->Blks} (h:ChS w gq c bs V N L) {i:Nat} (hi:i<bs.length):∃q1 d1 p2 d2 q3 d3,V i = .slice p2 bs[i].list.length d2/\(∀j,j<6->w.cell? (J gq (i*6+j))=[Value.slice q1 bs[i].phis.length d1,.slice p2 bs[i].list.length d2,Z bs[i].fin.kind,.bool bs[i].fin.onr,Z bs[i].fin.onn,.slice q3 bs[i].fin.to.length d3][j]?)/\N gq/\gq<w.heap.size/\(∀o,w.frozen? (J gq o)=false)/\
  SliceAt w 1 jM q3 bs[i].fin.to:=by
 obtain⟨p2,d2,hv,_⟩:=(h.lst i hi).sl.val;have hi2:i<(k8 V bs).length:=by rw[xR];exact hi
 obtain⟨g,cc,cs,T,hgv,hg,hS,hl,hx,_,_,hc,hf,_⟩:=h.row.focus vl bO hi2
 have hgg:g=gq:=by
  injection hgv with a _ _;injection a with a;injection a with a;exact a.symm
 subst hgg;rw[jb hi2]at hx;obtain⟨v1,v3,S1,S3,rfl,_,_,_,h3,h5,_⟩:=hx;obtain⟨q1,d1,rfl,_⟩:=h3.sl.val;obtain⟨q3,d3,rfl,_⟩:=h5.sl.val;dsimp only at hc h5;rw[hv]at hc;have hr:=h5.read (R':=jM) xk bO fun _ _ _ h=>h;refine⟨q1,d1,p2,d2,q3,d3,hv,hc,hS,hg,hf,?_⟩;obtain⟨_,_,e,_,_,hh⟩:=hr.outC;cases e;exact hh

def vJ (V:Nat->Value) (b:Nat) (v:Value) (i:Nat):Value:=if i=b then v else V i
def v2J (V:Nat->Value) (b t:Nat) (v:Value) (i:Nat):Value:=if i=t then .slice none 0 0 else vJ V b v i
def l2J (L:Nat->Blks) (b t:Nat) (Lb:Blks) (i:Nat):Blks:=if i=t then fun _=>False else if i=b then Lb else L i
def backB (g:FunL) (b t:Nat):BlkL:={ phis:=(atF (qY g t b) b).phis,list:=(atF (qY g t b) b).list++(atF (qY g t b) t).list,fin:=(atF (qY g t b) t).fin }
theorem V8 (g:FunL) (b t:Nat):(xX g b t).blocks=((qY g t b).blocks.set b (backB g b t)).set t Qw:=rfl
theorem zipJ {V:Nat->Value} {b t:Nat} {v:Value} {bs:List BlkL} {x y:BlkL} (h:t≠b):((k8 (vJ V b v) bs).set b (v,x)).set t (.slice none 0 0,y)=k8 (v2J V b t v) ((bs.set b x).set t y):=by
 refine yV (by simp[k8]) fun k h1 h2=>?_;rw[jb h2,y8,y8,y8,y8]
 by_cases e:t=k
 ·subst e;rw[zZ rfl,zZ rfl];simp[v2J]
 rw[zQ e,zQ e]
 by_cases e2:b=k
 ·subst e2;rw[zZ rfl,zZ rfl];simp[v2J,vJ,Ne.symm h]
 rw[zQ e2,zQ e2,jb];simp[v2J,vJ,Ne.symm e,Ne.symm e2]
theorem zipV_vJ {V:Nat->Value} {b:Nat} {v:Value} {bs:List BlkL} (h:b<bs.length):(k8 V bs).set b (v,bs[b])=k8 (vJ V b v) bs:=by
 refine yV (by simp[k8]) fun k h1 h2=>?_;rw[jb h2,y8]
 by_cases e:b=k
 ·subst e;rw[zZ rfl];simp[vJ]
 rw[zQ e,jb];simp[vJ,Ne.symm e]
theorem rowN_swap {w:World} {gq c:Nat} {bs:List BlkL} {V:Nat->Value} {N:Blks} (h:SlO 49 6 VX w (.slice (some (J gq 0)) bs.length c) (k8 V bs) N) {b:Nat} (hb:b<bs.length) {p:Option Addr} {l k:Nat}:SlO 49 6 VX (w.setCell (J gq (b*6+1)) (.slice p l k)) (.slice (some (J gq 0)) bs.length c) (k8 (vJ V b (.slice p l k)) bs) N:=by
 have hbz:b<(k8 V bs).length:=by rw[xR];exact hb
 obtain⟨g,cc,cs,T,hgv,hg,hS,hl,hx,hT,hTS,hc,hf,_,put⟩:=h.inner vl bO hbz
 have hgg:g=gq:=by
  injection hgv with a _ _;injection a with a;injection a with a;exact a.symm
 subst hgg;rw[jb hbz]at hx
 have h1:=put w (.slice p l k,bs[b]) T 1 (.slice p l k) bO rfl (Kept.refl _ _) (by
  obtain⟨v1,v3,S1,S3,rfl,_,j1,j2,h3,h5,a2,g1,g3⟩:=hx
  exact⟨v1,v3,S1,S3,rfl,⟨_,_,_,rfl⟩,j1,j2,h3.loc x8 g1 (fun k hk=>zJ _ _ _ k (fun e=>hT (by rw[←show k=g from e];exact hk))) (by simp[World.setCell]),h5.loc xk g3 (fun k hk=>zJ _ _ _ k (fun e=>hT (by rw[←show k=g from e];exact hk))) (by simp[World.setCell]),a2,g1,g3⟩) (fun k hk=>⟨.inl hk,h.inb k (hTS k hk)⟩)
 rw[zipV_vJ hb]at h1;exact h1.grow (fun k hk=>hk.elim id (hTS k)) (h.inb.mono (by simp[World.setCell]))
def four (w:World) (g o:Nat) (a2 a3 a4 a5:Value):World:=(((w.setCell (J g (o+2)) a2).setCell (J g (o+2+1)) a3).setCell (J g (o+2+2)) a4).setCell (J g (o+2+3)) a5
theorem four_kept (w:World) (g o:Nat) (a2 a3 a4 a5:Value):Kept (fun i=>i=g) w (four w g o a2 a3 a4 a5):=by
 unfold four;have h0:Kept (fun i=>i=g) w w:=Kept.refl _ w;have h3:=h0.setCell (p:=(J g (o+2))) rfl a2;have h4:=h3.setCell (p:=(J g (o+2+1))) rfl a3;have h5:=h4.setCell (p:=(J g (o+2+2))) rfl a4;exact h5.setCell (p:=(J g (o+2+3))) rfl a5
theorem RowPut.four {w w1:World} {e:TypeId} {g o:Nat} {c0 c1 c2 c3 c4 c5:Value} (h:RowPut w w1 e g o 6 [c0,c1,c2,c3,c4,c5]) (a2 a3 a4 a5:Value):RowPut w (Go.Proofs.YtgjjhadbjmcnpaaGreatDoor.four w1 g o a2 a3 a4 a5) e g o 6 [c0,c1,a2,a3,a4,a5]:=by
 have h2:=RowPut.set h rfl (j:=2) bO a2;simp only[yZ,yQ]at h2;have h3:=RowPut.set h2 rfl (j:=3) bO a3;simp only[yZ,yQ]at h3;have h4:=RowPut.set h3 rfl (j:=4) bO a4;simp only[yZ,yQ]at h4;have h5:=RowPut.set h4 rfl (j:=5) bO a5;simp only[yZ,yQ]at h5;unfold Go.Proofs.YtgjjhadbjmcnpaaGreatDoor.four;exact h5
theorem ChS.joined {w2 wa wf:World} {gq c:Nat} {g:FunL} {V:Nat->Value} {N:Blks} {L:Nat->Blks} {b t:Nat} {v' v1b v3t:Value} {Lb:Blks} (hb:b<g.blocks.length) (ht:t<g.blocks.length) (hne:t≠b)
  (hrow:SlO 49 6 VX w2 (.slice (some (J gq 0)) g.blocks.length c) (k8 (vJ V b v') (qY g t b).blocks) N)
  (hlb:SlQ 51 8 80 InsO w2 v' ((atF g b).list++(atF g t).list) Lb) (hob:Apart N Lb) (hlo:∀i (hi:i<g.blocks.length),i≠b->i≠t->SlQ 51 8 80 InsO w2 (V i) g.blocks[i].list (L i)/\Apart (L i) Lb/\Apart N (L i))
  (hjB:∀i j,i<g.blocks.length->j<g.blocks.length->i≠j->Apart (L i) (L j))
  (hv1:w2.cell? (J gq (b*6))=some v1b) (hv3:w2.cell? (J gq (t*6+5))=some v3t)
  (p1:RowPut w2 wa 49 gq (b*6) 6 [v1b,v',Z (atF g t).fin.kind,.bool (atF g t).fin.onr,Z (atF g t).fin.onn,v3t])
  (p2:RowPut wa wf 49 gq (t*6) 6 [.slice none 0 0,.slice none 0 0,Z 1,.bool false,Z 0,.slice none 0 0])
  (hk:Kept (fun k=>k=gq) w2 wf):ChS wf gq c (xX g b t).blocks (v2J V b t v') N (l2J L b t Lb):=by
 have hrl:(qY g t b).blocks.length=g.blocks.length:=kP g b t;have hjl:(xX g b t).blocks.length=g.blocks.length:=qX g b t;obtain⟨cs,T,hW⟩:=hrow;have hzl:(k8 (vJ V b v') (qY g t b).blocks).length=g.blocks.length:=by rw[xR,hrl]
 have hbz:b<(k8 (vJ V b v') (qY g t b).blocks).length:=by rw[hzl];exact hb
 have htz:t<(k8 (vJ V b v') (qY g t b).blocks).length:=by rw[hzl];exact ht
 have hbr:b<(qY g t b).blocks.length:=by rw[hrl];exact hb
 have htr:t<(qY g t b).blocks.length:=by rw[hrl];exact ht
 have hgN:N gq:=hW.blk gq rfl;have eb:=hW.el b hbz;have et:=hW.el t htz;rw[jb hbz]at eb;rw[jb htz]at et;obtain⟨x1,x3,A1,A3,hcb,_,_,_,h3b,_,_,g1b,_⟩:=eb;obtain⟨y1,y3,B1,B3,hct,_,k1t,k2t,_,h5t,_,_,g3t⟩:=et
 have e1:v1b=x1:=by
  obtain⟨g',c',e,_,_,hc⟩:=hW.cell hbz
  have hgg:g'=gq:=by
   injection e with a _ _;injection a with a;injection a with a;exact a.symm
  subst hgg;have:=hc 0 bO;rw[yJ,hv1,hcb]at this;exact Option.some.inj this
 have e3:v3t=y3:=by
  obtain⟨g',c',e,_,_,hc⟩:=hW.cell htz
  have hgg:g'=gq:=by
   injection e with a _ _;injection a with a;injection a with a;exact a.symm
  subst hgg;have:=hc 5 bO;rw[hv3,hct]at this;exact Option.some.inj this
 subst e1 e3;dsimp only at h3b h5t k1t k2t;have hfb:atF (qY g t b) b=(qY g t b).blocks[b]:=qW hbr;have hft:atF (qY g t b) t=(qY g t b).blocks[t]:=qW htr;have hra:=kr (f:=g) (b:=b) (t:=t) hb;have hrt:=kr (f:=g) (b:=b) (t:=t) ht;have hfin:(atF (qY g t b) t).fin=(atF g t).fin:=by rw[hrt]
 have hA1:∀k,A1 k->k≠gq/\k<w2.heap.size:=fun k hk2=>⟨fun e=>hW.off b hbz gq rfl (by rw[←e];exact g1b k hk2),h3b.sl.inb k hk2⟩;have hB3:∀k,B3 k->k≠gq/\k<w2.heap.size:=fun k hk2=>⟨fun e=>hW.off t htz gq rfl (by rw[←e];exact g3t k hk2),h5t.sl.inb k hk2⟩
 obtain⟨pv,lv,cv,hvs⟩:∃p l c,v' = .slice p l c:=by
  obtain⟨p,c,h,_⟩:=hlb.sl.val;exact⟨p,_,c,h⟩
 have hput:=hW.put2 (w1:=wa) (w2:=wf) (xi:=(v',backB g b t)) (xj:=(.slice none 0 0,Qw)) (Ti:=fun k=>A1 k\/B3 k) (Tj:=fun _=>False) vl bO rfl hbz htz (Ne.symm hne) p1 p2 rfl rfl (fun u hu=>by
   obtain⟨_,_,r1,_⟩:=h3b.sl.val;obtain⟨_,_,r3,_⟩:=h5t.sl.val;simp only[yC,yG,yl]at hu;rcases hu with rfl|rfl|rfl|rfl|rfl|rfl
   ·rw[r1];rfl
   ·rw[hvs];rfl
   ·rfl
   ·rfl
   ·rfl
   ·rw[r3];rfl) (fun u hu=>by
   simp only[yC,yG,yl]at hu
   rcases hu with rfl|rfl|rfl|rfl|rfl|rfl<;>rfl) hk.size (fun k h1 _ _ h4=>hk.block k (hW.inb k h1) h4)
  ⟨v1b,v3t,A1,B3,by rw[←hfin];rfl,⟨pv,lv,cv,hvs⟩,by
    show I64 (atF (qY g t b) t).fin.kind;rw[hft];exact k1t,by
    show I64 (atF (qY g t b) t).fin.onn;rw[hft];exact k2t,by
    show SlQ _ _ _ _ _ _ (atF (qY g t b) b).phis _;rw[hfb];exact⟨h3b.sl.kept x8 hk (fun k a b=>(hA1 k b).1 a),h3b.bd⟩,by
    show SlQ _ _ _ _ _ _ (atF (qY g t b) t).fin.to _
    rw[hft];exact⟨h5t.sl.kept xk hk (fun k a b=>(hB3 k b).1 a),h5t.bd⟩,fun k a c=>hW.two b t hbz htz (Ne.symm hne) k (g1b k a) (g3t k c),fun _ h=>.inl h,fun _ h=>.inr h⟩
  ⟨.slice none 0 0,.slice none 0 0,fun _=>False,fun _=>False,rfl,⟨none,0,0,rfl⟩,by show I64 1;unfold I64;omega,by show I64 0;unfold I64;omega,⟨SlO.nil _ _ _ _ (fun _ h=>h.elim),by simp[Qw]⟩,⟨SlO.nil _ _ _ _ (fun _ h=>h.elim),by simp[Qw]⟩,fun _ h _=>h.elim,fun _ h=>h.elim,fun _ h=>h.elim⟩
  (fun _ _ h=>h) (fun k h=>⟨h.elim (fun h=>.inl (g1b k h)) (fun h=>.inr (.inl (g3t k h))),xB (h.elim (fun h=>(hA1 k h).2) (fun h=>(hB3 k h).2)) hk.size⟩) (fun k h=>h.elim)
 rw[zipJ hne,←V8]at hput;refine⟨?_,fun i hi=>?_,fun i j hi hj hij=>?_,fun i hi=>?_⟩
 ·rw[hjl];exact hput.grow (fun k h=>h.elim id fun h=>h.elim (fun h=>h.elim (fun h=>hW.sub b hbz k (g1b k h)) (fun h=>hW.sub t htz k (g3t k h))) (fun h=>h.elim)) (fun k h=>xB (hW.inb k h) hk.size)
 ·have hi2:i<g.blocks.length:=by rw[←hjl];exact hi
  have hj:=ks (f:=g) hi2 hb ht;rw[qW hi]at hj;rw[hj]
  by_cases e1:i=t
  ·subst e1;simp only[v2J,l2J,if_true];exact⟨SlO.nil _ _ _ _ (fun _ h=>h.elim),by simp[Qw]⟩
  by_cases e2:i=b
  ·subst e2;simp only[v2J,l2J,vJ,zQ e1,if_true];exact⟨hlb.sl.kept qT hk (fun k a c=>hob k (by rw[a];exact hgN) c),hlb.bd⟩
  obtain⟨q1,q2,q3⟩:=hlo i hi2 e2 e1;simp only[v2J,l2J,vJ,zQ e1,zQ e2];rw[qW hi2];exact⟨q1.sl.kept qT hk (fun k a c=>q3 k (by rw[a];exact hgN) c),q1.bd⟩
 ·rw[hjl]at hi hj;unfold l2J;intro k a c
  by_cases e1:i=t
  ·rw[zZ e1]at a;exact a
  by_cases e2:j=t
  ·rw[zZ e2]at c;exact c
  rw[zQ e1]at a;rw[zQ e2]at c
  by_cases e3:i=b
  ·rw[zZ e3]at a;rw[zQ bO]at c;exact(hlo j hj bO e2).2.1 k c a
  rw[zQ e3]at a
  by_cases e4:j=b
  ·rw[zZ e4]at c;exact(hlo i hi e3 e1).2.1 k a c
  rw[zQ e4]at c;exact hjB i j hi hj hij k a c
 rw[hjl]at hi;unfold l2J;intro k a c
 by_cases e1:i=t
 ·rw[zZ e1]at c;exact c
 rw[zQ e1]at c
 by_cases e2:i=b
 ·rw[zZ e2]at c;exact hob k a c
 rw[zQ e2]at c;exact(hlo i hi e2 e1).2.2 k a c
end Go.Proofs.YtgjjhadbjmcnpaaGreatDoor
namespace Go.Proofs.YtgjjhadbjmcnpaaGreatDoor
open Go.RowKit Go.Shelf

section
variable {P : Program}
theorem wpList_copy_row {ops:Array Oper} {rest:List Oper} {o:Oper} {a:Act} {w:World} {Q:Exit->Act->World->Prop} (hgd:o.guard=none) (d s:Operand) (t t':TypeId)
  (ho:o.op = .call { callee:=.builtin .copy,args:=#[d,s],argTypes:=#[t,t'] }) (v u:Value) (hd:a.eval d=v) (hs:a.eval s=u) {v':Value} {w':World}
  (hr:(Builtin.copy_ #[t,t'] o.type #[v,u]).run P w = .ok v' w') (h:wpList P ops Q rest (a.put o.dst v') w'):wpList P ops Q (o::rest) a w:=by
 refine wpList_plain hgd fun K hK=>?_;unfold Oper.wp execOp;simp only[ho,resolve,invoke,builtin,Sem.run_bind,Sem.run_pure,Result.andThen_ok,List.map_toArray,yS,yw,hd,hs,hr];exact hK _ _ h
theorem step_copy_row {ops:Array Oper} {o:Oper} {a:Act} {w:World} {K:Act->World->Prop} {Q:Exit->Act->World->Prop} {E:Prop}
  (hg:o.guard=none) (d x:Operand) (dT sT:TypeId) (hop:o.op=Op.call { callee:=Callee.builtin Builtin.copy,args:=#[d,x],argTypes:=#[dT,sT] })
  (v u:Value) (hd:a.eval d=v) (hx:a.eval x=u) {v':Value} {w':World} (hr:(Builtin.copy_ #[dT,sT] o.type #[v,u]).run P w = .ok v' w') (hK:K (a.put o.dst v') w') :
  if Region.wanted o (yielded ops a.tmps)=true then Oper.wp P o a w K Q else E:=by
 have hw:Region.wanted o (yielded ops a.tmps)=true:=by simp[Region.wanted,hg]
 rw[zZ hw];unfold Oper.wp;simp[execOp,hop,resolve,invoke,builtin,hd,hx,hr,Result.andThen];exact hK
theorem wpList_append_row {ops:Array Oper} {rest:List Oper} {o:Oper} {a:Act} {w:World} {Q:Exit->Act->World->Prop} (hgd:o.guard=none) (s x:Operand) (t:TypeId)
  (ho:o.op=Op.call { callee:=Callee.builtin Builtin.append,args:=#[s,x],argTypes:=#[t,t] })
  (e:TypeId) (i:TypeInfo) (size:Nat) (ht:P.underlying t=some (.slice e)) (hi:P.info? e=some i) (hsz:i.size=size)
  (g n cap:Nat) (cur:Array Value) (hs:a.eval s = .slice (some (J g 0)) n cap) (hr:RowAt w e g cap size cur)
  (ad:Addr) (m c:Nat) (news:List Value) (hx:a.eval x = .slice (some ad) m c) (hn:news.length=m*size) (hc:∀j u,news[j]?=some u->w.cell? (ad.add j)=some u) (h1c:∀u∈news,u.oneCell'=true)
  (hroom:n+m<=cap)
  (h:wpList P ops Q rest (a.put o.dst (.slice (some (J g 0)) (n+m) cap)) (w.setRow g (cur.toList.take (n*size)++news++cur.toList.drop (n*size+news.length)).toArray)) :
  wpList P ops Q (o::rest) a w:=by
 refine wpList_plain hgd fun K hK=>?_;subst hsz;have hfit:n*i.size+news.length<=cur.size:=by rw[hn,hr.2.1,←Nat.add_mul];exact ye _ hroom
 have hrun:=run_append_room (P:=P) w t o.type e i ht hi g n cap cur hr.1 ad m c news hn hc h1c hroom hfit;unfold Oper.wp execOp;simp only[ho,resolve,invoke,builtin,Sem.run_bind,Sem.run_pure,Result.andThen_ok,List.map_toArray,yS,yw,hs,hx,hrun];exact hK _ _ h
end

theorem shape_row {w:World} {g:Nat} {cur:Array Value} {e:TypeId} (h:w.heap[g]?=some (.cells cur e (0,0))):w.shape? g=some (e,cur.size):=by
 simp[World.shape?,h]

theorem ZO (g cap n i vb:Nat) (x:Bool×Int) (xs:List (Bool×Int)) (cur:Array Value) (w:World) (hr:RowAt w 44 g cap 2 cur) (hx:cur.toList.take (n*2)=zl xs) (hl:xs.length=n) (hn:n+1<=cap) (hi:i<=n) (hvb:w.heap[vb]?=some (.cells #[.bool x.1,Z x.2] 44 (0,0))) (hne:vb≠g) :
  Calls Tryz.prog 107 #[.slice (some (J g 0)) n cap,Z i,.slice (some (J vb 0)) 1 1] w fun e w'=>
   e = .returned (.slice (some (J g 0)) (n+1) cap)/\(∃cur',RowAt w' 44 g cap 2 cur'/\cur'.toList.take ((n+1)*2)=zl (xs.take i++x::xs.drop i))/\Kept (fun b=>b=g) w w':=by
 obtain⟨i1,k1,k2,k3,k4⟩:=info_parts vU;have hcm:cap<=9223372036854775807:=hr.2.2;have hcs:=hr.2.1
 have hxc:∀j u,(zl [x])[j]?=some u->w.cell? ((⟨vb,0,none⟩:Addr).add j)=some u:=fun j u hu=>by
  rw[vC,cell_of_row w vb _ _ _ (0,0) hvb,yx];simpa[zl]using hu
 by_cases he:i=n
 ·subst he;have HR:=q8 hr;have HX:=q8 hxc;have HK:=q8 (zh hx hl);clear hr hxc hx hl hvb
  go_enter Tryz.func107,Tryz.ntmps107
  go_wp2_with (at_builtin;refine wpList_append_row rfl _ _ 40 rfl 44 i1 2 Tryz.underlying40 k1 k3 g i cap cur rfl HR.out ⟨vb,0,none⟩ 1 1 (zl [x]) rfl rfl HX.out (Qt _) hn ?_)
  go_ret
  obtain⟨hx,hl⟩:=HK.out
  have hput:(cur.toList.take (i*2)++zl [x]++cur.toList.drop (i*2+(zl [x]).length)).length=cap*2:=by
   simp only[yN,yr,List.length_drop,Array.length_toList,hcs,xy,yi,List.length_nil];omega
  have hin:cur.toList.take (i*2)++zl [x]=zl (xs.take i++x::xs.drop i):=by
   rw[hx,List.take_of_length_le bO,List.drop_eq_nil_of_le bO,Qs]
  have hlen:(cur.toList.take (i*2)++zl [x]).length=(i+1)*2:=by
   simp only[yN,yr,Array.length_toList,hcs,xy,yi,List.length_nil];omega
  have hrow:=HR.out.put hput;have hkp:=HR.out.keep (cur.toList.take (i*2)++zl [x]++cur.toList.drop (i*2+(zl [x]).length)).toArray
  have hfin:List.take ((i+1)*2) (cur.toList.take (i*2)++zl [x]++cur.toList.drop (i*2+(zl [x]).length))=zl (xs.take i++x::xs.drop i):=by
   rw[←hlen,List.take_left,hin]
  simp only[yF]at hrow hkp hfin ⊢;exact⟨rfl,⟨_,hrow,hfin⟩,hkp⟩
 have hlt:i<n:=by omega
 have hov:∀lb cb,(callFunc 114 #[.slice (some (J vb 0)) 1 1,.slice (some (J g ((i+1)*2))) lb cb]).run Tryz.prog w = .ok (.value (.bool false)) w:=fun lb cb=>by
  have hrb:=shape_row hr.1;have hbE:cur.size≠0:=by omega
  rw[run_callFunc_extern Tryz.func114 bK bK bK (e:=Extern.SlicesOverlaps.overlaps #[40,40] #[4]) bK,
   Lib.run_overlaps_apart w 40 4 44 Tryz.underlying40 2 Tryz.sizeOf44 ⟨vb,0,none⟩ ⟨g,(i+1)*2,none⟩ 1 1 lb cb hne 44 44 2 cur.size (shape_row hvb) hrb hbE ((blk hvb).2 0) ((blk hvb).2 2)]
  rfl
 have hsz:(Tryz.prog.info? 44).map (·.size)=some 2:=by rw[k1];simp[k3]
 have hdl:(zl (xs.drop i)).length=(n - i)*2:=by rw[xy,List.length_drop,hl]
 have hget:∀t u,(zl (xs.drop i))[t]?=some u->cur[i*2+t]?=some u:=fun t u hu=>by
  rw[QT,List.getElem?_drop,←hx]at hu;rw[←xJ];rw[List.getElem?_take]at hu
  split at hu
  ·exact hu
  cases hu
 obtain⟨c1,hc1⟩:∃c1:List Value,c1=cur.toList.take ((i+1)*2)++zl (xs.drop i)++cur.toList.drop ((i+1)*2+(zl (xs.drop i)).length):=⟨_,rfl⟩
 have hbM:c1.length=cap*2:=by
  rw[hc1];simp only[yN,yr,List.length_drop,Array.length_toList,hcs,hdl];omega
 obtain⟨W1,hW1⟩:=nZ (w.drew.setRow g c1.toArray);have hr1:RowAt W1 44 g cap 2 c1.toArray:=by rw[hW1];exact hr.drew.put hbM
 have hcp1:∀ty dc sc,(Builtin.copy_ #[40,40] ty #[.slice (some (J g ((i+1)*2))) (n - i) dc,.slice (some (J g (i*2))) (n+1 - i) sc]).run Tryz.prog w.drew = .ok (goInt (Nat.min (n+1 - i) (n - i):Nat)) W1:=fun ty dc sc=>by
  have:=vX (P:=Tryz.prog) w.drew 40 40 ty 44 g ((i+1)*2) (n - i) dc 2 ⟨g,i*2,none⟩ (n+1 - i) sc cur 44 (zl (xs.drop i)) Tryz.underlying40 hsz hr.drew.1
   (by rw[hdl,show Nat.min (n+1 - i) (n - i)=n - i by simp only[Nat.min_def];split<;>omega]) (fun j v hj=>by rw[vC];exact(hr.drew.cell _).trans (hget j v hj)) (by rw[hdl,hcs];omega) (Qt _)
  rw[this,←hc1,←hW1]
 have hcp2:∀ty dc,(Builtin.copy_ #[40,40] ty #[.slice (some (J g (i*2))) (n+1 - i) dc,.slice (some (J vb 0)) 1 1]).run Tryz.prog W1 = .ok (goInt (Nat.min 1 (n+1 - i):Nat)) (W1.setRow g (c1.toArray.toList.take (i*2)++zl [x]++c1.toArray.toList.drop (i*2+(zl [x]).length)).toArray):=fun ty dc=>
  vX (P:=Tryz.prog) W1 40 40 ty 44 g (i*2) (n+1 - i) dc 2 ⟨vb,0,none⟩ 1 1 c1.toArray 44 (zl [x]) Tryz.underlying40 hsz hr1.1
   (by rw[xy,show Nat.min 1 (n+1 - i)=1 by simp only[Nat.min_def];split<;>omega];rfl) (fun j v hj=>by
    have h1:=hxc j v hj;rw[vC]at h1 ⊢;rw[hW1,show(w.drew.setRow g c1.toArray).cell? (J vb (0+j))=w.drew.cell? (J vb (0+j))from zN (setRow_other w.drew g vb _ hne)]
    exact h1) (by simp only[List.size_toArray,hbM,xy,yi,List.length_nil];omega) (Qt _)
 have HW:=q8 hW1;have HR:=q8 hr;have HR1:=q8 hr1;have HX:=q8 (zh hx (zh hc1 (zh hbM hl)));have hb1:¬ cap=i+1:=by omega
 have hb2:¬ cap=i:=by omega
 have hb3:i+1<=cap:=by omega
 have hwr:IntKind.i64.wrap ((i:Int)+1)=(i:Int)+1:=by rw[xI];omega
 have hwb:(0:Int)<=(i:Int)+1:=by omega
 have hwc:(i:Int)+1<=(n:Int)+1:=by omega
 have hwd:(i:Int)<=(n:Int)+1:=by omega
 have hwt:((i:Int)+1).toNat=i+1:=by omega
 have mixed:Tryz.prog.follows .mixedOrders=true:=by kernel_rfl
 clear hW1 hr hr1 hget hx hc1 hbM hxc hvb hl
 go_enter Tryz.func107,Tryz.ntmps107
 go_wp2_with (simp only[hov])
 go_region_law_o (refine step_copy_row rfl _ _ 40 40 rfl _ _ (by simp[Act.eval,Act.put]) (by simp[Act.eval,Act.put]) (hcp1 _ _ _) ?_)
 go_wp2_with (at_builtin;refine wpList_copy_row rfl _ _ 40 40 rfl _ _ rfl rfl (hcp2 _ _) ?_)
 go_ret
 obtain⟨hx,hc1,hbM,hl⟩:=HX.out
 have hput:(c1.take (i*2)++zl [x]++c1.drop (i*2+(zl [x]).length)).length=cap*2:=by
  simp only[yN,yr,List.length_drop,hbM,xy,yi,List.length_nil];omega
 have hrow:=HR1.out.put hput;have hkp:=((Kept.refl (fun b=>b=g) w).drew.trans (HW.out ▸ HR.out.drew.keep c1.toArray) (fun _ _ h=>h)).trans (HR1.out.keep (c1.take (i*2)++zl [x]++c1.drop (i*2+(zl [x]).length)).toArray) (fun _ _ h=>h)
 have hfin:List.take ((n+1)*2) (c1.take (i*2)++zl [x]++c1.drop (i*2+(zl [x]).length))=zl (xs.take i++x::xs.drop i):=by
  have e1:c1.take (i*2)=zl (xs.take i):=by
   rw[hc1,yF,List.take_append_of_le_length (by simp only[yr,Array.length_toList,hcs];omega),List.take_take,QS,←hx,List.take_take];congr 1;omega
  have l0:(cur.toList.take ((i+1)*2)).length=i*2+2:=by simp only[yr,Array.length_toList,hcs];omega
  have e2:c1.drop (i*2+(zl [x]).length)=zl (xs.drop i)++cur.toList.drop ((i+1)*2+(zl (xs.drop i)).length):=by
   rw[hc1,yF,xy,show i*2+[x].length*2=(cur.toList.take ((i+1)*2)).length by rw[l0];rfl,List.drop_left]
  have l1:(zl (xs.take i)++zl [x]++zl (xs.drop i)).length=(n+1)*2:=by
   simp only[yN,xy,yr,List.length_drop,hl,yi,List.length_nil];omega
  rw[e1,e2,←yF,←l1,List.take_left,←Qs,←Qs,yF];rfl
 simp only[yF]at hrow hkp hfin ⊢;exact⟨rfl,⟨_,hrow,hfin⟩,hkp⟩
end Go.Proofs.YtgjjhadbjmcnpaaGreatDoor
namespace Go.Proofs.YtgjjhadbjmcnpaaGreatDoor
open Go.RowKit

theorem idxN_at {xs:List Nat} {x k:Nat} (hk:k<xs.length) (h:xs[k]=x) (hv:∀j (h:j<xs.length),j<k->xs[j]≠x):xs.idxOf x=k:=by
 have h1:xs.idxOf x<xs.length:=List.idxOf_lt_length_iff.2 (h ▸ zP hk);have h2:xs[xs.idxOf x]=x:=List.getElem_idxOf h1;rcases Nat.lt_trichotomy (xs.idxOf x) k with g|g|g
 ·exact absurd h2 (hv _ h1 g)
 ·exact g
 have:=List.not_of_lt_findIdx (p:=(· == x)) (xs:=xs) (i:=k) g;simp[h]at this
theorem YH (xs:List Nat) (b c x:Nat) (w:World) (hn:xs.length<=9223372036854775807) (hc:∀i (h:i<xs.length),w.cell? (J b i)=some (Z (xs[i]:Int))) (hx:x∈xs) :
  Calls Tryz.prog 106 #[.slice (some (J b 0)) xs.length c,Z x] w fun e w'=>e = .returned (Z (xs.idxOf x))/\w'=w:=by
 have HX:=q8 hx;have HC:=q8 hc;clear hx hc
 go_enter Tryz.func106,Tryz.ntmps106
 go_wp2
 go_loop [8] (fun i=>∃k:Nat,k<=xs.length/\i=Z k/\∀j (h:j<xs.length),j<k->xs[j]≠x) (fun i=>xs.length - (intOf i).toNat)
 case atStart=>exact⟨0,by omega,rfl,fun j _ hj=>by omega⟩
 case round=>
  obtain⟨k,hk,rfl,hV⟩:=hrel;have HV:=q8 hV;clear hV
  by_cases hlt:k<xs.length
  rotate_left
  ·exfalso;obtain⟨j,hj,e⟩:=yp.1 HX.out;exact HV.out j hj bO e
  have c0:=HC.out k hlt;have Hlt:=q8 hlt
  by_cases he:xs[k]=x
  ·have HE:=q8 he;have hq:((x:Int) == (xs[k]:Int))=true:=(by simp[he]);clear he
   go_wp2
   go_ret
   refine⟨?_,rfl⟩;rw[idxN_at Hlt.out HE.out HV.out];rfl
  have HE:=q8 he;have hq:((x:Int) == (xs[k]:Int))=false:=by simp;omega
  clear he
  go_wp2
  refine⟨⟨k+1,by omega,by go_num,fun j h1 hj=>?_⟩,by simp[intOf];omega⟩
  by_cases hj2:j<k
  ·exact HV.out j h1 hj2
  obtain rfl:j=k:=by omega
  exact HE.out
end Go.Proofs.YtgjjhadbjmcnpaaGreatDoor
namespace Go.Proofs.YtgjjhadbjmcnpaaGreatDoor
open Go.RowKit Go.Shelf

theorem YI (f:FunL) (hD:FunD f) (old now B gq e1:Nat) (V:Nat->Value) (w:World) (N:Blks) (hold:old<f.blocks.length) (_hnow:now<f.blocks.length)
  (he4:∀t:Nat,(t:Int)∈(atF f old).fin.to->∀p∈(atF f t).phis,p.src.length=(insN f t).length) (hself:(old:Int)∉(atF f old).fin.to)
  (hF:w.heap[B]?=some (.cells #[.string f.name,Z f.params,Z f.regs,.slice (some (J gq 0)) f.blocks.length e1] 38 (0,0))) (hBN:¬ N B) (hN:SlO 49 6 VX w (.slice (some (J gq 0)) f.blocks.length e1) (k8 V f.blocks) N) :
  Calls Tryz.prog 96 #[.pointer (some (J B 0)),Z old,Z now] w fun e w'=>e = .returned (.tuple #[])/\
   SlO 49 6 VX w' (.slice (some (J gq 0)) f.blocks.length e1) (k8 V (qY f old now).blocks) N/\Kept (fun g=>N g/\g≠gq) w w':=by
 have hdD:=hD.n40;obtain⟨cs,T,hW⟩:=hN;have hlz:(k8 V f.blocks).length=f.blocks.length:=xR _ _
 have hwg:∀b,b<f.blocks.length->N gq/\gq<w.heap.size/\∀j,j<6->w.cell? (J gq (b*6+j))=(cs b)[j]?:=fun b hb=>by
  obtain⟨g',c',e,h1,h2,h3⟩:=hW.cell (i:=b) (by rw[hlz];exact hb)
  have hgg:g'=gq:=by
   injection e with a _ _;injection a with a;injection a with a;exact a.symm
  rw[hgg]at h1 h2 h3;exact⟨h1,h2,h3⟩
 have hpg:=(hwg old hold).1;have hpj:=(hwg old hold).2.1;obtain⟨fb,ff⟩:=blk hF;have fb0:=fb 0;have fb1:=fb 1;have fb2:=fb 2;have fb3:=fb 3;simp only[zE,zB,zD]at fb0 fb1 fb2 fb3;have fz:=qd hF;have HD:=q8 hD;have HW:=q8 hW;have HWg:=q8 hwg;have HF:=q8 hF;have HBN:=q8 hBN;have hta:=q8 he4;have hlT:=q8 hself;have HGN:=q8 hpg;clear hD hW hwg hF hBN he4 hself fb hlz hpg
 go_enter Tryz.func96,Tryz.ntmps96
 go_wp2_with fail
 refine(vk f.name f.params f.regs gq 0 e1 f.blocks.length (kE f) w hdD (fun i hi=>blkAtN HW.out (zI _ w) i hi) HD.out.toFunS.tosD).mono ?_;rintro e W1 ⟨⟨tf,rfl,haS⟩,hb1⟩;have HAh:=q8 (AheadIn.of haS);obtain⟨T1,hT1⟩:=nZ (w.heap.size+1);rw[←hT1]at HAh ⊢;have hz1:=hb1.size;have hrO:w.heap.size<T1:=by omega
 have hF1:W1.heap[B]?=some (.cells #[.string f.name,Z f.params,Z f.regs,.slice (some (J gq 0)) f.blocks.length e1] 38 (0,0)):=(hb1.block _ fz).trans HF.out;have hlz:(k8 V f.blocks).length=f.blocks.length:=xR _ _;have hoz:old<(k8 V f.blocks).length:=by rw[hlz];exact hold
 have hlU:VX W1 (cs old) (V old,f.blocks[old]) (T old):=by
  have:=HW.out.el old hoz;rw[jb hoz]at this;exact vl _ _ _ _ _ this (fun g hg=>hb1.block g (HW.out.inb g (HW.out.sub old hoz g hg))) hb1.size
 obtain⟨v1,v3,S1,S3,hcs,⟨pl,ll,cl,hvl⟩,_,_,h3,h5,a2,g1,g3⟩:=hlU;obtain⟨q1,d1,rfl,_⟩:=h3.sl.val;obtain⟨q3,d3,rfl,_⟩:=h5.sl.val;dsimp only at hcs hvl h3 h5;rw[hvl]at hcs;have hce:∀j,j<6->W1.cell? (J gq (old*6+j))=(cs old)[j]?:=fun j hj=>(hb1.cell (p:=(J gq (old*6+j))) hpj).trans ((HWg.out old hold).2.2 j hj);rw[hcs]at hce;have c0:=hce 0 bO;have c1:=hce 1 bO;have c2:=hce 2 bO;have c3:=hce 3 bO;have c4:=hce 4 bO;have c5:=hce 5 bO;simp only[zB,zD,yJ]at c0 c1 c2 c3 c4 c5;obtain⟨tos,hdH⟩:=nZ (f.blocks[old].fin.to);have hat:(atF f old).fin.to=tos:=by rw[qW hold,hdH]
 rw[←hdH]at h5 c5;have htr:=h5.read (R':=jM) xk bO fun _ _ _ h=>h
 have hts:SliceAt W1 1 jM q3 tos:=by
  obtain⟨_,_,e,_,_,h⟩:=htr.outC;cases e;exact h
 have htb:∀t∈tos,1<=t/\t<(f.blocks.length:Int):=by rw[hdH];exact HD.out.tos old hold
 have htd:tos.Nodup:=by rw[hdH];exact HD.out.once old hold
 have ht2:tos.length<=2:=by rw[hdH];exact HD.out.two old hold
 have hW1:SlW 49 6 VX W1 (.slice (some (J gq 0)) f.blocks.length e1) (k8 V f.blocks) N cs T:=by
  refine⟨⟨HW.out.own.1,?_⟩,HW.out.len,HW.out.one,fun i hi=>vl _ _ _ _ _ (HW.out.el i hi) (fun g hg=>hb1.block g (HW.out.inb g (HW.out.sub i hi g hg))) hb1.size,HW.out.two,HW.out.off,HW.out.blk,HW.out.sub,HW.out.inb.mono hb1.size⟩;rcases HW.out.own.2 with h1|⟨g,cap,cur,hv,hb,hg,r⟩
  ·exact .inl h1
  exact .inr ⟨g,cap,cur,hv,hb,by rw[hb1.block g (yL.1 hg).1];exact hg,r⟩
 have hg6:∀g,S3 g->T old g:=g3;have HW1:=q8 hW1;have HF1:=q8 hF1;have HTs:=q8 hts;have HTb:=q8 htb;have HTd:=q8 htd;have HAt:=q8 hat;have HS3:=q8 hg6;have HB1:=q8 hb1;have hvO:=q8 hdH;clear hdH;have H5:=q8 h5
 have hTN:∀t,t<f.blocks.length->∀g,T t g->N g/\g<w.heap.size/\g≠gq:=fun t ht g hg=>by
  have ht2:t<(k8 V f.blocks).length:=by rw[hlz];exact ht
  exact⟨HW.out.sub t ht2 g hg,HW.out.inb g (HW.out.sub t ht2 g hg),fun e=>HW.out.off t ht2 gq rfl (by rw[←e];exact hg)⟩
 have HTN:=q8 hTN;have htg:=q8 (fun g (hg:N g)=>HW.out.inb g hg);have ho6:=HAh.out.1.2;have htq:∀c,c<f.blocks.length->W1.heap.size<W1.heap.size+1:=fun _ _=>by omega
 clear haS hb1 hF1 hts htb htd hat hg6 hW1 h3 h5 a2 g1 g3 hce hTN htr HW HF hT1 fb0 fb1 fb2 fb3 ff htq;obtain⟨gb,gf⟩:=blk HF1.out;have gb3:=gb 3;simp only[zE,zB,zD]at gb3;have gz:=qd HF1.out;clear gb;have htt:gq<W1.heap.size:=by omega
 go_wp2_with fail
 obtain⟨KU,hKU⟩:∃KU:Blks,KU=fun g=>N g/\g≠gq/\¬ T old g:=⟨_,rfl⟩;have hpu:∀g,KU g->N g/\g≠gq/\¬ T old g:=fun g h=>by rw[hKU]at h;exact h
 have hpA:∀g,N g->g≠gq->¬ T old g->KU g:=fun g h1 h2 h3=>by rw[hKU];exact⟨h1,h2,h3⟩
 have HKn:=q8 hpu;have HKi:=q8 hpA;clear hKU hpu hpA;clear c0 c1 c2 c3 c4 c5
 go_loopg [30] tos.length (fun q s30 wr=>∃i:Nat,i<=tos.length/\q=tos.length - i/\s30=Z i/\SlW 49 6 VX wr (.slice (some (J gq 0)) f.blocks.length e1) (k8 V (V5 f old now i)) N cs T/\Kept KU W1 wr)
 case atStart=>exact⟨0,by omega,rfl,rfl,by rw[renK_zero];exact HW1.out,Kept.refl _ _⟩
 case round=>
  obtain⟨wt,hwt⟩:=nZ wr;subst hwt;obtain⟨i,hi,rfl,rfl,hWi,hKi⟩:=hrel;have htu:=hKi.size;have HWi:=q8 hWi;have hgC:=q8 hKi;clear hWi hKi
  by_cases hil:i<tos.length
  rotate_left
  ·obtain rfl:tos.length=i:=by omega
   go_wp2_with fail
   go_end0
   refine⟨rfl,?_,?_⟩
   ·have h1:=HWi.out;rw[←HAt.out,renK_full]at h1;exact⟨cs,T,h1⟩
   exact((Kept.of_below HB1.out).trans hgC.out (fun g _ h=>⟨(HKn.out g h).1,(HKn.out g h).2.1⟩))
  obtain⟨g3t,c3t,cs3,T3,hv3,htv,hpB,_,hx3,_,_,hc3,_⟩:=H5.out.sl.focus xk bO hil;obtain⟨hlV,_⟩:=hx3;subst hlV;have hq3:q3=some (J g3t 0):=by injection hv3
  subst hq3;have htw:=HTb.out _ (zP hil);obtain⟨tn,htn⟩:∃tn:Nat,tos[i]=(tn:Int):=⟨tos[i].toNat,by omega⟩;rw[htn]at htw hc3;have htl:tn<f.blocks.length:=by omega
  have htm:(tn:Int)∈tos:=by rw[←htn];exact zP hil
  have hne:tn≠old:=fun e=>by
   subst e;exact hlT.out (by rw[HAt.out];exact htm)
  have hpC:T old g3t:=HS3.out g3t hpB
  have c0:wt.cell? (J g3t i)=some (Z (tn:Int)):=by
   have:=hc3 0 bO;simp only[Nat.mul_one,yJ]at this;exact(hgC.out.cell (p:=(J g3t i)) htv (fun h=>(HKn.out _ h).2.2 hpC)).trans this
  have hvP:g3t<wt.heap.size:=by omega
  obtain⟨hsl,hsu⟩:=renK_succ (now:=now) (f:=f) (old:=old) (i:=i) (t:=tn) (by rw[HAt.out];exact hil) (by simp only[HAt.out];exact htn) (by rw[HAt.out];exact HTd.out) htl;obtain⟨hsl1,hsl2⟩:=hsl;obtain⟨x,hxe⟩:=nZ (f.blocks[tn]);obtain⟨ah,hah⟩:=nZ (insN f tn);have hzl:tn<(k8 V (V5 f old now i)).length:=by rw[xR];exact hsl1
  have hel:VX wt (cs tn) (V tn,x) (T tn):=by
   have:=HWi.out.el tn hzl;rw[jb hzl,hsl2,←hxe]at this;exact this
  have hoa:old∈ah:=by rw[hah];exact ins_of old tn hold (by rw[xm hold,←qW hold,HAt.out];exact htm)
  have hpl:∀p∈x.phis,p.src.length=ah.length:=fun p hp=>by
   rw[hah];exact hta.out tn (by rw[HAt.out];exact htm) p (by rw[qW htl,←hxe];exact hp)
  have hhI:∀a∈ah,a<f.blocks.length:=fun a ha=>row_lt (c:=tn) (by rw[hah]at ha;exact ha);have hkR:ah.length<=80:=by rw[hah];exact KE HD.out.toFunS tn
  obtain⟨rt,rr⟩:=HAh.out.kept hgC.out (fun g hg=>.inl (by have:=htg.out g (HKn.out g hg).1;omega));obtain⟨qa,qc,ha0,ha1⟩:=rr tn htl;rw[←hah]at ha0 ha1;have hpD:0<ah.length:=List.length_pos_of_mem hoa;obtain⟨ba,rfl,⟨ha2,ha3⟩,_⟩:=ha1 0 hpD
  have hAc:∀m (h:m<ah.length),wt.cell? (J ba m)=some (Z (ah[m]:Nat)):=fun m h=>by
   obtain⟨b',e,_,h2⟩:=ha1 m h;cases e;exact h2
  obtain⟨u1,u3,Su1,Su3,hfQ,⟨pu,lu,cu,hvu⟩,hu1,hu2,hu3,hu5,hua,hpE,hpF⟩:=hel;obtain⟨qu,du,rfl,_⟩:=hu3.sl.val;obtain⟨qw,dw,rfl,_⟩:=hu5.sl.val;dsimp only at hfQ hvu hu1 hu2 hu3 hu5;have hpG:wt.heap[gq]?=W1.heap[gq]?:=hgC.out.block gq htt (fun h=>(HKn.out _ h).2.1 rfl);have heA:∀j,j<6->wt.cell? (J gq (tn*6+j))=(cs tn)[j]?:=fun j hj=>(zN (a:=(J gq (tn*6+j))) hpG).trans ((HB1.out.cell (p:=(J gq (tn*6+j))) hpj).trans ((HWg.out tn htl).2.2 j hj));have d0:=heA 0 bO;rw[hfQ]at d0;simp only[zB,yJ]at d0;have hFt:wt.heap[B]?=some (.cells #[.string f.name,Z f.params,Z f.regs,.slice (some (J gq 0)) f.blocks.length e1] 38 (0,0)):=(hgC.out.block B gz (fun h=>HBN.out (HKn.out _ h).1)).trans HF1.out;obtain⟨gbt,gft⟩:=blk hFt;have gb3t:=gbt 3;simp only[zE,zB,zD]at gb3t;have gzt:=qd hFt;have htA:gq<wt.heap.size:=by omega
  have hTr:T1<wt.heap.size:=rt.2;have HAc:=q8 hAc;have HAe:=q8 hah;have HXe:=q8 hxe;have HOa:=q8 hoa;have HPl:=q8 hpl;have HAl:=q8 hhI;have HSu:=q8 hsu;have HU3:=q8 hu3;have HU5:=q8 hu5;have HU:=q8 (zh hu1 (zh hu2 (zh hua (zh hpE hpF))));have htB:=q8 hfQ;have HVu:=q8 (show ∃p l c,V tn = .slice p l c from⟨pu,lu,cu,hvu⟩);have HFt:=q8 hFt;have HTn:=q8 htn;have HTt:=q8 (fun g (h:T tn g)=>HTN.out tn htl g h);have hpH:∀g,T tn g->¬ T old g:=fun g h h2=>HW1.out.two tn old (by rw[xR];exact htl) (by rw[xR];exact hold) hne g h h2;have htC:=q8 hpH;have hpI:∀m,m<=ah.length->YW ah old now m<=m:=fun m hm=>cntR_le _ _ _ hm;have htD:=q8 hpI;have hbu:=hu3.bd;unfold reachBytes at hbu;clear hv3 hc3 htm hpC hsl1 hsl2 hsu hxe hah hzl hoa hpl hhI rr ha1 hAc hu1 hu2 hu3 hu5 hua hpE hpF hfQ hvu hpG heA hFt gbt gb3 gf gz htn hpB hpH hpI
  go_wp2_with fail
  refine(YH ah ba qc old wt bO (fun m h=>HAc.out m h) HOa.out).mono ?_;rintro e w' ⟨rfl,hww⟩;rw[hww];clear hww w';have hKl:ah.idxOf old<ah.length:=List.idxOf_lt_length_of_mem HOa.out;obtain⟨K,hK⟩:=nZ (ah.idxOf old);rw[←hK]at hKl ⊢;have HKe:=q8 hK;clear hK
  go_wp2_with fail
  go_loopg [10,45] ah.length (fun q s10 s45 wr=>∃m:Nat,m<=ah.length/\q=ah.length - m/\s10=Z (YW ah old now m:Nat)/\s45=Z m/\wt=wr)
  case atStart=>exact⟨0,by omega,rfl,rfl,rfl,rfl⟩
  case round=>
   obtain⟨m,hm,rfl,rfl,rfl,rfl⟩:=hrel
   by_cases hml:m<ah.length
   ·have cA:=HAc.out m hml;have hn1:=htD.out m hm;have hst:=cntR_succ (old:=old) (now:=now) hml;generalize YW ah old now m=cnt at *;have HSt:=q8 hst;clear hst;generalize ah[m]=am at *
    by_cases h1:am<now
    ·by_cases h2:am=old
     ·have hq:((am:Int) == (old:Int))=true:=(by simp[h2]);have hq2:((am:Int) != (old:Int))=false:=(by simp[h2]);have hl:decide ((am:Int)<(now:Int))=true:=(by simp[h1]);have h9:YW ah old now (m+1)=cnt:=(by rw[HSt.out,zQ bO];rfl);have H9:=q8 h9;clear h9
      go_wp2_with fail
      go_roundg (ah.length - (m+1))
      case measure=>omega
      case rel=>exact⟨m+1,by omega,rfl,by rw[H9.out],by go_num,rfl⟩
     have hq:((am:Int) == (old:Int))=false:=(by simp;omega);have hq2:((am:Int) != (old:Int))=true:=(by simp;omega);have hl:decide ((am:Int)<(now:Int))=true:=(by simp[h1]);have h9:YW ah old now (m+1)=cnt+1:=(by rw[HSt.out,zZ bO]);have H9:=q8 h9;clear h9
     go_wp2_with fail
     go_roundg (ah.length - (m+1))
     case measure=>omega
     case rel=>exact⟨m+1,by omega,rfl,by rw[H9.out];go_num,by go_num,rfl⟩
    have hl:decide ((am:Int)<(now:Int))=false:=(by simp;omega);have h9:YW ah old now (m+1)=cnt:=(by rw[HSt.out,zQ bO];rfl);have H9:=q8 h9;clear h9
    go_wp2_with fail
    go_roundg (ah.length - (m+1))
    case measure=>omega
    case rel=>exact⟨m+1,by omega,rfl,by rw[H9.out],by go_num,rfl⟩
   obtain rfl:m=ah.length:=(by omega);have hsp:=cntR_full ah old now;rw[hsp]
   have htE:JT ah old now<ah.length:=by
    unfold JT;refine List.length_filter_lt_length_iff_exists.2 ⟨old,HOa.out,by simp⟩
   obtain⟨spt,hlW⟩:=nZ (JT ah old now);rw[←hlW]at htE ⊢;have HSp:=q8 hlW;clear hlW hsp
   go_wp2_with fail
   go_loopg [69] x.phis.length (fun q s69 wr=>∃j:Nat,j<=x.phis.length/\q=x.phis.length - j/\s69=Z j/\SlO 84 2 PhiO wr (.slice qu x.phis.length du) (qG j (Xr ah old now) x.phis) Su1/\Kept Su1 wt wr)
   case atStart=>exact⟨0,by omega,rfl,rfl,by rw[qU];exact HU3.out.sl,Kept.refl _ _⟩
   case round=>
    obtain⟨ws,hws⟩:=nZ wr;subst hws;obtain⟨j,hj,rfl,rfl,hP,hKj⟩:=hrel;have hj8:=hKj.size;have hSu:∀g,Su1 g->N g/\g<w.heap.size/\g≠gq:=fun g hg=>HTt.out g (HU.out.2.2.2.1 g hg);have hFs:ws.heap[B]?=some (.cells #[.string f.name,Z f.params,Z f.regs,.slice (some (J gq 0)) f.blocks.length e1] 38 (0,0)):=(hKj.block B gzt (fun h=>HBN.out (hSu B h).1)).trans HFt.out;have hgs:ws.heap[gq]?=wt.heap[gq]?:=hKj.block gq htA (fun h=>(hSu gq h).2.2 rfl);have d0s:ws.cell? (J gq (tn*6))=some (.slice qu x.phis.length du):=(zN (a:=(J gq (tn*6))) hgs).trans d0;have HPj:=q8 hP;have HKj:=q8 hKj;have hip:=q8 hSu;have HFs:=q8 hFs;clear hP hKj hSu hFs
    by_cases hjl:j<x.phis.length
    rotate_left
    ·obtain rfl:x.phis.length=j:=(by omega);have hPf:=HPj.out;rw[qR]at hPf
     have hx':VX ws (cs tn) (V tn,{ x with phis:=x.phis.map (Xr ah old now) }) (T tn):=by
      have h0:=htB.out;obtain⟨p,l,c,hv⟩:=HVu.out;refine⟨_,_,Su1,Su3,h0,⟨p,l,c,hv⟩,HU.out.1,HU.out.2.1,⟨?_,?_⟩,⟨HU5.out.sl.kept xk HKj.out (fun g h1 h2=>HU.out.2.2.1 g h1 h2),HU5.out.bd⟩,HU.out.2.2.1,HU.out.2.2.2.1,HU.out.2.2.2.2⟩
      ·show SlO _ _ _ _ (.slice qu x.phis.length du) _ _;exact hPf
      show(x.phis.map _).length*32<=_;rw[yT];exact HU3.out.bd
     have hW':=HWi.out.innerT vl (i:=tn) (by rw[xR,kT];exact htl) (HKj.out.mono fun g _ h=>HU.out.2.2.2.1 g h) hx';rw[zipV_set]at hW';have hsu:=HSu.out;rw[←HXe.out,←HAe.out]at hsu;rw[hsu]at hW';have hK':Kept KU W1 ws:=hgC.out.trans HKj.out (fun g _ h=>HKi.out g (hip.out g h).1 (hip.out g h).2.2 (htC.out g (HU.out.2.2.2.1 g h)));have ha7:=q8 (zh hW' hK');clear hPf hx' hW' hsu hK'
     go_wp2_with fail
     go_roundg (tos.length - (i+1))
     case measure=>omega
     case rel=>exact⟨i+1,by omega,rfl,by go_num,ha7.out.1,ha7.out.2⟩
    have haP:j<(qG j (Xr ah old now) x.phis).length:=(by rw[qO];exact hjl);obtain⟨gp,cp,csp,Tp,hvp,hgp,hdE,hhL,hxp,hdL,hdM,hbF,heB,⟨curp,haT⟩,putp⟩:=HPj.out.focus x8 bO haP;rw[xh haP (zK _)]at hxp;obtain⟨p,hpe⟩:=nZ (x.phis[j]);have hpl:p.src.length=ah.length:=HPl.out p (by rw[hpe];exact zP hjl);rw[←hpe]at hxp;obtain⟨vp,rfl,hpd,hps⟩:=hxp;have hq1:qu=some (J gp 0):=(by injection hvp);have p0:=hbF 0 bO;have p1:=hbF 1 bO;simp only[zB,zD,yJ]at p0 p1;obtain⟨hrow,hpJ,hSb,_⟩:=hps.sl.row;rw[hpl]at hrow;obtain⟨gv,cv,cur,rfl,hra,hcn,htk⟩:=KO hrow hpD;have hlX:Tp gv:=hSb gv rfl;have hiq:Su1 gv:=hdM gv hlX;have hd8:gv≠gp:=fun e=>hdL (by rw[←e];exact hlX);have hKs:K<p.src.length:=(by rw[hpl];exact hKl);obtain⟨xv,hxv,hxm⟩:∃xv,xv=p.src.getD K (false,0)/\xv∈p.src:=⟨p.src[K],by simp[List.getD,hKs],zP hKs⟩
    have hvc:ws.cell? (J gv (K*2))=some (.bool xv.1)/\ws.cell? (J gv (K*2+1))=some (Z xv.2):=by
     obtain⟨gv',_,cs2,T2,e,_,_,_,hx2,_,_,hc2,_⟩:=hps.sl.focus zq bO hKs
     have hgg:gv=gv':=by
      injection e with a _ _;injection a with a;injection a with a
     subst hgg;obtain⟨hcs2,_⟩:=hx2;rw[hcs2]at hc2;have h0:=hc2 0 bO;have h1:=hc2 1 bO;rw[show xv=p.src[K] by rw[hxv];simp[List.getD,hKs]];exact⟨h0,h1⟩
    obtain⟨vc0,vc1⟩:=hvc;have htF:gv<ws.heap.size:=(by have:=(hip.out gv hiq).2.1;omega);have HPd:=q8 hpd;have HPe:=q8 hpe;have HXv:=q8 (zh hxv hxm);have hgD:=q8 hpl;have hgE:=q8 hpJ;have haA:=q8 putp;have HCp:=q8 haT;have hdO:=q8 hbF;have hhM:=q8 heB;have hfR:=q8 hdE;have HTp:=q8 (zh hdL (zh hdM hSb));have HTk:=q8 htk;have HPs:=q8 hps;have HRa:=q8 hra;have hgB:gv≠B:=fun e=>HBN.out (by rw[←e];exact(hip.out gv hiq).1);have hgQ:gv≠gq:=(hip.out gv hiq).2.2;have hbp:=hps.bd;rw[hpl]at hbp;unfold reachBytes at hbp;obtain⟨gbs,gfs⟩:=blk HFs.out;have gb3s:=gbs 3;simp only[zE,zB,zD]at gb3s;have gzs:=qd HFs.out;have htG:gq<ws.heap.size:=(by omega);subst hq1;clear hvp hpl hpd hps hpe putp hdL hdM haT hbF hhL hdE hrow hpJ hSb hxv hxm hKs htk hra hlX gbs gb3t gft d0
    go_wp2_with fail
    obtain⟨w7,hw7⟩:=nZ ((ws.alloc (.cells #[Z p.dst,.slice (some (J gv 0)) ah.length cv] 84)).alloc (.cells #[.bool xv.1,Z xv.2] 44));rw[←hw7];have hz7:w7.heap.size=ws.heap.size+1+1:=(by rw[hw7];simp);have hb7:Below ws.heap.size ws w7:=(by rw[hw7];exact bZ);have hY7:w7.heap[ws.heap.size]?=some (.cells #[Z p.dst,.slice (some (J gv 0)) ah.length cv] 84 (0,0)):=(by rw[hw7];exact qh (qr rfl));have hV7:w7.heap[ws.heap.size+1]?=some (.cells #[.bool xv.1,Z xv.2] 44 (0,0)):=(by rw[hw7];exact qr bV);have HB7:=q8 hb7;clear hw7 hb7 p0 p1 vc0 vc1 heB;obtain⟨Sp,hSp⟩:∃Sp:World->Prop,Sp=fun w'=>w'.heap[B]?=some (.cells #[.string f.name,Z f.params,Z f.regs,.slice (some (J gq 0)) f.blocks.length e1] 38 (0,0))/\w'.heap[gq]?=ws.heap[gq]?/\w'.heap[ws.heap.size]?=some (.cells #[Z p.dst,.slice (some (J gv 0)) ah.length cv] 84 (0,0))/\w'.heap[ws.heap.size+1]?=some (.cells #[.bool xv.1,Z xv.2] 44 (0,0))/\w'.heap[gp]?=ws.heap[gp]?:=⟨_,rfl⟩
    have ha6:∀w',Sp w'->w'.cell? (J B 3)=some (.slice (some (J gq 0)) f.blocks.length e1)/\w'.cell? (J gq (tn*6))=some (.slice (some (J gp 0)) x.phis.length du)/\w'.cell? (J ws.heap.size 1)=some (.slice (some (J gv 0)) ah.length cv)/\w'.cell? (J (ws.heap.size+1) 0)=some (.bool xv.1)/\w'.cell? (J (ws.heap.size+1) 1)=some (Z xv.2)/\(w'.cell? (J gp (j*2+1))=some (.slice (some (J gv 0)) ah.length cv)/\w'.frozen? (J gp (j*2+1))=false)/\B<w'.heap.size/\ws.heap.size+1<w'.heap.size:=fun w' h=>by
     rw[hSp]at h;obtain⟨h1,h2,h3,h4,h5⟩:=h;exact⟨(blk h1).1 3,(zN (a:=(J gq (tn*6))) h2).trans d0s,(blk h3).1 1,(blk h4).1 0,(blk h4).1 1,⟨(zN (a:=(J gp (j*2+1))) h5).trans (hdO.out 1 bO),(yB (a:=(J gp (j*2+1))) h5).trans (hhM.out _)⟩,qd h1,qd h4⟩
    have hSk:∀{a c:World},Sp a->Kept (fun g=>g=gv) a c->Sp c:=fun {a c} h hk=>by
     rw[hSp]at h ⊢;obtain⟨h1,h2,h3,h4,h5⟩:=h;have hz:=qd h4;exact⟨(hk.block _ (qd h1) (fun e=>hgB e.symm)).trans h1,(hk.block _ bO (fun e=>hgQ e.symm)).trans h2,(hk.block _ bO bO).trans h3,(hk.block _ hz bO).trans h4,(hk.block _ bO (fun e=>hd8 e.symm)).trans h5⟩
    have hS7:Sp w7:=by
     rw[hSp];exact⟨(HB7.out.block _ gzs).trans HFs.out,HB7.out.block gq htG,hY7,hV7,HB7.out.block gp hgp⟩
    have haf:Sp w7.drew:=(by rw[hSp]at hS7 ⊢;exact hS7);have hR7:RowAt w7.drew 44 gv cv 2 cur:=⟨(HB7.out.block gv htF).trans HRa.out.1,HRa.out.2⟩;have hvQ:IntKind.i64.wrap ((K:Int)+1)=(K:Int)+1:=(by rw[xI];omega);refine qA (S:=Sp) bK 21 ?_;refine tkZ 0 79 (.pointer (some (J B 0))) rfl rfl haf (fun w' h=>?_) ?_
    ·obtain⟨h1,h2,h3,h4,h5,⟨h6,h7⟩,h8,h9⟩:=ha6 w' h;go_simp
    refine tkZ 1 80 (.pointer (some (J B 0))) rfl rfl haf (fun w' h=>?_) ?_
    ·obtain⟨h1,h2,h3,h4,h5,⟨h6,h7⟩,h8,h9⟩:=ha6 w' h;go_simp
    refine tkZ 2 81 (.pointer (some (J B 3))) rfl rfl haf (fun w' h=>?_) ?_
    ·obtain⟨h1,h2,h3,h4,h5,⟨h6,h7⟩,h8,h9⟩:=ha6 w' h;go_simp
    refine tkZ 3 82 (.slice (some (J gq 0)) f.blocks.length e1) rfl rfl haf (fun w' h=>?_) ?_
    ·obtain⟨h1,h2,h3,h4,h5,⟨h6,h7⟩,h8,h9⟩:=ha6 w' h;go_simp
    refine tkZ 4 83 (Z tn) rfl rfl haf (fun w' h=>?_) ?_
    ·obtain⟨h1,h2,h3,h4,h5,⟨h6,h7⟩,h8,h9⟩:=ha6 w' h;go_simp
    refine tkZ 5 84 (.pointer (some (J gq (tn*6)))) rfl rfl haf (fun w' h=>?_) ?_
    ·obtain⟨h1,h2,h3,h4,h5,⟨h6,h7⟩,h8,h9⟩:=ha6 w' h;go_simp
    refine tkZ 6 85 (.pointer (some (J gq (tn*6)))) rfl rfl haf (fun w' h=>?_) ?_
    ·obtain⟨h1,h2,h3,h4,h5,⟨h6,h7⟩,h8,h9⟩:=ha6 w' h;go_simp
    refine tkZ 7 86 (.slice (some (J gp 0)) x.phis.length du) rfl rfl haf (fun w' h=>?_) ?_
    ·obtain⟨h1,h2,h3,h4,h5,⟨h6,h7⟩,h8,h9⟩:=ha6 w' h;go_simp
    refine tkZ 8 87 (Z j) rfl rfl haf (fun w' h=>?_) ?_
    ·obtain⟨h1,h2,h3,h4,h5,⟨h6,h7⟩,h8,h9⟩:=ha6 w' h;go_simp
    refine tkZ 9 88 (.pointer (some (J ws.heap.size 1))) rfl rfl haf (fun w' h=>?_) ?_
    ·obtain⟨h1,h2,h3,h4,h5,⟨h6,h7⟩,h8,h9⟩:=ha6 w' h;go_simp
    refine tkZ 10 89 (.slice (some (J gv 0)) ah.length cv) rfl rfl haf (fun w' h=>?_) ?_
    ·obtain⟨h1,h2,h3,h4,h5,⟨h6,h7⟩,h8,h9⟩:=ha6 w' h;go_simp
    refine tkZ 11 90 (Z K) rfl rfl haf (fun w' h=>?_) ?_
    ·obtain⟨h1,h2,h3,h4,h5,⟨h6,h7⟩,h8,h9⟩:=ha6 w' h;go_simp
    refine tkZ 12 91 (Z K) rfl rfl haf (fun w' h=>?_) ?_
    ·obtain⟨h1,h2,h3,h4,h5,⟨h6,h7⟩,h8,h9⟩:=ha6 w' h;go_simp
    refine tkZ 13 92 (Z ((K+1:Nat):Int)) rfl rfl haf (fun w' h=>?_) ?_
    ·obtain⟨h1,h2,h3,h4,h5,⟨h6,h7⟩,h8,h9⟩:=ha6 w' h;go_simp
    refine tkZ 15 94 (Z spt) rfl rfl haf (fun w' h=>?_) ?_
    ·obtain⟨h1,h2,h3,h4,h5,⟨h6,h7⟩,h8,h9⟩:=ha6 w' h;go_simp
    refine tkZ 16 95 (.agg #[.bool xv.1,Z xv.2]) rfl rfl haf (fun w' h=>?_) ?_
    ·obtain⟨h1,h2,h3,h4,h5,⟨h6,h7⟩,h8,h9⟩:=ha6 w' h;go_simp
    refine stepZ_2 (i:=14) (j:=17) bK ?_ ?_
    ·refine qt 93 rfl rfl rfl (by go_simp) (Qe gv cv ah.length K (K+1) p.src cur w7.drew hR7 HTk.out hgD.out hcn hKl rfl) ?_;rintro e w8 ⟨rfl,⟨cur8,hR8,ht8⟩,hK8⟩;have hS8:=hSk haf hK8;refine⟨_,rfl,hS8,?_⟩;have hz8:=hK8.size;have hvS:ws.heap.size+1+1<=w8.heap.size:=(by have:w7.drew.heap.size=w7.heap.size:=rfl;omega);have hS9:Sp (w8.alloc (.cells #[.bool xv.1,Z xv.2] 44)):=hSk hS8 ((Kept.refl _ _).alloc _)
     refine qm (i:=17) bK (qC 96 (.slice (some (J w8.heap.size 0)) 1 1) (w8.alloc (.cells #[.bool xv.1,Z xv.2] 44)) rfl rfl rfl (by
      obtain⟨h1,h2,h3,h4,h5,h6,h7,h8⟩:=ha6 w8 hS8
      go_simp) hS9 ?_)
     have hKA:Kept (fun g=>g=gv) w7 (w8.alloc (.cells #[.bool xv.1,Z xv.2] 44)):=(((Kept.refl (fun g=>g=gv) w7).drew).trans hK8 (fun _ _ h=>h)).alloc _;have hR9:RowAt (w8.alloc (.cells #[.bool xv.1,Z xv.2] 44)) 44 gv cv 2 cur8:=⟨qh hR8.1,hR8.2⟩;have heM:(w8.alloc (.cells #[.bool xv.1,Z xv.2] 44)).heap[w8.heap.size]?=some (.cells #[.bool xv.1,Z xv.2] 44 (0,0)):=qr rfl;obtain⟨w9,hw9⟩:=nZ (w8.alloc (.cells #[.bool xv.1,Z xv.2] 44));obtain⟨vb,hvb⟩:=nZ w8.heap.size;rw[←hw9]at hS9 hKA hR9 heM ⊢;rw[←hvb]at heM ⊢;have hlY:vb≠gv:=(by omega);clear hw9 hvb hS8 hR8 hK8;have he1:(p.src.eraseIdx K).length=ah.length - 1:=(by rw[List.length_eraseIdx_of_lt (by rw[hgD.out];exact hKl),hgD.out]);refine qm (i:=18) bK (qt 97 rfl rfl rfl (by go_simp) (ZO gv cv (ah.length - 1) spt vb xv (p.src.eraseIdx K) cur8 w9 hR9 ht8 he1 bO bO heM hlY) ?_);rintro e w10 ⟨rfl,⟨curf,hRf,htf⟩,hKf⟩;have hn1:ah.length - 1+1=ah.length:=(by omega);rw[hn1]at htf ⊢;have haH:=hSk hS9 hKf;refine⟨_,rfl,haH,?_⟩;refine qm (i:=19) bK (qC 98 (.pointer (some (J gp (j*2)))) w10 rfl rfl rfl (by go_simp) haH ?_);refine qm (i:=20) bK (qC 99 (.pointer (some (J gp (j*2+1)))) w10 rfl rfl rfl (by go_simp) haH ?_);obtain⟨t1,t2,t3,t4,t5,⟨t6,t7⟩,t8,t9⟩:=ha6 w10 haH;have hlZ:gp<w10.heap.size:=(by omega);refine qm (i:=21) bK (qz (w10.setCell (J gp (j*2+1)) (.slice (some (J gv 0)) ah.length cv)) rfl rfl rfl (by go_simp) (fun h=>absurd rfl h) (qL bK ?_ _));show Exit.inBlock 5 _ Exit.normal _ _;have hKw:Kept (fun g=>g=gv) ws w10:=((Kept.of_below HB7.out).trans hKA (fun _ _ h=>h)).trans hKf (fun _ _ h=>h);have hKz:Kept (fun g=>g=gv\/g=gp) ws (w10.setCell (J gp (j*2+1)) (.slice (some (J gv 0)) ah.length cv)):=Kept.setCell (S:=fun g=>g=gv\/g=gp) (p:=(J gp (j*2+1))) (hKw.mono fun _ _ h=>.inl h) (.inr rfl) _
     have hmv:(p.src.eraseIdx K).take spt++xv::(p.src.eraseIdx K).drop spt=(Xr ah old now p).src:=by
      show _=Za ah old now p.src;unfold Za;rw[←HKe.out,←HSp.out];rw[HXv.out.1]
     rw[hmv]at htf;have hml:(Xr ah old now p).src.length=ah.length:=by rw[←hmv];simp only[yN,yi,yr,List.length_drop,he1];omega
     have hiv:∀v∈(Xr ah old now p).src,I64 v.2:=fun v hv=>by
      rw[←hmv]at hv;have hsub:∀v∈p.src.eraseIdx K,v∈p.src:=fun v h=>List.mem_of_mem_eraseIdx h;rcases yH.1 hv with h|h
      ·exact hgE.out v (hsub v (List.mem_of_mem_take h))
      rcases yC.1 h with h|h
      ·rw[h];exact hgE.out _ HXv.out.2
      exact hgE.out v (hsub v (List.mem_of_mem_drop h))
     have hRg:RowAt (w10.setCell (J gp (j*2+1)) (.slice (some (J gv 0)) ah.length cv)) 44 gv cv 2 curf:=⟨(zJ _ _ _ gv hd8).trans hRf.1,hRf.2⟩;have hsl:SlO 44 2 jV (w10.setCell (J gp (j*2+1)) (.slice (some (J gv 0)) ah.length cv)) (.slice (some (J gv 0)) (Xr ah old now p).src.length cv) (Xr ah old now p).src Tp:=SlO.ofRow (by rw[hml];exact hRg.own hcn (by rw[xy,hml]) htf) hiv (fun g e=>HTp.out.2.2 g e) (HPs.out.sl.inb.mono hKz.size);rw[hml]at hsl
     have hput:=haA.out (w10.setCell (J gp (j*2+1)) (.slice (some (J gv 0)) ah.length cv)) [Z p.dst,.slice (some (J gv 0)) ah.length cv] (Xr ah old now p) Tp
      (RowPut.set (RowPut.same HCp.out (hKw.block gp hgp (fun e=>hd8 e.symm)) hdO.out) rfl (j:=1) bO _) rfl (fun u hu=>by
       simp only[yC,yG,yl]at hu
       rcases hu with rfl|rfl<;>rfl) hKz.size (fun g h1 h2 h3=>hKz.block g (HPj.out.inb g h1) (fun e=>e.elim (fun e=>h2 (by rw[e];exact HTp.out.2.2 gv rfl)) h3))
      ⟨_,rfl,HPd.out,hsl,by rw[hml];unfold reachBytes;omega⟩ (fun g hg=>⟨.inl hg,xB (HPj.out.inb g (HTp.out.2.1 g hg)) hKz.size⟩)
     rw[HPe.out,qS hjl]at hput
     have hrel:SlO 84 2 PhiO (w10.setCell (J gp (j*2+1)) (.slice (some (J gv 0)) ah.length cv)) (.slice (some (J gp 0)) x.phis.length du) (qG (j+1) (Xr ah old now) x.phis) Su1/\Kept Su1 wt (w10.setCell (J gp (j*2+1)) (.slice (some (J gv 0)) ah.length cv)):=
      ⟨hput.grow (fun g h=>h.elim id (HTp.out.2.1 g)) (HPj.out.inb.mono hKz.size),HKj.out.trans hKz (fun g _ h=>h.elim (fun e=>by rw[e];exact hiq) (fun e=>by rw[e];exact hfR.out))⟩
     have ha7:=q8 hrel;clear hrel hput hsl hRg hKz hKw hRf hKf haH hS9 hR9 heM hKA htf ht8 t1 t2 t3 t4 t5 t6 t7 hmv hiv
     go_wp2_with fail
     go_roundg (x.phis.length - (j+1))
     case measure=>omega
     case rel=>exact⟨j+1,by omega,rfl,by go_num,ha7.out.1,ha7.out.2⟩
    have hS8:Sp (w7.drew.alloc (.cells #[.bool xv.1,Z xv.2] 44)):=hSk haf ((Kept.refl _ _).alloc _);refine qC 96 (.slice (some (J w7.heap.size 0)) 1 1) (w7.drew.alloc (.cells #[.bool xv.1,Z xv.2] 44)) rfl rfl rfl (by go_simp) hS8 ?_;have hR8:RowAt (w7.drew.alloc (.cells #[.bool xv.1,Z xv.2] 44)) 44 gv cv 2 cur:=⟨qh hR7.1,hR7.2⟩;refine qm (i:=14) bK (qt 93 rfl rfl rfl (by go_simp) (Qe gv cv ah.length K (K+1) p.src cur _ hR8 HTk.out hgD.out hcn hKl rfl) ?_);rintro e w9 ⟨rfl,⟨cur8,hR9,ht8⟩,hK8⟩;have hS9:=hSk hS8 hK8;refine⟨_,rfl,hS9,?_⟩;have hKA:Kept (fun g=>g=gv) w7 w9:=(((Kept.refl (fun g=>g=gv) w7).drew).alloc _).trans hK8 (fun _ _ h=>h);obtain⟨vb,hvb⟩:=nZ w7.heap.size
    have heM:w9.heap[vb]?=some (.cells #[.bool xv.1,Z xv.2] 44 (0,0)):=by
     rw[hvb];exact(hK8.block _ (by rw[World.size_alloc];exact Nat.lt_succ_self _) bO).trans (qr rfl)
    rw[←hvb];have hlY:vb≠gv:=(by omega);clear hvb hS8 hR8 hK8;have he1:(p.src.eraseIdx K).length=ah.length - 1:=(by rw[List.length_eraseIdx_of_lt (by rw[hgD.out];exact hKl),hgD.out]);refine qm (i:=18) bK (qt 97 rfl rfl rfl (by go_simp) (ZO gv cv (ah.length - 1) spt vb xv (p.src.eraseIdx K) cur8 w9 hR9 ht8 he1 bO bO heM hlY) ?_);rintro e w10 ⟨rfl,⟨curf,hRf,htf⟩,hKf⟩;have hn1:ah.length - 1+1=ah.length:=(by omega);rw[hn1]at htf ⊢;have haH:=hSk hS9 hKf;refine⟨_,rfl,haH,?_⟩;refine qm (i:=19) bK (qC 98 (.pointer (some (J gp (j*2)))) w10 rfl rfl rfl (by go_simp) haH ?_);refine qm (i:=20) bK (qC 99 (.pointer (some (J gp (j*2+1)))) w10 rfl rfl rfl (by go_simp) haH ?_);obtain⟨t1,t2,t3,t4,t5,⟨t6,t7⟩,t8,t9⟩:=ha6 w10 haH;have hlZ:gp<w10.heap.size:=(by omega);refine qm (i:=21) bK (qz (w10.setCell (J gp (j*2+1)) (.slice (some (J gv 0)) ah.length cv)) rfl rfl rfl (by go_simp) (fun h=>absurd rfl h) (qL bK ?_ _));show Exit.inBlock 5 _ Exit.normal _ _;have hKw:Kept (fun g=>g=gv) ws w10:=((Kept.of_below HB7.out).trans hKA (fun _ _ h=>h)).trans hKf (fun _ _ h=>h);have hKz:Kept (fun g=>g=gv\/g=gp) ws (w10.setCell (J gp (j*2+1)) (.slice (some (J gv 0)) ah.length cv)):=Kept.setCell (S:=fun g=>g=gv\/g=gp) (p:=(J gp (j*2+1))) (hKw.mono fun _ _ h=>.inl h) (.inr rfl) _
    have hmv:(p.src.eraseIdx K).take spt++xv::(p.src.eraseIdx K).drop spt=(Xr ah old now p).src:=by
     show _=Za ah old now p.src;unfold Za;rw[←HKe.out,←HSp.out];rw[HXv.out.1]
    rw[hmv]at htf;have hml:(Xr ah old now p).src.length=ah.length:=by rw[←hmv];simp only[yN,yi,yr,List.length_drop,he1];omega
    have hiv:∀v∈(Xr ah old now p).src,I64 v.2:=fun v hv=>by
     rw[←hmv]at hv;have hsub:∀v∈p.src.eraseIdx K,v∈p.src:=fun v h=>List.mem_of_mem_eraseIdx h;rcases yH.1 hv with h|h
     ·exact hgE.out v (hsub v (List.mem_of_mem_take h))
     rcases yC.1 h with h|h
     ·rw[h];exact hgE.out _ HXv.out.2
     exact hgE.out v (hsub v (List.mem_of_mem_drop h))
    have hRg:RowAt (w10.setCell (J gp (j*2+1)) (.slice (some (J gv 0)) ah.length cv)) 44 gv cv 2 curf:=⟨(zJ _ _ _ gv hd8).trans hRf.1,hRf.2⟩;have hsl:SlO 44 2 jV (w10.setCell (J gp (j*2+1)) (.slice (some (J gv 0)) ah.length cv)) (.slice (some (J gv 0)) (Xr ah old now p).src.length cv) (Xr ah old now p).src Tp:=SlO.ofRow (by rw[hml];exact hRg.own hcn (by rw[xy,hml]) htf) hiv (fun g e=>HTp.out.2.2 g e) (HPs.out.sl.inb.mono hKz.size);rw[hml]at hsl
    have hput:=haA.out (w10.setCell (J gp (j*2+1)) (.slice (some (J gv 0)) ah.length cv)) [Z p.dst,.slice (some (J gv 0)) ah.length cv] (Xr ah old now p) Tp
     (RowPut.set (RowPut.same HCp.out (hKw.block gp hgp (fun e=>hd8 e.symm)) hdO.out) rfl (j:=1) bO _) rfl (fun u hu=>by
      simp only[yC,yG,yl]at hu
      rcases hu with rfl|rfl<;>rfl) hKz.size (fun g h1 h2 h3=>hKz.block g (HPj.out.inb g h1) (fun e=>e.elim (fun e=>h2 (by rw[e];exact HTp.out.2.2 gv rfl)) h3))
     ⟨_,rfl,HPd.out,hsl,by rw[hml];unfold reachBytes;omega⟩ (fun g hg=>⟨.inl hg,xB (HPj.out.inb g (HTp.out.2.1 g hg)) hKz.size⟩)
    rw[HPe.out,qS hjl]at hput
    have hrel:SlO 84 2 PhiO (w10.setCell (J gp (j*2+1)) (.slice (some (J gv 0)) ah.length cv)) (.slice (some (J gp 0)) x.phis.length du) (qG (j+1) (Xr ah old now) x.phis) Su1/\Kept Su1 wt (w10.setCell (J gp (j*2+1)) (.slice (some (J gv 0)) ah.length cv)):=
     ⟨hput.grow (fun g h=>h.elim id (HTp.out.2.1 g)) (HPj.out.inb.mono hKz.size),HKj.out.trans hKz (fun g _ h=>h.elim (fun e=>by rw[e];exact hiq) (fun e=>by rw[e];exact hfR.out))⟩
    have ha7:=q8 hrel;clear hrel hput hsl hRg hKz hKw hRf hKf haH hS9 hR9 heM hKA htf ht8 t1 t2 t3 t4 t5 t6 t7 hmv hiv
    go_wp2_with fail
    go_roundg (x.phis.length - (j+1))
    case measure=>omega
    case rel=>exact⟨j+1,by omega,rfl,by go_num,ha7.out.1,ha7.out.2⟩

end Go.Proofs.YtgjjhadbjmcnpaaGreatDoor
namespace Go.Proofs.YtgjjhadbjmcnpaaGreatDoor
open Go.RowKit

theorem FunD.ordRange {f:FunL} (h:FunD f):OrdC f (List.range f.blocks.length):=by
 refine⟨List.nodup_range,?_,fun x hx=>yR.1 hx,fun b hb t ht=>?_⟩
 ·have:=h.n1;obtain⟨n,hn⟩:∃n,f.blocks.length=n+1:=⟨f.blocks.length - 1,by omega⟩;rw[hn,List.range_succ_eq_map];exact⟨_,rfl⟩
 have:=h.tosB b (yR.1 hb) t ht;exact yR.2 bO
theorem ku {n i:Nat} (h:i<n):(List.range n).idxOf i=i:=by
 have:=(List.nodup_range (n:=n)).idxOf_getElem i (by simpa using h);simpa using this
theorem VZ {n i:Nat} (h:i<n):qE (List.range n) i=i:=by
 rw[jc (yR.2 h),ku h]
theorem FunD.keep_same {f:FunL} (h:FunD f) (hl:∀b (hb:b<f.blocks.length),∀p∈f.blocks[b].phis,p.src.length=(Go.Proofs.YtgjjhadbjmcnpaaGreatDoor.insN f b).length):zX (List.range f.blocks.length) f=f:=by
 have ho:=h.ordRange
 have e:(zX (List.range f.blocks.length) f).blocks=f.blocks:=by
  refine yV (by simp[zX]) fun b h1 h2=>?_;have hb:b<(List.range f.blocks.length).length:=by simpa using h2
  rw[ZG _ f hb];simp only[List.getElem_range];rw[qW h2]
  have ep:(f.blocks[b].phis.map fun p=>{ p with src:=srcK (qE (List.range f.blocks.length)) (Go.Proofs.YtgjjhadbjmcnpaaGreatDoor.insN f b) p.src })=f.blocks[b].phis:=by
   refine(ya (g:=id) fun p hp=>?_).trans bV;have hlen:=hl b h2 p hp;have e1:=JW h ho (b:=b) (yR.2 h2) (Zb (Go.Proofs.YtgjjhadbjmcnpaaGreatDoor.insN f b) p.src);rw[←fromR_row (h.insD b) hlen,ku h2]at e1
   have e2:Go.Proofs.YtgjjhadbjmcnpaaGreatDoor.insN (zX (List.range f.blocks.length) f) b=Go.Proofs.YtgjjhadbjmcnpaaGreatDoor.insN f b:=JY (jn (h.keep ho) b) (jn h b) fun a=>by
    have:=QA h ho (b:=b) (yR.2 h2) (j:=a);rw[ku h2]at this;rw[this];constructor
    ·rintro⟨hj,hm⟩;simpa using hm
    intro g;exact⟨by simpa using(h.mem.1 g).1,by simpa using g⟩
   rw[e2]at e1;show { p with src:=_ }=p;rw[e1]
   have e3:((Go.Proofs.YtgjjhadbjmcnpaaGreatDoor.insN f b).map fun j=>Zb (Go.Proofs.YtgjjhadbjmcnpaaGreatDoor.insN f b) p.src ((List.range f.blocks.length).getD j 0))=p.src:=by
    refine Eq.trans (ya fun j hj=>?_) (fromR_row (h.insD b) hlen).symm;have:=(h.mem.1 hj).1;simp[this]
   rw[e3]
  have et:endK (qE (List.range f.blocks.length)) f.blocks[b].fin=f.blocks[b].fin:=by
   unfold endK
   have:(f.blocks[b].fin.to.map fun t=>qE (List.range f.blocks.length) t.toNat)=f.blocks[b].fin.to:=by
    refine(ya (g:=id) fun t ht=>?_).trans bV;have:=h.tos b h2 t ht;rw[VZ bO];show((t.toNat:Nat):Int)=t;omega
   rw[this]
  unfold blkK;rw[ep,et]
 have e0:(zX (List.range f.blocks.length) f)={ f with blocks:=(zX (List.range f.blocks.length) f).blocks }:=rfl;rw[e0,e]
/-! ## names -/

theorem QZ {m:Nat->Nat}:∀(L:List Nat) (D:List Nat),(∀a∈D++L,∀b∈D++L,m a=m b->a=b)->(L.map m).foldl (fun D r=>if r∈D then D else D++[r]) (D.map m)=(L.foldl (fun D r=>if r∈D then D else D++[r]) D).map m
 | [],_,_=>rfl
 | r::L,D,h=>by
  rw[yS,List.foldl_cons,List.foldl_cons]
  have e:m r∈D.map m↔r∈D:=by
   constructor
   ·intro g;obtain⟨a,ha,e⟩:=yD.1 g;rw[←h a (by simp[ha]) r bV e];exact ha
   exact fun g=>yD.2 ⟨r,g,rfl⟩
  by_cases hr:r∈D
  ·rw[zZ hr,zZ (e.2 hr)];refine QZ L D fun a ha b hb=>h a ?_ b ?_
   ·simp only[yH,yC]at ha ⊢;rcases ha with g|g;exact .inl g;exact .inr (.inr g)
   simp only[yH,yC]at hb ⊢;rcases hb with g|g;exact .inl g;exact .inr (.inr g)
  rw[zQ hr,zQ (fun g=>hr (e.1 g))];have:=QZ L (D++[r]) fun a ha b hb=>h a (by simpa using ha) b (by simpa using hb);rw[←this];simp

theorem QG {α β γ δ:Type} {g:α->β} {u:β->List γ} {w:α->List δ} {m:δ->γ}:∀{l:List α},(∀a∈l,u (g a)=(w a).map m)->(l.map g).flatMap u=(l.flatMap w).map m
 | [],_=>rfl
 | a::l,h=>by
  rw[yS,List.flatMap_cons,List.flatMap_cons,yW,h a (.head _),QG fun b hb=>h b (.tail _ hb)]
theorem Jb (m:Nat->Int) (r:Bool) (n:Int):(r,(xw m (r,n)).2)=xw m (r,n):=by
 unfold xw;cases r<;>rfl
theorem ZP {α β:Type} {γ:Type} {xs:List α} {ys:List β} {u:β->List γ} {w:α->List γ} (hl:ys.length=xs.length) (h:∀i (h1:i<xs.length) (h2:i<ys.length),u ys[i]=w xs[i]):ys.flatMap u=xs.flatMap w:=by
 rw[List.flatMap_def,List.flatMap_def];congr 1;refine yV (by simp[hl]) fun i h1 h2=>?_;simp only[xE];exact h i (by simpa using h2) (by simpa using h1)

theorem name_tos (f:FunL):tosB (xO f).blocks=tosB f.blocks:=by
 funext b;unfold tosB
 by_cases h:b<f.blocks.length
 ·rw[zj h,zj (by rw[x9];exact h),ZJ];rfl
 have h2:=x9 f;rw[yk bO,yk bO]
theorem YJ (f:FunL):jW (xO f).blocks=jW f.blocks:=by
 unfold jW jR ko;rw[name_tos,x9]
theorem name_may (f:FunL) (b:Nat):vt (xO f) b=none↔vt f b=none:=by
 have e:∀b,(atF (xO f) b).fin.to=(atF f b).fin.to/\(atF (xO f) b).fin.kind=(atF f b).fin.kind/\(atF (xO f) b).phis.length=(atF f b).phis.length:=fun b=>by
  by_cases h:b<f.blocks.length
  ·have h2:b<(xO f).blocks.length:=(by rw[x9];exact h);rw[qW h,qW h2,ZJ h2];exact⟨rfl,rfl,by simp[KH]⟩
  unfold atF;have h2:¬ b<(xO f).blocks.length:=by rw[x9];exact h
  rw[yO,yO,yk bO,yk bO];exact⟨rfl,rfl,rfl⟩
 unfold vt;dsimp only;rw[(e b).1,(e b).2.1,(e _).2.2,KP]

inductive PathT (f:FunL):Nat->Prop
 | zero:PathT f 0
 | step {a b:Nat}:PathT f a->a<f.blocks.length->(b:Int)∈tosB f.blocks a->PathT f b
theorem FunS.reach {f:FunL} (h:FunS f) {b:Nat}:b∈jW f.blocks↔PathT f b:=by
 have hc:=h.ordC;constructor
 ·intro hb
  have key:∀(n i:Nat) (hi:i<(jW f.blocks).length),i<n->PathT f (jW f.blocks)[i]:=by
   intro n
   induction n with
   | zero=>intro i _ h;omega
   | succ n ih=>
    intro i hi hn
    by_cases e:(jW f.blocks)[i]=0
    ·rw[e];exact .zero
    obtain⟨j,hj,hji,hm⟩:=h.ord.par i hi e;exact .step (ih j hj bO) (hc.inb _ (zP hj)) hm
  obtain⟨i,hi,rfl⟩:=yp.1 hb;exact key (i+1) i hi bO
 intro hp
 induction hp with
 | zero=>exact hc.pos.2.2
 | step _ _ hm ih=>
  have:=hc.closed _ ih _ hm;simpa using this
def LiveT (f:FunL):Prop:=∀x,x<f.blocks.length->tosB f.blocks x≠[]->PathT f x

theorem path_join {f:FunL} (hf:FunD f) {b t:Nat} (m:MayJ f b t) {x:Nat} (h:PathT f x):PathT (xX f b t) (if x=t then b else x):=by
 have htb:t∉insN f t:=by rw[m.one];simp[m.ne]
 have h0:¬ (0=t):=fun e=>by
  have h1:(t:Int)∈tosB f.blocks b:=by rw[m.to];simp
  rw[xm m.hb]at h1;have:=hf.tos _ m.hb _ h1;omega
 induction h with
 | zero=>rw[zQ h0];exact .zero
 | @step a y _ ha hm ih=>
  have hlen:=qX f b t
  by_cases e1:a=t
  ·subst e1;rw[zZ rfl]at ih;have hy:y≠a:=fun e=>htb (by subst e;exact hf.mem.2 ⟨ha,hm⟩);rw[zQ hy];refine .step ih (by rw[hlen];exact m.hb) ?_;rw[kQ m m.hb,zQ (fun e=>m.ne e.symm),zZ rfl];exact hm
  rw[zQ e1]at ih
  by_cases e2:a=b
  ·subst e2;rw[m.to,yI]at hm;have:y=t:=(by omega);rw[zZ this];exact ih
  have hy:y≠t:=fun e=>by
   have:a∈insN f t:=hf.mem.2 ⟨ha,by rw[←e];exact hm⟩;rw[m.one,yI]at this;exact e2 this
  rw[zQ hy];refine .step ih (by rw[hlen];exact ha) ?_;rw[kQ m ha,zQ e1,zQ e2];exact hm
theorem LiveT.join {f:FunL} (hf:FunD f) (h:LiveT f) {b t:Nat} (m:MayJ f b t):LiveT (xX f b t):=fun x hx hne=>by
 rw[qX]at hx;rw[kQ m hx]at hne
 by_cases e:x=t
 ·rw[zZ e]at hne;exact absurd rfl hne
 rw[zQ e]at hne
 have hp:PathT f x:=by
  by_cases e2:x=b
  ·subst e2;exact h x hx (by rw[m.to];simp)
  rw[zQ e2]at hne;exact h x hx hne
 have:=path_join hf m hp;rw[zQ e]at this;exact this
theorem LiveT.chain {nf:Nat} {P:Nat->Int}:∀(c:Nat) {f:FunL} {b:Nat},FunC nf P f->b<f.blocks.length->LiveT f->LiveT (zt c f b)
 | 0,_,_,_,_,h=>h
 | c+1,f,b,h,hb,hl=>by
  unfold zt;cases e:vt f b with
  | none=>exact hl
  | some t=>
   have hm:=mayJ h hb e;exact LiveT.chain c (h.join hm) (by rw[qX];exact hb) (hl.join h.funD hm)
theorem LiveT.chains {nf:Nat} {P:Nat->Int} {f:FunL} (h:FunC nf P f) (hl:LiveT f):LiveT (zM f):=by
 unfold zM
 have key:∀(l:List Nat) (g:FunL) (c:Nat),(∀b∈l,b<f.blocks.length)->FunC nf P g->g.blocks.length=f.blocks.length->LiveT g->LiveT (l.foldl (fun g b=>zt c g b) g):=by
  intro l
  induction l with
  | nil=>intro g c _ _ _ h;exact h
  | cons b l ih=>
   intro g c hl hg hn hv;have hb:b<g.blocks.length:=(by rw[hn];exact hl b (.head _));obtain⟨h1,h2⟩:=hg.chain c hb;exact ih _ c (fun x hx=>hl x (.tail _ hx)) h1 (h2.trans hn) (hv.chain c hg hb)
 exact key _ f _ (fun b hb=>yR.1 hb) h rfl hl
theorem FunD.live {f:FunL} (h:FunD f):LiveT (Qy f):=fun x hx _=>by
 have hk:=h.keep h.toFunS.ordC;refine hk.toFunS.reach.1 ?_;have e:=h.order;unfold Qy at e hx;rw[e];rw[xg]at hx;exact yR.2 hx

theorem FunC.none_order {nf:Nat} {P:Nat->Int} {f:FunL} (h:FunC nf P f) (hl:LiveT f) (hn:∀b,b<f.blocks.length->vt f b=none) {i:Nat} (hi:i<(Qy f).blocks.length):vt (Qy f) i=none:=by
 have hd:=h.funD;have ho:=hd.toFunS.ordC;cases e:vt (Qy f) i with
 | none=>rfl
 | some j=>
  exfalso;have g:=mayJ h.order hi e;have g1:=g.ht;unfold Qy at g g1 hi;rw[xg]at g1 hi;have hi':=ho.inb _ (zP hi);have hj':=ho.inb _ (zP g1);have hto:=g.to;rw[Qz ho hi]at hto
  have e3:tosB f.blocks (jW f.blocks)[i]=[((jW f.blocks)[j]:Int)]:=by
   rcases ht:tosB f.blocks (jW f.blocks)[i]with _|⟨t,_|⟨t2,l⟩⟩
   ·rw[ht]at hto;cases hto
   ·rw[ht]at hto
    have e4:(jW f.blocks).idxOf t.toNat=j:=by
     simp only[yS,yw,List.cons.injEq,and_true]at hto;omega
    have hm:=ho.closed _ (zP hi) t (by rw[ht];simp);obtain⟨k1,k2⟩:=ja hm;have h5:=hd.tosB _ hi' t (by rw[ht];simp)
    have e6:(jW f.blocks)[j]=t.toNat:=by
     rw[←k2];simp only[e4]
    rw[e6,show((t.toNat:Nat):Int)=t by omega]
   rw[ht]at hto;have:=congrArg List.length hto;simp at this
  have hm:MayJ f (jW f.blocks)[i] (jW f.blocks)[j]:=by
   refine⟨hi',hj',e3,fun e5=>?_,?_,?_⟩
   ·have:=congrArg (fun x=>(jW f.blocks).idxOf x) e5;rw[ho.once.idxOf_getElem j g1,ho.once.idxOf_getElem i hi]at this;exact g.ne this
   ·have hp:=g.phi;rw[ZG _ f g1,qW hj']at hp;have:=congrArg List.length hp;simp only[blkK,yT,List.length_nil]at this;exact List.eq_nil_of_length_eq_zero this
   refine JY (jn hd _) bV fun a=>?_;rw[yI];have hk:=fun k=>QA hd ho (b:=(jW f.blocks)[j]) (zP g1) (j:=k);rw[ho.once.idxOf_getElem j g1,g.one]at hk;constructor
   ·intro ha;obtain⟨h6,h7⟩:=hd.mem.1 ha;have hr:a∈jW f.blocks:=hd.toFunS.reach.2 (hl a h6 (by intro e7;rw[e7]at h7;cases h7));obtain⟨k1,k2⟩:=ja hr;have:=(hk ((jW f.blocks).idxOf a)).2 ⟨k1,by rw[k2];exact ha⟩;rw[yI]at this;rw[←k2];simp only[this]
   rintro rfl;obtain⟨_,h8⟩:=(hk i).1 bV;exact h8
  have:=hn _ hi';rw[(h.may_iff hi').2 hm]at this;cases this

theorem Xu {nf:Nat} {P:Nat->Int} {f:FunL} (h:FunC nf P f):(zM f).blocks.length=f.blocks.length:=by
 unfold zM
 have key:∀(l:List Nat) (g:FunL) (c:Nat),(∀b∈l,b<f.blocks.length)->FunC nf P g->g.blocks.length=f.blocks.length->(l.foldl (fun g b=>zt c g b) g).blocks.length=f.blocks.length:=by
  intro l
  induction l with
  | nil=>intro g c _ _ h;exact h
  | cons b l ih=>
   intro g c hl hg hn;have hb:b<g.blocks.length:=(by rw[hn];exact hl b (.head _));obtain⟨h1,h2⟩:=hg.chain c hb;exact ih _ c (fun x hx=>hl x (.tail _ hx)) h1 (h2.trans hn)
 exact key _ f _ (fun b hb=>yR.1 hb) h rfl
theorem jU {c:Nat} {f:FunL} {b:Nat} (h:vt f b=none):zt c f b=f:=by
 cases c with
 | zero=>rfl
 | succ c=>unfold zt;rw[h]
theorem K0 {f:FunL} (h:∀b,b<f.blocks.length->vt f b=none):zM f=f:=by
 unfold zM;generalize f.blocks.length+1=c
 have key:∀l:List Nat,(∀b∈l,vt f b=none)->l.foldl (fun g b=>zt c g b) f=f:=by
  intro l
  induction l with
  | nil=>intro _;rfl
  | cons b l ih=>
   intro hl;rw[List.foldl_cons,jU (hl b (.head _))];exact ih fun x hx=>hl x (.tail _ hx)
 exact key _ fun b hb=>h b (yR.1 hb)
end Go.Proofs.YtgjjhadbjmcnpaaGreatDoor
