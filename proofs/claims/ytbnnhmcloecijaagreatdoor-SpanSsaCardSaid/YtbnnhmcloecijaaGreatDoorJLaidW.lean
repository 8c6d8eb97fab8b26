/-
  The listed variable code.ways: what the row's condition gives the walks; the door's own he
-/
import Derived.Test.YtbnnhmcloecijaaGreatDoorJTruA
import Derived.LaidMore
import Derived.OpenShut
import Derived.Stop.Joined
import Derived.LaidHandle
set_option maxRecDepth 100000
set_option maxHeartbeats 16000000
namespace Go.Proofs.YtbnnhmcloecijaaGreatDoor
open Go.RowKit

inductive Avoid (f:FunL) (c:Nat):Nat→Prop
 | zero:c≠0→Avoid f c 0
 | step {a b:Nat}:Avoid f c a→a<f.blocks.length→(b:Int)∈tosB f.blocks a→b≠c→Avoid f c b

section
variable {f : FunL} {par : Nat → Nat} {u : Nat → Int}
def KO (f:FunL) (u:Nat→Int):Prop:=∀x c,mkN u x→x≠0→c≠x→¬ Avoid f c x→¬ Avoid f c (upN u x)

theorem Zc (hf:FunD f):∀(k a b:Nat),a∈zq f.blocks→plN (zq f.blocks) a<k→plN (zq f.blocks) a<plN (zq f.blocks) b→Avoid f b a
 | 0,_,_,_,hk,_=>by omega
 | k+1,a,b,ha,hk,hlt=>by
  have h:=hf.toFunS.ord
  have hb0:b≠0:=fun e=>by
   subst e
   obtain ⟨l,hl⟩:=h.root
   have hz:=v7 h.once (i:=0) h.pos
   have e0:(zq f.blocks)[0]'h.pos=0:=by simp [hl]
   rw [e0] at hz
   omega
  obtain ⟨i,hi,rfl⟩:=yX ha
  rw [v7 h.once hi] at hk hlt
  by_cases h0:(zq f.blocks)[i]=0
  ·rw [h0];exact .zero hb0
  obtain ⟨j,hj,hji,ht⟩:=h.par i hi h0
  have hpj:=v7 h.once hj
  refine .step (Zc hf k _ b (zP hj) (by omega) (by omega)) (h.inb _ (zP hj)) ht fun e=>?_
  rw [←e,v7 h.once hi] at hlt
  omega

theorem Zd (hf:FunD f) (h:DomI (fun b=>b∈zq f.blocks) (plN (zq f.blocks)) (mkN u) (upN u)) (hR:KO f u) {c:Nat}:∀(k a b:Nat),mkN u a→mkN u b→¬ Avoid f c a→¬ Avoid f c b→¬ Avoid f c (Q3 (upN u) (plN (zq f.blocks)) k a b)
 | 0,_,_,_,_,ha,_=>ha
 | k+1,a,b,ma,mb,ha,hb=>by
  unfold Q3
  by_cases e:a=b
  ·rw [zZ e];exact ha
  rw [zQ e]
  have hne:plN (zq f.blocks) a≠plN (zq f.blocks) b:=fun e2=>e (h.one _ _ (h.reach _ ma) (h.reach _ mb) e2)
  by_cases hl:plN (zq f.blocks) a<plN (zq f.blocks) b
  ·rw [zZ hl]
   have hb0:b≠0:=fun e0=>by rw [e0,h.rootAt] at hl;omega
   refine Zd hf h hR k _ _ (h.mkUp _ mb) ma (hR b c mb hb0 (fun ec=>ha ?_) hb) ha
   rw [ec]
   exact Zc hf _ a b (h.reach _ ma) (Nat.lt_succ_self _) hl
  rw [zQ hl]
  have ha0:a≠0:=fun e0=>by rw [e0,h.rootAt] at hl hne;omega
  refine Zd hf h hR k _ _ (h.mkUp _ ma) mb (hR a c ma ha0 (fun ec=>hb ?_) ha) hb
  rw [ec]
  exact Zc hf _ b a (h.reach _ mb) (Nat.lt_succ_self _) (by omega)

theorem Xp (hf:FunD f) (h:DomI (fun b=>b∈zq f.blocks) (plN (zq f.blocks)) (mkN u) (upN u)) (hR:KO f u) {c:Nat}:∀(l:List Nat) (b:Int),(0≤b→mkN u b.toNat∧¬ Avoid f c b.toNat)→(∀p∈l,¬ Avoid f c p)→0≤l.foldl (jq u (plN (zq f.blocks))) b→¬ Avoid f c (l.foldl (jq u (plN (zq f.blocks))) b).toNat
 | [],b,hb,_,h0=>(hb h0).2
 | p::l,b,hb,hl,h0=>by
  have hp:=hl p (.head _)
  refine Xp hf h hR l (jq u (plN (zq f.blocks)) b p) (fun h1=>?_) (fun q hq=>hl q (.tail _ hq)) h0
  unfold jq at h1 ⊢
  by_cases e:u p<0
  ·rw [zZ e] at h1 ⊢
   exact hb h1
  have mp:mkN u p:=by unfold mkN;omega
  rw [zQ e] at h1 ⊢
  by_cases e2:b<0
  ·rw [zZ e2] at h1 ⊢
   exact ⟨mp,hp⟩
  rw [zQ e2] at h1 ⊢
  obtain ⟨h3,h4⟩:=hb (by omega)
  have hm:=h.meet (plN (zq f.blocks) b.toNat+plN (zq f.blocks) p+1) b.toNat p (by omega) h3 mp
  rw [xC]
  exact ⟨(h.ch hm.right mp).1,Zd hf h hR _ _ _ h3 mp h4 hp⟩

theorem Xq (hf:FunD f) (hJ:DomJ (fun b=>b∈zq f.blocks) (plN (zq f.blocks)) (insN f) par 1 (mkN u) (upN u)) (hR:KO f u):∀i,i+1≤(zq f.blocks).length→KO f (z7 (plN (zq f.blocks)) (insN f) (zq f.blocks) u (i+1))
 | 0,_=>hR
 | i+1,hi=>by
  have h:=hf.toFunS.ord
  have h1:=(h.round hJ i (by omega)).1
  have h2:=Xq hf hJ hR i (by omega)
  obtain ⟨hg,hc,hp,h0,_⟩:=h.getD (i:=i) (by omega)
  rw [k6,hg]
  generalize z7 (plN (zq f.blocks)) (insN f) (zq f.blocks) u (i+1)=v at *
  obtain ⟨m,hm,_,_,_⟩:=h1.best hc hp h0
  intro x c hx hx0 hcx ha
  by_cases e:x=(zq f.blocks)[i+1]
  ·subst e
   have key:=Xp hf h1.toDomI h2 (c:=c) (insN f (zq f.blocks)[i+1]) (-1) (fun h=>by omega) (fun p hp g=>ha ?_) (by
    show 0≤vm v (plN (zq f.blocks)) (insN f (zq f.blocks)[i+1])
    rw [hm];omega)
   ·have e2:upN (km v (zq f.blocks)[i+1] (vm v (plN (zq f.blocks)) (insN f (zq f.blocks)[i+1]))) (zq f.blocks)[i+1]=(vm v (plN (zq f.blocks)) (insN f (zq f.blocks)[i+1])).toNat:=by
     unfold upN km
     rw [zZ rfl]
    rw [e2]
    exact key
   obtain ⟨q1,q2⟩:=hf.mem.1 hp
   exact .step g q1 q2 (Ne.symm hcx)
  have hx2:mkN v x:=by
   unfold mkN km at hx
   rw [zQ e] at hx
   exact hx
  have e2:upN (km v (zq f.blocks)[i+1] (vm v (plN (zq f.blocks)) (insN f (zq f.blocks)[i+1]))) x=upN v x:=by
   unfold upN km
   rw [zQ e]
  rw [e2]
  exact h2 x c hx2 hx0 hcx ha
theorem VQ (hf:FunD f):∀(k:Nat) (u:Nat→Int),TreeL f.blocks (zq f.blocks) (insN f) u k→KO f u→KO f (Zt (insN f) (zq f.blocks))
 | 0,_,hL,_=>by have:=hL.fuel;omega
 | k+1,u,hL,hR=>by
  have h:=hf.toFunS.ord
  cases hm:kx (plN (zq f.blocks)) (insN f) (zq f.blocks) u (zq f.blocks).length
  ·obtain ⟨_,h2,_⟩:=hL.last h hm
   rw [←h2]
   exact hR
  refine VQ hf k _ (hL.next h hm) ?_
  obtain ⟨par,hJ⟩:=hL.inv
  have hp:=h.pos
  obtain ⟨m,hm2⟩:∃m,(zq f.blocks).length=m+1:=⟨(zq f.blocks).length - 1,by omega⟩
  rw [hm2]
  exact Xq hf hJ hR m (by omega)
theorem VR (hf:FunD f) {c:Nat}:∀(k x:Nat),plN (zq f.blocks) x≤k→x∈zq f.blocks→¬ Avoid f c x→Ch (upN (Zt (insN f) (zq f.blocks))) x c
 | k,x,hk,hx,ha=>by
  have h:=hf.toFunS.ord
  have hE:=hf.toFunS.treeE
  obtain ⟨hm,_⟩:=hE.fix h
  obtain ⟨par,hJ⟩:=hE.inv
  by_cases e:x=c
  ·rw [e];exact .refl _
  have hx0:x≠0:=fun e0=>ha (by rw [e0] at e ⊢;exact .zero (Ne.symm e))
  have hR:KO f (Zt (insN f) (zq f.blocks)):=VQ hf _ _ (.start h (fun b c hb hc=>Vl b c hb hc) hf.n1) fun x c hx h0=>absurd (by rw [Ye] at hx;exact hx) h0
  have h1:=hR x c (hm x hx) hx0 (Ne.symm e) ha
  have hl:=hJ.less x (hm x hx) hx0
  match k,hk with
  | 0,hk=>omega
  | k+1,hk=>exact .step hx0 (VR hf k _ (by omega) (hJ.reach _ (hJ.mkUp _ (hm x hx))) h1)
theorem ch_rules {R:Nat→Prop} {pl:Nat→Nat} (hI:DomI R pl (mkN u) (upN u)) {b a:Nat} (h:Ch (upN u) b a):mkN u b→∀k,pl b+1≤k→jk (km u 0 (-1)) a k b=true:=by
 induction h with
 | refl c=>
  intro _ k hk
  obtain ⟨k,rfl⟩:∃j,k=j+1:=⟨k - 1,by omega⟩
  unfold jk
  rw [zQ (by omega)]
  simp
 | @step b a h0 h1 ih=>
  intro hm k hk
  obtain ⟨k,rfl⟩:∃j,k=j+1:=⟨k - 1,by omega⟩
  unfold jk
  by_cases e:b=a
  ·rw [zQ (by omega)];simp [e]
  have g2:=hI.less b hm h0
  rw [zZ (by omega),xC]
  have e2:km u 0 (-1) b=(upN u b:Int):=by
   have g1:0≤u b:=hm
   unfold km upN
   rw [zQ h0]
   omega
  rw [e2]
  exact ih (hI.mkUp _ hm) k (by omega)
end
/-! ## each register is written once -/
theorem Xr {α β γ:Type} {g:Nat→α→List β} {m:β→γ} {q:α→List γ} (h:∀k x,(g k x).map m=q x):∀(l:List α) (k:Nat),(z8 g k l).map m=l.flatMap q
 | [],_=>rfl
 | x::l,k=>by
  show (g k x++z8 g (k+1) l).map m=_
  rw [yW,h,Xr h,List.flatMap_cons]
theorem wrAll_r (f:FunL):(Q4 f).map (fun e:WrE=>e.r)=List.range f.params.toNat++f.blocks.flatMap jL:=by
 unfold Q4 vO
 rw [yW,yy]
 congr 1
 ·exact (ya (g:=id) fun _ _=>rfl).trans (by simp)
 refine Xr (fun k x=>?_) _ _
 unfold kD j5
 rw [yW,yy,Zb]
 congr 1
 refine Xr (fun j i=>?_) _ _
 unfold kl vt
 by_cases e:0≤i.dst
 ·rw [zQ (by omega),zZ e];rfl
 rw [zZ (by omega),zQ e];rfl
structure Once (f:FunL):Prop where
 own:∀i,i<f.blocks.length→(jL (atF f i)).Nodup
 two:∀i j,i<f.blocks.length→j<f.blocks.length→∀r,r∈jL (atF f i)→r∈jL (atF f j)→i=j
 par:∀i,i<f.blocks.length→∀r∈jL (atF f i),f.params.toNat≤r
theorem YN (f:FunL):((Q4 f).map fun e:WrE=>e.r).Nodup↔Once f:=by
 rw [wrAll_r,List.nodup_append]
 unfold List.Nodup
 rw [List.pairwise_flatMap,List.pairwise_iff_getElem (l:=f.blocks)]
 constructor
 ·rintro ⟨_,⟨h1,h2⟩,h3⟩
  refine ⟨fun i hi=>?_,fun i j hi hj r hr hs=>?_,fun i hi r hr=>?_⟩
  ·rw [qC hi]
   exact h1 _ (zP hi)
  ·rw [qC hi] at hr
   rw [qC hj] at hs
   rcases Nat.lt_trichotomy i j with g|g|g
   ·exact absurd rfl (h2 i j hi hj g r hr r hs)
   ·exact g
   exact absurd rfl (h2 j i hj hi g r hs r hr)
  rcases yq r f.params.toNat with g|g
  ·rw [qC hi] at hr
   exact absurd rfl (h3 r (yR.2 g) r (yU.2 ⟨_,zP hi,hr⟩))
  exact g
 rintro ⟨h1,h2,h3⟩
 refine ⟨List.nodup_range,⟨fun x hx=>?_,fun i j hi hj hlt r hr s hs e=>?_⟩,fun r hr s hs e=>?_⟩
 ·obtain ⟨i,hi,rfl⟩:=yX hx
  rw [←qC hi]
  exact h1 i hi
 ·subst e
  have:=h2 i j hi hj r (by rw [qC hi];exact hr) (by rw [qC hj];exact hs)
  omega
 subst e
 obtain ⟨x,hx,hs⟩:=yU.1 hs
 obtain ⟨i,hi,rfl⟩:=yX hx
 have:=h3 i hi r (by rw [qC hi];exact hs)
 have:=yR.1 hr
 omega
theorem wr_once:∀(L:List WrE) (wb:Nat→Int×Int) (fl:Bool),(∀e∈L,0≤e.b)→((L.foldl qH (wb,fl)).2=true↔fl=true∧(L.map fun e:WrE=>e.r).Nodup∧∀e∈L,(wb e.r).1<0)
 | [],wb,fl,_=>by simp
 | e::L,wb,fl,hb=>by
  rw [List.foldl_cons]
  show (L.foldl qH (jQ wb e.r e.b e.a,decide ((wb e.r).1<0)&&fl)).2=true↔_
  rw [wr_once L _ _ fun x hx=>hb x (.tail _ hx),yS,List.nodup_cons]
  have h0:=hb e (.head _)
  have key:∀x:WrE,(jQ wb e.r e.b e.a x.r).1<0∧(wb e.r).1<0↔(x.r≠e.r∧(wb x.r).1<0)∧(wb e.r).1<0:=fun x=>by
   unfold jQ
   by_cases g:x.r=e.r∧(wb e.r).1<0
   ·rw [zZ g]
    have:=g.1
    constructor
    ·intro h;have:=h.1;dsimp only at this;omega
    intro h;exact absurd g.1 h.1.1
   rw [zQ g]
   constructor
   ·rintro ⟨h1,h2⟩
    exact ⟨⟨fun e=>g ⟨e,h2⟩,h1⟩,h2⟩
   rintro ⟨⟨_,h1⟩,h2⟩
   exact ⟨h1,h2⟩
  simp only [Bool.and_eq_true,yY,yD,not_exists,not_and,yC,forall_eq_or_imp]
  constructor
  ·rintro ⟨⟨h1,h2⟩,h3,h4⟩
   exact ⟨h2,⟨fun x hx=>((key x).1 ⟨h4 x hx,h1⟩).1.1,h3⟩,h1,fun x hx=>((key x).1 ⟨h4 x hx,h1⟩).1.2⟩
  rintro ⟨h2,⟨h5,h3⟩,h1,h4⟩
  exact ⟨⟨h1,h2⟩,h3,fun x hx=>((key x).2 ⟨⟨h5 x hx,h4 x hx⟩,h1⟩).1⟩
theorem wr_keep:∀(L:List WrE) (s:(Nat→Int×Int)×Bool) (r:Nat),(∀e∈L,e.r≠r)→(L.foldl qH s).1 r=s.1 r
 | [],_,_,_=>rfl
 | e::L,s,r,h=>by
  rw [List.foldl_cons,wr_keep L _ r fun x hx=>h x (.tail _ hx)]
  show jQ s.1 e.r e.b e.a r=s.1 r
  unfold jQ
  rw [zQ fun g=>h e (.head _) g.1.symm]
theorem wr_at:∀(L:List WrE) (s:(Nat→Int×Int)×Bool),(L.map fun e:WrE=>e.r).Nodup→(∀e∈L,(s.1 e.r).1<0)→∀e∈L,(L.foldl qH s).1 e.r=(e.b,e.a)
 | e0::L,s,hd,hs,e,he=>by
  rw [yS,List.nodup_cons] at hd
  have hne:∀x∈L,x.r≠e0.r:=fun x hx g=>hd.1 (yD.2 ⟨x,hx,g⟩)
  rw [List.foldl_cons]
  rcases yC.1 he with rfl|he
  ·rw [wr_keep L _ _ hne]
   show jQ s.1 e.r e.b e.a e.r=_
   unfold jQ
   rw [zZ ⟨rfl,hs e (.head _)⟩]
  refine wr_at L _ hd.2 (fun x hx=>?_) e he
  show (jQ s.1 e0.r e0.b e0.a x.r).1<0
  unfold jQ
  rw [zQ fun g=>hne x hx g.1]
  exact hs x (.tail _ hx)

section
variable {nf : Nat} {P : Nat → Int} {f : FunL}
theorem wrAll_b (f:FunL):∀e∈Q4 f,0≤e.b:=fun e he=>by
 rcases YM he with ⟨h,_⟩|⟨j,_,h,_⟩<;>omega
theorem once_wr:(ZC f).2=true↔Once f:=by
 unfold ZC
 rw [wr_once _ _ _ (wrAll_b f),YN]
 exact ⟨fun h=>h.2.1,fun h=>⟨rfl,h,fun _ _=>by show (-1:Int)<0;omega⟩⟩
theorem wr_dst {e:WrE} (h:e∈Q4 f):(e.b=0∧e.a = -1∧e.r<f.params.toNat)∨∃j,j<f.blocks.length∧e.b=j∧-1≤e.a∧∀a:Int,e.a<a→e.r∈kL (atF f j) a.toNat:=by
 rcases YM h with h|⟨j,hj,h1,h2⟩
 ·exact .inl h
 refine .inr ⟨j,hj,h1,?_⟩
 rw [qC hj]
 unfold kL
 rcases h2 with ⟨h3,p,hp,h4⟩|⟨i,hi,h3,h4,h5⟩
 ·exact ⟨by omega,fun a _=>yE _ (yD.2 ⟨p,hp,h4⟩)⟩
 refine ⟨by omega,fun a ha=>yM _ (yU.2 ⟨_,List.mem_take_iff_getElem.2 ⟨i,by omega,rfl⟩,?_⟩)⟩
 unfold vt
 rw [zZ h4,h5]
 simp
theorem dst_wr {j:Nat} (hj:j<f.blocks.length) {a r:Nat} (h:r∈kL (atF f j) a):∃e∈Q4 f,e.r=r∧e.b=j∧e.a<a:=by
 have mem:∀e∈kD j f.blocks[j],e∈Q4 f:=fun e he=>yM _ (vN (k:=0) hj (by rw [yx];exact he))
 rw [qC hj] at h
 unfold kL at h
 rcases yH.1 h with h|h
 ·obtain ⟨p,hp,rfl⟩:=yD.1 h
  exact ⟨⟨p.dst.toNat,j,-1⟩,mem _ (yE _ (yD.2 ⟨p,hp,rfl⟩)),rfl,rfl,by show (-1:Int)<a;omega⟩
 obtain ⟨x,hx,h⟩:=yU.1 h
 obtain ⟨i,hi,rfl⟩:=List.mem_take_iff_getElem.1 hx
 unfold vt at h
 split at h
 ·next hd=>
  have hi2:i<f.blocks[j].list.length:=by omega
  refine ⟨⟨r,j,i⟩,mem _ (yM _ (vN (k:=0) hi2 ?_)),rfl,rfl,by show (i:Int)<a;omega⟩
  unfold kl
  rw [zQ (by omega),yI.1 h,yx]
  simp
 cases h
theorem bare_par {r x:Nat} (h:Bare f r x):f.params.toNat≤r:=by
 induction h with
 | zero h=>exact h
 | step _ _ _ _ ih=>exact ih
theorem bare_path {r x:Nat} (h:Bare f r x):PathT f x:=by
 induction h with
 | zero=>exact .zero
 | step _ _ h3 h4 ih=>exact .step ih h3 h4
/-! ## from the check -/
theorem bare_ch (hf:FunD f) {r x y:Nat} (h:Bare f r x) (hc:Ch (upN (Zt (insN f) (zq f.blocks))) x y) (hr:r∈jL (atF f y)):y=x:=by
 induction h with
 | zero _=>exact ch_root hc
 | @step a b hB h2 h3 h4 ih=>
  by_cases e:y=b
  ·exact e
  have hb0:=hf.tos a h3
  rw [←qM h3] at hb0
  have hb0:=hb0 _ h4
  have hp:=bare_path hB
  have:=ih (hf.toFunS.treeE.dom hf.toFunS.ord (hf.toFunS.reach.2 (.step hp h3 h4)) (by omega) (hf.mem.2 ⟨h3,h4⟩) (hf.toFunS.reach.2 hp) hc e)
  subst this
  exact absurd hr h2
theorem known_use (hf:FunD f) (hu:vx (ZC f).1 (treeU f) (plN (zq f.blocks)) f=true) {e:UsE} (he:e∈QI f) (hr:e.vr=true) (hB:Bare f e.vn.toNat e.b):e.vn.toNat∈kL (atF f e.b) e.a.toNat:=by
 unfold vx at hu
 rw [List.all_eq_true] at hu
 have hk:=hu e he
 unfold knE knB at hk
 rw [hr,zQ (by decide)] at hk
 have h0:0≤((ZC f).1 e.vn.toNat).1:=by
  rcases Int.lt_or_le ((ZC f).1 e.vn.toNat).1 0 with g|g
  ·rw [zZ g] at hk;cases hk
  exact g
 rw [zQ (by omega)] at hk
 obtain ⟨w,hw,hwr,hwe⟩:=wrF_mem h0
 rw [hwe] at hk
 rcases wr_dst hw with ⟨_,_,h3⟩|⟨j,hj,h1,h2,h3⟩
 ·have:=bare_par hB
  omega
 rw [hwr] at h3
 dsimp only at hk
 by_cases hb:w.b=e.b
 ·rw [zZ hb] at hk
  have hlt:w.a<e.a:=of_decide_eq_true hk
  obtain rfl:j=e.b:=by omega
  exact h3 _ hlt
 rw [zQ hb] at hk
 have hch:=YL (u:=Zt (insN f) (zq f.blocks)) _ _ _ hk (by omega) (by omega)
 rw [xC,xC,h1,xC] at hch
 have:=bare_ch hf hB hch (dstP_sub (h3 (w.a+1) (by omega)))
 omega
theorem ssaS_of (hC:FunC nf P f) (h:JO f=0):SsaS f:=by
 have hf:=hC.funD
 have h7:(ZC f).2=true∧vx (ZC f).1 (treeU f) (plN (zq f.blocks)) f=true:=by
  unfold JO at h
  split at h
  ·cases h
  split at h
  ·cases h
  split at h
  ·cases h
  next h2 h3=>exact ⟨by simpa using h2,by simpa using h3⟩
 have ho:=once_wr.1 h7.1
 have hk:=fun {e} he=>known_use hf h7.2 (e:=e) he
 refine ⟨ho.own,ho.two,ho.par,fun b hb j hj v hv e hB=>?_,fun b hb e hB=>?_,fun b hb p hp a ha e hB=>?_⟩
 ·have hv2:=hv
  simp only [qC hb] at hv hj
  have:=hk (e:=⟨v.1,v.2,b,(j:Nat)⟩) (kT hb (XR hj (yD.2 ⟨v,hv,rfl⟩))) e hB
  simpa using this
 ·have h1:(⟨(atF f b).fin.onr,(atF f b).fin.onn,b,((atF f b).list.length:Nat)⟩:UsE)∈QI f:=by
   rw [qC hb]
   exact kT hb (yM _ (yI.2 rfl))
  have:=hk h1 e hB
  simpa [jL] using this
 rw [qC hb] at hp
 obtain ⟨hi,hia⟩:=j3 ha
 have hl:=(hC.phi b hb p hp).len
 have hsl:(insN f b).idxOf a<p.src.length:=by omega
 have hfr:xK (insN f b) p.src a=p.src[(insN f b).idxOf a]:=by unfold xK;simp [hsl]
 obtain ⟨q,hq,hpq⟩:=yX hp
 have h1:=X8 (f:=f) (k:=b) (p:=p) hsl
 have e1:(insN f b).getD ((insN f b).idxOf a) 0=a:=by simp [hi,hia]
 have hab:a<f.blocks.length:=(hf.mem.1 ha).1
 rw [e1,zj hab,←hfr] at h1
 have h2:=hk (kT hb (XQ hq (by rw [hpq];exact h1))) e hB
 rw [qC hab]
 rw [qC hab] at h2
 simpa [jL] using h2
/-! ## and back -/
theorem SsaS.use (hC:FunC nf P f) (h:SsaS f) {e:UsE} (he:e∈QI f):e.b<f.blocks.length∧0≤e.a∧(e.vr=true→Bare f e.vn.toNat e.b→e.vn.toNat∈kL (atF f e.b) e.a.toNat):=by
 have hf:=hC.funD
 obtain ⟨b,hb,he⟩:=jH he
 rw [yx] at he
 unfold kE at he
 rcases yH.1 he with he|he
 rotate_left
 ·rw [yI.1 he]
  refine ⟨hb,by show (0:Int)≤((_:Nat):Int);omega,fun hr hB=>?_⟩
  have h1:=h.fin b hb
  rw [qC hb] at h1 ⊢
  have h2:=h1 hr hB
  simpa [jL] using h2
 rcases yH.1 he with he|he
 ·obtain ⟨p,hp,he⟩:=yU.1 he
  obtain ⟨j,hj,he⟩:=jH he
  rw [yx] at he
  have he:=yI.1 he
  have hl:=(hC.phi b hb p hp).len
  have hj2:j<(insN f b).length:=by omega
  have e1:(insN f b).getD j 0=(insN f b)[j]:=by simp [hj2]
  have ha:=zP hj2
  have hab:=(hf.mem.1 ha).1
  rw [e1,zj hab] at he
  subst he
  refine ⟨hab,by show (0:Int)≤((_:Nat):Int);omega,fun hv hB=>?_⟩
  have hfr:xK (insN f b) p.src (insN f b)[j]=p.src[j]:=by
   unfold xK
   rw [(hf.insD b).idxOf_getElem j hj2]
   simp [hj]
  have h1:=h.phi b hb p (by rw [qC hb];exact hp) _ ha
  rw [hfr] at h1
  have h2:=h1 hv hB
  rw [qC hab] at h2 ⊢
  simpa [jL] using h2
 obtain ⟨j,hj,he⟩:=jH he
 rw [yx] at he
 obtain ⟨v,hv,rfl⟩:=yD.1 he
 refine ⟨hb,by show (0:Int)≤((_:Nat):Int);omega,fun hr hB=>?_⟩
 have h1:=h.ins b hb j (by rw [qC hb];exact hj) v (by simp only [qC hb];exact hv) hr hB
 simpa using h1
theorem SsaS.check (hC:FunC nf P f) (h:SsaS f) (hr:∀b,b<f.blocks.length→PathT f b):JO f=0:=by
 have hf:=hC.funD
 have ho:=hf.toFunS.ord
 have hO:Once f:=⟨h.own,h.two,h.par⟩
 have hlen:f.blocks.length≤(vv f.blocks).length:=by
  have h1:=(List.nodup_range (n:=f.blocks.length)).length_le_of_subset (l₂:=zq f.blocks) fun b hb=>hf.toFunS.reach.2 (hr b (yR.1 hb))
  have e1:(zq f.blocks).length=(jG f.blocks).length:=by unfold zq;simp
  have e2:(jG f.blocks).length=(vv f.blocks).length:=by unfold jG;simp
  rw [List.length_range] at h1
  omega
 have hat:∀e∈Q4 f,(ZC f).1 e.r=(e.b,e.a):=wr_at _ _ ((YN f).2 hO) fun _ _=>by show (-1:Int)<0;omega
 have hE:=hf.toFunS.treeE
 obtain ⟨hm,_⟩:=hE.fix ho
 obtain ⟨par,hJ⟩:=hE.inv
 have rule:∀b c,b<f.blocks.length→¬ Avoid f c b→jk (treeU f) c (plN (zq f.blocks) b+2) b=true:=fun b c hb ha=>by
  have hbo:=hf.toFunS.reach.2 (hr b hb)
  exact ch_rules hJ.toDomI (VR hf _ b (zK _) hbo ha) (hm b hbo) _ (by omega)
 unfold JO
 rw [zQ (by omega),zQ (by rw [once_wr.2 hO];simp),zQ]
 rw [Bool.not_eq_false]
 refine XP fun e he=>?_
 obtain ⟨heb,hea,hk⟩:=h.use hC he
 unfold knE knB
 by_cases hv:e.vr=false
 ·rw [zZ hv]
 rw [zQ hv]
 have hv:e.vr=true:=by simpa using hv
 have hk:=hk hv
 by_cases hd:e.vn.toNat∈kL (atF f e.b) e.a.toNat
 ·obtain ⟨w,hw,hwr,hwb,hwa⟩:=dst_wr heb hd
  have:=hat w hw
  rw [hwr,hwb] at this
  rw [this]
  simp only [zZ]
  rw [zQ (by omega)]
  simp only [yY]
  omega
 have hnb:¬ Bare f e.vn.toNat e.b:=fun g=>hd (hk g)
 by_cases hp:e.vn.toNat<f.params.toNat
 ·have hw:(⟨e.vn.toNat,0,-1⟩:WrE)∈Q4 f:=yE _ (yD.2 ⟨_,yR.2 hp,rfl⟩)
  have:=hat _ hw
  dsimp only at this
  rw [this]
  simp only
  rw [zQ (by omega)]
  by_cases hb0:(0:Int)=e.b
  ·rw [zZ hb0]
   simp only [yY]
   omega
  rw [zQ hb0]
  exact rule e.b 0 heb fun g=>by
   have:∀x,¬ Avoid f 0 x:=fun x h=>by
    induction h with
    | zero h=>exact h rfl
    | step _ _ _ _ ih=>exact ih
   exact this _ g
 have hba:f.params.toNat≤e.vn.toNat:=by omega
 have hex:∃c,c<f.blocks.length∧e.vn.toNat∈jL (atF f c):=xF fun hne=>hnb (by
  have:∀x,PathT f x→Bare f e.vn.toNat x:=fun x hx=>by
   induction hx with
   | zero=>exact .zero hba
   | @step a b _ h3 h4 ih=>exact .step ih (fun g=>hne ⟨a,h3,g⟩) h3 h4
  exact this _ (hr _ heb))
 obtain ⟨c,hc,hcd⟩:=hex
 obtain ⟨w,hw,hwr,hwb,hwa⟩:=dst_wr hc hcd
 have:=hat w hw
 rw [hwr,hwb] at this
 rw [this]
 simp only
 rw [zQ (by omega)]
 by_cases hce:c=e.b
 ·exfalso
  subst hce
  have:∀x,PathT f x→Bare f e.vn.toNat x∨Bare f e.vn.toNat e.b:=fun x hx=>by
   induction hx with
   | zero=>exact .inl (.zero hba)
   | @step a b _ h3 h4 ih=>
    rcases ih with ih|ih
    ·by_cases g:e.vn.toNat∈jL (atF f a)
     ·rw [h.two _ _ h3 hc _ g hcd] at ih
      exact .inr ih
     exact .inl (.step ih g h3 h4)
    exact .inr ih
  exact hnb ((this _ (hr _ heb)).elim id id)
 rw [zQ (by omega),xC]
 refine rule e.b c heb fun g=>hnb ?_
 have:∀x,Avoid f c x→x≠c∧Bare f e.vn.toNat x:=fun x hx=>by
  induction hx with
  | zero h=>exact ⟨Ne.symm h,.zero hba⟩
  | @step a b _ h3 h4 h5 ih=>exact ⟨h5,.step ih.2 (fun g=>ih.1 (h.two _ _ h3 hc _ g hcd)) h3 h4⟩
 exact (this _ g).2
end

theorem I64.zero:I64 0:=by unfold I64;omega
end Go.Proofs.YtbnnhmcloecijaaGreatDoor
namespace Go.Proofs.YtbnnhmcloecijaaGreatDoor
open Go.RowKit Go.Shelf

theorem ssaU_zero {u:UniL} (h:(jU u).1=0):jU u=(0,0):=by
 unfold jU at h ⊢
 by_cases hc:(chk u).1=0
 ·rw [zZ hc] at h ⊢
  cases hf:xy u.funcs.length (ssaI u) with
  | none=>rfl
  | some r=>rw [hf] at h;exact absurd h (ja hf)
 rw [zQ hc] at h
 exact absurd h hc
theorem okU_true {u:UniL} (h:okU u=true):jU u=(0,0):=by
 unfold okU at h
 rw [Bool.and_eq_true] at h
 exact ssaU_zero (by simpa using h.1)
end Go.Proofs.YtbnnhmcloecijaaGreatDoor
namespace Go.Proofs.YtbnnhmcloecijaaGreatDoor
open Go.RowKit

theorem okU_ssa {u:UniL} (h:okU u=true) {k:Nat} (hk:k<u.funcs.length):JO u.funcs[k]=0:=by
 have h1:=okU_true h
 unfold jU at h1
 split at h1
 ·cases hf:xy u.funcs.length (ssaI u) with
  | some r=>
   rw [hf] at h1
   have h1:r=(0,0):=h1
   exact absurd (by rw [h1]) (ja hf)
  | none=>rw [←KM hk];exact vV hf k hk
 next hc=>rw [h1] at hc;exact absurd rfl hc

section
variable {nf : Nat} {P : Nat → Int} {f : FunL}
theorem VT:∀(c:Nat) {f:FunL} {b:Nat},FunC nf P f→b<f.blocks.length→SsaS f→SsaS (zl c f b)
 | 0,_,_,_,_,hs=>hs
 | c+1,f,b,h,hb,hs=>by
  unfold zl
  cases e:Xy f b with
  | none=>exact hs
  | some t=>
   have hm:=mayJ h hb e
   exact VT c (h.join hm) (by rw [qJ];exact hb) (hs.join h hm)
theorem mJ (h:FunC nf P f) (hs:SsaS f):SsaS (qY f):=by
 unfold qY
 have key:∀(l:List Nat) (g:FunL) (c:Nat),(∀b∈l,b<f.blocks.length)→FunC nf P g→g.blocks.length=f.blocks.length→SsaS g→SsaS (l.foldl (fun g b=>zl c g b) g):=by
  intro l
  induction l with
  | nil=>intro g c _ _ _ h;exact h
  | cons b l ih=>
   intro g c hl hg hn hs
   have hb:b<g.blocks.length:=by rw [hn];exact hl b (.head _)
   obtain ⟨h1,h2⟩:=hg.chain c hb
   exact ih _ c (fun x hx=>hl x (.tail _ hx)) h1 (h2.trans hn) (VT c hg hb hs)
 exact key _ f _ (fun b hb=>yR.1 hb) h rfl hs
theorem SsaS.done (h:FunC nf P f) (hs:SsaS f):SsaS (doT f):=by
 have h1:=h.order.chains
 exact ((mJ h.order (hs.keep h h.funD.toFunS.ordC)).keep h1 h1.funD.toFunS.ordC).name h1.order
theorem SsaS.span (h:FunC nf P f) (hs:SsaS f):SsaS (xU f):=by
 unfold xU
 have key:∀(L:List Nat) (g:FunL),(∀b∈L,b<f.blocks.length)→FunC nf P g→g.blocks.length=f.blocks.length→SsaS g→SsaS (L.foldl (kg (qN f)) g):=by
  intro L
  induction L with
  | nil=>intro g _ _ _ h;exact h
  | cons b L ih=>
   intro g hl hg hn hs
   have hb:b<g.blocks.length:=by rw [hn];exact hl b (.head _)
   obtain ⟨h1,h2⟩:=KB (l:=qN f) hg hb
   refine ih _ (fun x hx=>hl x (.tail _ hx)) h1 (h2.trans hn) ?_
   unfold kg
   cases e:jr (qN f) (atF g b).fin with
   | none=>exact hs
   | some g'=>exact hs.cut hg (vu hg hb e)
 exact key _ _ (fun b hb=>yR.1 hb) (h.insT _) (jS _ _) (hs.insT _)
theorem FunC.reached (h:FunC nf P f):∀b,b<(doT f).blocks.length→PathT (doT f) b:=fun b hb=>by
 have h1:=h.order.chains
 have e:zq (doT f).blocks=List.range (doT f).blocks.length:=by
  show zq (xq (QZ (qY (QZ f)))).blocks=List.range (xq (QZ (qY (QZ f)))).blocks.length
  rw [mu,zd,h1.funD.order]
  unfold QZ
  rw [zS]
 exact h.done.funD.toFunS.reach.1 (by rw [e];exact yR.2 hb)
end
theorem okU_of {v:UniL} (h:chk v=(0,0)) (hs:∀k (hk:k<v.funcs.length),JO v.funcs[k]=0):okU v=true:=by
 have e:jU v=(0,0):=by
  unfold jU
  rw [zZ (by rw [h]),zi fun k hk=>by rw [KM hk];exact hs k hk]
 unfold okU
 rw [e]
 rfl
theorem okU_span {u:UniL} (h:okU u=true):okU (xl (jt (xl u)))=true:=by
 have hc:=okU_chk h
 have ht:=hc.tidy.2
 have hp:=ht.span.2
 refine okU_of hp.tidy.1 fun k hk=>?_
 have k1:k<u.funcs.length:=by simpa [xl,jt] using hk
 have k2:k<(xl u).funcs.length:=by simpa [xl] using k1
 have k3:k<(jt (xl u)).funcs.length:=by simpa [jt,xl] using k1
 have h1:=ssaS_of (hc.funC k1) (okU_ssa h k1)
 have e2:(xl u).funcs[k]=doT u.funcs[k]:=by simp [xl]
 have h2:SsaS (xl u).funcs[k]:=by rw [e2];exact h1.done (hc.funC k1)
 have e3:(jt (xl u)).funcs[k]=xU (xl u).funcs[k]:=by simp [jt]
 have h3:SsaS (jt (xl u)).funcs[k]:=by rw [e3];exact h2.span (ht.funC k2)
 have e4:(xl (jt (xl u))).funcs[k]=doT (jt (xl u)).funcs[k]:=by simp [xl]
 rw [e4]
 exact (h3.done (hp.funC k3)).check (hp.funC k3).done (hp.funC k3).reached
end Go.Proofs.YtbnnhmcloecijaaGreatDoor
namespace Go.Proofs.YtbnnhmcloecijaaGreatDoor
open Go.RowKit Go.Shelf

theorem ChkOk.spanLess {u:UniL} (h:ChkOk u) {k:Nat} (hk:k<u.funcs.length) (hk2:k<(xl (jt (xl u))).funcs.length):(xl (jt (xl u))).funcs[k].blocks.length≤u.funcs[k].blocks.length:=by
 have e:(xl (jt (xl u))).funcs[k]=doT (xU (doT u.funcs[k])):=by simp [xl,jt]
 rw [e]
 have h1:=(h.funC hk).done
 have h2:=h1.span
 have a:=h2.1.less.1
 have b:=(h.funC hk).less.1
 omega

theorem ssas_bad (u:UniL) (gp fp:Option Addr) (gc fc:Nat) (w:World) (hgl:u.globals.length*48≤140737488351232) (hG:SliceAt w 3 (GloR w) gp u.globals) (hfl:u.funcs.length*56≤140737488351232) (hF:SliceAt w 4 (FunR w) fp u.funcs) (hw0:Ways w) (h:okU u=false) :
  Calls Tryz.prog 5 #[.agg #[.slice gp u.globals.length gc,.slice fp u.funcs.length fc]] w fun e w'=>e = .returned (.bool true)∧Below w.heap.size w w':=by
 have HG:=q7 hG
 have HF:=q7 hF
 have HW:=q7 hw0
 have hne:=okU_bad h
 have HNe:=q7 hne
 have hn1:((jU u).1 != 0)=true:=by simp [hne]
 clear hG hF hw0 h hne
 go_enter Tryz.func5,Tryz.ntmps5
 go_wp2_with fail
 refine (spdo_bad u _ _ _ _ _ hgl (vT HG.out bZ) hfl (vU HF.out bZ) (HW.out.below bZ) HNe.out).mono ?_
 rintro e w1 ⟨rfl,hb1⟩
 have HB1:Hid (Below w.heap.size w w1):=yo bZ (hb1.mono (by simp))
 clear hb1
 go_wp2_with fail
 refine (none_none _).mono ?_
 rintro e w2 ⟨rfl,hb2⟩
 have hsz:=HB1.out.size
 have HB2:Hid (Below w.heap.size w w2):=q7 (HB1.out.trans (yo bZ (hb2.mono (by simp;omega))))
 clear hb2
 go_wp2_with fail
 go_ret
 exact ⟨rfl,HB2.out⟩

theorem ssas_ok (u:UniL) (gp fp:Option Addr) (gc fc:Nat) (w:World) (hgl:u.globals.length*48≤140737488351232) (hG:SlF w 3 48 (GloR w) (.slice gp u.globals.length gc) u.globals) (hfl:u.funcs.length*56≤140737488351232) (hF:SlF w 4 56 (FunR w) (.slice fp u.funcs.length fc) u.funcs) (hw0:Ways w) (hA:AllW w) (hok:okU u=true) :
  Calls Tryz.prog 5 #[.agg #[.slice gp u.globals.length gc,.slice fp u.funcs.length fc]] w fun e w'=>e = .returned (.bool true)∧Below w.heap.size w w':=by
 have hc:=(XF (YH hok)).2
 obtain ⟨m,hm,_⟩:=hc.main
 have hpos:0<u.funcs.length:=Nat.lt_of_le_of_lt (Nat.zero_le _) (mainI_lt hm)
 have hT:=hc.tidy.2
 obtain ⟨U,hU⟩:∃U,U=xl (jt (xl u)):=⟨_,rfl⟩
 have hUl:U.funcs.length=u.funcs.length:=by rw [hU];simp [xl,jt]
 have hUg:U.globals=u.globals:=by rw [hU];rfl
 have hhD:∀k (hk:k<u.funcs.length) (hk2:k<U.funcs.length),U.funcs[k].blocks.length≤u.funcs[k].blocks.length:=by
  subst hU
  intro k hk hk2
  exact hc.spanLess hk hk2
 have hS:jU U=(0,0):=by rw [hU];exact JP (okU_span hok)
 have HGs:=q7 hG
 have HFs:=q7 hF
 have HW:=q7 hw0
 have HA:=q7 hA
 have HOk:=q7 hok
 have HU:=q7 hU
 have hlL:=q7 hhD
 have HUl:=q7 hUl
 have HUg:=q7 hUg
 have HS:=q7 hS
 have hF0:SliceAt w 4 (FunR w) fp u.funcs:=by
  obtain ⟨p,c,e,_,_,h⟩:=hF.outC
  cases e
  exact h
 have HF0:=q7 hF0
 have hp0:((u.funcs.length:Int) == 0)=false:=beq_eq_false_iff_ne.2 (by omega)
 have hp1:((u.funcs.length:Int) != u.funcs.length)=false:=by simp
 clear hG hF hF0 hw0 hA hok hc hm hU hhD hUl hUg hS
 go_enter Tryz.func5,Tryz.ntmps5
 go_wp2_with fail
 obtain ⟨w1,hw1⟩:∃w1,w1=w.alloc (.cells #[.slice gp u.globals.length gc,.slice fp u.funcs.length fc] 25):=⟨_,rfl⟩
 rw [←hw1]
 have hb1:Below w.heap.size w w1:=by rw [hw1];exact bZ
 have hO1:w1.heap[w.heap.size]?=some (.cells #[.slice gp u.globals.length gc,.slice fp u.funcs.length fc] 25 (0,0)):=by rw [hw1];exact qh rfl
 have hz1:w1.heap.size=w.heap.size+1:=by rw [hw1];simp
 have hgm:=SlF.mono HGs.out hb1 (by omega) fun _ _ h=>h.below hb1
 have hfm:=SlF.mono HFs.out hb1 (by omega) fun _ _ h=>h.below hb1
 have HB1:=q7 hb1
 have HO1:=q7 hO1
 clear hw1 hb1 hO1
 refine (spdo_ok u gp fp gc fc w1 hgl hgm hfl hfm (HW.out.below HB1.out) (HA.out.below HB1.out) HOk.out).mono ?_
 rintro e w2 ⟨⟨p1,c1,p2,c2,rfl,S,hS,hL⟩,hb2⟩
 rw [←HU.out] at hS
 have hz2:=hb2.size
 have HB2:=q7 (HB1.out.trans (hb2.mono HB1.out.size))
 have HO2:=q7 ((hb2.block _ (by omega)).trans HO1.out)
 obtain ⟨hgr,hfr⟩:SlF w2 3 48 (GloR w2) (.slice p1 u.globals.length c1) U.globals∧SlF w2 4 56 (FunR w2) (.slice p2 u.funcs.length c2) U.funcs:=by
  obtain ⟨v1,v2,h0,h1,h2⟩:=hS.read
  simp only [List.cons.injEq,and_true] at h0
  obtain ⟨rfl,rfl⟩:=h0
  exact ⟨h1,h2⟩
 have hF2:SliceAt w2 4 (FunR w2) p2 U.funcs:=by
  obtain ⟨p,c,e,_,_,h⟩:=hfr.outC
  injection e with e1 e2 e3
  rw [e1]
  exact h
 have hG2:SliceAt w2 3 (GloR w2) p1 U.globals:=by
  obtain ⟨p,c,e,_,_,h⟩:=hgr.outC
  injection e with e1 e2 e3
  rw [e1]
  exact h
 have HF2:=q7 hF2
 have HG2:=q7 hG2
 have oa0:w2.cell? ⟨w.heap.size,1,none⟩=some (.slice fp u.funcs.length fc):=(blk HO2.out).1 1
 have oz0:=q8 HO2.out
 clear hS hL hb2 hgm hfm hfr hgr hF2 hG2
 go_wp2_with fail
 obtain ⟨W3,hW3⟩:∃W3,W3=(w2.alloc (.cells #[.slice p1 u.globals.length c1,.slice p2 u.funcs.length c2] 25)).alloc (.cells #[.int .i64 0,.int .i64 0] 27):=⟨_,rfl⟩
 rw [←hW3]
 have hz3:W3.heap.size=w2.heap.size+1+1:=by rw [hW3];simp
 have hb3:Below w2.heap.size w2 W3:=by rw [hW3];exact bZ
 have hO3:W3.heap[w2.heap.size]?=some (.cells #[.slice p1 u.globals.length c1,.slice p2 u.funcs.length c2] 25 (0,0)):=by rw [hW3];exact qg (qh rfl)
 have hf3:W3.cell? ⟨w2.heap.size+1,0,none⟩=some (.int .i64 0):=by rw [hW3];exact (blk (qh (by simp))).1 0
 have HO4:=q7 ((hb3.block _ (by omega)).trans HO2.out)
 have HB3:=q7 hb3
 have HBw:=q7 (HB2.out.trans (hb3.mono HB2.out.size))
 have HO3:=q7 hO3
 have ob1:W3.cell? ⟨w2.heap.size,1,none⟩=some (.slice p2 u.funcs.length c2):=(blk hO3).1 1
 have oa1:W3.cell? ⟨w.heap.size,1,none⟩=some (.slice fp u.funcs.length fc):=(blk HO4.out).1 1
 have oz:=q8 hO3
 have oy:=q8 HO4.out
 clear hW3 hb3 hO3 oa0 oz0
 go_wp2_with fail
 go_loopg [5] u.funcs.length (fun q s wr=>∃k:Nat,k≤u.funcs.length∧q=u.funcs.length - k∧s = .int .i64 k∧Below W3.heap.size W3 wr)
 case atStart=>exact ⟨0,by omega,rfl,rfl,zI _ _⟩
 case round=>
  obtain ⟨wp,hwp⟩:∃wp,wp=wr:=⟨_,rfl⟩
  subst hwp
  obtain ⟨k,hk,rfl,rfl,hb⟩:=hrel
  have HBp:=q7 hb
  have hzp:=hb.size
  have HOp:=q7 ((hb.block _ (q8 HO3.out)).trans HO3.out)
  have HOq:=q7 ((hb.block _ (q8 HO4.out)).trans HO4.out)
  have o1:wp.cell? ⟨w2.heap.size,1,none⟩=some (.slice p2 u.funcs.length c2):=(blk HOp.out).1 1
  have q1:wp.cell? ⟨w.heap.size,1,none⟩=some (.slice fp u.funcs.length fc):=(blk HOq.out).1 1
  have oz1:=q8 HOp.out
  have oy1:=q8 HOq.out
  clear hb ob1 oa1
  by_cases hlt:k<u.funcs.length
  ·have hkU:k<U.funcs.length:=by rw [HUl.out];exact hlt
   have hBw:Below w.heap.size w wp:=HBw.out.trans (HBp.out.mono HBw.out.size)
   obtain ⟨fb,fo,q,c,rfl,_,_,_,f3,_,_,_,hbl,_⟩:=Ze HF2.out (HB3.out.trans (HBp.out.mono (by omega))) hkU
   obtain ⟨fb',fo',q',c',rfl,_,_,_,g3,_,_,_,hvP,_⟩:=Ze HF0.out hBw hlt
   have hle:(U.funcs[k].blocks.length:Int)≤u.funcs[k].blocks.length:=by
    have:=hlL.out k hlt hkU
    omega
   have hle2:decide ((u.funcs[k].blocks.length:Int)<U.funcs[k].blocks.length)=false:=decide_eq_false (by omega)
   generalize U.funcs[k].blocks.length=m at *
   generalize u.funcs[k].blocks.length=m' at *
   have fz:=qd f3
   have gz:=qd g3
   have k0:(0:Int)≤(k:Int):=by omega
   have k1:(k:Int)<u.funcs.length:=by omega
   clear hBw
   go_wp2_with fail
   go_quiet (fail)
   go_wp2_with fail
   go_roundg (u.funcs.length - (k+1))
   case measure=>omega
   case rel=>exact ⟨k+1,by omega,rfl,by go_num,by exact bZ⟩
  obtain rfl:k=u.funcs.length:=by omega
  have o0:wp.cell? ⟨w2.heap.size,0,none⟩=some (.slice p1 u.globals.length c1):=(blk HOp.out).1 0
  go_wp2_with fail
  have hb4:Below w2.heap.size w2 wp:=HB3.out.trans (HBp.out.mono (by omega))
  have hBw:Below w.heap.size w wp:=HBw.out.trans (HBp.out.mono HBw.out.size)
  have hck:=kK U p1 p2 c1 c2 wp (by rw [HUg.out];exact hgl) (vT HG2.out hb4) (by rw [HUl.out];exact hfl) (vU HF2.out hb4) (HW.out.below hBw)
  rw [HUg.out,HUl.out,HS.out] at hck
  refine hck.mono ?_
  rintro e w4 ⟨rfl,hb5⟩
  have HB5:=q7 (hBw.trans (hb5.mono hBw.size))
  have hfd:∀w:World,(Instr.field 27 (.agg #[.int .i64 0,.int .i64 0]) 0).run Tryz.prog w = .ok (.int .i64 0) w:=fun w=>by kernel_rfl
  clear hck hb4 hBw hb5
  go_wp2_with fail
  go_ret
  exact ⟨rfl,HB5.out⟩

theorem ssas_all (u:UniL) (gp fp:Option Addr) (gc fc:Nat) (w:World) (hG:SlF w 3 48 (GloR w) (.slice gp u.globals.length gc) u.globals) (hF:SlF w 4 56 (FunR w) (.slice fp u.funcs.length fc) u.funcs) (hw0:Ways w) (hA:AllW w) :
  Calls Tryz.prog 5 #[.agg #[.slice gp u.globals.length gc,.slice fp u.funcs.length fc]] w fun e w'=>e = .returned (.bool true)∧Below w.heap.size w w':=by
 have hgl:u.globals.length*48≤140737488351232:=hG.bdC
 have hfl:u.funcs.length*56≤140737488351232:=hF.bdC
 cases hok:okU u
 ·have hG':SliceAt w 3 (GloR w) gp u.globals:=by
   obtain ⟨p,c,e,_,_,h⟩:=hG.outC
   cases e
   exact h
  have hF':SliceAt w 4 (FunR w) fp u.funcs:=by
   obtain ⟨p,c,e,_,_,h⟩:=hF.outC
   cases e
   exact h
  exact ssas_bad u gp fp gc fc w hgl hG' hfl hF' hw0 hok
 exact ssas_ok u gp fp gc fc w hgl hG hfl hF hw0 hA hok
end Go.Proofs.YtbnnhmcloecijaaGreatDoor
namespace Go.Proofs.YtbnnhmcloecijaaGreatDoor
open Go.ChangeShapes Go.WideShapes Go.ChangeAt Go.RowKit

theorem tWays:(Tryz.prog.globals[1]?).map (·.type)=some 189:=by kernel_rfl
theorem own:ownKnob Tryz.prog.godebug=none:=by kernel_rfl
theorem laidOut:laidOutB Tryz.prog=true:=by kernel_rfl
end Go.Proofs.YtbnnhmcloecijaaGreatDoor
