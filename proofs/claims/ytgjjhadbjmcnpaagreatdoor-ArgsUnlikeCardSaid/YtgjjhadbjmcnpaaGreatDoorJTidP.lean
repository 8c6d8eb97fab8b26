/-
  Plain: a function tidied twice is tidied once (FunC.twice).
-/
import Derived.Test.YtgjjhadbjmcnpaaGreatDoorJTidM
namespace Go.Proofs.YtgjjhadbjmcnpaaGreatDoor
open Go.RowKit

def nmN (f:FunL) (r:Nat):Nat:=(jM f).idxOf r
theorem Jw {f:FunL} {r:Nat} (h:r∈jM f):(xK f).1 r=(nmN f r:Int):=by
 rw [ZK]
 exact xp h
theorem kF {f:FunL} {v:Bool×Int} (h:v.1=true→v.2.toNat∈jM f):xq (zD (xK f).1 v)=(xq v).map (nmN f):=by
 unfold zD xq
 by_cases e:v.1=true
 ·rw [if_pos e,if_pos e,if_pos rfl,Jw (h e)]
  simp
 rw [if_neg e,if_neg e]
 rfl
theorem metD_ren {f:FunL} {d:Int} (h:0≤d→d.toNat∈jM f):jg (if 0≤d then (xK f).1 d.toNat else d)=(jg d).map (nmN f):=by
 unfold jg
 by_cases e:0≤d
 ·rw [if_pos e,if_pos e,Jw (h e),if_pos (by omega)]
  simp
 rw [if_neg e,if_neg e]
 rfl
theorem kG {α β γ δ:Type} {g:α→β} {u:β→List γ} {w:α→List δ} {m:δ→γ}:∀{l:List α},(∀a∈l,u (g a)=(w a).map m)→(l.map g).flatMap u=(l.flatMap w).map m
 | [],_=>rfl
 | a::l,h=>by
  rw [List.map_cons,List.flatMap_cons,List.flatMap_cons,List.map_append,h a (.head _),kG fun b hb=>h b (.tail _ hb)]
theorem jG (m:Nat→Int) (r:Bool) (n:Int):(r,(zD m (r,n)).2)=zD m (r,n):=by
 unfold zD
 cases r<;>rfl
theorem met_ren {f:FunL} {b:Nat} (hb:b<f.blocks.length):XU (kP (xK f).1 f.blocks[b])=(XU f.blocks[b]).map (nmN f)∧Z0 (kP (xK f).1 f.blocks[b])=(Z0 f.blocks[b]).map (nmN f):=by
 have hm:∀{r:Nat},r∈Z0 f.blocks[b]→r∈jM f:=fun h=>vG hb h
 have hI:∀i∈f.blocks[b].list,vN (xU (xK f).1 i)++jg (xU (xK f).1 i).dst=(vN i++jg i.dst).map (nmN f):=fun i hi=>by
  have h1:∀{r:Nat},r∈vN i++jg i.dst→r∈jM f:=fun h=>hm (ZN hi h)
  unfold vN xU at *
  simp only [jG]
  rw [kF fun e=>h1 (List.mem_append_left _ (List.mem_append_left _ (List.mem_append_left _ (xw e)))),
   kF fun e=>h1 (List.mem_append_left _ (List.mem_append_left _ (List.mem_append_right _ (xw e)))),
   kG (m:=nmN f) (w:=xq) fun v hv=>kF fun e=>h1 (List.mem_append_left _ (List.mem_append_right _ (List.mem_flatMap.2 ⟨v,hv,xw e⟩))),
   metD_ren fun e=>h1 (List.mem_append_right _ (by unfold jg;rw [if_pos e];simp))]
  simp only [List.map_append]
 have hL:(f.blocks[b].list.map (xU (xK f).1)).flatMap (fun i=>vN i++jg i.dst)=(f.blocks[b].list.flatMap fun i=>vN i++jg i.dst).map (nmN f):=kG hI
 have hF:xq (f.blocks[b].fin.onr,(zD (xK f).1 (f.blocks[b].fin.onr,f.blocks[b].fin.onn)).2)=(xq (f.blocks[b].fin.onr,f.blocks[b].fin.onn)).map (nmN f):=by
  rw [jG]
  exact kF fun e=>hm (ZL e)
 have hD:∀p∈f.blocks[b].phis,((xK f).1 p.dst.toNat).toNat=nmN f p.dst.toNat:=fun p hp=>by rw [Jw (hm (Qi hp))];simp
 unfold XU Z0 kP
 simp only [List.map_append,hL,hF]
 refine ⟨?_,?_⟩
 ·congr 2
  rw [List.map_map,List.map_map]
  exact List.map_congr_left hD
 congr 2
 refine kG fun p hp=>?_
 simp only [List.map_cons]
 rw [hD p hp,kG (m:=nmN f) (w:=xq) fun v hv=>kF fun e=>hm (ZM hp hv e)]
theorem QN {α β:Type} {γ:Type} {xs:List α} {ys:List β} {u:β→List γ} {w:α→List γ} (hl:ys.length=xs.length) (h:∀i (h1:i<xs.length) (h2:i<ys.length),u ys[i]=w xs[i]):ys.flatMap u=xs.flatMap w:=by
 rw [List.flatMap_def,List.flatMap_def]
 congr 1
 refine List.ext_getElem (by simp [hl]) fun i h1 h2=>?_
 simp only [List.getElem_map]
 exact h i (by simpa using h2) (by simpa using h1)
theorem XK (f:FunL):jM (qH f)=List.range (jM f).length:=by
 have hp:∀r∈List.range f.params.toNat,nmN f r=r:=fun r hr=>by
  obtain ⟨E,hE⟩:=vh f.params.toNat (f.blocks.flatMap XU++Qg f)
  have e:jM f=List.range f.params.toNat++E:=by
   unfold jM k8
   rw [List.append_assoc]
   exact hE
  unfold nmN
  rw [e,List.idxOf_append,if_pos hr]
  exact vk (List.mem_range.1 hr)
 have e1:k8 (qH f)++Qg (qH f)=(k8 f++Qg f).map (nmN f):=by
  unfold k8 Qg
  have h1:(qH f).blocks.flatMap XU=(f.blocks.flatMap XU).map (nmN f):=by
   rw [List.map_flatMap]
   exact QN (w:=fun x=>(XU x).map (nmN f)) (qO f) fun i h1 h2=>by rw [jF h2];exact (met_ren h1).1
  have h2:(qH f).blocks.flatMap Z0=(f.blocks.flatMap Z0).map (nmN f):=by
   rw [List.map_flatMap]
   exact QN (w:=fun x=>(Z0 x).map (nmN f)) (qO f) fun i h1 h2=>by rw [jF h2];exact (met_ren h1).2
  rw [h1,h2,List.map_append,List.map_append]
  congr 2
  show List.range f.params.toNat=_
  exact ((List.map_congr_left (g:=id) hp).trans (by simp)).symm
 show xW (k8 (qH f)++Qg (qH f))=_
 rw [e1]
 exact Jv (k8 f++Qg f)

theorem nm_lt {f:FunL} {r:Nat} (h:r∈jM f):nmN f r<(jM f).length:=(xx h).1
theorem ZT {f:FunL} {r:Nat} (h:r<(jM f).length):(xK (qH f)).1 r=(r:Int):=by
 rw [ZK,XK]
 exact QM h
theorem name_name (f:FunL):qH (qH f)=qH f:=by
 have hhB:(qH (qH f)).regs=(qH f).regs:=by rw [vi,vi,XK];simp
 have hv:∀{v:Bool×Int},(v.1=true→v.2.toNat∈jM f)→zD (xK (qH f)).1 (zD (xK f).1 v)=zD (xK f).1 v:=fun {v} h=>by
  unfold zD
  by_cases e:v.1=true
  ·rw [if_pos e,if_pos rfl,Jw (h e),Int.toNat_natCast,ZT (nm_lt (h e))]
  rw [if_neg e,if_neg e]
 have hb:(qH (qH f)).blocks=(qH f).blocks:=by
  refine List.ext_getElem (by simp [qO]) fun b h1 h2=>?_
  have hb:b<f.blocks.length:=by rw [←qO f];exact h2
  rw [jF h1,jF h2]
  have hm:∀{r:Nat},r∈Z0 f.blocks[b]→r∈jM f:=fun h=>vG hb h
  have hp:((kP (xK f).1 f.blocks[b]).phis.map fun p=>({ dst:=(xK (qH f)).1 p.dst.toNat,src:=p.src.map (zD (xK (qH f)).1) }:PhiL))=(kP (xK f).1 f.blocks[b]).phis:=by
   unfold kP
   simp only
   rw [List.map_map]
   refine List.map_congr_left fun p hp=>?_
   have e1:(xK (qH f)).1 ((xK f).1 p.dst.toNat).toNat=(xK f).1 p.dst.toNat:=by
    rw [Jw (hm (Qi hp)),Int.toNat_natCast,ZT (nm_lt (hm (Qi hp)))]
   have e2:((p.src.map (zD (xK f).1)).map (zD (xK (qH f)).1))=p.src.map (zD (xK f).1):=by
    rw [List.map_map]
    exact List.map_congr_left fun v hv'=>hv fun e=>hm (ZM hp hv' e)
   show ({ dst:=_,src:=_ }:PhiL)=_
   simp only [e1,e2]
  have hl:((kP (xK f).1 f.blocks[b]).list.map (xU (xK (qH f)).1))=(kP (xK f).1 f.blocks[b]).list:=by
   unfold kP
   simp only
   rw [List.map_map]
   refine List.map_congr_left fun i hi=>?_
   have h1:∀{r:Nat},r∈vN i++jg i.dst→r∈jM f:=fun h=>hm (ZN hi h)
   have ea:=hv (v:=(i.ar,i.an)) fun e=>h1 (List.mem_append_left _ (List.mem_append_left _ (List.mem_append_left _ (xw e))))
   have eb:=hv (v:=(i.br,i.bn)) fun e=>h1 (List.mem_append_left _ (List.mem_append_left _ (List.mem_append_right _ (xw e))))
   have ec:((i.args.map (zD (xK f).1)).map (zD (xK (qH f)).1))=i.args.map (zD (xK f).1):=by
    rw [List.map_map]
    exact List.map_congr_left fun v hv'=>hv fun e=>h1 (List.mem_append_left _ (List.mem_append_right _ (List.mem_flatMap.2 ⟨v,hv',xw e⟩)))
   have ed:(if 0≤(if 0≤i.dst then (xK f).1 i.dst.toNat else i.dst) then (xK (qH f)).1 (if 0≤i.dst then (xK f).1 i.dst.toNat else i.dst).toNat else (if 0≤i.dst then (xK f).1 i.dst.toNat else i.dst))=(if 0≤i.dst then (xK f).1 i.dst.toNat else i.dst):=by
    by_cases e:0≤i.dst
    ·have hr:=h1 (r:=i.dst.toNat) (List.mem_append_right _ (by unfold jg;rw [if_pos e];simp))
     rw [if_pos e,Jw hr,if_pos (by omega),Int.toNat_natCast,ZT (nm_lt hr)]
    rw [if_neg e,if_neg e]
   show xU _ (xU _ i)=xU _ i
   unfold xU
   simp only [jG,ea,eb,ec,ed]
  have he:(zD (xK (qH f)).1 ((kP (xK f).1 f.blocks[b]).fin.onr,(kP (xK f).1 f.blocks[b]).fin.onn)).2=(kP (xK f).1 f.blocks[b]).fin.onn:=by
   unfold kP
   simp only [jG]
   rw [hv (v:=(f.blocks[b].fin.onr,f.blocks[b].fin.onn)) fun e=>hm (ZL e)]
  generalize kP (xK f).1 f.blocks[b]=y at hp hl he
  unfold kP
  rw [hp,hl,he]
 have e0:qH (qH f)={ qH f with regs:=(qH (qH f)).regs,blocks:=(qH (qH f)).blocks }:=rfl
 rw [e0,hhB,hb]

theorem name_tos (f:FunL):tosB (qH f).blocks=tosB f.blocks:=by
 funext b
 unfold tosB
 by_cases h:b<f.blocks.length
 ·rw [List.getElem?_eq_getElem h,List.getElem?_eq_getElem (by rw [qO];exact h),jF]
  rfl
 have h2:=qO f
 rw [List.getElem?_eq_none (by omega),List.getElem?_eq_none (by omega)]
theorem Zn (f:FunL):jc (qH f).blocks=jc f.blocks:=by
 unfold jc jb jZ
 rw [name_tos,qO]
theorem Vn (f:FunL) (b:Nat):jq (qH f) b=none↔jq f b=none:=by
 have e:∀b,(atF (qH f) b).fin.to=(atF f b).fin.to∧(atF (qH f) b).fin.kind=(atF f b).fin.kind∧(atF (qH f) b).phis.length=(atF f b).phis.length:=fun b=>by
  by_cases h:b<f.blocks.length
  ·have h2:b<(qH f).blocks.length:=by rw [qO];exact h
   rw [qL h,qL h2,jF h2]
   exact ⟨rfl,rfl,by simp [kP]⟩
  unfold atF
  have h2:¬ b<(qH f).blocks.length:=by rw [qO];exact h
  rw [List.getD_eq_getElem?_getD,List.getD_eq_getElem?_getD,List.getElem?_eq_none (by omega),List.getElem?_eq_none (by omega)]
  exact ⟨rfl,rfl,rfl⟩
 unfold jq
 dsimp only
 rw [(e b).1,(e b).2.1,(e _).2.2,Vd]

inductive PathT (f:FunL):Nat→Prop
 | zero:PathT f 0
 | step {a b:Nat}:PathT f a→a<f.blocks.length→(b:Int)∈tosB f.blocks a→PathT f b
theorem FunS.reach {f:FunL} (h:FunS f) {b:Nat}:b∈jc f.blocks↔PathT f b:=by
 have hc:=h.ordC
 constructor
 ·intro hb
  have key:∀(n i:Nat) (hi:i<(jc f.blocks).length),i<n→PathT f (jc f.blocks)[i]:=by
   intro n
   induction n with
   | zero=>intro i _ h;omega
   | succ n ih=>
    intro i hi hn
    by_cases e:(jc f.blocks)[i]=0
    ·rw [e];exact .zero
    obtain ⟨j,hj,hji,hm⟩:=h.ord.par i hi e
    exact .step (ih j hj (by omega)) (hc.inb _ (List.getElem_mem hj)) hm
  obtain ⟨i,hi,rfl⟩:=List.mem_iff_getElem.1 hb
  exact key (i+1) i hi (by omega)
 intro hp
 induction hp with
 | zero=>exact hc.pos.2.2
 | step _ _ hm ih=>
  have:=hc.closed _ ih _ hm
  simpa using this
def LiveT (f:FunL):Prop:=∀x,x<f.blocks.length→tosB f.blocks x≠[]→PathT f x

theorem path_join {f:FunL} (hf:FunD f) {b t:Nat} (m:MayJ f b t) {x:Nat} (h:PathT f x):PathT (x8 f b t) (if x=t then b else x):=by
 have htb:t∉insN f t:=by rw [m.one];simp [m.ne]
 have h0:¬ (0=t):=fun e=>by
  have h1:(t:Int)∈tosB f.blocks b:=by rw [m.to];simp
  rw [zF m.hb] at h1
  have:=hf.tos _ m.hb _ h1
  omega
 induction h with
 | zero=>rw [if_neg h0];exact .zero
 | @step a y _ ha hm ih=>
  have hlen:=qM f b t
  by_cases e1:a=t
  ·subst e1
   rw [if_pos rfl] at ih
   have hy:y≠a:=fun e=>htb (by subst e;exact hf.mem.2 ⟨ha,hm⟩)
   rw [if_neg hy]
   refine .step ih (by rw [hlen];exact m.hb) ?_
   rw [vE m m.hb,if_neg (fun e=>m.ne e.symm),if_pos rfl]
   exact hm
  rw [if_neg e1] at ih
  by_cases e2:a=b
  ·subst e2
   rw [m.to,List.mem_singleton] at hm
   have:y=t:=by omega
   rw [if_pos this]
   exact ih
  have hy:y≠t:=fun e=>by
   have:a∈insN f t:=hf.mem.2 ⟨ha,by rw [←e];exact hm⟩
   rw [m.one,List.mem_singleton] at this
   exact e2 this
  rw [if_neg hy]
  refine .step ih (by rw [hlen];exact ha) ?_
  rw [vE m ha,if_neg e1,if_neg e2]
  exact hm
theorem LiveT.join {f:FunL} (hf:FunD f) (h:LiveT f) {b t:Nat} (m:MayJ f b t):LiveT (x8 f b t):=fun x hx hne=>by
 rw [qM] at hx
 rw [vE m hx] at hne
 by_cases e:x=t
 ·rw [if_pos e] at hne;exact absurd rfl hne
 rw [if_neg e] at hne
 have hp:PathT f x:=by
  by_cases e2:x=b
  ·subst e2;exact h x hx (by rw [m.to];simp)
  rw [if_neg e2] at hne;exact h x hx hne
 have:=path_join hf m hp
 rw [if_neg e] at this
 exact this
theorem LiveT.chain {nf:Nat} {P:Nat→Int}:∀(c:Nat) {f:FunL} {b:Nat},FunC nf P f→b<f.blocks.length→LiveT f→LiveT (qW c f b)
 | 0,_,_,_,_,h=>h
 | c+1,f,b,h,hb,hl=>by
  unfold qW
  cases e:jq f b with
  | none=>exact hl
  | some t=>
   have hm:=mayJ h hb e
   exact LiveT.chain c (h.join hm) (by rw [qM];exact hb) (hl.join h.funD hm)
theorem LiveT.chains {nf:Nat} {P:Nat→Int} {f:FunL} (h:FunC nf P f) (hl:LiveT f):LiveT (qQ f):=by
 unfold qQ
 have key:∀(l:List Nat) (g:FunL) (c:Nat),(∀b∈l,b<f.blocks.length)→FunC nf P g→g.blocks.length=f.blocks.length→LiveT g→LiveT (l.foldl (fun g b=>qW c g b) g):=by
  intro l
  induction l with
  | nil=>intro g c _ _ _ h;exact h
  | cons b l ih=>
   intro g c hl hg hn hv
   have hb:b<g.blocks.length:=by rw [hn];exact hl b (.head _)
   obtain ⟨h1,h2⟩:=hg.chain c hb
   exact ih _ c (fun x hx=>hl x (.tail _ hx)) h1 (h2.trans hn) (hv.chain c hg hb)
 exact key _ f _ (fun b hb=>List.mem_range.1 hb) h rfl hl
theorem FunD.live {f:FunL} (h:FunD f):LiveT (jN f):=fun x hx _=>by
 have hk:=h.keep h.toFunS.ordC
 refine hk.toFunS.reach.1 ?_
 have e:=h.order
 unfold jN at e hx
 rw [e]
 rw [zq] at hx
 exact List.mem_range.2 hx

theorem FunC.none_order {nf:Nat} {P:Nat→Int} {f:FunL} (h:FunC nf P f) (hl:LiveT f) (hn:∀b,b<f.blocks.length→jq f b=none) {i:Nat} (hi:i<(jN f).blocks.length):jq (jN f) i=none:=by
 have hd:=h.funD
 have ho:=hd.toFunS.ordC
 cases e:jq (jN f) i with
 | none=>rfl
 | some j=>
  exfalso
  have g:=mayJ h.order hi e
  have g1:=g.ht
  unfold jN at g g1 hi
  rw [zq] at g1 hi
  have hi':=ho.inb _ (List.getElem_mem hi)
  have hj':=ho.inb _ (List.getElem_mem g1)
  have hto:=g.to
  rw [kv ho hi] at hto
  have e3:tosB f.blocks (jc f.blocks)[i]=[((jc f.blocks)[j]:Int)]:=by
   rcases ht:tosB f.blocks (jc f.blocks)[i] with _|⟨t,_|⟨t2,l⟩⟩
   ·rw [ht] at hto;cases hto
   ·rw [ht] at hto
    have e4:(jc f.blocks).idxOf t.toNat=j:=by
     simp only [List.map_cons,List.map_nil,List.cons.injEq,and_true] at hto
     omega
    have hm:=ho.closed _ (List.getElem_mem hi) t (by rw [ht];simp)
    obtain ⟨k1,k2⟩:=xx hm
    have h5:=hd.tosB _ hi' t (by rw [ht];simp)
    have e6:(jc f.blocks)[j]=t.toNat:=by
     rw [←k2]
     simp only [e4]
    rw [e6,show ((t.toNat:Nat):Int)=t by omega]
   rw [ht] at hto
   have:=congrArg List.length hto
   simp at this
  have hm:MayJ f (jc f.blocks)[i] (jc f.blocks)[j]:=by
   refine ⟨hi',hj',e3,fun e5=>?_,?_,?_⟩
   ·have:=congrArg (fun x=>(jc f.blocks).idxOf x) e5
    rw [ho.once.idxOf_getElem j g1,ho.once.idxOf_getElem i hi] at this
    exact g.ne this
   ·have hp:=g.phi
    rw [QG _ f g1,qL hj'] at hp
    have:=congrArg List.length hp
    simp only [blkK,List.length_map,List.length_nil] at this
    exact List.eq_nil_of_length_eq_zero this
   refine XA (xF hd _) (by simp) fun a=>?_
   rw [List.mem_singleton]
   have hk:=fun k=>kw hd ho (b:=(jc f.blocks)[j]) (List.getElem_mem g1) (j:=k)
   rw [ho.once.idxOf_getElem j g1,g.one] at hk
   constructor
   ·intro ha
    obtain ⟨h6,h7⟩:=hd.mem.1 ha
    have hr:a∈jc f.blocks:=hd.toFunS.reach.2 (hl a h6 (by intro e7;rw [e7] at h7;cases h7))
    obtain ⟨k1,k2⟩:=xx hr
    have:=(hk ((jc f.blocks).idxOf a)).2 ⟨k1,by rw [k2];exact ha⟩
    rw [List.mem_singleton] at this
    rw [←k2]
    simp only [this]
   rintro rfl
   obtain ⟨_,h8⟩:=(hk i).1 (by simp)
   exact h8
  have:=hn _ hi'
  rw [(h.may_iff hi').2 hm] at this
  cases this

theorem kV {nf:Nat} {P:Nat→Int} {f:FunL} (h:FunC nf P f):(qQ f).blocks.length=f.blocks.length:=by
 unfold qQ
 have key:∀(l:List Nat) (g:FunL) (c:Nat),(∀b∈l,b<f.blocks.length)→FunC nf P g→g.blocks.length=f.blocks.length→(l.foldl (fun g b=>qW c g b) g).blocks.length=f.blocks.length:=by
  intro l
  induction l with
  | nil=>intro g c _ _ h;exact h
  | cons b l ih=>
   intro g c hl hg hn
   have hb:b<g.blocks.length:=by rw [hn];exact hl b (.head _)
   obtain ⟨h1,h2⟩:=hg.chain c hb
   exact ih _ c (fun x hx=>hl x (.tail _ hx)) h1 (h2.trans hn)
 exact key _ f _ (fun b hb=>List.mem_range.1 hb) h rfl
theorem jf {c:Nat} {f:FunL} {b:Nat} (h:jq f b=none):qW c f b=f:=by
 cases c with
 | zero=>rfl
 | succ c=>unfold qW;rw [h]
theorem QO {f:FunL} (h:∀b,b<f.blocks.length→jq f b=none):qQ f=f:=by
 unfold qQ
 generalize f.blocks.length+1=c
 have key:∀l:List Nat,(∀b∈l,jq f b=none)→l.foldl (fun g b=>qW c g b) f=f:=by
  intro l
  induction l with
  | nil=>intro _;rfl
  | cons b l ih=>
   intro hl
   rw [List.foldl_cons,jf (hl b (.head _))]
   exact ih fun x hx=>hl x (.tail _ hx)
 exact key _ fun b hb=>h b (List.mem_range.1 hb)
theorem FunC.twice {nf:Nat} {P:Nat→Int} {f:FunL} (h:FunC nf P f):doT (doT f)=doT f:=by
 have h1:=h.order.chains
 obtain ⟨g,hg⟩:∃g,g=jN (qQ (jN f)):=⟨_,rfl⟩
 have hgC:FunC nf P g:=by rw [hg];exact h1.order
 have e0:doT f=qH g:=by rw [hg];rfl
 have hgN:=hgC.name
 have ho:jc g.blocks=List.range g.blocks.length:=by
  rw [hg,h1.funD.order]
  unfold jN
  rw [zq]
 have e1:jN (qH g)=qH g:=by
  unfold jN
  rw [Zn,ho,←qO g]
  exact hgN.funD.keep_same fun b hb p hp=>(hgN.phi b hb p hp).len
 have e2:qQ (qH g)=qH g:=QO fun b hb=>by
  rw [Vn]
  rw [qO] at hb
  rw [hg] at hb ⊢
  refine h1.none_order (h.funD.live.chains h.order) (fun b hb=>?_) hb
  exact h.order.chained (by
   have:=h1
   have hl:(qQ (jN f)).blocks.length=(jN f).blocks.length:=kV h.order
   rw [←hl];exact hb)
 rw [e0]
 unfold doT xV
 rw [e1,e2,e1,name_name]
end Go.Proofs.YtgjjhadbjmcnpaaGreatDoor
