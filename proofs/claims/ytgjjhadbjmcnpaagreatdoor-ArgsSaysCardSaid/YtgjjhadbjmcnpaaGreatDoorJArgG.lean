/-
  Plain: a block's end and phis, a phi, written anew in memory of the call's own.
-/
import Derived.Test.YtgjjhadbjmcnpaaGreatDoorJDomC
set_option maxRecDepth 100000
set_option maxHeartbeats 16000000
namespace Go.Proofs.YtgjjhadbjmcnpaaGreatDoor
open Go.RowKit

structure EndC (regs:Int) (nb:Nat) (x:EndL):Prop where
 kind:1<=x.kind/\x.kind<=3
 len:(x.to.length:Int)=x.kind - 1
 «to»:∀t∈x.to,1<=t/\t<(nb:Int)
 two:x.to.Nodup
 jump:x.kind=2->x.onr=false/\x.onn=0
 on:Z9 regs x.onr x.onn
structure PhiC (regs:Int) (block cnt:Nat) (p:PhiL):Prop where
 blk:block≠0
 dst:0<=p.dst/\p.dst<regs
 len:p.src.length=cnt
 src:∀v∈p.src,Z9 regs v.1 v.2

theorem valE_iff {regs:Int} {r:Bool} {n:Int}:xt regs r n=0↔Z9 regs r n:=by
 refine⟨valE_zero,fun h=>?_⟩;unfold xt;rw[zQ];rintro⟨h1,h2⟩;have:=h h1;omega
theorem endC_iff {regs:Int} {nb:Nat} {x:EndL}:kD regs nb x.kind x.onr x.onn x.to=0↔EndC regs nb x:=by
 unfold kD
 by_cases h1:1<=x.kind/\x.kind<=3
 rotate_left
 ·rw[zZ h1];exact⟨fun g=>absurd g (by decide),fun g=>absurd g.kind h1⟩
 rw[zQ (by simpa using h1)]
 by_cases h2:(x.to.length:Int)=x.kind - 1
 rotate_left
 ·rw[zZ h2];exact⟨fun g=>absurd g (by decide),fun g=>absurd g.len h2⟩
 rw[zQ (by simpa using h2)]
 by_cases h3:∀t∈x.to,1<=t/\t<(nb:Int)
 ·rw[zQ (by
   simp only[List.any_eq_true,Bool.not_eq_true',not_exists,not_and,Bool.not_eq_false,xT,yY];intro t ht;have:=h3 t ht
   omega)]
  have h4:(x.kind=3/\x.to.getD 0 0=x.to.getD 1 0)↔¬ x.to.Nodup:=by
   rcases hx:x.to with _|⟨a,_|⟨b,_|⟨c,l⟩⟩⟩
   ·simp[hx]at h2 ⊢;omega
   ·simp[hx]at h2 ⊢;omega
   ·simp[hx]at h2 ⊢;omega
   simp[hx]at h2;omega
  by_cases h5:x.to.Nodup
  ·by_cases h6:x.kind=2->x.onr=false/\x.onn=0
   ·rw[zQ (fun g=>g.elim (fun g=>h4.1 g h5) fun g=>g.2 (h6 g.1)),valE_iff];exact⟨fun g=>⟨h1,h2,h3,h5,h6,g⟩,fun g=>g.on⟩
   rw[zZ (.inr (by simpa using h6))];exact⟨fun g=>absurd g (by decide),fun g=>absurd g.jump h6⟩
  rw[zZ (.inl (h4.2 h5))];exact⟨fun g=>absurd g (by decide),fun g=>absurd g.two h5⟩
 rw[zZ (by
  refine xF fun g=>h3 fun t ht=>?_;simp only[List.any_eq_true,Bool.not_eq_true',not_exists,not_and,Bool.not_eq_false,xT,yY]at g;have:=g t ht
  omega)]
 exact⟨fun g=>absurd g (by decide),fun g=>absurd g.to h3⟩
theorem jt {l:List Int}:qD l=0↔∀x∈l,x=0:=⟨xY,xe⟩
theorem phiC_iff {regs:Int} {block cnt:Nat} {p:PhiL}:X0 regs block cnt p.dst p.src=0↔PhiC regs block cnt p:=by
 unfold X0
 by_cases h1:block=0
 ·rw[zZ h1];exact⟨fun g=>absurd g (by decide),fun g=>absurd h1 g.blk⟩
 rw[zQ h1]
 have h2:k7 regs p.dst=0↔0<=p.dst/\p.dst<regs:=by
  unfold k7
  split
  ·exact⟨fun _=>by omega,fun _=>rfl⟩
  exact⟨fun g=>absurd g (by decide),fun g=>by omega⟩
 by_cases h3:k7 regs p.dst=0
 ·rw[zQ (by simpa using h3)]
  by_cases h4:p.src.length=cnt
  ·rw[zQ (by simpa using h4)];unfold Vt;rw[jt]
   exact⟨fun g=>⟨h1,h2.1 h3,h4,fun v hv=>valE_iff.1 (g _ (yD.2 ⟨v,hv,rfl⟩))⟩,fun g y hy=>by
    obtain⟨v,hv,rfl⟩:=yD.1 hy
    exact valE_iff.2 (g.src v hv)⟩
  rw[zZ h4];exact⟨fun g=>absurd g (by decide),fun g=>absurd g.len h4⟩
 rw[zZ h3];exact⟨fun g=>absurd g h3,fun g=>absurd (h2.2 g.dst) h3⟩

structure FunC (nf:Nat) (P:Nat->Int) (f:FunL):Prop where
 n1:0<f.blocks.length
 n40:f.blocks.length<=40
 par:0<=f.params/\f.params<=6
 reg:f.params<=f.regs/\f.regs<=100
 many:xu f<=300
 fin:∀b (h:b<f.blocks.length),EndC f.regs f.blocks.length f.blocks[b].fin
 phi:∀b (h:b<f.blocks.length),∀p∈f.blocks[b].phis,PhiC f.regs b (insN f b).length p
 ins:∀b (h:b<f.blocks.length),∀x∈f.blocks[b].list,jX f.regs nf P x.op x.dst x.an x.bn x.fn x.ar x.br x.args=0
theorem FunC.funD {nf:Nat} {P:Nat->Int} {f:FunL} (h:FunC nf P f):FunD f:=by
 refine⟨⟨h.n1,h.n40,fun k hk=>?_,fun k hk=>(h.fin k hk).to⟩,fun k hk=>(h.fin k hk).two⟩;have h1:=(h.fin k hk).len;have h2:=(h.fin k hk).kind;omega

theorem VR (g:Nat->Nat):∀(n:Nat) (o:List Nat),o.Nodup->(∀x∈o,x<n)->(o.map g).sum<=((List.range n).map g).sum
 | 0,o,_,h=>by
  cases o with
  | nil=>simp
  | cons x l=>have:=h x yg;omega
 | n+1,o,hd,h=>by
  rw[yt,yW,List.sum_append]
  by_cases hn:n∈o
  ·have h1:=VR g n (o.erase n) (hd.erase n) (fun x hx=>by
    have h2:=hd.mem_erase_iff.1 hx;have:=h x h2.2;have:=h2.1
    omega)
   have h2:=((List.perm_cons_erase hn).map g).sum_nat;rw[h2];simp only[yS,List.sum_cons,yw,List.sum_nil];omega
  have h1:=VR g n o hd (fun x hx=>by
   have:=h x hx;have:x≠n:=fun e=>hn (e ▸ hx)
   omega)
  omega
theorem k5 (f:FunL):xu f=((List.range f.blocks.length).map fun b=>(atF f b).phis.length+(atF f b).list.length).sum:=by
 unfold xu;congr 1;refine yV bV fun i h1 h2=>?_;simp only[xE,List.getElem_range];rw[qW (by simpa using h1)]
theorem many_keep {f:FunL} {o:List Nat} (h:OrdC f o):xu (zX o f)<=xu f:=by
 have h1:=VR (fun b=>(atF f b).phis.length+(atF f b).list.length) f.blocks.length o h.once h.inb;rw[←k5]at h1;refine yv (Nat.le_of_eq ?_) h1;unfold xu zX;rw[yy];congr 1;exact ya fun b _=>by simp[blkK]

theorem FunC.keep {nf:Nat} {P:Nat->Int} {f:FunL} (h:FunC nf P f) {o:List Nat} (ho:OrdC f o):FunC nf P (zX o f):=by
 have hd:=h.funD;have hk:=hd.keep ho
 have hin:∀b (hb:b<(zX o f).blocks.length),∃hb':b<o.length,∃hx:o[b]<f.blocks.length,(zX o f).blocks[b]=blkK (qE o) (insN f o[b]) f.blocks[o[b]]:=fun b hb=>by
  rw[xg]at hb;have hx:=ho.inb _ (zP hb);exact⟨hb,hx,by rw[ZG o f hb,qW hx]⟩
 refine⟨hk.n1,hk.n40,h.par,h.reg,yv (many_keep ho) h.many,fun b hb=>?_,fun b hb p hp=>?_,fun b hb x hx=>?_⟩
 ·obtain⟨h1,h2,h3⟩:=hin b hb;have hf:=h.fin _ h2;have hl:(zX o f).blocks[b].fin.to.length=f.blocks[o[b]].fin.to.length:=by rw[h3];simp[blkK,endK]
  refine⟨by rw[h3];exact hf.kind,?_,hk.tos b hb,hk.once b hb,by rw[h3];exact hf.jump,by rw[h3];exact hf.on⟩;rw[hl,h3];exact hf.len
 ·obtain⟨h1,h2,h3⟩:=hin b hb;rw[h3]at hp;obtain⟨q,hq,rfl⟩:=yD.1 hp;have hc:=h.phi _ h2 q hq;have hmem:o[b]∈o:=zP h1;have e:=JW hd ho hmem (Zb (insN f o[b]) q.src);rw[←fromR_row (hd.insD _) hc.len,ho.once.idxOf_getElem b h1]at e;refine⟨fun e0=>hc.blk ?_,hc.dst,?_,fun v hv=>?_⟩
  ·subst e0;obtain⟨l,hl⟩:=ho.root;subst hl;rfl
  ·show(srcK _ _ _).length=_;rw[e,yT]
  have hv:v∈srcK (qE o) (insN f o[b]) q.src:=hv;rw[e]at hv;obtain⟨j,hj,rfl⟩:=yD.1 hv;have hj2:j∈insN (zX o f) (o.idxOf o[b]):=by rw[ho.once.idxOf_getElem b h1];exact hj
  obtain⟨g1,g2⟩:=(QA hd ho hmem).1 hj2;obtain⟨k1,k2⟩:=ja g2;refine hc.src _ ?_;unfold Zb;have e2:o.getD j 0=o[j]:=by simp[g1]
  have hlt:(insN f o[b]).idxOf o[j]<q.src.length:=by rw[hc.len];exact k1
  rw[e2,yO,zj hlt];exact zP _
 obtain⟨h1,h2,h3⟩:=hin b hb;rw[h3]at hx;exact h.ins _ h2 x hx

def atK (o:List Nat) (k j:Nat):Int:=if j∈o.take k then(o.idxOf j:Int)else -1
theorem atK_zero (o:List Nat) (j:Nat):atK o 0 j = -1:=by simp[atK]
theorem atK_full (o:List Nat) (j:Nat):atK o o.length j=qE o j:=by unfold atK qE;rw[yP]
theorem atK_succ {o:List Nat} (h:o.Nodup) {k:Nat} (hk:k<o.length) (j:Nat):atK o (k+1) j=if j=o[k] then(k:Int)else atK o k j:=by
 unfold atK
 have e0:j∈o.take (k+1)↔j∈o.take k\/j=o[k]:=by
  rw[yA hk,yH,yI]
 by_cases e:j=o[k]
 ·rw[zZ e,zZ (e0.2 (.inr e)),e,h.idxOf_getElem k hk]
 rw[zQ e]
 by_cases g:j∈o.take k
 ·rw[zZ g,zZ (e0.2 (.inl g))]
 rw[zQ g,zQ fun x=>(e0.1 x).elim g e]

def qG {α:Type} (j:Nat) (u:α->α) (xs:List α):List α:=xs.mapIdx fun i x=>if i<j then u x else x
theorem qO {α:Type} (j:Nat) (u:α->α) (xs:List α):(qG j u xs).length=xs.length:=by simp[qG]
theorem qU {α:Type} (u:α->α) (xs:List α):qG 0 u xs=xs:=by
 refine yV (qO _ _ _) fun i h1 h2=>?_;simp[qG]
theorem qR {α:Type} (u:α->α) (xs:List α):qG xs.length u xs=xs.map u:=by
 refine yV (by simp[qG]) fun i h1 h2=>?_;have h3:i<xs.length:=by simpa using h2
 simp[qG,h3]
theorem xh {α:Type} {j i:Nat} {u:α->α} {xs:List α} (hi:i<(qG j u xs).length) (h:j<=i):(qG j u xs)[i]=xs[i]'(by rw[←qO j u xs];exact hi):=by
 have h3:¬ i<j:=by omega
 simp[qG,h3]
theorem qS {α:Type} {j:Nat} {u:α->α} {xs:List α} (h:j<xs.length):(qG j u xs).set j (u xs[j])=qG (j+1) u xs:=by
 refine yV (by simp[qG]) fun i h1 h2=>?_;rw[y8]
 split
 ·next e=>subst e;simp[qG]
 next e=>
 simp only[qG,List.getElem_mapIdx]
 by_cases g:i<j
 ·rw[zZ g,zZ bO]
 rw[zQ g,zQ bO]

def AheadIn (W:World) (lo T:Nat) (f:FunL):Prop:=(lo<=T/\T<W.heap.size)/\∀c,c<f.blocks.length->∃q qc,W.cell? (J T c)=some (.slice q (insN f c).length qc)/\∀j (h:j<(insN f c).length),∃b,q=some (J b 0)/\(lo<=b/\b<W.heap.size)/\W.cell? (J b j)=some (Z ((insN f c)[j]:Nat))
theorem AheadIn.of {f:FunL} {W:World} {B T:Nat} {tf:Nat->Value} (h:Rows2 W B T f.blocks.length 45 3 (zm (kE f) f.blocks.length) tf):AheadIn W T T f:=by
 refine⟨⟨zK _,h.tab.lt⟩,fun c hc=>?_⟩;have h1:=h.row c hc;have h2:=h.tab.cell hc;obtain⟨q,qc,hq⟩:=vB h1;refine⟨q,qc,by rw[h2,hq];rfl,fun j hj=>?_⟩;rw[hq]at h1;obtain⟨b,e1,e2,e3,e4⟩:=Qm h1 hj;refine⟨b,e1,⟨by have:=h.low;omega,e3⟩,?_⟩;rw[e4];have hj2:j<(zw (zm (kE f) f.blocks.length) c).length:=hj;simp[hj2];rfl
theorem AheadIn.kept {U:Blks} {W W':World} {lo T:Nat} {f:FunL} (h:AheadIn W lo T f) (hk:Kept U W W') (hU:∀g,U g->g<lo\/W.heap.size<=g):AheadIn W' lo T f:=by
 obtain⟨⟨h1,h2⟩,h3⟩:=h;refine⟨⟨h1,xB h2 hk.size⟩,fun c hc=>?_⟩;obtain⟨q,qc,e,r⟩:=h3 c hc;refine⟨q,qc,(hk.cell (p:=(J T c)) h2 (fun hu=>by have:=hU T hu;omega)).trans e,fun j hj=>?_⟩;obtain⟨b,e1,⟨e2,e3⟩,e4⟩:=r j hj;exact⟨b,e1,⟨e2,xB e3 hk.size⟩,(hk.cell (p:=(J b j)) e3 (fun hu=>by have:=hU b hu;omega)).trans e4⟩
def phiK (at_:Nat->Int) (ah:List Nat) (p:PhiL):PhiL:={ p with src:=srcK at_ ah p.src }
def rowM (at_:Nat->Int) (ah:List Nat) (src:List (Bool×Int)) (m:Nat):List FrmL:=KF at_ (ah.take m) (src.take m)
theorem rowM_full {at_:Nat->Int} {ah:List Nat} {src:List (Bool×Int)} (h:src.length=ah.length):rowM at_ ah src src.length=KF at_ ah src:=by
 unfold rowM;rw[yP,List.take_of_length_le bO]
theorem rowM_succ {at_:Nat->Int} {ah:List Nat} {src:List (Bool×Int)} {m:Nat} (h1:m<ah.length) (h2:m<src.length):rowM at_ ah src (m+1)=rowM at_ ah src m++(if 0<=at_ ah[m] then[(at_ ah[m],src[m])] else[]):=by
 unfold rowM KF;rw[yA h1,yA h2,List.zip_append bW,yW,List.filter_append];congr 1
 by_cases h:0<=at_ ah[m]<;>simp[h]
theorem rowM_len (at_:Nat->Int) (ah:List Nat) (src:List (Bool×Int)) (m:Nat):(rowM at_ ah src m).length<=m:=by
 unfold rowM KF;refine yv (List.length_filter_le _ _) ?_;simp;omega
theorem rowK_keys {o:List Nat} (_ho:o.Nodup) {ah:List Nat} (ha:ah.Nodup) {src:List (Bool×Int)} (h:src.length=ah.length):((KF (qE o) ah src).map (·.1)).Nodup:=by
 rw[fromR_row ha h,KL,yy];show((ah.filter fun a=>decide (a∈o)).map fun a=>((o.idxOf a:Int))).Nodup;have h1:(ah.filter fun a=>decide (a∈o)).Nodup:=ha.filter _;unfold List.Nodup at h1 ⊢;rw[List.pairwise_map];refine h1.imp_of_mem fun {a b} ma mb hne e=>hne ?_;have xa:a∈o:=by simpa using(yu.1 ma).2
 have xb:b∈o:=by simpa using(yu.1 mb).2
 exact ZF xa xb (Int.ofNat.inj e)
theorem sortK_of {l m:List FrmL} (hp:m.Perm l) (hs:m.Pairwise fun a b=>a.1<=b.1) (hd:(l.map (·.1)).Nodup):sortK l=m:=by
 refine KK hp.symm ?_;have hd2:(m.map (·.1)).Nodup:=(hp.map (·.1)).nodup_iff.2 hd;unfold List.Nodup at hd2;rw[List.pairwise_map]at hd2
 exact(hs.and hd2).imp fun {a b} h=>by
  have h1:=h.1;have h2:=h.2;simp only[ne_eq]at h2;omega
theorem RowPut.of_block {w w1 w2:World} {e:TypeId} {g o size:Nat} {cs:List Value} (h:RowPut w w1 e g o size cs) (h2:w2.heap[g]?=w1.heap[g]?):RowPut w w2 e g o size cs:=by
 obtain⟨c,c',a,b,r⟩:=h;exact⟨c,c',a,h2.trans b,r⟩
theorem RowPut.cell {w w1:World} {e:TypeId} {g o size j:Nat} {cs:List Value} (h:RowPut w w1 e g o size cs) (hj:j<size):w1.cell? (J g (o+j))=cs[j]?/\w1.frozen? (J g (o+j))=false/\g<w1.heap.size:=by
 obtain⟨c,c',a,b,_,r,_⟩:=h;exact⟨(cell_of_row w1 g _ c' e (0,0) b).trans (r j hj),(blk b).2 _,(yL.1 b).1⟩
theorem infoFrmC:(Tryz.prog.info? 142).map (fun i=>(i.zero,i.size,i.bytes))=some (some (.agg #[Z 0,.bool false,Z 0]),3,24):=by kernel_rfl

theorem JY {l m:List Nat} (hl:l.Pairwise (·<·)) (hm:m.Pairwise (·<·)) (h:∀a,a∈l↔a∈m):l=m:=by
 have nd:∀{l:List Nat},l.Pairwise (·<·)->l.Nodup:=fun h=>h.imp fun h=>by omega
 exact List.Perm.eq_of_pairwise (le:=fun a b=>a<b) (fun a b _ _ h1 h2=>by omega) hl hm ((List.perm_ext_iff_of_nodup (nd hl) (nd hm)).2 h)
theorem JZ (b:Nat):∀{l:List Nat},l.Pairwise (·<·)->l.take (l.filter fun a=>decide (a<b)).length=l.filter (fun a=>decide (a<b))/\l.drop (l.filter fun a=>decide (a<b)).length=l.filter fun a=>decide (b<=a)
 | [],_=>by simp
 | x::l,h=>by
  obtain⟨h1,h2⟩:=List.pairwise_cons.1 h
  by_cases hx:x<b
  ·obtain⟨i1,i2⟩:=JZ b h2;rw[List.filter_cons,zZ (by simpa using hx),List.filter_cons,zQ bW];simp only[yi,List.take_succ_cons,List.drop_succ_cons];exact⟨by rw[i1],i2⟩
  have e:l.filter (fun a=>decide (a<b))=[]:=by
   rw[List.filter_eq_nil_iff];intro a ha;have:=h1 a ha;simp;omega
  rw[List.filter_cons,zQ (by simpa using hx),e,List.filter_cons,zZ bW];simp only[List.length_nil,List.take_zero,List.drop_zero,true_and,List.cons.injEq];refine(List.filter_eq_self.2 fun a ha=>?_).symm;have:=h1 a ha;simp;omega
theorem Yy {b:Nat} {l:List Nat} (h:l.Pairwise (·<·)) (hb:b∉l):(l.take (l.filter fun a=>decide (a<b)).length++b::l.drop (l.filter fun a=>decide (a<b)).length).Pairwise (·<·):=by
 obtain⟨h1,h2⟩:=JZ b h;rw[h1,h2];refine List.pairwise_append.2 ⟨h.filter _,List.pairwise_cons.2 ⟨fun a ha=>?_,h.filter _⟩,fun a ha c hc=>?_⟩
 ·obtain⟨g1,g2⟩:=yu.1 ha;have:b<=a:=by simpa using g2
  have:a≠b:=fun e=>hb (e ▸ g1);omega
 have g1:a<b:=by simpa using(yu.1 ha).2
 rcases yC.1 hc with rfl|hc
 ·exact g1
 have:b<=c:=by simpa using(yu.1 hc).2
 omega
theorem V0 {α β:Type} (g:α->β):∀(l:List α) (i:Nat),(l.map g).eraseIdx i=(l.eraseIdx i).map g
 | [],_=>rfl
 | _::_,0=>rfl
 | x::l,i+1=>by simp[List.eraseIdx,V0 g l i]
theorem erase_asc {t:Nat} {l:List Nat} (hd:l.Nodup):l.eraseIdx (l.idxOf t)=l.filter fun a=>decide (a≠t):=by
 rw[←List.erase_eq_eraseIdx_of_idxOf (a:=t) (i:=l.idxOf t) (l:=l) rfl,hd.erase_eq_filter];exact List.filter_congr fun a _=>by simp[bne];rfl

theorem moveR_eq {ah am:List Nat} {old now:Nat} (hs:ah.Pairwise (·<·)) (hm:am.Pairwise (·<·)) (ho:old∈ah) (hn:now∉ah) (h:∀a,a∈am↔a=now\/(a≠old/\a∈ah)) (g:Nat->Bool×Int) :
  Za ah old now (ah.map g)=am.map fun a=>g (if a=now then old else a):=by
 have hd:ah.Nodup:=hs.imp fun h=>by omega
 obtain⟨L,hL⟩:=nZ (ah.filter fun a=>decide (a≠old));have hLs:L.Pairwise (·<·):=by rw[hL];exact hs.filter _
 have hnL:now∉L:=fun e=>hn (by rw[hL]at e;exact(yu.1 e).1);have e1:(ah.map g).eraseIdx (ah.idxOf old)=L.map g:=by rw[V0,erase_asc hd,hL]
 have e2:JT ah old now=(L.filter fun a=>decide (a<now)).length:=by
  unfold JT;rw[hL,List.filter_filter];congr 1;exact List.filter_congr fun a _=>by simp
 have e3:(ah.map g).getD (ah.idxOf old) (false,0)=g old:=fromR_map g ho
 have e4:am=L.take (L.filter fun a=>decide (a<now)).length++now::L.drop (L.filter fun a=>decide (a<now)).length:=by
  refine JY hm (Yy hLs hnL) fun a=>?_;rw[h,yH,yC]
  have:a∈L↔a∈L.take (L.filter fun a=>decide (a<now)).length\/a∈L.drop (L.filter fun a=>decide (a<now)).length:=by
   rw[←yH,List.take_append_drop]
  have h2:a∈L↔a≠old/\a∈ah:=by rw[hL,yu];simp[and_comm]
  rw[←h2,this];constructor
  ·rintro(g|g|g)
   ·exact .inr (.inl g)
   ·exact .inl g
   exact .inr (.inr g)
  rintro(g|g|g)
  ·exact .inr (.inl g)
  ·exact .inl g
  exact .inr (.inr g)
 have e5:∀a∈L,g (if a=now then old else a)=g a:=fun a ha=>by rw[zQ fun(e:a=now)=>hnL (e ▸ ha)]
 unfold Za;rw[e1,e2,e3,e4,yW,yS,zZ rfl,←List.map_take,←List.map_drop];congr 1
 ·exact ya fun a ha=>(e5 a (List.mem_of_mem_take ha)).symm
 congr 1;exact ya fun a ha=>(e5 a (List.mem_of_mem_drop ha)).symm
/-! ## joining -/

structure MayJ (f:FunL) (b t:Nat):Prop where
 hb:b<f.blocks.length
 ht:t<f.blocks.length
 «to»:tosB f.blocks b=[(t:Int)]
 ne:t≠b
 phi:f.blocks[t].phis=[]
 one:insN f t=[b]
theorem mayJ {nf:Nat} {P:Nat->Int} {f:FunL} (h:FunC nf P f) {b t:Nat} (hb:b<f.blocks.length) (hm:vt f b=some t):MayJ f b t:=by
 unfold vt at hm;dsimp only at hm
 split at hm
 ·rename_i hc
  injection hm with hm;obtain⟨hk,hc⟩:=hc;rw[qW hb]at hk hm hc;have he:=h.fin b hb;have hl:(f.blocks[b].fin.to).length=1:=by have:=he.len;omega
  obtain⟨x,hx⟩:∃x,f.blocks[b].fin.to=[x]:=by
   rcases e:f.blocks[b].fin.to with _|⟨x,_|⟨y,l⟩⟩
   ·simp[e]at hl
   ·exact⟨x,rfl⟩
   simp[e]at hl
  have hx1:=he.to x (by rw[hx];simp);rw[hx]at hm hc;have hm:x.toNat=t:=hm;have hxt:x=(t:Int):=by omega
  have ht:t<f.blocks.length:=by omega
  have hc:¬(x.toNat=b\/0<(atF f x.toNat).phis.length\/1<(insN f x.toNat).length):=hc;rw[hm,qW ht]at hc;have hto:tosB f.blocks b=[(t:Int)]:=by rw[xm hb,hx,hxt]
  have hbt:b∈insN f t:=h.funD.mem.2 ⟨hb,by rw[hto];simp⟩;refine⟨hb,ht,hto,fun e=>hc (.inl e),?_,?_⟩
  ·exact List.eq_nil_of_length_eq_zero bO
  rcases e:insN f t with _|⟨y,_|⟨z,l⟩⟩
  ·rw[e]at hbt;cases hbt
  ·rw[e]at hbt;rw[yI.1 hbt]
  exfalso;rw[e]at hc;simp at hc
 cases hm

def V1 (f:FunL) (b t i:Nat):List PhiL:=(atF f i).phis.map fun p=>if(i:Int)∈(atF f t).fin.to then { p with src:=Za (insN f i) t b p.src } else p
theorem kP (f:FunL) (b t:Nat):(qY f t b).blocks.length=f.blocks.length:=by simp[qY]
theorem kr {f:FunL} {b t i:Nat} (hi:i<f.blocks.length):atF (qY f t b) i={ phis:=V1 f b t i,list:=(atF f i).list,fin:=(atF f i).fin }:=by
 have e0:atF (qY f t b) i=(fun(i:Nat) (x:BlkL)=>if(i:Int)∈(atF f t).fin.to then { x with phis:=x.phis.map fun p=>{ p with src:=Za (insN f i) t b p.src } } else x) i f.blocks[i]:=by
  show(f.blocks.mapIdx _).getD i Qw=_;rw[yO,List.getElem?_mapIdx,zj hi];rfl
 rw[e0];unfold V1;rw[qW hi]
 by_cases h:(i:Int)∈(atF f t).fin.to
 ·simp only[h,if_true]
 simp only[h,if_false];have e:(f.blocks[i].phis.map fun p=>p)=f.blocks[i].phis:=List.map_id' _;rw[e]
theorem qX (f:FunL) (b t:Nat):(xX f b t).blocks.length=f.blocks.length:=by simp[xX,kP]
theorem ks {f:FunL} {b t i:Nat} (hi:i<f.blocks.length) (hb:b<f.blocks.length) (ht:t<f.blocks.length):atF (xX f b t) i=if i=t then Qw else { phis:=V1 f b t i,list:=if i=b then(atF f b).list++(atF f t).list else(atF f i).list,fin:=if i=b then(atF f t).fin else(atF f i).fin }:=by
 have hlt:i<(qY f t b).blocks.length:=by rw[kP];exact hi
 show(((qY f t b).blocks.set b _).set t Qw).getD i Qw=_;rw[yO,List.getElem?_set,List.getElem?_set,List.length_set,kP]
 by_cases e:i=t
 ·rw[zZ e.symm,zZ e,zZ ht];rfl
 rw[zQ (fun g=>e g.symm),zQ e]
 by_cases e2:i=b
 ·subst e2;rw[zZ rfl,zZ hb];simp only[if_true,kr hb,kr ht,Option.getD_some]
 rw[zQ (fun g=>e2 g.symm)];simp only[zQ e2];rw[←kr (b:=b) (t:=t) hi];unfold atF;rw[yO]
theorem QB (f:FunL) {i:Nat}:i<f.blocks.length->tosB f.blocks i=(atF f i).fin.to:=fun h=>by rw[xm h,qW h]
theorem kQ {f:FunL} {b t:Nat} (h:MayJ f b t) {i:Nat} (hi:i<f.blocks.length):tosB (xX f b t).blocks i=if i=t then[]else if i=b then tosB f.blocks t else tosB f.blocks i:=by
 rw[QB _ (by rw[qX];exact hi),ks hi h.hb h.ht]
 by_cases e:i=t
 ·rw[zZ e,zZ e];rfl
 rw[zQ e,zQ e]
 by_cases e2:i=b
 ·simp only[zZ e2];rw[QB f h.ht]
 simp only[zQ e2];rw[QB f hi]

theorem FunD.join {f:FunL} (hf:FunD f) {b t:Nat} (h:MayJ f b t):FunD (xX f b t):=by
 have key:∀k,k<f.blocks.length->(tosB (xX f b t).blocks k).length<=2/\(∀x∈tosB (xX f b t).blocks k,1<=x/\x<(f.blocks.length:Int))/\(tosB (xX f b t).blocks k).Nodup:=fun k hk=>by
  have base:∀k,k<f.blocks.length->(tosB f.blocks k).length<=2/\(∀x∈tosB f.blocks k,1<=x/\x<(f.blocks.length:Int))/\(tosB f.blocks k).Nodup:=fun k hk=>by
   rw[xm hk];exact⟨hf.two k hk,hf.tos k hk,hf.once k hk⟩
  rw[kQ h hk]
  split
  ·simp
  split
  ·exact base t h.ht
  exact base k hk
 refine⟨⟨by rw[qX];exact hf.n1,by rw[qX];exact hf.n40,fun k hk=>?_,fun k hk=>?_⟩,fun k hk=>?_⟩
 ·rw[←xm hk];exact(key k (by rw[←qX f b t];exact hk)).1
 ·rw[←xm hk,qX];exact(key k (by rw[←qX f b t];exact hk)).2.1
 rw[←xm hk];exact(key k (by rw[←qX f b t];exact hk)).2.2

theorem Zi {f:FunL} (hf:FunD f) {b t:Nat} (h:MayJ f b t) {i a:Nat} (hi:i≠t):a∈insN (xX f b t) i↔if(i:Int)∈tosB f.blocks t then a=b\/(a≠t/\a∈insN f i)else a∈insN f i:=by
 have hbi:b∉insN f i:=fun g=>by
  have:=(hf.mem.1 g).2;rw[h.to,yI]at this;omega
 have hti:t∈insN f i↔(i:Int)∈tosB f.blocks t:=by rw[hf.mem];exact⟨fun g=>g.2,fun g=>⟨h.ht,g⟩⟩
 rw[(hf.join h).mem,qX];have hm:∀a,a∈insN f i↔a<f.blocks.length/\(i:Int)∈tosB f.blocks a:=fun a=>hf.mem
 by_cases ha:a<f.blocks.length
 ·rw[kQ h ha]
  by_cases e1:a=t
  ·subst e1;rw[zZ rfl]
   split
   ·have:=h.ne;simp[this]
   rename_i g
   rw[hti];simp[g]
  rw[zQ e1]
  by_cases e2:a=b
  ·subst e2;rw[zZ rfl]
   split
   ·rename_i g;simp[ha,g]
   rename_i g;simp[g,hbi]
  rw[zQ e2,←hm]
  split<;>simp[e1,e2]
 have:a∉insN f i:=fun g=>ha ((hm a).1 g).1;have hab:a≠b:=fun e=>ha (e ▸ h.hb)
 split<;>simp[ha,this,hab]
theorem join_phi {f:FunL} (hf:FunD f) {b t:Nat} (h:MayJ f b t) {i:Nat} (hi:i≠t) {src:List (Bool×Int)} (hl:src.length=(insN f i).length) :
  (if(i:Int)∈tosB f.blocks t then Za (insN f i) t b src else src)=(insN (xX f b t) i).map fun a=>Zb (insN f i) src (if(i:Int)∈tosB f.blocks t/\a=b then t else a):=by
 have hj:=hf.join h
 by_cases hc:(i:Int)∈tosB f.blocks t
 ·rw[zZ hc];have e:=fromR_row (hf.insD i) hl;have hti:t∈insN f i:=hf.mem.2 ⟨h.ht,hc⟩
  have hbi:b∉insN f i:=fun g=>by
   have:=(hf.mem.1 g).2;rw[h.to,yI]at this;omega
  have e2:=moveR_eq (jn hf i) (jn hj i) hti hbi (fun a=>by rw[Zi hf h hi,zZ hc]) (Zb (insN f i) src);rw[←e]at e2;rw[e2];refine ya fun a _=>?_
  by_cases ea:a=b<;>simp[ea,hc]
 rw[zQ hc];have e3:insN (xX f b t) i=insN f i:=JY (jn hj i) (jn hf i) fun a=>by rw[Zi hf h hi,zQ hc]
 rw[e3];have e:=fromR_row (hf.insD i) hl;refine e.trans (ya fun a _=>?_);simp[hc]

theorem ZH (u:Nat->Nat) (c i:Nat):∀n,((List.range n).map fun j=>if j=i then c else u j).sum+(if i<n then u i else 0)=((List.range n).map u).sum+if i<n then c else 0
 | 0=>by simp
 | n+1=>by
  have ih:=ZH u c i n;rw[yt,yW,yW,List.sum_append,List.sum_append];simp only[yS,yw,List.sum_cons,List.sum_nil]
  by_cases e:n=i
  ·subst e;rw[zQ bO,zQ bO]at ih;rw[zZ rfl,zZ bO,zZ bO];omega
  rw[zQ e]
  by_cases g:i<n
  ·rw[zZ g,zZ g]at ih;rw[zZ bO,zZ bO];omega
  rw[zQ g,zQ g]at ih;rw[zQ bO,zQ bO];omega
theorem many_join {f:FunL} {b t:Nat} (h:MayJ f b t):xu (xX f b t)=xu f:=by
 rw[k5,k5,qX];obtain⟨u,hu⟩:∃u:Nat->Nat,u=fun i=>(atF f i).phis.length+(atF f i).list.length:=⟨_,rfl⟩
 have e1:((List.range f.blocks.length).map fun i=>(atF (xX f b t) i).phis.length+(atF (xX f b t) i).list.length)=(List.range f.blocks.length).map fun j=>if j=t then 0 else if j=b then u b+u t else u j:=by
  refine ya fun i hi=>?_;have hi:=yR.1 hi;rw[ks hi h.hb h.ht]
  by_cases e:i=t
  ·rw[zZ e,zZ e];rfl
  rw[zQ e,zQ e]
  by_cases e2:i=b
  ·subst e2;simp only[if_true,V1,yT,yN,hu];have hp:(atF f t).phis=[]:=(by rw[qW h.ht];exact h.phi);rw[hp];simp;omega
  simp only[zQ e2,V1,yT,hu]
 have e2:((List.range f.blocks.length).map fun i=>(atF f i).phis.length+(atF f i).list.length)=(List.range f.blocks.length).map u:=by rw[hu]
 rw[e1,e2];have s1:=ZH (fun j=>if j=b then u b+u t else u j) 0 t f.blocks.length;have s2:=ZH u (u b+u t) b f.blocks.length;rw[zZ h.ht,zZ h.ht,zQ h.ne]at s1;rw[zZ h.hb,zZ h.hb]at s2;omega

theorem FunC.join {nf:Nat} {P:Nat->Int} {f:FunL} (hc:FunC nf P f) {b t:Nat} (h:MayJ f b t):FunC nf P (xX f b t):=by
 have hf:=hc.funD;have hj:=hf.join h;have hL:=qX f b t;have fin:∀i,i<f.blocks.length->EndC f.regs f.blocks.length (atF f i).fin:=fun i hi=>by rw[qW hi];exact hc.fin i hi
 refine⟨hj.n1,hj.n40,hc.par,hc.reg,by rw[many_join h];exact hc.many,fun i hi=>?_,fun i hi p hp=>?_,fun i hi x hx=>?_⟩
 ·show EndC f.regs _ _;rw[←qW hi,qX];rw[hL]at hi;rw[ks hi h.hb h.ht]
  by_cases e:i=t
  ·rw[zZ e];exact⟨⟨by decide,by decide⟩,rfl,by simp[Qw],by simp[Qw],by simp[Qw],fun g=>by cases g⟩
  rw[zQ e];show EndC _ _ (if i=b then _ else _)
  split
  ·exact fin t h.ht
  exact fin i hi
 ·rw[←qW hi]at hp;rw[hL]at hi;rw[ks hi h.hb h.ht]at hp
  by_cases e:i=t
  ·rw[zZ e]at hp;cases hp
  rw[zQ e]at hp;have hp:p∈V1 f b t i:=hp;obtain⟨q,hq,rfl⟩:=yD.1 hp;rw[qW hi]at hq;have hq:=hc.phi i hi q hq;have e2:=join_phi hf h e hq.len
  have e3:(if(i:Int)∈(atF f t).fin.to then { q with src:=Za (insN f i) t b q.src } else q)={ q with src:=(insN (xX f b t) i).map fun a=>Zb (insN f i) q.src (if(i:Int)∈tosB f.blocks t/\a=b then t else a) }:=by
   rw[←QB f h.ht,←e2]
   split<;>rfl
  rw[e3];refine⟨hq.blk,hq.dst,by simp,fun v hv=>?_⟩;obtain⟨a,ha,rfl⟩:=yD.1 hv
  have hm:(if(i:Int)∈tosB f.blocks t/\a=b then t else a)∈insN f i:=by
   rw[Zi hf h e]at ha
   by_cases hc2:(i:Int)∈tosB f.blocks t
   ·rw[zZ hc2]at ha;rcases ha with g|g
    ·rw[zZ ⟨hc2,g⟩];exact hf.mem.2 ⟨h.ht,hc2⟩
    split
    ·exact hf.mem.2 ⟨h.ht,hc2⟩
    exact g.2
   rw[zQ hc2]at ha;rw[zQ fun g=>hc2 g.1];exact ha
  refine hq.src _ ?_;unfold Zb;obtain⟨k1,k2⟩:=ja hm;have hlt:(insN f i).idxOf (if(i:Int)∈tosB f.blocks t/\a=b then t else a)<q.src.length:=by rw[hq.len];exact k1
  rw[yO,zj hlt];exact zP _
 rw[←qW hi]at hx;rw[hL]at hi;rw[ks hi h.hb h.ht]at hx;have ins:∀i,i<f.blocks.length->∀x∈(atF f i).list,jX f.regs nf P x.op x.dst x.an x.bn x.fn x.ar x.br x.args=0:=fun i hi=>by rw[qW hi];exact hc.ins i hi
 by_cases e:i=t
 ·rw[zZ e]at hx;cases hx
 rw[zQ e]at hx;have hx:x∈(if i=b then(atF f b).list++(atF f t).list else(atF f i).list):=hx
 split at hx
 ·rcases yH.1 hx with g|g
  ·exact ins b h.hb x g
  exact ins t h.ht x g
 exact ins i hi x hx

theorem FunC.chain {nf:Nat} {P:Nat->Int}:∀(c:Nat) {f:FunL} {b:Nat},FunC nf P f->b<f.blocks.length->FunC nf P (zt c f b)/\(zt c f b).blocks.length=f.blocks.length
 | 0,_,_,h,_=>⟨h,rfl⟩
 | c+1,f,b,h,hb=>by
  unfold zt;cases e:vt f b with
  | none=>exact⟨h,rfl⟩
  | some t=>
   obtain⟨h1,h2⟩:=FunC.chain c (h.join (mayJ h hb e)) (b:=b) (by rw[qX];exact hb);exact⟨h1,by rw[h2,qX]⟩
theorem FunC.chains {nf:Nat} {P:Nat->Int} {f:FunL} (h:FunC nf P f):FunC nf P (zM f):=by
 unfold zM
 have key:∀(l:List Nat) (g:FunL) (c:Nat),(∀b∈l,b<f.blocks.length)->FunC nf P g->g.blocks.length=f.blocks.length->FunC nf P (l.foldl (fun g b=>zt c g b) g):=by
  intro l
  induction l with
  | nil=>intro g c _ h _;exact h
  | cons b l ih=>
   intro g c hl hg hn;obtain⟨h1,h2⟩:=hg.chain c (b:=b) (by rw[hn];exact hl b (.head _));exact ih _ c (fun x hx=>hl x (.tail _ hx)) h1 (h2.trans hn)
 exact key _ f _ (fun b hb=>yR.1 hb) h rfl

structure InsC (regs:Int) (nf:Nat) (P:Nat->Int) (x:InsL):Prop where
 op:1<=x.op/\x.op<=22
 d0:shD x.op=false->x.dst = -1
 a0:shA x.op=false->x.ar=false/\x.an=0
 b0:shB x.op=false->x.br=false/\x.bn=0
 c0:x.op≠20->x.fn=0/\x.args.length=0
 d1:shD x.op=true->¬(x.op=20/\x.dst = -1)->0<=x.dst/\x.dst<regs
 a:Z9 regs x.ar x.an
 b:Z9 regs x.br x.bn
 call:x.op=20->(0<=x.fn/\x.fn<(nf:Int))/\(x.args.length:Int)=P x.fn.toNat/\∀v∈x.args,Z9 regs v.1 v.2
theorem dstE_iff {regs n:Int}:k7 regs n=0↔0<=n/\n<regs:=by
 unfold k7
 split
 ·exact⟨fun _=>by omega,fun _=>rfl⟩
 exact⟨fun g=>absurd g (by decide),fun g=>by omega⟩
theorem callE_iff {regs:Int} {nf:Nat} {P:Nat->Int} {op fn:Int} {L:List (Bool×Int)}:jf regs nf P (op == 20) fn L=0↔(op=20->(0<=fn/\fn<(nf:Int))/\(L.length:Int)=P fn.toNat/\∀v∈L,Z9 regs v.1 v.2):=by
 unfold jf
 by_cases h:op=20
 ·rw[zQ (by simp[h])]
  by_cases h1:0<=fn/\fn<(nf:Int)
  ·rw[zQ (by simpa using h1)]
   by_cases h2:(L.length:Int)=P fn.toNat
   ·rw[zQ (by simpa using h2)];unfold Vt;rw[jt]
    exact⟨fun g _=>⟨h1,h2,fun v hv=>valE_iff.1 (g _ (yD.2 ⟨v,hv,rfl⟩))⟩,fun g y hy=>by
     obtain⟨v,hv,rfl⟩:=yD.1 hy
     exact valE_iff.2 ((g h).2.2 v hv)⟩
   rw[zZ h2];exact⟨fun g=>absurd g (by decide),fun g=>absurd (g h).2.1 h2⟩
  rw[zZ h1];exact⟨fun g=>absurd g (by decide),fun g=>absurd (g h).1 h1⟩
 rw[zZ (by simpa using h)];exact⟨fun _ g=>absurd g h,fun _=>rfl⟩
theorem insC_iff {regs:Int} {nf:Nat} {P:Nat->Int} {x:InsL}:jX regs nf P x.op x.dst x.an x.bn x.fn x.ar x.br x.args=0↔InsC regs nf P x:=by
 unfold jX
 by_cases h1:1<=x.op/\x.op<=22
 rotate_left
 ·rw[zZ h1];exact⟨fun g=>absurd g (by decide),fun g=>absurd g.op h1⟩
 rw[zQ (by simpa using h1)]
 by_cases h2:(shD x.op=false/\x.dst≠-1)\/(shA x.op=false/\¬(x.ar=false/\x.an=0))\/(shB x.op=false/\¬(x.br=false/\x.bn=0))\/(x.op≠20/\(x.fn≠0\/0<x.args.length))
 ·rw[zZ h2];refine⟨fun g=>absurd g (by decide),fun g=>?_⟩;rcases h2 with h|h|h|h
  ·exact absurd (g.d0 h.1) h.2
  ·exact absurd (g.a0 h.1) h.2
  ·exact absurd (g.b0 h.1) h.2
  have:=g.c0 h.1;have:=h.2;omega
 rw[zQ h2]
 by_cases h3:shD x.op=true/\¬(x.op=20/\x.dst = -1)/\k7 regs x.dst≠0
 ·rw[zZ h3];exact⟨fun g=>absurd g h3.2.2,fun g=>absurd (dstE_iff.2 (g.d1 h3.1 h3.2.1)) h3.2.2⟩
 rw[zQ h3,jt];constructor
 ·intro g;refine⟨h1,fun e=>?_,fun e=>?_,fun e=>?_,fun e=>?_,fun e1 e2=>?_,valE_iff.1 (g _ bV),valE_iff.1 (g _ bV),callE_iff.1 (g _ bV)⟩
  ·exact xF fun k=>h2 (.inl ⟨e,k⟩)
  ·exact xF fun k=>h2 (.inr (.inl ⟨e,k⟩))
  ·exact xF fun k=>h2 (.inr (.inr (.inl ⟨e,k⟩)))
  ·refine xF fun k=>h2 (.inr (.inr (.inr ⟨e,?_⟩)));omega
  exact dstE_iff.1 (xF fun k=>h3 ⟨e1,e2,k⟩)
 intro g y hy;simp only[yC,yG,yl]at hy;rcases hy with rfl|rfl|rfl
 ·exact valE_iff.2 g.a
 ·exact valE_iff.2 g.b
 exact callE_iff.2 g.call
/-! ## names as registers are met -/

def ZI (L:List Nat):List Nat:=L.foldl (fun D r=>if r∈D then D else D++[r]) []
def stD (D:List Nat):NamS:=(qE D,(D.length:Int))
theorem nameS_st {D:List Nat} {r:Nat}:vi (stD D) r=stD (if r∈D then D else D++[r]):=by
 unfold vi stD
 by_cases h:r∈D
 ·rw[zQ (by show ¬ qE D r<0;rw[jc h];omega),zZ h]
 have e:qE D r = -1:=by unfold qE;rw[zQ h]
 rw[zZ (by show qE D r<0;omega),zQ h];refine Prod.ext (funext fun i=>?_) bV;show(if i=r then(D.length:Int)else qE D i)=qE (D++[r]) i;unfold qE
 by_cases e2:i=r
 ·subst e2;rw[zZ rfl,zZ bV,List.idxOf_append,zQ h];simp
 rw[zQ e2]
 by_cases e3:i∈D
 ·rw[zZ e3,zZ (by simp[e3]),List.idxOf_append,zZ e3]
 rw[zQ e3,zQ (by simp[e2,e3])]
theorem Xn (L:List Nat):∀D,L.foldl vi (stD D)=stD (L.foldl (fun D r=>if r∈D then D else D++[r]) D):=by
 induction L with
 | nil=>intro D;rfl
 | cons r L ih=>intro D;rw[List.foldl_cons,List.foldl_cons,nameS_st,ih]
theorem vH {L:List Nat}:∀{D:List Nat},D.Nodup->(L.foldl (fun D r=>if r∈D then D else D++[r]) D).Nodup/\(∃E,L.foldl (fun D r=>if r∈D then D else D++[r]) D=D++E)/\∀r,r∈L.foldl (fun D r=>if r∈D then D else D++[r]) D↔r∈D\/r∈L:=by
 induction L with
 | nil=>intro D h;exact⟨h,⟨[],by simp⟩,by simp⟩
 | cons x L ih=>
  intro D h;rw[List.foldl_cons]
  by_cases hx:x∈D
  ·rw[zZ hx];obtain⟨h1,h2,h3⟩:=ih h;refine⟨h1,h2,fun r=>?_⟩;rw[h3,yC];constructor
   ·rintro(g|g);exact .inl g;exact .inr (.inr g)
   rintro(g|g|g);exact .inl g;exact .inl (g ▸ hx);exact .inr g
  rw[zQ hx];obtain⟨h1,⟨E,h2⟩,h3⟩:=ih (D:=D++[x]) (List.nodup_append.2 ⟨h,by simp,fun a ha b hb e=>by rw[yI]at hb;exact hx (hb ▸ e ▸ ha)⟩);refine⟨h1,⟨x::E,by rw[h2];simp⟩,fun r=>?_⟩;rw[h3];simp[or_assoc]
theorem V2 (n:Nat) (M:List Nat):∃E,ZI (List.range n++M)=List.range n++E:=by
 unfold ZI;rw[yh]
 have e:∀n,(List.range n).foldl (fun D r=>if r∈D then D else D++[r]) []=List.range n:=by
  intro n
  induction n with
  | zero=>rfl
  | succ n ih=>rw[yt,yh,ih,List.foldl_cons,List.foldl_nil,zQ bV]
 rw[e];exact(vH List.nodup_range).2.1
theorem nam0_st:nam0=stD []:=by
 unfold nam0 stD qE;simp
def Qi (f:FunL):List Nat:=ZI (Qh f++ZD f)
theorem QV (f:FunL):kO f=stD (Qi f):=by
 unfold kO Qi ZI;rw[nam0_st,Xn]
theorem QW (f:FunL):(Qi f).Nodup:=(vH (D:=[]) List.nodup_nil).1
theorem metL_mem {f:FunL} {r:Nat}:r∈Qi f↔r∈Qh f++ZD f:=by
 have:=(vH (L:=Qh f++ZD f) (D:=[]) List.nodup_nil).2.2 r;simpa[Qi,ZI]using this
end Go.Proofs.YtgjjhadbjmcnpaaGreatDoor
namespace Go.Proofs.YtgjjhadbjmcnpaaGreatDoor
open Go.RowKit Go.Shelf

structure NmSt (w:World) (nb A m:Nat) (s:NamS):Prop where
 st:w.heap[nb]?=some (.cells #[.slice (some (J A 0)) m m,Z s.2] 136 (0,0))
 row:w.rowIs A 3 m (fun j=>Z (s.1 j))
 ne:nb≠A
 many:0<=s.2/\s.2<=1000000
theorem NmSt.kept {U:Blks} {w w':World} {nb A m:Nat} {s:NamS} (h:NmSt w nb A m s) (hk:Kept U w w') (h1:¬ U nb) (h2:¬ U A):NmSt w' nb A m s:=
 ⟨(hk.block _ (qd h.st) h1).trans h.st,h.row.of_block (hk.block _ h.row.lt h2),h.ne,h.many⟩
theorem NmSt.below {w w':World} {nb A m:Nat} {s:NamS} (h:NmSt w nb A m s) (hb:Below w.heap.size w w'):NmSt w' nb A m s:=h.kept (U:=fun _=>False) (Kept.of_below hb) id id
theorem NmSt.drew {w:World} {nb A m:Nat} {s:NamS} (h:NmSt w nb A m s):NmSt w.drew nb A m s:=h.below (zI _ w).drew

theorem V3 (r nb A m:Nat) (s:NamS) (w:World) (h:NmSt w nb A m s) (hr:r<m) (_hb:-1<=s.1 r/\s.1 r<=1000000) :
  Calls Tryz.prog 93 #[.pointer (some (J nb 0)),Z r] w fun e w'=>e = .returned (Z ((vi s r).1 r))/\(s.2<1000000->NmSt w' nb A m (vi s r))/\Kept (fun k=>k=nb\/k=A) w w':=by
 obtain⟨hst,hrow,hne,hm1,hm2⟩:=h;have z1:=qd hst;have z2:=hrow.lt;obtain⟨cb,cf⟩:=blk hst;have cb0:=cb 0;have cb1:=cb 1;simp only[zE,zB,zD]at cb0 cb1;have c2:=hrow.cell hr;have c2f:=hrow.frozen r;have hne2:¬ A=nb:=fun e=>hne e.symm;have hst':w.heap[nb]?=some (.cells #[.slice (some (J A 0)) m m,Z s.2] 136 (0,0)):=hst;have HSt:=q8 hst';have haZ:=q8 hrow;clear cb hst hst' hrow
 by_cases hlt:s.1 r<0
 ·have hw:IntKind.i64.wrap (s.2+1)=s.2+1:=by rw[xI];omega
  have hl:decide (s.1 r<0)=true:=by simpa using hlt
  have hn:vi s r=(fun i=>if i=r then s.2 else s.1 i,s.2+1):=by unfold vi;rw[zZ hlt]
  have HN:=q8 hn;clear hn
  go_enter Tryz.func93,Tryz.ntmps93
  go_wp2_with fail
  go_region
  go_wp2_with fail
  go_ret
  obtain⟨W,hW⟩:=nZ (((w.setCell (J A r) (Z s.2)).setCell (J nb 1) (Z (s.2+1))).drew);rw[←hW,HN.out]
  have hK:Kept (fun k=>k=nb\/k=A) w W:=by
   rw[hW];have h0:Kept (fun k=>k=nb\/k=A) w w:=Kept.refl _ w;have h1:=h0.setCell (p:=(J A r)) (.inr rfl) (Z s.2);exact(h1.setCell (p:=(J nb 1)) (.inl rfl) (Z (s.2+1))).drew
  refine⟨by simp,fun hs=>⟨?_,?_,hne,by simp;omega⟩,hK⟩
  ·rw[hW];show((w.setCell (J A r) (Z s.2)).setCell (J nb 1) (Z (s.2+1))).heap[nb]?=_;rw[qj ((zJ w ⟨A,r,none⟩ _ nb hne).trans HSt.out) 1 _];rfl
  rw[hW];refine(((haZ.out.set r (Z s.2)).setOther (by show A≠nb;exact fun e=>hne e.symm) _).drew).congr fun j _=>?_
  by_cases e:j=r<;>simp[e]
 have hl:decide (s.1 r<0)=false:=by simpa using hlt
 have hn:vi s r=s:=by unfold vi;rw[zQ hlt]
 have HN:=q8 hn;clear hn
 go_enter Tryz.func93,Tryz.ntmps93
 go_wp2_with fail
 go_ret
 rw[HN.out];exact⟨rfl,fun _=>⟨HSt.out,haZ.out,hne,hm1,hm2⟩,Kept.refl _ _⟩

theorem nval_any (v:Bool×Int) (nb A m:Nat) (s:NamS) (w:World) (h:NmSt w nb A m s) (hv:v.1=true->0<=v.2/\v.2<m) (hb:∀r,-1<=s.1 r/\s.1 r<=1000000) :
  Calls Tryz.prog 94 #[.pointer (some (J nb 0)),.agg #[.bool v.1,Z v.2]] w fun e w'=>e = .returned (.agg #[.bool v.1,Z (xw ((xQ v).foldl vi s).1 v).2])/\(s.2<1000000->NmSt w' nb A m ((xQ v).foldl vi s))/\Kept (fun k=>k=nb\/k=A) w w':=by
 obtain⟨vr,vn⟩:=v;have zn:=qd h.st;have zA:=h.row.lt;have HM:=q8 h;cases vr with
 | false=>
  have hm:(xQ (false,vn)).foldl vi s=s:=rfl;have hr:(xw s.1 (false,vn)).2=vn:=rfl;rw[hm,hr];have h0:=h.many;clear h hm hr
  go_enter Tryz.func94,Tryz.ntmps94
  go_wp2_with fail
  obtain⟨W,hW⟩:=nZ ((w.alloc (.cells #[.bool false,Z vn] 44)).alloc (.cells #[.bool false,Z vn] 44));rw[←hW];have hb:Below w.heap.size w W:=by rw[hW];exact bZ
  have hR:W.heap[w.heap.size+1]?=some (.cells #[.bool false,Z vn] 44 (0,0)):=by
   rw[hW];exact qr bV
  clear hW;obtain⟨rb,_⟩:=blk hR;have rb0:=rb 0;have rb1:=rb 1;simp only[zE,zB,zD]at rb0 rb1;refine zk (v:=.agg #[.bool false,Z vn]) ?_ rfl ⟨rfl,fun _=>HM.out.below hb,Kept.of_below hb⟩;simp[results,Tryz.results94,go_sem,rb0,rb1]
 | true=>
  obtain⟨hv1,hv2⟩:=hv rfl;obtain⟨r,rfl⟩:∃r:Nat,vn=(r:Int):=⟨vn.toNat,by simp at hv1;omega⟩;have hrm:r<m:=by simp at hv2;omega
  have hm:(xQ (true,(r:Int))).foldl vi s=vi s r:=by simp[xQ]
  have hr:(xw (vi s r).1 (true,(r:Int))).2=(vi s r).1 r:=by simp[xw]
  rw[hm,hr];have hcon:=fun W (hW:NmSt W nb A m s)=>V3 r nb A m s W hW hrm (hb r);have hfL:=q8 hcon;obtain⟨nr,hnr⟩:=nZ ((vi s r).1 r);rw[←hnr];have HNr:=q8 hnr;clear h hm hr hcon hnr
  go_enter Tryz.func94,Tryz.ntmps94
  go_wp2_with fail
  have hb1:Below w.heap.size w ((w.alloc (.cells #[.bool true,Z r] 44)).alloc (.cells #[.bool false,Z 0] 44)):=by exact bZ
  refine(hfL.out _ (HM.out.below hb1)).mono ?_;rintro e w2 ⟨rfl,hN2,hK2⟩;rw[←HNr.out];have hV2:w2.heap[w.heap.size]?=some (.cells #[.bool true,Z r] 44 (0,0)):=(hK2.block _ bW bO).trans (qh (qr rfl));have hZ2:w2.heap[w.heap.size+1]?=some (.cells #[.bool false,Z 0] 44 (0,0)):=(hK2.block _ bV bO).trans (qr bV);have hz2:=hK2.size;obtain⟨vb,vf⟩:=blk hV2;have vb0:=vb 0;have vb1:=vb 1;obtain⟨zb,zf⟩:=blk hZ2;have zb0:=zb 0;have zb1:=zb 1;simp only[zE,zB,zD]at vb0 vb1 zb0 zb1;have zv:=qd hV2;have zz:=qd hZ2;have hne1:¬ (w.heap.size+1=w.heap.size):=by omega
  have hne2:¬ (w.heap.size=w.heap.size+1):=by omega
  have HN2:=q8 hN2;have HK2:=q8 ((Kept.of_below hb1).trans hK2 (fun _ _ h=>h));have HZ2:=q8 hZ2;clear hN2 hK2 hV2 hZ2 vb zb hb1
  go_wp2_with fail
  obtain⟨W,hW⟩:=nZ (((w2.setCell (J w.heap.size 1) (Z nr)).setCell (J (w.heap.size+1) 0) (.bool true)).setCell (J (w.heap.size+1) 1) (Z nr));rw[←hW]
  have hK:Kept (fun k=>k=w.heap.size\/k=w.heap.size+1) w2 W:=by
   rw[hW];have h0:Kept (fun k=>k=w.heap.size\/k=w.heap.size+1) w2 w2:=Kept.refl _ _;have h1:=h0.setCell (p:=(J w.heap.size 1)) (.inl rfl) (Z nr);have h2:=h1.setCell (p:=(J (w.heap.size+1) 0)) (.inr rfl) (.bool true);exact h2.setCell (p:=(J (w.heap.size+1) 1)) (.inr rfl) (Z nr)
  have hR:W.heap[w.heap.size+1]?=some (.cells #[.bool true,Z nr] 44 (0,0)):=by
   have h1:(w2.setCell (J w.heap.size 1) (Z nr)).heap[w.heap.size+1]?=some (.cells #[.bool false,Z 0] 44 (0,0)):=(zJ _ _ _ _ (by show w.heap.size+1≠w.heap.size;omega)).trans HZ2.out;rw[hW,qj (qj h1 0 _) 1 _];rfl
  clear hW;obtain⟨rb,_⟩:=blk hR;have rb0:=rb 0;have rb1:=rb 1;simp only[zE,zB,zD]at rb0 rb1;refine zk (v:=.agg #[.bool true,Z nr]) ?_ rfl ⟨rfl,fun hs=>(HN2.out hs).kept hK bO bO,(HK2.out.trans hK (fun k h1 h2=>by omega))⟩;simp[results,Tryz.results94,go_sem,rb0,rb1]
end Go.Proofs.YtgjjhadbjmcnpaaGreatDoor
namespace Go.Proofs.YtgjjhadbjmcnpaaGreatDoor
open Go.RowKit

theorem Zj {f:FunL} {b:Nat} (hb:b<f.blocks.length) {r:Nat} (h:r∈J0 f.blocks[b]):r∈Qi f:=
 metL_mem.2 (yM _ (yU.2 ⟨_,zP hb,h⟩))
theorem kR {v:Bool×Int} (h:v.1=true):v.2.toNat∈xQ v:=by unfold xQ;rw[zZ h];simp
theorem metV_is {v:Bool×Int} {r:Nat} (h:r∈xQ v):v.1=true/\r=v.2.toNat:=by
 unfold xQ at h
 split at h
 ·rename_i e;exact⟨e,yI.1 h⟩
 cases h
theorem metC_fin {x:BlkL} (h:x.fin.onr=true):x.fin.onn.toNat∈J0 x:=yM _ (kR (v:=(x.fin.onr,x.fin.onn)) h)
theorem metC_dst {x:BlkL} {p:PhiL} (h:p∈x.phis):p.dst.toNat∈J0 x:=yE _ (yE _ (yU.2 ⟨p,h,yg⟩))
theorem metC_src {x:BlkL} {p:PhiL} (h:p∈x.phis) {v:Bool×Int} (hv:v∈p.src) (e:v.1=true):v.2.toNat∈J0 x:=
 yE _ (yE _ (yU.2 ⟨p,h,yc _ (yU.2 ⟨v,hv,kR e⟩)⟩))
theorem metC_ins {x:BlkL} {i:InsL} (h:i∈x.list) {r:Nat} (hr:r∈Qx i++vO i.dst):r∈J0 x:=
 yE _ (yM _ (yU.2 ⟨i,h,hr⟩))

theorem FunC.met {nf:Nat} {P:Nat->Int} {f:FunL} (h:FunC nf P f) {r:Nat} (hr:r∈Qi f):(r:Int)<f.regs:=by
 have hp:=h.par;have hg:=h.reg
 have val:∀{v:Bool×Int},Z9 f.regs v.1 v.2->r∈xQ v->(r:Int)<f.regs:=fun hv hm=>by
  obtain⟨e1,e2⟩:=metV_is hm;have:=hv e1;omega
 have dst:∀{d:Int},d<f.regs->r∈vO d->(r:Int)<f.regs:=fun hd hm=>by
  unfold vO at hm
  split at hm
  ·have:=yI.1 hm;omega
  cases hm
 have ins:∀b (hb:b<f.blocks.length),∀i∈f.blocks[b].list,r∈Qx i++vO i.dst->(r:Int)<f.regs:=fun b hb i hi hm=>by
  have hc:=insC_iff.1 (h.ins b hb i hi)
  have hdst:i.dst<f.regs:=by
   by_cases e:shD i.op=true/\¬(i.op=20/\i.dst = -1)
   ·exact(hc.d1 e.1 e.2).2
   by_cases e2:shD i.op=true
   ·have e3:i.op=20/\i.dst = -1:=xF fun g=>e ⟨e2,g⟩;omega
   have:=hc.d0 (by simpa using e2);omega
  rcases yH.1 hm with g|g
  ·unfold Qx at g;rcases yH.1 g with g|g
   ·rcases yH.1 g with g|g
    ·exact val hc.a g
    exact val hc.b g
   obtain⟨v,hv,g⟩:=yU.1 g
   by_cases e:i.op=20
   ·exact val ((hc.call e).2.2 v hv) g
   have:=(hc.c0 e).2;rw[List.eq_nil_of_length_eq_zero this]at hv;cases hv
  exact dst hdst g
 have phi:∀b (hb:b<f.blocks.length),∀p∈f.blocks[b].phis,(p.dst<f.regs/\0<=p.dst)/\∀v∈p.src,Z9 f.regs v.1 v.2:=fun b hb p hp=>⟨⟨(h.phi b hb p hp).dst.2,(h.phi b hb p hp).dst.1⟩,(h.phi b hb p hp).src⟩;rcases yH.1 (metL_mem.1 hr)with g|g
 ·unfold Qh at g;rcases yH.1 g with g|g
  ·have:=yR.1 g;omega
  obtain⟨x,hx,g⟩:=yU.1 g;obtain⟨b,hb,rfl⟩:=yp.1 hx;unfold KG at g;rcases yH.1 g with g|g
  ·rcases yH.1 g with g|g
   ·obtain⟨p,hp,rfl⟩:=yD.1 g;have:=(phi b hb p hp).1;omega
   obtain⟨i,hi,g⟩:=yU.1 g;exact ins b hb i hi g
  exact val (h.fin b hb).on g
 unfold ZD at g;obtain⟨x,hx,g⟩:=yU.1 g;obtain⟨b,hb,rfl⟩:=yp.1 hx;unfold J0 at g;rcases yH.1 g with g|g
 ·rcases yH.1 g with g|g
  ·obtain⟨p,hp,g⟩:=yU.1 g;rcases yC.1 g with rfl|g
   ·have:=(phi b hb p hp).1;omega
   obtain⟨v,hv,g⟩:=yU.1 g;exact val ((phi b hb p hp).2 v hv) g
  obtain⟨i,hi,g⟩:=yU.1 g;exact ins b hb i hi g
 exact val (h.fin b hb).on g

theorem x9 (f:FunL):(xO f).blocks.length=f.blocks.length:=by simp[xO]
theorem ZJ {f:FunL} {b:Nat} (h:b<(xO f).blocks.length):(xO f).blocks[b]=KH (kO f).1 (f.blocks[b]'(by rw[←x9 f];exact h)):=by simp[xO]
theorem KP (f:FunL) (c:Nat):insN (xO f) c=insN f c:=by
 have e:kE (xO f)=kE f:=by
  unfold kE xO;rw[yy];rfl
 unfold insN xq;rw[e,x9]
theorem ZK (f:FunL):(xO f).regs=((Qi f).length:Int):=by
 show(kO f).2=_;rw[QV];rfl
theorem J4 {f:FunL} {r:Nat} (h:r∈Qi f):0<=(kO f).1 r/\(kO f).1 r<(xO f).regs:=by
 rw[ZK,QV];obtain⟨h1,_⟩:=ja h;show 0<=qE (Qi f) r/\qE (Qi f) r<_;rw[jc h];omega

theorem FunC.name {nf:Nat} {P:Nat->Int} {f:FunL} (h:FunC nf P f):FunC nf P (xO f):=by
 have hp:=h.par;have hg:=h.reg
 have hle:((Qi f).length:Int)<=f.regs:=by
  have:=jl f.regs.toNat (Qi f) (QW f) (fun x hx=>by have:=h.met hx;omega);omega
 have hge:f.params<=((Qi f).length:Int):=by
  obtain⟨E,hE⟩:=V2 f.params.toNat (f.blocks.flatMap KG++ZD f)
  have:Qi f=List.range f.params.toNat++E:=by
   unfold Qi Qh;rw[yF];exact hE
  rw[this,yN,List.length_range];omega
 have ren:∀{v:Bool×Int},(v.1=true->v.2.toNat∈Qi f)->Z9 (xO f).regs (xw (kO f).1 v).1 (xw (kO f).1 v).2:=fun {v} hv e=>by
  unfold xw at e ⊢
  by_cases e1:v.1=true
  ·rw[zZ e1]at e ⊢;exact J4 (hv e1)
  rw[zQ e1]at e;exact absurd e e1
 have many:xu (xO f)=xu f:=by
  unfold xu xO;rw[yy];congr 1;exact ya fun b _=>by simp[KH]
 have eq1:∀(r:Bool) (n:Int),(xw (kO f).1 (r,n)).1=r:=fun r n=>by
  unfold xw;cases r<;>rfl
 refine⟨by rw[x9];exact h.n1,by rw[x9];exact h.n40,hp,⟨by rw[ZK];exact hge,by rw[ZK];omega⟩,by rw[many];exact h.many,fun b hb=>?_,fun b hb p hp=>?_,fun b hb x hx=>?_⟩
 ·have hb':b<f.blocks.length:=by rw[←x9 f];exact hb
  have hf:=h.fin b hb';rw[ZJ hb];refine⟨hf.kind,hf.len,fun t ht=>by have e:=hf.to t ht;have e2:=x9 f;exact⟨e.1,by omega⟩,hf.two,fun e=>?_,?_⟩
  ·have:=hf.jump e;refine⟨this.1,?_⟩;show(xw _ (_,_)).2=0;unfold xw;rw[zQ (by rw[this.1];simp)];exact this.2
  have:=ren (v:=(f.blocks[b].fin.onr,f.blocks[b].fin.onn)) fun e=>Zj hb' (metC_fin e);rw[eq1]at this;exact this
 ·have hb':b<f.blocks.length:=by rw[←x9 f];exact hb
  rw[ZJ hb]at hp;obtain⟨q,hq,rfl⟩:=yD.1 hp;have hc:=h.phi b hb' q hq;refine⟨hc.blk,J4 (Zj hb' (metC_dst hq)),by rw[KP];simpa using hc.len,fun v hv=>?_⟩;obtain⟨w,hw,rfl⟩:=yD.1 hv;exact ren fun e=>Zj hb' (metC_src hq hw e)
 have hb':b<f.blocks.length:=by rw[←x9 f];exact hb
 rw[ZJ hb]at hx;obtain⟨y,hy,rfl⟩:=yD.1 hx;have hc:=insC_iff.1 (h.ins b hb' y hy);have mem:∀{r:Nat},r∈Qx y++vO y.dst->r∈Qi f:=fun hr=>Zj hb' (metC_ins hy hr);refine insC_iff.2 ⟨hc.op,fun e=>?_,fun e=>?_,fun e=>?_,fun e=>?_,fun e1 e2=>?_,?_,?_,fun e=>?_⟩
 ·show(if 0<=y.dst then _ else y.dst) = -1;have:=hc.d0 e;rw[zQ bO];exact this
 ·have:=hc.a0 e;refine⟨this.1,?_⟩;show(xw _ (_,_)).2=0;unfold xw;rw[zQ (by rw[this.1];simp)];exact this.2
 ·have:=hc.b0 e;refine⟨this.1,?_⟩;show(xw _ (_,_)).2=0;unfold xw;rw[zQ (by rw[this.1];simp)];exact this.2
 ·have:=hc.c0 e;exact⟨this.1,by simpa[vZ]using this.2⟩
 ·show 0<=(if 0<=y.dst then _ else y.dst)/\(if 0<=y.dst then _ else y.dst)<_
  by_cases e3:0<=y.dst
  ·rw[zZ e3];exact J4 (mem (yM _ (by unfold vO;rw[zZ e3];simp)))
  refine absurd (hc.d1 e1 fun g=>e2 ⟨g.1,?_⟩).1 e3;show(if 0<=y.dst then _ else y.dst) = -1;rw[zQ e3];exact g.2
 ·have:=ren (v:=(y.ar,y.an)) fun e=>mem (yE _ (yE _ (yE _ (kR e))));rw[eq1]at this;exact this
 ·have:=ren (v:=(y.br,y.bn)) fun e=>mem (yE _ (yE _ (yM _ (kR e))));rw[eq1]at this;exact this
 have:=hc.call e;refine⟨this.1,by simpa[vZ]using this.2.1,fun v hv=>?_⟩;obtain⟨w,hw,rfl⟩:=yD.1 hv;exact ren fun e=>mem (yE _ (yM _ (yU.2 ⟨w,hw,kR e⟩)))

theorem FunC.order {nf:Nat} {P:Nat->Int} {f:FunL} (h:FunC nf P f):FunC nf P (Qy f):=h.keep h.funD.toFunS.ordC
theorem FunC.names {nf:Nat} {P:Nat->Int} {f:FunL} (h:FunC nf P f):FunC nf P (jH f):=h.order.name
theorem FunC.done {nf:Nat} {P:Nat->Int} {f:FunL} (h:FunC nf P f):FunC nf P (doT f):=h.order.chains.names

def stL (L:List Nat):NamS:=L.foldl vi nam0
theorem stL_add (L M:List Nat):M.foldl vi (stL L)=stL (L++M):=by unfold stL;rw[yh]
theorem stL_one (L:List Nat) (r:Nat):vi (stL L) r=stL (L++[r]):=by unfold stL;rw[yh];rfl
def Vs (L:List Nat):List Nat:=L.foldl (fun D r=>if r∈D then D else D++[r]) []
theorem stL_is (L:List Nat):stL L=stD (Vs L):=by
 unfold stL Vs;rw[nam0_st,Xn]
theorem kS (L:List Nat):(Vs L).Nodup/\∀r,r∈Vs L↔r∈L:=by
 have h:=vH (L:=L) (D:=[]) List.nodup_nil;refine⟨h.1,fun r=>?_⟩;have:=h.2.2 r;simpa[Vs]using this
theorem oncL_len {L:List Nat} {m:Nat} (h:∀r∈L,r<m):(Vs L).length<=m:=jl m _ (kS L).1 fun r hr=>h r (((kS L).2 r).1 hr)
theorem stL_bd {L:List Nat} {m:Nat} (h:∀r∈L,r<m):(0<=(stL L).2/\(stL L).2<=m)/\∀j,-1<=(stL L).1 j/\(stL L).1 j<=m:=by
 have hl:=oncL_len h;rw[stL_is];refine⟨⟨by show(0:Int)<=((Vs L).length:Int);omega,by show((Vs L).length:Int)<=m;omega⟩,fun j=>?_⟩;show -1<=qE (Vs L) j/\qE (Vs L) j<=m;unfold qE
 split
 ·next hj=>have:=(ja hj).1;omega
 omega
theorem oncL_more (L M:List Nat):∃E,Vs (L++M)=Vs L++E:=by
 unfold Vs;rw[yh];exact(vH (L:=M) (D:=Vs L) (kS L).1).2.1
theorem stL_stay {L:List Nat} (M:List Nat) {r:Nat} (h:r∈L):(stL (L++M)).1 r=(stL L).1 r:=by
 obtain⟨E,hE⟩:=oncL_more L M;rw[stL_is,stL_is,hE];show qE (Vs L++E) r=qE (Vs L) r;have h1:=((kS L).2 r).2 h;rw[jc (yE _ h1),jc h1,List.idxOf_append,zZ h1]
theorem FunC.metLt {nf:Nat} {P:Nat->Int} {f:FunL} (h:FunC nf P f):∀r∈Qh f++ZD f,r<f.regs.toNat:=fun r hr=>by
 have:=h.met (metL_mem.2 hr);omega
def OkV (m:Nat) (v:Bool×Int):Prop:=v.1=true->0<=v.2/\v.2<(m:Int)
structure OkB (m:Nat) (x:BlkL):Prop where
 dst:∀p∈x.phis,0<=p.dst/\p.dst<(m:Int)
 src:∀p∈x.phis,∀v∈p.src,OkV m v
 ia:∀i∈x.list,OkV m (i.ar,i.an)
 ib:∀i∈x.list,OkV m (i.br,i.bn)
 ic:∀i∈x.list,∀v∈i.args,OkV m v
 id:∀i∈x.list,i.dst<(m:Int)
 on:OkV m (x.fin.onr,x.fin.onn)
theorem FunC.okB {nf:Nat} {P:Nat->Int} {f:FunL} (h:FunC nf P f) {b:Nat} (hb:b<f.blocks.length):OkB f.regs.toNat f.blocks[b]:=by
 have hg:=h.reg;have hp:=h.par;have hm:((f.regs.toNat:Nat):Int)=f.regs:=by omega
 have val:∀{v:Bool×Int},Z9 f.regs v.1 v.2->OkV f.regs.toNat v:=fun hv e=>by rw[hm];exact hv e
 have hi:∀i∈f.blocks[b].list,InsC f.regs nf P i:=fun i hi=>insC_iff.1 (h.ins b hb i hi);refine⟨fun p hp=>?_,fun p hp v hv=>val ((h.phi b hb p hp).src v hv),fun i hii=>val (v:=(i.ar,i.an)) (hi i hii).a,fun i hii=>val (v:=(i.br,i.bn)) (hi i hii).b,fun i hii v hv=>?_,fun i hii=>?_,val (v:=(f.blocks[b].fin.onr,f.blocks[b].fin.onn)) (h.fin b hb).on⟩
 ·have:=(h.phi b hb p hp).dst;rw[hm];exact this
 ·by_cases e:i.op=20
  ·exact val (((hi i hii).call e).2.2 v hv)
  have:=((hi i hii).c0 e).2;rw[List.eq_nil_of_length_eq_zero this]at hv;cases hv
 rw[hm];have hc:=hi i hii
 by_cases e:shD i.op=true/\¬(i.op=20/\i.dst = -1)
 ·exact(hc.d1 e.1 e.2).2
 by_cases e2:shD i.op=true
 ·have e3:i.op=20/\i.dst = -1:=xF fun g=>e ⟨e2,g⟩;omega
 have:=hc.d0 (by simpa using e2);omega
structure NmL (w:World) (nb A m:Nat) (L:List Nat):Prop where
 st:NmSt w nb A m (stL L)
 lt:∀r∈L,r<m
 m100:m<=100
theorem NmL.kept {U:Blks} {w w':World} {nb A m:Nat} {L:List Nat} (h:NmL w nb A m L) (hk:Kept U w w') (h1:¬ U nb) (h2:¬ U A):NmL w' nb A m L:=⟨h.st.kept hk h1 h2,h.lt,h.m100⟩
theorem NmL.below {w w':World} {nb A m:Nat} {L:List Nat} (h:NmL w nb A m L) (hb:Below w.heap.size w w'):NmL w' nb A m L:=⟨h.st.below hb,h.lt,h.m100⟩
theorem NmL.at {w:World} {nb A m:Nat} {L:List Nat} (h:NmL w nb A m L):nb<w.heap.size/\A<w.heap.size:=⟨qd h.st.st,h.st.row.lt⟩
theorem metV_lt {m:Nat} {v:Bool×Int} (hv:OkV m v):∀r∈xQ v,r<m:=fun r hr=>by
 obtain⟨e1,e2⟩:=metV_is hr;have:=hv e1;omega
theorem kt {w:World} {nb A m:Nat} {L:List Nat} (h:NmL w nb A m L) (r:Nat) (hr:r<m) :
  Calls Tryz.prog 93 #[.pointer (some (J nb 0)),Z r] w fun e w'=>e = .returned (Z ((stL (L++[r])).1 r))/\NmL w' nb A m (L++[r])/\Kept (fun k=>k=nb\/k=A) w w':=by
 have hb:=stL_bd h.lt;have hnI:=h.m100;refine(V3 r nb A m (stL L) w h.st hr ⟨(hb.2 r).1,by have:=(hb.2 r).2;omega⟩).mono ?_;rintro e w' ⟨h1,h2,h3⟩;rw[stL_one]at h1 h2;exact⟨h1,⟨h2 bO,fun x hx=>(yH.1 hx).elim (h.lt x) (fun e=>by rw[yI.1 e];exact hr),h.m100⟩,h3⟩
theorem jJ {w:World} {nb A m:Nat} {L:List Nat} (h:NmL w nb A m L) (v:Bool×Int) (hv:OkV m v) :
  Calls Tryz.prog 94 #[.pointer (some (J nb 0)),.agg #[.bool v.1,Z v.2]] w fun e w'=>e = .returned (.agg #[.bool v.1,Z (xw (stL (L++xQ v)).1 v).2])/\NmL w' nb A m (L++xQ v)/\Kept (fun k=>k=nb\/k=A) w w':=by
 have hb:=stL_bd h.lt;have hnI:=h.m100;refine(nval_any v nb A m (stL L) w h.st hv (fun r=>⟨(hb.2 r).1,by have:=(hb.2 r).2;omega⟩)).mono ?_;rintro e w' ⟨h1,h2,h3⟩;rw[stL_add]at h1 h2;exact⟨h1,⟨h2 bO,fun x hx=>(yH.1 hx).elim (h.lt x) (metV_lt hv x),h.m100⟩,h3⟩
/-! what is met so far, as a part of all that is met -/
theorem QC {α β:Type} {f:α->List β} {l:List α} {j:Nat} (h:j<l.length) {q:List β} (hq:q <+: f l[j]):(l.take j).flatMap f++q <+: l.flatMap f:=by
 obtain⟨r,hr⟩:=hq;refine⟨r++(l.drop (j+1)).flatMap f,?_⟩;have e:l.flatMap f=(l.take j++l[j]::l.drop (j+1)).flatMap f:=by rw[List.getElem_cons_drop,List.take_append_drop]
 rw[e,yn,List.flatMap_cons,←hr];simp
theorem pre_app {β:Type} {a b c:List β} (h:a++b <+: c):a <+: c:=(List.prefix_append a b).trans h
theorem VS {L K:List Nat} (h:L <+: K) {r:Nat} (hr:r∈L):(stL L).1 r=(stL K).1 r:=by
 obtain⟨R,rfl⟩:=h;exact(stL_stay R hr).symm
theorem QD {L K:List Nat} {v:Bool×Int} (h:L++xQ v <+: K):(xw (stL (L++xQ v)).1 v).2=(xw (stL K).1 v).2:=by
 unfold xw
 by_cases e:v.1=true
 ·rw[zZ e,zZ e];exact VS h (yM _ (kR e))
 rw[zQ e,zQ e]
theorem KQ (m:Nat->Int) (v:Bool×Int):(xw m v).1=v.1:=by
 unfold xw
 split
 ·next e=>exact e.symm
 rfl
def metP (p:PhiL):List Nat:=p.dst.toNat::p.src.flatMap xQ
def renP (m:Nat->Int) (p:PhiL):PhiL:={ dst:=m p.dst.toNat,src:=p.src.map (xw m) }
theorem VT (x:BlkL):J0 x=x.phis.flatMap metP++x.list.flatMap (fun i=>Qx i++vO i.dst)++xQ (x.fin.onr,x.fin.onn):=rfl
theorem renB_is (m:Nat->Int) (x:BlkL):KH m x={ phis:=x.phis.map (renP m),list:=x.list.map (vZ m),fin:={ x.fin with onn:=(xw m (x.fin.onr,x.fin.onn)).2 } }:=rfl
theorem RowPut.two {w w1:World} {e:TypeId} {g o:Nat} {c0 c1:Value} (h:RowPut w w1 e g o 2 [c0,c1]) (a0 a1:Value):RowPut w ((w1.setCell (J g o) a0).setCell (J g (o+1)) a1) e g o 2 [a0,a1]:=by
 have h0:=RowPut.set h rfl (j:=0) bO a0;simp only[yJ,yQ]at h0;have h1:=RowPut.set h0 rfl (j:=1) bO a1;simp only[yZ,yQ]at h1;exact h1
def eight (w:World) (g o:Nat) (a0 a1 a2 a3 a4 a5 a6 a7:Value):World:=(((((((w.setCell (J g o) a0).setCell (J g (o+1)) a1).setCell (J g (o+2)) a2).setCell (J g (o+3)) a3).setCell (J g (o+4)) a4).setCell (J g (o+5)) a5).setCell (J g (o+6)) a6).setCell (J g (o+7)) a7
theorem Xo (w:World) (g o:Nat) (a0 a1 a2 a3 a4 a5 a6 a7:Value):Kept (fun i=>i=g) w (eight w g o a0 a1 a2 a3 a4 a5 a6 a7):=by
 unfold eight;have h0:Kept (fun i=>i=g) w w:=Kept.refl _ w;have h1:=h0.setCell (p:=(J g o)) rfl a0;have h2:=h1.setCell (p:=(J g (o+1))) rfl a1;have h3:=h2.setCell (p:=(J g (o+2))) rfl a2;have h4:=h3.setCell (p:=(J g (o+3))) rfl a3;have h5:=h4.setCell (p:=(J g (o+4))) rfl a4;have h6:=h5.setCell (p:=(J g (o+5))) rfl a5;have h7:=h6.setCell (p:=(J g (o+6))) rfl a6;exact h7.setCell (p:=(J g (o+7))) rfl a7
theorem RowPut.eight {w w1:World} {e:TypeId} {g o:Nat} {cs:List Value} (h:RowPut w w1 e g o 8 cs) (hl:cs.length=8) (a0 a1 a2 a3 a4 a5 a6 a7:Value):RowPut w (Go.Proofs.YtgjjhadbjmcnpaaGreatDoor.eight w1 g o a0 a1 a2 a3 a4 a5 a6 a7) e g o 8 [a0,a1,a2,a3,a4,a5,a6,a7]:=by
 obtain⟨c0,c1,c2,c3,c4,c5,c6,c7,rfl⟩:=len_8 hl;have h0:=RowPut.set h rfl (j:=0) bO a0;simp only[yJ,yQ]at h0;have h1:=RowPut.set h0 rfl (j:=1) bO a1;simp only[yZ,yQ]at h1;have h2:=RowPut.set h1 rfl (j:=2) bO a2;simp only[yZ,yQ]at h2;have h3:=RowPut.set h2 rfl (j:=3) bO a3;simp only[yZ,yQ]at h3;have h4:=RowPut.set h3 rfl (j:=4) bO a4;simp only[yZ,yQ]at h4;have h5:=RowPut.set h4 rfl (j:=5) bO a5;simp only[yZ,yQ]at h5;have h6:=RowPut.set h5 rfl (j:=6) bO a6;simp only[yZ,yQ]at h6;have h7:=RowPut.set h6 rfl (j:=7) bO a7;simp only[yZ,yQ]at h7;unfold Go.Proofs.YtgjjhadbjmcnpaaGreatDoor.eight;exact h7
end Go.Proofs.YtgjjhadbjmcnpaaGreatDoor
namespace Go.Proofs.YtgjjhadbjmcnpaaGreatDoor
open Go.RowKit Go.Shelf

section
variable {P : Program} {md : Region.Mode} {ops : Array Oper} {Q : Exit → Act → World → Prop} {S : World → Prop} {z : Nat}
inductive Deep (md:Region.Mode) (ops:Array Oper) (listed:Array Bool) (i:Nat):Nat->Prop
 | here {y:Nat} {o:Oper}:ops[y]?=some o->(∃e∈o.after,Region.binds md e=true/\e.on=i)->Deep md ops listed i y
 | over {y m:Nat} {o:Oper}:ops[y]?=some o->(∃e∈o.after,Region.binds md e=true/\e.on=m)->listed.getD m true=false->Deep md ops listed i m->Deep md ops listed i y
theorem Deep.not_ready {listed:Array Bool} {i y:Nat} (h:Deep md ops listed i y) (hi:listed.getD i true=false):y∉Region.ready md ops listed:=fun hr=>by
 obtain⟨_,o,ho,hall⟩:=mem_ready.1 hr;cases h with
 | here h1 h2=>
  rw[ho]at h1;cases h1;obtain⟨e,he,hb,hon⟩:=h2;have h1:=hall e he hb;rw[hon]at h1;rcases yq i listed.size with g|g
  ·simp[g]at hi h1;rw[hi]at h1;cases h1
  simp[Array.getElem?_eq_none g]at h1
 | @over _ m _ h1 h2 h3 _=>
  rw[ho]at h1;cases h1;obtain⟨e,he,hb,hon⟩:=h2;have h1:=hall e he hb;rw[hon]at h1;rcases yq m listed.size with g|g
  ·simp[g]at h3 h1;rw[h3]at h1;cases h1
  simp[Array.getElem?_eq_none g]at h1
theorem Deep.set {listed:Array Bool} {i y j:Nat} (h:Deep md ops listed i y) (hi:listed.getD i true=false) (hj:j∈Region.ready md ops listed):Deep md ops (listed.setIfInBounds j true) i y:=by
 induction h with
 | here h1 h2=>exact .here h1 h2
 | @over y m o h1 h2 h3 h4 ih=>
  refine .over h1 h2 ?_ ih;have hne:j≠m:=fun e=>h4.not_ready hi (e ▸ hj);rw[getD_set_ne true hne];exact h3
theorem VU {i:Nat} {oi:Oper} {v:Value} (hi:ops[i]?=some oi) (hsel:∀(j:Nat) (o:Oper) cs b,ops[j]?=some o->o.op≠.select cs b)
  (hQ:∀c a w,Q (.panic c) (a.put oi.dst v) w->Q (.panic c) a w) :
  ∀(fuel:Nat) (listed:Array Bool) (a:Act) (w:World),Deep md ops listed i z->
   (∀j oj,ops[j]?=some oj->j≠i->listed.getD j true=false->(∀e∈oj.after,Region.binds md e=true->e.on≠i)->oi.apart ops oj=true)->
   i∈Region.ready md ops listed->YieldsIf P ops S oi v a->S w->
   qZ P md ops Q S z fuel (listed.setIfInBounds i true) (a.put oi.dst v) w->qZ P md ops Q S z (fuel+1) listed a w:=by
 intro fuel
 induction fuel with
 | zero=>
  intro listed a w _ _ hr hy hS H;refine⟨fun h=>(by rw[h]at hr;cases hr),fun j hj=>?_⟩
  by_cases hji:j=i
  ·subst hji;exact hy.wpOp hi hS ⟨fun _=>hS,H⟩
  have:=ready_mono hj hji;rw[H.1]at this;cases this
 | succ fuel ih=>
  intro listed a w hD hfree hr hy hS H;have hiu:=(mem_ready.1 hr).1;refine⟨fun h=>(by rw[h]at hr;cases hr),fun j hj=>?_⟩
  by_cases hji:j=i
  ·subst hji;exact hy.wpOp hi hS ⟨fun _=>hS,H⟩
  have h1:=H.2 j (ready_mono hj hji);obtain⟨hjun,oj,hoj,hall⟩:=mem_ready.1 hj
  have hnot:∀e∈oj.after,Region.binds md e=true->e.on≠i:=fun e he hb heq=>by
   have h1:=hall e he hb;rw[heq]at h1;rcases yq i listed.size with h'|h'
   ·simp[h']at hiu h1;rw[hiu]at h1;cases h1
   simp[Array.getElem?_eq_none h']at h1
  have hjz:j≠z:=fun e=>hD.not_ready hiu (e ▸ hj);have h2:=wpOp_putIf hoj (hfree j oj hoj hji hjun hnot) (fun cs b=>hsel i oi cs b hi) (fun cs b=>hsel j oj cs b hoj) hQ hy h1
  have hfree':∀k ok,ops[k]?=some ok->k≠i->(listed.setIfInBounds j true).getD k true=false->
    (∀e∈ok.after,Region.binds md e=true->e.on≠i)->oi.apart ops ok=true:=fun k ok hk hki hun hno=>by
   refine hfree k ok hk hki ?_ hno
   by_cases hjk:j=k
   ·subst hjk;exact hjun
   rw[getD_set_ne true hjk]at hun;exact hun
  refine wpOp_mono (fun a' w' h3=>⟨fun _=>h3.2.1 hjz,ih (listed.setIfInBounds j true) a' w' (hD.set hiu hj) hfree' (ready_mono hr (Ne.symm hji)) h3.1 (h3.2.1 hjz) ?_⟩) h2;rw[Array.setIfInBounds_comm _ _ hji];exact h3.2.2
def deepB (md:Region.Mode) (ops:Array Oper) (listed:Array Bool) (i:Nat):Nat->Nat->Bool
 | 0,_=>false
 | k+1,y=>match ops[y]? with
  | none=>false
  | some o=>o.after.any fun e=>Region.binds md e&&(e.on == i || (!listed.getD e.on true&&deepB md ops listed i k e.on))
theorem Xp {listed:Array Bool} {i:Nat}:∀(k y:Nat),deepB md ops listed i k y=true->Deep md ops listed i y
 | 0,_,h=>by cases h
 | k+1,y,h=>by
  unfold deepB at h;cases ho:ops[y]? with
  | none=>rw[ho]at h;cases h
  | some o=>
   rw[ho]at h;simp only[Array.any_eq_true',Bool.and_eq_true,Bool.or_eq_true,beq_iff_eq,Bool.not_eq_true']at h;obtain⟨e,he,hb,h|⟨h1,h2⟩⟩:=h
   ·exact .here ho ⟨e,he,hb,h⟩
   exact .over ho ⟨e,he,hb,rfl⟩ h1 (Xp k _ h2)
theorem qx (i d:Nat) (v:Value) {oi:Oper} {fuel:Nat} {listed:Array Bool} {a:Act} {w:World} (hi:ops[i]?=some oi) (hd:oi.dst=some d) (hS:S w) (hy:∀w',S w'->(execOp a.eval oi).run P w' = .ok (.value v) w')
  (h:qZ P md ops Q S z fuel (listed.setIfInBounds i true) (a.put (some d) v) w) (hg:Region.wanted oi (yielded ops a.tmps)=true:=by rfl) (hw:deepB md ops listed i ops.size z=true:=by kernel_rfl)
  (hs:Region.noSelect ops=true:=by kernel_rfl) (hf:Region.free md ops listed i=true:=by kernel_rfl) (hr:(Region.ready md ops listed).contains i=true:=by kernel_rfl)
  (hQ:∀c a w,Q (.panic c) (a.put (some d) v) w->Q (.panic c) a w:=by exact fun _ _ _ h=>h):qZ P md ops Q S z (fuel+1) listed a w:=
 VU hi (Region.noSelect_spec hs) (by rw[hd];exact hQ) fuel listed a w (Xp _ _ hw) (Region.free_spec hi hf) (by simpa using hr) (xH ⟨hg,hy⟩) hS (by rw[hd];exact h)
end

structure PutAt (w w':World) (b o:Nat) (u:Value):Prop where
 kept:Kept (fun i=>i=b) w w'
 row:∀(cur:Array Value) (e:TypeId),w.heap[b]?=some (.cells cur e (0,0))->w'.heap[b]?=some (.cells (cur.setIfInBounds o u) e (0,0))
theorem PutAt.set {w w1:World} (hK:Kept (fun _=>False) w w1) (b o:Nat) (hb:b<w.heap.size) (u:Value):PutAt w (w1.setCell (J b o) u) b o u:=
 ⟨(hK.mono fun _ _ h=>h.elim:Kept (fun i=>i=b) w w1).setCell (p:=(J b o)) rfl u,fun _ _ h=>VC ((hK.block b hb (fun h=>h)).trans h) o u⟩
theorem PutAt.same {w w':World} (hK:Kept (fun _=>False) w w') {b o:Nat} {u:Value} (h:w.cell? (J b o)=some u):PutAt w w' b o u:=by
 refine⟨hK.mono fun _ _ h=>h.elim,fun cur e hc=>?_⟩;rw[hK.block b (q9 h) (fun h=>h),hc];have h2:cur[o]?=some u:=by rw[←h,cell_of_row w b o cur e (0,0) hc]
 have h3:cur.setIfInBounds o u=cur:=by
  refine Array.ext bV fun i h4 h5=>?_;rw[Array.getElem_setIfInBounds]
  split
  ·next e=>subst e;rw[Array.getElem?_eq_getElem h5]at h2;injection h2 with h2;exact h2.symm
  rfl
 rw[h3]
theorem RowPut.put1 {w w' w'':World} {e:TypeId} {g o size j:Nat} {cs:List Value} {v:Value} (h:RowPut w w' e g o size cs) (hl:cs.length=size) (hj:j<size) (p:PutAt w' w'' g (o+j) v):RowPut w w'' e g o size (cs.set j v):=by
 obtain⟨cur,cur',h1,h2,h3,h4,h5⟩:=h;refine⟨cur,cur'.setIfInBounds (o+j) v,h1,p.row _ _ h2,by simpa using h3,fun k hk=>?_,fun k hk=>?_⟩
 ·rw[Array.getElem?_setIfInBounds,List.getElem?_set]
  have hlt:o+j<cur'.size:=by
   rcases yq (o+j) cur'.size with a|a
   ·exact a
   have:=h4 j hj;rw[Array.getElem?_eq_none a,zj bO]at this;cases this
  by_cases e1:j=k
  ·subst e1;rw[zZ rfl,zZ rfl,zZ hlt,zZ bO]
  rw[zQ bO,zQ e1];exact h4 k hk
 rw[Array.getElem?_setIfInBounds,zQ bO];exact h5 k hk
theorem RowPut.at1 {w w':World} {e:TypeId} {g o size j:Nat} {cs:List Value} (h:RowPut w w' e g o size cs) (hj:j<size):w'.cell? (J g (o+j))=cs[j]?:=by
 obtain⟨cur,cur',_,h2,_,h4,_⟩:=h;rw[←h4 j hj,cell_of_row w' g _ cur' e (0,0) h2]
theorem RowPut.free1 {w w':World} {e:TypeId} {g o size:Nat} {cs:List Value} (h:RowPut w w' e g o size cs) (i:Nat):w'.frozen? (J g i)=false:=by
 obtain⟨cur,cur',_,h2,_⟩:=h;exact(blk h2).2 i
theorem RowPut.other1 {w w' w'':World} {e:TypeId} {g o size:Nat} {cs:List Value} (h:RowPut w w' e g o size cs) (h2:w''.heap[g]?=w'.heap[g]?):RowPut w w'' e g o size cs:=by
 obtain⟨cur,cur',h1,h3,h4⟩:=h;exact⟨cur,cur',h1,h2.trans h3,h4⟩

structure ToAt (A B:Nat) (p last:Int) (w:World):Prop where
 p:w.cell? (J A 0)=some (Z p)
 last:w.cell? (J B 0)=some (Z last)
theorem ToAt.other {A B:Nat} {p last:Int} {w w':World} (h:ToAt A B p last w) (h1:w'.heap[A]?=w.heap[A]?) (h2:w'.heap[B]?=w.heap[B]?):ToAt A B p last w':=
 ⟨(zN (a:=(J A 0)) h1).trans h.p,(zN (a:=(J B 0)) h2).trans h.last⟩
theorem to_any (A B:Nat) (p last r:Int) (w:World) (h:ToAt A B p last w) (hp:0<=p) (hr:I64 r) :
  Calls Tryz.prog 52 #[Z r,.pointer (some (J A 0)),.pointer (some (J B 0))] w fun e w'=>e = .returned (Z (qN p last r))/\w'=w:=by
 have c1:=h.p;have c2:=h.last;have z1:=q9 c1;have z2:=q9 c2;clear h;unfold qN
 by_cases e:r=p
 ·have e1:(r == p)=true:=by simp[e]
  rw[zZ e];clear e
  go_enter Tryz.func52,Tryz.ntmps52
  go_wp2
  go_ret
  exact⟨rfl,rfl⟩
 have e1:(r == p)=false:=by simp[e]
 rw[zQ e]
 by_cases g:p<r
 ·by_cases g2:r<=last
  ·rw[zZ ⟨g,g2⟩];clear e;have hw:IntKind.i64.wrap (r - 1)=r - 1:=by rw[xI];unfold I64 at hr;omega
   go_enter Tryz.func52,Tryz.ntmps52
   go_wp2
   go_ret
   exact⟨by simp,rfl⟩
  rw[zQ (fun h=>g2 h.2)];clear e
  go_enter Tryz.func52,Tryz.ntmps52
  go_wp2
  go_ret
  exact⟨rfl,rfl⟩
 rw[zQ (fun h=>g h.1)];clear e
 go_enter Tryz.func52,Tryz.ntmps52
 go_wp2
 go_ret
 exact⟨rfl,rfl⟩
theorem ZL (b o T A B:Nat) (p last n:Int) (rr:Bool) (w:World) (h0:w.cell? (J b o)=some (.bool rr)) (h1:w.cell? (J b (o+1))=some (Z n)) (hfr:w.frozen? (J b (o+1))=false) (hn:I64 n)
  (hT:w.cell? (J T 0)=some (.func (.func 52) #[] #[.pointer (some (J A 0)),.pointer (some (J B 0))])) (h:ToAt A B p last w) (hp:0<=p) :
  Calls Tryz.prog 78 #[.pointer (some (J b o)),.pointer (some (J T 0))] w fun e w'=>e = .returned (.tuple #[])/\PutAt w w' b (o+1) (Z (toW (qN p last) (rr,n)).2):=by
 have z0:=q9 h0;have zT:=q9 hT;cases rr
 ·go_enter Tryz.func78,Tryz.ntmps78
  go_wp2
  exact bodyPost_end (results_none rfl _ _ _) rfl ⟨rfl,.same (Kept.refl _ _) h1⟩
 have HT:=q8 h;clear h
 go_enter Tryz.func78,Tryz.ntmps78
 go_wp2
 refine qA (S:=fun W'=>W'.cell? (J b (o+1))=some (Z n)/\W'.cell? (J T 0)=some (.func (.func 52) #[] #[.pointer (some (J A 0)),.pointer (some (J B 0))])) bK 9 ?_;have hS:(fun W':World=>W'.cell? (J b (o+1))=some (Z n)/\W'.cell? (J T 0)=some (.func (.func 52) #[] #[.pointer (some (J A 0)),.pointer (some (J B 0))])) w.drew:=⟨h1,hT⟩;refine tkZ 0 7 (.pointer (some (J b o))) rfl rfl hS (fun W' hS'=>(by obtain⟨h1,h2⟩:=hS';go_simp)) ?_;refine tkZ 1 8 (.func (.func 52) #[] #[.pointer (some (J A 0)),.pointer (some (J B 0))]) rfl rfl hS (fun W' hS'=>(by obtain⟨h1,h2⟩:=hS';go_simp)) ?_;refine tkZ 2 9 (.pointer (some (J b o))) rfl rfl hS (fun W' hS'=>(by obtain⟨h1,h2⟩:=hS';go_simp)) ?_;refine tkZ 3 10 (.pointer (some (J b o))) rfl rfl hS (fun W' hS'=>(by obtain⟨h1,h2⟩:=hS';go_simp)) ?_;refine tkZ 4 11 (.pointer (some (J b (o+1)))) rfl rfl hS (fun W' hS'=>(by obtain⟨h1,h2⟩:=hS';go_simp)) ?_;refine tkZ 5 12 (Z n) rfl rfl hS (fun W' hS'=>(by obtain⟨h1,h2⟩:=hS';go_simp)) ?_;refine qm (i:=6) bK (qt 13 rfl rfl rfl (by go_simp) (to_any A B p last n w.drew (HT.out.other rfl rfl) hp hn) ?_);rintro e w' ⟨rfl,rfl⟩;refine⟨_,rfl,hS,?_⟩;refine qm (i:=7) bK (qC 14 (.pointer (some (J b o))) _ rfl rfl rfl (by go_simp) hS ?_);refine qm (i:=8) bK (qC 15 (.pointer (some (J b (o+1)))) _ rfl rfl rfl (by go_simp) hS ?_);refine qm (i:=9) bK (qz (w.drew.setCell (J b (o+1)) (Z (qN p last n))) rfl rfl rfl (by obtain⟨h1,h2⟩:=hS;go_simp) (fun h=>absurd rfl h) ?_);refine⟨by kernel_rfl,?_⟩;unfold calm;dsimp only [Act.put];exact bodyPost_end (results_none rfl _ _ _) rfl ⟨rfl,.set ((Kept.refl _ _).drew) b (o+1) z0 _⟩
end Go.Proofs.YtgjjhadbjmcnpaaGreatDoor
namespace Go.Proofs.YtgjjhadbjmcnpaaGreatDoor
open Go.RowKit

structure Ins64 (x:InsL):Prop where
 op:I64 x.op
 dst:I64 x.dst
 an:I64 x.an
 bn:I64 x.bn
 fn:I64 x.fn
def V4 (x:InsL) (v:Value):List Value:=[Z x.op,Z x.dst,.bool x.ar,Z x.an,.bool x.br,Z x.bn,Z x.fn,v]
theorem J5 {W:World} {g n c k m j bb cb:Nat} {zs:List FunL} {S:Blks} {G:Nat->InsL->InsL} {f:FunL} {lq:Nat->Option Addr} {lc:Nat->Nat} (h:SlO 38 4 FunO W (.slice (some (J g 0)) n c) (zs.set k (upI G f ((xx (qq f) m).length+j))) S) (hk:k<zs.length)
  (hm:m<f.blocks.length) (hj:j<f.blocks[m].list.length) (hsh:FunSh g k bb f.blocks.length cb lq (qq f) lc W) :
  ∃lb v Ti,lq m=some (J lb 0)/\S lb/\lb<W.heap.size/\(∀o,W.frozen? (J lb o)=false)/\(∀i,i<8->W.cell? (J lb (j*8+i))=(V4 f.blocks[m].list[j] v)[i]?)/\lb≠g/\lb≠bb/\Ins64 f.blocks[m].list[j]/\
   SlQ 44 2 16 jV W v f.blocks[m].list[j].args Ti/\¬ Ti lb/\¬ Ti bb/\¬ Ti g/\(∀b,Ti b->S b)/\(∃cur,W.heap[lb]?=some (.cells cur 51 (0,0)))/\
   ∀(W':World) (y:InsL) (v':Value) (Ti':Blks),RowPut W W' 51 lb (j*8) 8 (V4 y v')->v'.oneCell'=true->W.heap.size<=W'.heap.size->(∀b,S b->¬ Ti b->b≠lb->W'.heap[b]?=W.heap[b]?)->Ins64 y->SlQ 44 2 16 jV W' v' y.args Ti'->
    (∀b,Ti' b->(Ti b\/W.heap.size<=b)/\b<W'.heap.size)->G ((xx (qq f) m).length+j) f.blocks[m].list[j]=y->SlO 38 4 FunO W' (.slice (some (J g 0)) n c) (zs.set k (upI G f ((xx (qq f) m).length+j+1))) (fun b=>S b\/Ti' b):=by
 have hkl:k<(zs.set k (upI G f ((xx (qq f) m).length+j))).length:=by rw[List.length_set];exact hk
 obtain⟨g',c',cs',T',hv',hhg,hdW,hcl',hF',hdB,ha9,hbZ,hje,⟨cur',hcQ⟩,hcS⟩:=h.focus qK bO hkl
 have hg':g=g':=by
  injection hv' with a;injection a with a;injection a
 subst hg';rw[List.getElem_set_self]at hF';have hmu:m<(upI G f ((xx (qq f) m).length+j)).blocks.length:=by rw[Zx];exact hm
 have hju:j<((upI G f ((xx (qq f) m).length+j)).blocks[m]'hmu).list.length:=by rw[XU hm];exact hj
 obtain⟨bb',cb',lb,c2',ci,Ti,hcs',hrk,hru,heo,haQ,hI,hkf,hkv,hhh,hci,huT,hep,⟨curi,hhj⟩,hkA⟩:=hF'.ins hmu hju;rw[upI_get hm hj]at hI
 have hbb:bb=bb':=by
  have h1:=hbZ 3 bO;rw[hcs']at h1;have h2:=hsh.fn.symm.trans h1;simp at h2;exact h2.1
 subst hbb
 have hlq:lq m=some (J lb 0):=by
  have h2:=(hsh.blk m hm).symm.trans hrk;simp at h2;exact h2.1
 obtain⟨va,rfl,y1,y2,y3,y4,y5,hA⟩:=hI;have hdX:lb<W.heap.size:=(yL.1 hhj).1;have hlg:lb≠g:=fun e=>hdB (by rw[←e];exact heo);refine⟨lb,va,Ti,hlq,ha9 lb heo,hdX,hep,hci,hlg,haQ,⟨y1,y2,y3,y4,y5⟩,hA,hkf,hkv,fun h=>hdB (hhh g h),fun b hb=>ha9 b (hhh b hb),⟨curi,hhj⟩,fun W' y v' Ti' hp h1' hs hk' hy hA' hT' hG=>?_⟩;have hfi:=h.inb
 have hF2:=hkA W' _ (G ((xx (qq f) m).length+j) f.blocks[m].list[j]) Ti' hp rfl (fun v hv=>by
   unfold V4 at hv;simp only[yC,yG,yl]at hv;rcases hv with rfl|rfl|rfl|rfl|rfl|rfl|rfl|rfl
   all_goals first|rfl|exact h1') hs (fun b hb h1 h2=>hk' b (ha9 b hb) h1 h2) (by
   rw[hG]
   exact⟨v',rfl,hy.op,hy.dst,hy.an,hy.bn,hy.fn,hA'⟩) hT'
 have hgn:W'.heap[g]?=W.heap[g]?:=hk' g hdW (fun h=>hdB (hhh g h)) (fun e=>hlg e.symm)
 have hF3:=hcS W' cs' _ (fun b=>T' b\/Ti' b) (RowPut.same hcQ hgn hbZ) hcl' (fun v hv=>by
   rw[hcs']at hv;simp only[yC,yG,yl]at hv;rcases hv with rfl|rfl|rfl|rfl<;>rfl) hs (fun b hb h1 h2=>hk' b hb (fun h=>h1 (hhh b h)) (fun e=>h1 (by rw[e];exact heo))) hF2 (fun b hb=>by
   rcases hb with hb|hb
   ·exact⟨.inl hb,by have:=h.inb b (ha9 b hb);omega⟩
   exact⟨(hT' b hb).1.imp (hhh b) id,(hT' b hb).2⟩)
 rw[List.set_set,Kw hm hj]at hF3;refine hF3.grow (fun b hb=>?_) (fun b hb=>?_)
 ·rcases hb with hb|hb|hb
  ·exact .inl hb
  ·exact .inl (ha9 b hb)
  exact .inr hb
 rcases hb with hb|hb
 ·have:=h.inb b hb;omega
 exact(hT' b hb).2
theorem vals_step {wo:World} {qa:Option Addr} {ca kk:Nat} {xs:List (Bool×Int)} {u:Bool×Int->Bool×Int} {Ti:Blks} (h:SlO 44 2 jV wo (.slice qa xs.length ca) (qG kk u xs) Ti) (hlt:kk<xs.length) :
  ∃ga,qa=some (J ga 0)/\Ti ga/\wo.cell? (J ga (kk*2))=some (.bool xs[kk].1)/\wo.cell? (J ga (kk*2+1))=some (Z xs[kk].2)/\wo.frozen? (J ga (kk*2+1))=false/\I64 xs[kk].2/\
   ∀W4,PutAt wo.drew W4 ga (kk*2+1) (Z (u xs[kk]).2)->(u xs[kk]).1=xs[kk].1->I64 (u xs[kk]).2->SlO 44 2 jV W4 (.slice qa xs.length ca) (qG (kk+1) u xs) Ti/\Kept (fun b=>b=ga) wo W4:=by
 obtain⟨ga,ca2,cs,T1,hv2,hnJ,haC,hcl,hV,_,hdY,hce,hfz,⟨cur2,haa⟩,ha8⟩:=h.focus zq bO (i:=kk) (by rw[qO];exact hlt);rw[xh (by rw[qO];exact hlt) (zK _)]at hV;obtain⟨hcs,hv64⟩:=hV;subst hcs;refine⟨ga,by injection hv2,haC,hce 0 bO,hce 1 bO,hfz _,hv64,fun W4 hP h1 h2=>?_⟩;have hK4:Kept (fun b=>b=ga) wo W4:=((Kept.refl (fun b=>b=ga) wo).drew).trans hP.kept (fun _ _ h=>h);have hn4:(qG kk u xs).set kk (u xs[kk])=qG (kk+1) u xs:=qS hlt;have hR4:=((RowPut.same haa rfl hce).other1 rfl:RowPut wo wo.drew 44 ga (kk*2) 2 _).put1 (j:=1) rfl bO hP
 have hS4:=ha8 W4 _ (u xs[kk]) T1 hR4 rfl (fun u hu=>by
   simp only[yZ,yQ,yC,yG,yl]at hu
   rcases hu with rfl|rfl<;>rfl) hK4.size (fun b hb h1 h2=>hK4.block b (h.inb b hb) h2) ⟨by rw[←h1];rfl,h2⟩ (fun b hb=>⟨.inl hb,by have:=h.inb b (hdY b hb);have:=hK4.size;omega⟩)
 rw[hn4]at hS4;exact⟨hS4.grow (fun b hb=>hb.elim id (hdY b)) (fun b hb=>by have:=h.inb b hb;have:=hK4.size;omega),hK4⟩

theorem KR {wo:World} {qp:Option Addr} {cp q:Nat} {ps:List PhiL} {u:PhiL->PhiL} {S1:Blks} (h:SlO 84 2 PhiO wo (.slice qp ps.length cp) (qG q u ps) S1) (hlt:q<ps.length) :
  ∃gp qs cs Tq,qp=some (J gp 0)/\S1 gp/\wo.cell? (J gp (q*2))=some (Z ps[q].dst)/\wo.cell? (J gp (q*2+1))=some (.slice qs ps[q].src.length cs)/\I64 ps[q].dst/\(∀b,Tq b->S1 b)/\¬ Tq gp/\
   SlQ 44 2 16 jV wo (.slice qs ps[q].src.length cs) ps[q].src Tq/\RowPut wo wo 84 gp (q*2) 2 [Z ps[q].dst,.slice qs ps[q].src.length cs]/\
   ∀W' (x':PhiL),RowPut wo W' 84 gp (q*2) 2 [Z x'.dst,.slice qs ps[q].src.length cs]->wo.heap.size<=W'.heap.size->(∀b,S1 b->¬ Tq b->b≠gp->W'.heap[b]?=wo.heap[b]?)->I64 x'.dst->SlQ 44 2 16 jV W' (.slice qs ps[q].src.length cs) x'.src Tq->
    SlO 84 2 PhiO W' (.slice qp ps.length cp) ((qG q u ps).set q x') S1:=by
 obtain⟨gp,c2,cs',Tq,hv2,hgz,hTg,hcl,hV,hnT,hTS,hce,hfz,⟨cur2,haa⟩,hput⟩:=h.focus x8 bO (i:=q) (by rw[qO];exact hlt);rw[xh (by rw[qO];exact hlt) (zK _)]at hV;obtain⟨v,hcs,hd,hs⟩:=hV;subst hcs;obtain⟨qs,cs,rfl,_,_⟩:=hs.sl.val;refine⟨gp,qs,cs,Tq,by injection hv2,hTg,hce 0 bO,hce 1 bO,hd,hTS,hnT,hs,RowPut.same haa rfl hce,fun W' x' hp hz hk hd' hs'=>?_⟩
 have h1:=hput W' _ x' Tq hp rfl (fun u hu=>by
   simp only[yC,yG,yl]at hu
   rcases hu with rfl|rfl<;>rfl) hz hk ⟨_,rfl,hd',hs'⟩ (fun b hb=>⟨.inl hb,hs'.sl.inb b hb⟩)
 exact h1.grow (fun b hb=>hb.elim id (hTS b)) (fun b hb=>by have:=h.inb b hb;omega)
theorem blk_step {wo:World} {qb:Option Addr} {cb b:Nat} {bs:List BlkL} {u:BlkL->BlkL} {TB:Blks} (h:SlO 49 6 BlkO wo (.slice qb bs.length cb) (qG b u bs) TB) (hlt:b<bs.length) :
  ∃gb qp cp v2 v3 S1,qb=some (J gb 0)/\TB gb/\(∀i,S1 i->TB i)/\¬ S1 gb/\I64 bs[b].fin.onn/\SlQ 84 2 32 PhiO wo (.slice qp bs[b].phis.length cp) bs[b].phis S1/\
   RowPut wo wo 49 gb (b*6) 6 [.slice qp bs[b].phis.length cp,v2,Z bs[b].fin.kind,.bool bs[b].fin.onr,Z bs[b].fin.onn,v3]/\
   ∀W' (ps:List PhiL) (n:Int),RowPut wo W' 49 gb (b*6) 6 [.slice qp bs[b].phis.length cp,v2,Z bs[b].fin.kind,.bool bs[b].fin.onr,Z n,v3]->wo.heap.size<=W'.heap.size->(∀i,TB i->¬ S1 i->i≠gb->W'.heap[i]?=wo.heap[i]?)->I64 n->SlQ 84 2 32 PhiO W' (.slice qp bs[b].phis.length cp) ps S1->
    SlO 49 6 BlkO W' (.slice qb bs.length cb) ((qG b u bs).set b { phis:=ps,list:=bs[b].list,fin:={ bs[b].fin with onn:=n } }) TB:=by
 obtain⟨gb,c2,cs',Ty,hv2,hgz,hTg,hcl,hV,hnT,hTS,hce,hfz,⟨cur2,haa⟩,hput⟩:=h.focus qM bO (i:=b) (by rw[qO];exact hlt);rw[xh (by rw[qO];exact hlt) (zK _)]at hV;obtain⟨v1,v2,v3,S1,S2,S3,hcs,j1,j2,h3,h4,h5,a1,a2,a3,g1,g2,g3⟩:=hV;subst hcs;obtain⟨qp,cp,rfl,_,_⟩:=h3.sl.val;obtain⟨q2,e2,rfl,_,_⟩:=h4.sl.val;obtain⟨q3,e3,rfl,_,_⟩:=h5.sl.val;refine⟨gb,qp,cp,_,_,S1,by injection hv2,hTg,fun i hi=>hTS i (g1 i hi),fun h=>hnT (g1 _ h),j2,h3,RowPut.same haa rfl hce,fun W' ps n hp hz hk hn hs'=>?_⟩;have e1:∀i,Ty i->¬ S1 i->W'.heap[i]?=wo.heap[i]?:=fun i hi h1=>hk i (hTS i hi) h1 (fun e=>hnT (e ▸ hi))
 have h1:=hput W' _ { phis:=ps,list:=bs[b].list,fin:={ bs[b].fin with onn:=n } } Ty hp rfl (fun u hu=>by
   simp only[yC,yG,yl]at hu
   rcases hu with rfl|rfl|rfl|rfl|rfl|rfl<;>rfl) hz (fun i hi h1 h2=>hk i hi (fun h=>h1 (g1 i h)) h2)
  ⟨_,_,_,S1,S2,S3,rfl,j1,hn,hs',h4.loc qT (fun _ g=>g) (fun i hi=>e1 i (g2 i hi) (fun h=>a1 i h hi)) hz,h5.loc xk (fun _ g=>g) (fun i hi=>e1 i (g3 i hi) (fun h=>a2 i h hi)) hz,a1,a2,a3,g1,g2,g3⟩
  (fun i hi=>⟨.inl hi,by have:=h.inb i (hTS i hi);omega⟩)
 exact h1.grow (fun b hb=>hb.elim id (hTS b)) (fun b hb=>by have:=h.inb b hb;omega)
end Go.Proofs.YtgjjhadbjmcnpaaGreatDoor
