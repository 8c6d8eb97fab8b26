/-
  Plain: joining blocks keeps what the check asks of a function; so do all turns of tidy.Cha
-/
import Derived.Test.YtbnnhmcloecijaaGreatDoorJSsaP
import Derived.Test.YtbnnhmcloecijaaGreatDoorGcpA
namespace Go.Proofs.YtbnnhmcloecijaaGreatDoor
open Go.RowKit

structure EndC (regs:Int) (nb:Nat) (x:EndL):Prop where
 kind:1≤x.kind∧x.kind≤3
 len:(x.to.length:Int)=x.kind - 1
 «to»:∀t∈x.to,1≤t∧t<(nb:Int)
 two:x.to.Nodup
 jump:x.kind=2→x.onr=false∧x.onn=0
 on:vh regs x.onr x.onn
structure PhiC (regs:Int) (block cnt:Nat) (p:PhiL):Prop where
 blk:block≠0
 dst:0≤p.dst∧p.dst<regs
 len:p.src.length=cnt
 src:∀v∈p.src,vh regs v.1 v.2

theorem valE_iff {regs:Int} {r:Bool} {n:Int}:xP regs r n=0↔vh regs r n:=by
 refine ⟨vM,fun h=>?_⟩
 unfold xP
 rw [zQ]
 rintro ⟨h1,h2⟩
 have:=h h1
 omega
theorem endC_iff {regs:Int} {nb:Nat} {x:EndL}:Qa regs nb x.kind x.onr x.onn x.to=0↔EndC regs nb x:=by
 unfold Qa
 by_cases h1:1≤x.kind∧x.kind≤3
 rotate_left
 ·rw [zZ h1]
  exact ⟨fun g=>absurd g (by decide),fun g=>absurd g.kind h1⟩
 rw [zQ (by simpa using h1)]
 by_cases h2:(x.to.length:Int)=x.kind - 1
 rotate_left
 ·rw [zZ h2]
  exact ⟨fun g=>absurd g (by decide),fun g=>absurd g.len h2⟩
 rw [zQ (by simpa using h2)]
 by_cases h3:∀t∈x.to,1≤t∧t<(nb:Int)
 ·rw [zQ (by
   simp only [List.any_eq_true,Bool.not_eq_true',not_exists,not_and,Bool.not_eq_false,xT,yY]
   intro t ht
   have:=h3 t ht
   omega)]
  have h4:(x.kind=3∧x.to.getD 0 0=x.to.getD 1 0)↔¬ x.to.Nodup:=by
   rcases hx:x.to with _|⟨a,_|⟨b,_|⟨c,l⟩⟩⟩
   ·simp [hx] at h2 ⊢;omega
   ·simp [hx] at h2 ⊢;omega
   ·simp [hx] at h2 ⊢;omega
   simp [hx] at h2;omega
  by_cases h5:x.to.Nodup
  ·by_cases h6:x.kind=2→x.onr=false∧x.onn=0
   ·rw [zQ (fun g=>g.elim (fun g=>h4.1 g h5) fun g=>g.2 (h6 g.1)),valE_iff]
    exact ⟨fun g=>⟨h1,h2,h3,h5,h6,g⟩,fun g=>g.on⟩
   rw [zZ (.inr (by simpa using h6))]
   exact ⟨fun g=>absurd g (by decide),fun g=>absurd g.jump h6⟩
  rw [zZ (.inl (h4.2 h5))]
  exact ⟨fun g=>absurd g (by decide),fun g=>absurd g.two h5⟩
 rw [zZ (by
  refine xF fun g=>h3 fun t ht=>?_
  simp only [List.any_eq_true,Bool.not_eq_true',not_exists,not_and,Bool.not_eq_false,xT,yY] at g
  have:=g t ht
  omega)]
 exact ⟨fun g=>absurd g (by decide),fun g=>absurd g.to h3⟩
theorem Z3 {l:List Int}:qD l=0↔∀x∈l,x=0:=⟨zm,x7⟩
theorem phiC_iff {regs:Int} {block cnt:Nat} {p:PhiL}:XC regs block cnt p.dst p.src=0↔PhiC regs block cnt p:=by
 unfold XC
 by_cases h1:block=0
 ·rw [zZ h1]
  exact ⟨fun g=>absurd g (by decide),fun g=>absurd h1 g.blk⟩
 rw [zQ h1]
 have h2:ko regs p.dst=0↔0≤p.dst∧p.dst<regs:=by
  unfold ko
  split
  ·exact ⟨fun _=>by omega,fun _=>rfl⟩
  exact ⟨fun g=>absurd g (by decide),fun g=>by omega⟩
 by_cases h3:ko regs p.dst=0
 ·rw [zQ (by simpa using h3)]
  by_cases h4:p.src.length=cnt
  ·rw [zQ (by simpa using h4)]
   unfold valsE
   rw [Z3]
   exact ⟨fun g=>⟨h1,h2.1 h3,h4,fun v hv=>valE_iff.1 (g _ (yD.2 ⟨v,hv,rfl⟩))⟩,fun g y hy=>by
    obtain ⟨v,hv,rfl⟩:=yD.1 hy
    exact valE_iff.2 (g.src v hv)⟩
  rw [zZ h4]
  exact ⟨fun g=>absurd g (by decide),fun g=>absurd g.len h4⟩
 rw [zZ h3]
 exact ⟨fun g=>absurd g h3,fun g=>absurd (h2.2 g.dst) h3⟩

structure FunC (nf:Nat) (P:Nat→Int) (f:FunL):Prop where
 n1:0<f.blocks.length
 n40:f.blocks.length≤40
 par:0≤f.params∧f.params≤6
 reg:f.params≤f.regs∧f.regs≤100
 many:j6 f≤300
 fin:∀b (h:b<f.blocks.length),EndC f.regs f.blocks.length f.blocks[b].fin
 phi:∀b (h:b<f.blocks.length),∀p∈f.blocks[b].phis,PhiC f.regs b (insN f b).length p
 ins:∀b (h:b<f.blocks.length),∀x∈f.blocks[b].list,vS f.regs nf P x.op x.dst x.an x.bn x.fn x.ar x.br x.args=0
theorem FunC.funD {nf:Nat} {P:Nat→Int} {f:FunL} (h:FunC nf P f):FunD f:=by
 refine ⟨⟨h.n1,h.n40,fun k hk=>?_,fun k hk=>(h.fin k hk).to⟩,fun k hk=>(h.fin k hk).two⟩
 have h1:=(h.fin k hk).len
 have h2:=(h.fin k hk).kind
 omega

theorem Kt (g:Nat→Nat):∀(n:Nat) (o:List Nat),o.Nodup→(∀x∈o,x<n)→(o.map g).sum≤((List.range n).map g).sum
 | 0,o,_,h=>by
  cases o with
  | nil=>simp
  | cons x l=>have:=h x yg;omega
 | n+1,o,hd,h=>by
  rw [yt,yW,List.sum_append]
  by_cases hn:n∈o
  ·have h1:=Kt g n (o.erase n) (hd.erase n) (fun x hx=>by
    have h2:=hd.mem_erase_iff.1 hx
    have:=h x h2.2
    have:=h2.1
    omega)
   have h2:=((List.perm_cons_erase hn).map g).sum_nat
   rw [h2]
   simp only [yS,List.sum_cons,yw,List.sum_nil]
   omega
  have h1:=Kt g n o hd (fun x hx=>by
   have:=h x hx
   have:x≠n:=fun e=>hn (e ▸ hx)
   omega)
  omega
theorem k7 (f:FunL):j6 f=((List.range f.blocks.length).map fun b=>(atF f b).phis.length+(atF f b).list.length).sum:=by
 unfold j6
 congr 1
 refine yV (by simp) fun i h1 h2=>?_
 simp only [xE,List.getElem_range]
 rw [qC (by simpa using h1)]
theorem many_keep {f:FunL} {o:List Nat} (h:OrdC f o):j6 (qX o f)≤j6 f:=by
 have h1:=Kt (fun b=>(atF f b).phis.length+(atF f b).list.length) f.blocks.length o h.once h.inb
 rw [←k7] at h1
 refine yv (Nat.le_of_eq ?_) h1
 unfold j6 qX
 rw [yy]
 congr 1
 exact ya fun b _=>by simp [mL]

theorem FunC.keep {nf:Nat} {P:Nat→Int} {f:FunL} (h:FunC nf P f) {o:List Nat} (ho:OrdC f o):FunC nf P (qX o f):=by
 have hd:=h.funD
 have hk:=hd.keep ho
 have hin:∀b (hb:b<(qX o f).blocks.length),∃hb':b<o.length,∃hx:o[b]<f.blocks.length,(qX o f).blocks[b]=mL (qF o) (insN f o[b]) f.blocks[o[b]]:=fun b hb=>by
  rw [zS] at hb
  have hx:=ho.inb _ (zP hb)
  exact ⟨hb,hx,by rw [X5 o f hb,qC hx]⟩
 refine ⟨hk.n1,hk.n40,h.par,h.reg,yv (many_keep ho) h.many,fun b hb=>?_,fun b hb p hp=>?_,fun b hb x hx=>?_⟩
 ·obtain ⟨h1,h2,h3⟩:=hin b hb
  have hf:=h.fin _ h2
  have hl:(qX o f).blocks[b].fin.to.length=f.blocks[o[b]].fin.to.length:=by rw [h3];simp [mL,endK]
  refine ⟨by rw [h3];exact hf.kind,?_,hk.tos b hb,hk.once b hb,by rw [h3];exact hf.jump,by rw [h3];exact hf.on⟩
  rw [hl,h3]
  exact hf.len
 ·obtain ⟨h1,h2,h3⟩:=hin b hb
  rw [h3] at hp
  obtain ⟨q,hq,rfl⟩:=yD.1 hp
  have hc:=h.phi _ h2 q hq
  have hmem:o[b]∈o:=zP h1
  have e:=Vp hd ho hmem (xK (insN f o[b]) q.src)
  rw [←fromR_row (hd.insD _) hc.len,ho.once.idxOf_getElem b h1] at e
  refine ⟨fun e0=>hc.blk ?_,hc.dst,?_,fun v hv=>?_⟩
  ·subst e0
   obtain ⟨l,hl⟩:=ho.root
   subst hl
   rfl
  ·show (srcK _ _ _).length=_
   rw [e,yT]
  have hv:v∈srcK (qF o) (insN f o[b]) q.src:=hv
  rw [e] at hv
  obtain ⟨j,hj,rfl⟩:=yD.1 hv
  have hj2:j∈insN (qX o f) (o.idxOf o[b]):=by rw [ho.once.idxOf_getElem b h1];exact hj
  obtain ⟨g1,g2⟩:=(ZB hd ho hmem).1 hj2
  obtain ⟨k1,k2⟩:=j3 g2
  refine hc.src _ ?_
  unfold xK
  have e2:o.getD j 0=o[j]:=by simp [g1]
  have hlt:(insN f o[b]).idxOf o[j]<q.src.length:=by rw [hc.len];exact k1
  rw [e2,yO,zj hlt]
  exact zP _
 obtain ⟨h1,h2,h3⟩:=hin b hb
 rw [h3] at hx
 exact h.ins _ h2 x hx

def atK (o:List Nat) (k j:Nat):Int:=if j∈o.take k then (o.idxOf j:Int) else -1
theorem atK_zero (o:List Nat) (j:Nat):atK o 0 j = -1:=by simp [atK]
theorem atK_full (o:List Nat) (j:Nat):atK o o.length j=qF o j:=by unfold atK qF;rw [yP]
theorem atK_succ {o:List Nat} (h:o.Nodup) {k:Nat} (hk:k<o.length) (j:Nat):atK o (k+1) j=if j=o[k] then (k:Int) else atK o k j:=by
 unfold atK
 have e0:j∈o.take (k+1)↔j∈o.take k∨j=o[k]:=by
  rw [yA hk,yH,yI]
 by_cases e:j=o[k]
 ·rw [zZ e,zZ (e0.2 (.inr e)),e,h.idxOf_getElem k hk]
 rw [zQ e]
 by_cases g:j∈o.take k
 ·rw [zZ g,zZ (e0.2 (.inl g))]
 rw [zQ g,zQ fun x=>(e0.1 x).elim g e]

def zM {α:Type} (j:Nat) (u:α→α) (xs:List α):List α:=xs.mapIdx fun i x=>if i<j then u x else x
theorem xM {α:Type} (j:Nat) (u:α→α) (xs:List α):(zM j u xs).length=xs.length:=by simp [zM]
theorem xN {α:Type} (u:α→α) (xs:List α):zM 0 u xs=xs:=by
 refine yV (xM _ _ _) fun i h1 h2=>?_
 simp [zM]
theorem xn {α:Type} (u:α→α) (xs:List α):zM xs.length u xs=xs.map u:=by
 refine yV (by simp [zM]) fun i h1 h2=>?_
 have h3:i<xs.length:=by simpa using h2
 simp [zM,h3]
theorem jm {α:Type} {j i:Nat} {u:α→α} {xs:List α} (hi:i<(zM j u xs).length) (h:j≤i):(zM j u xs)[i]=xs[i]'(by rw [←xM j u xs];exact hi):=by
 have h3:¬ i<j:=by omega
 simp [zM,h3]
theorem x9 {α:Type} {j:Nat} {u:α→α} {xs:List α} (h:j<xs.length):(zM j u xs).set j (u xs[j])=zM (j+1) u xs:=by
 refine yV (by simp [zM]) fun i h1 h2=>?_
 rw [y8]
 split
 ·next e=>subst e;simp [zM]
 next e=>
 simp only [zM,List.getElem_mapIdx]
 by_cases g:i<j
 ·rw [zZ g,zZ (by omega)]
 rw [zQ g,zQ (by omega)]

def AheadIn (W:World) (lo T:Nat) (f:FunL):Prop:=(lo≤T∧T<W.heap.size)∧∀c,c<f.blocks.length→∃q qc,W.cell? ⟨T,c,none⟩=some (.slice q (insN f c).length qc)∧∀j (h:j<(insN f c).length),∃b,q=some ⟨b,0,none⟩∧(lo≤b∧b<W.heap.size)∧W.cell? ⟨b,j,none⟩=some (.int .i64 ((insN f c)[j]:Nat))
theorem AheadIn.of {f:FunL} {W:World} {B T:Nat} {tf:Nat→Value} (h:Rows2 W B T f.blocks.length 41 3 (qQ (Qh f) f.blocks.length) tf):AheadIn W T T f:=by
 refine ⟨⟨zK _,h.tab.lt⟩,fun c hc=>?_⟩
 have h1:=h.row c hc
 have h2:=h.tab.cell hc
 obtain ⟨q,qc,hq⟩:=xW h1
 refine ⟨q,qc,by rw [h2,hq];rfl,fun j hj=>?_⟩
 rw [hq] at h1
 obtain ⟨b,e1,e2,e3,e4⟩:=jO h1 hj
 refine ⟨b,e1,⟨by have:=h.low;omega,e3⟩,?_⟩
 rw [e4]
 have hj2:j<(qU (qQ (Qh f) f.blocks.length) c).length:=hj
 simp [hj2]
 rfl
theorem AheadIn.kept {U:Blks} {W W':World} {lo T:Nat} {f:FunL} (h:AheadIn W lo T f) (hk:Kept U W W') (hU:∀g,U g→g<lo∨W.heap.size≤g):AheadIn W' lo T f:=by
 obtain ⟨⟨h1,h2⟩,h3⟩:=h
 refine ⟨⟨h1,xB h2 hk.size⟩,fun c hc=>?_⟩
 obtain ⟨q,qc,e,r⟩:=h3 c hc
 refine ⟨q,qc,(hk.cell (p:=⟨T,c,none⟩) h2 (fun hu=>by have:=hU T hu;omega)).trans e,fun j hj=>?_⟩
 obtain ⟨b,e1,⟨e2,e3⟩,e4⟩:=r j hj
 exact ⟨b,e1,⟨e2,xB e3 hk.size⟩,(hk.cell (p:=⟨b,j,none⟩) e3 (fun hu=>by have:=hU b hu;omega)).trans e4⟩
def phiK (at_:Nat→Int) (ah:List Nat) (p:PhiL):PhiL:={ p with src:=srcK at_ ah p.src }
def rowM (at_:Nat→Int) (ah:List Nat) (src:List (Bool×Int)) (m:Nat):List FrmL:=Yf at_ (ah.take m) (src.take m)
theorem rowM_full {at_:Nat→Int} {ah:List Nat} {src:List (Bool×Int)} (h:src.length=ah.length):rowM at_ ah src src.length=Yf at_ ah src:=by
 unfold rowM
 rw [yP,List.take_of_length_le (by omega)]
theorem rowM_succ {at_:Nat→Int} {ah:List Nat} {src:List (Bool×Int)} {m:Nat} (h1:m<ah.length) (h2:m<src.length):rowM at_ ah src (m+1)=rowM at_ ah src m++(if 0≤at_ ah[m] then [(at_ ah[m],src[m])] else []):=by
 unfold rowM Yf
 rw [yA h1,yA h2,List.zip_append (by simp;omega),yW,List.filter_append]
 congr 1
 by_cases h:0≤at_ ah[m]<;>simp [h]
theorem rowM_len (at_:Nat→Int) (ah:List Nat) (src:List (Bool×Int)) (m:Nat):(rowM at_ ah src m).length≤m:=by
 unfold rowM Yf
 refine yv (List.length_filter_le _ _) ?_
 simp
 omega
theorem rowK_keys {o:List Nat} (_ho:o.Nodup) {ah:List Nat} (ha:ah.Nodup) {src:List (Bool×Int)} (h:src.length=ah.length):((Yf (qF o) ah src).map (·.1)).Nodup:=by
 rw [fromR_row ha h,Yj,yy]
 show ((ah.filter fun a=>decide (a∈o)).map fun a=>((o.idxOf a:Int))).Nodup
 have h1:(ah.filter fun a=>decide (a∈o)).Nodup:=ha.filter _
 unfold List.Nodup at h1 ⊢
 rw [List.pairwise_map]
 refine h1.imp_of_mem fun {a b} ma mb hne e=>hne ?_
 have xa:a∈o:=by simpa using (yu.1 ma).2
 have xb:b∈o:=by simpa using (yu.1 mb).2
 exact Z0 xa xb (Int.ofNat.inj e)
theorem sortK_of {l m:List FrmL} (hp:m.Perm l) (hs:m.Pairwise fun a b=>a.1≤b.1) (hd:(l.map (·.1)).Nodup):sortK l=m:=by
 refine Yi hp.symm ?_
 have hd2:(m.map (·.1)).Nodup:=(hp.map (·.1)).nodup_iff.2 hd
 unfold List.Nodup at hd2
 rw [List.pairwise_map] at hd2
 exact (hs.and hd2).imp fun {a b} h=>by
  have h1:=h.1
  have h2:=h.2
  simp only [ne_eq] at h2
  omega
theorem RowPut.of_block {w w1 w2:World} {e:TypeId} {g o size:Nat} {cs:List Value} (h:RowPut w w1 e g o size cs) (h2:w2.heap[g]?=w1.heap[g]?):RowPut w w2 e g o size cs:=by
 obtain ⟨c,c',a,b,r⟩:=h
 exact ⟨c,c',a,h2.trans b,r⟩
theorem RowPut.cell {w w1:World} {e:TypeId} {g o size j:Nat} {cs:List Value} (h:RowPut w w1 e g o size cs) (hj:j<size):w1.cell? ⟨g,o+j,none⟩=cs[j]?∧w1.frozen? ⟨g,o+j,none⟩=false∧g<w1.heap.size:=by
 obtain ⟨c,c',a,b,_,r,_⟩:=h
 exact ⟨(cell_of_row w1 g _ c' e (0,0) b).trans (r j hj),(blk b).2 _,(yL.1 b).1⟩
theorem infoFrmC:(Tryz.prog.info? 171).map (fun i=>(i.zero,i.size,i.bytes))=some (some (.agg #[.int .i64 0,.bool false,.int .i64 0]),3,24):=by kernel_rfl

theorem XS {l m:List Nat} (hl:l.Pairwise (·<·)) (hm:m.Pairwise (·<·)) (h:∀a,a∈l↔a∈m):l=m:=by
 have nd:∀{l:List Nat},l.Pairwise (·<·)→l.Nodup:=fun h=>h.imp fun h=>by omega
 exact List.Perm.eq_of_pairwise (le:=fun a b=>a<b) (fun a b _ _ h1 h2=>by omega) hl hm ((List.perm_ext_iff_of_nodup (nd hl) (nd hm)).2 h)
theorem Vs (b:Nat):∀{l:List Nat},l.Pairwise (·<·)→l.take (l.filter fun a=>decide (a<b)).length=l.filter (fun a=>decide (a<b))∧l.drop (l.filter fun a=>decide (a<b)).length=l.filter fun a=>decide (b≤a)
 | [],_=>by simp
 | x::l,h=>by
  obtain ⟨h1,h2⟩:=List.pairwise_cons.1 h
  by_cases hx:x<b
  ·obtain ⟨i1,i2⟩:=Vs b h2
   rw [List.filter_cons,zZ (by simpa using hx),List.filter_cons,zQ (by simp;omega)]
   simp only [yi,List.take_succ_cons,List.drop_succ_cons]
   exact ⟨by rw [i1],i2⟩
  have e:l.filter (fun a=>decide (a<b))=[]:=by
   rw [List.filter_eq_nil_iff]
   intro a ha
   have:=h1 a ha
   simp
   omega
  rw [List.filter_cons,zQ (by simpa using hx),e,List.filter_cons,zZ (by simp;omega)]
  simp only [List.length_nil,List.take_zero,List.drop_zero,true_and,List.cons.injEq]
  refine (List.filter_eq_self.2 fun a ha=>?_).symm
  have:=h1 a ha
  simp
  omega
theorem ms {b:Nat} {l:List Nat} (h:l.Pairwise (·<·)) (hb:b∉l):(l.take (l.filter fun a=>decide (a<b)).length++b::l.drop (l.filter fun a=>decide (a<b)).length).Pairwise (·<·):=by
 obtain ⟨h1,h2⟩:=Vs b h
 rw [h1,h2]
 refine List.pairwise_append.2 ⟨h.filter _,List.pairwise_cons.2 ⟨fun a ha=>?_,h.filter _⟩,fun a ha c hc=>?_⟩
 ·obtain ⟨g1,g2⟩:=yu.1 ha
  have:b≤a:=by simpa using g2
  have:a≠b:=fun e=>hb (e ▸ g1)
  omega
 have g1:a<b:=by simpa using (yu.1 ha).2
 rcases yC.1 hc with rfl|hc
 ·exact g1
 have:b≤c:=by simpa using (yu.1 hc).2
 omega
theorem X9 {α β:Type} (g:α→β):∀(l:List α) (i:Nat),(l.map g).eraseIdx i=(l.eraseIdx i).map g
 | [],_=>rfl
 | _::_,0=>rfl
 | x::l,i+1=>by simp [List.eraseIdx,X9 g l i]
theorem Xa {t:Nat} {l:List Nat} (hd:l.Nodup):l.eraseIdx (l.idxOf t)=l.filter fun a=>decide (a≠t):=by
 rw [←List.erase_eq_eraseIdx_of_idxOf (a:=t) (i:=l.idxOf t) (l:=l) rfl,hd.erase_eq_filter]
 exact List.filter_congr fun a _=>by simp [bne];rfl

theorem moveR_eq {ah am:List Nat} {old now:Nat} (hs:ah.Pairwise (·<·)) (hm:am.Pairwise (·<·)) (ho:old∈ah) (hn:now∉ah) (h:∀a,a∈am↔a=now∨(a≠old∧a∈ah)) (g:Nat→Bool×Int) :
  QX ah old now (ah.map g)=am.map fun a=>g (if a=now then old else a):=by
 have hd:ah.Nodup:=hs.imp fun h=>by omega
 obtain ⟨L,hL⟩:∃L,L=ah.filter fun a=>decide (a≠old):=⟨_,rfl⟩
 have hLs:L.Pairwise (·<·):=by rw [hL];exact hs.filter _
 have hnL:now∉L:=fun e=>hn (by rw [hL] at e;exact (yu.1 e).1)
 have e1:(ah.map g).eraseIdx (ah.idxOf old)=L.map g:=by rw [X9,Xa hd,hL]
 have e2:Vm ah old now=(L.filter fun a=>decide (a<now)).length:=by
  unfold Vm
  rw [hL,List.filter_filter]
  congr 1
  exact List.filter_congr fun a _=>by simp
 have e3:(ah.map g).getD (ah.idxOf old) (false,0)=g old:=kB g ho
 have e4:am=L.take (L.filter fun a=>decide (a<now)).length++now::L.drop (L.filter fun a=>decide (a<now)).length:=by
  refine XS hm (ms hLs hnL) fun a=>?_
  rw [h,yH,yC]
  have:a∈L↔a∈L.take (L.filter fun a=>decide (a<now)).length∨a∈L.drop (L.filter fun a=>decide (a<now)).length:=by
   rw [←yH,List.take_append_drop]
  have h2:a∈L↔a≠old∧a∈ah:=by rw [hL,yu];simp [and_comm]
  rw [←h2,this]
  constructor
  ·rintro (g|g|g)
   ·exact .inr (.inl g)
   ·exact .inl g
   exact .inr (.inr g)
  rintro (g|g|g)
  ·exact .inr (.inl g)
  ·exact .inl g
  exact .inr (.inr g)
 have e5:∀a∈L,g (if a=now then old else a)=g a:=fun a ha=>by rw [zQ fun (e:a=now)=>hnL (e ▸ ha)]
 unfold QX
 rw [e1,e2,e3,e4,yW,yS,zZ rfl,←List.map_take,←List.map_drop]
 congr 1
 ·exact ya fun a ha=>(e5 a (List.mem_of_mem_take ha)).symm
 congr 1
 exact ya fun a ha=>(e5 a (List.mem_of_mem_drop ha)).symm
/-! ## joining -/

structure MayJ (f:FunL) (b t:Nat):Prop where
 hb:b<f.blocks.length
 ht:t<f.blocks.length
 «to»:tosB f.blocks b=[(t:Int)]
 ne:t≠b
 phi:f.blocks[t].phis=[]
 one:insN f t=[b]
theorem mayJ {nf:Nat} {P:Nat→Int} {f:FunL} (h:FunC nf P f) {b t:Nat} (hb:b<f.blocks.length) (hm:Xy f b=some t):MayJ f b t:=by
 unfold Xy at hm
 dsimp only at hm
 split at hm
 ·rename_i hc
  injection hm with hm
  obtain ⟨hk,hc⟩:=hc
  rw [qC hb] at hk hm hc
  have he:=h.fin b hb
  have hl:(f.blocks[b].fin.to).length=1:=by have:=he.len;omega
  obtain ⟨x,hx⟩:∃x,f.blocks[b].fin.to=[x]:=by
   rcases e:f.blocks[b].fin.to with _|⟨x,_|⟨y,l⟩⟩
   ·simp [e] at hl
   ·exact ⟨x,rfl⟩
   simp [e] at hl
  have hx1:=he.to x (by rw [hx];simp)
  rw [hx] at hm hc
  have hm:x.toNat=t:=hm
  have hxt:x=(t:Int):=by omega
  have ht:t<f.blocks.length:=by omega
  have hc:¬(x.toNat=b∨0<(atF f x.toNat).phis.length∨1<(insN f x.toNat).length):=hc
  rw [hm,qC ht] at hc
  have hto:tosB f.blocks b=[(t:Int)]:=by rw [qM hb,hx,hxt]
  have hbt:b∈insN f t:=h.funD.mem.2 ⟨hb,by rw [hto];simp⟩
  refine ⟨hb,ht,hto,fun e=>hc (.inl e),?_,?_⟩
  ·exact List.eq_nil_of_length_eq_zero (by omega)
  rcases e:insN f t with _|⟨y,_|⟨z,l⟩⟩
  ·rw [e] at hbt;cases hbt
  ·rw [e] at hbt;rw [yI.1 hbt]
  exfalso;rw [e] at hc;simp at hc
 cases hm

def Vt (f:FunL) (b t i:Nat):List PhiL:=(atF f i).phis.map fun p=>if (i:Int)∈(atF f t).fin.to then { p with src:=QX (insN f i) t b p.src } else p
theorem kU (f:FunL) (b t:Nat):(qR f t b).blocks.length=f.blocks.length:=by simp [qR]
theorem kF {f:FunL} {b t i:Nat} (hi:i<f.blocks.length):atF (qR f t b) i={ phis:=Vt f b t i,list:=(atF f i).list,fin:=(atF f i).fin }:=by
 have e0:atF (qR f t b) i=(fun (i:Nat) (x:BlkL)=>if (i:Int)∈(atF f t).fin.to then { x with phis:=x.phis.map fun p=>{ p with src:=QX (insN f i) t b p.src } } else x) i f.blocks[i]:=by
  show (f.blocks.mapIdx _).getD i QG=_
  rw [yO,List.getElem?_mapIdx,zj hi]
  rfl
 rw [e0]
 unfold Vt
 rw [qC hi]
 by_cases h:(i:Int)∈(atF f t).fin.to
 ·simp only [h,if_true]
 simp only [h,if_false]
 have e:(f.blocks[i].phis.map fun p=>p)=f.blocks[i].phis:=List.map_id' _
 rw [e]
theorem qJ (f:FunL) (b t:Nat):(xg f b t).blocks.length=f.blocks.length:=by simp [xg,kU]
theorem jK {f:FunL} {b t i:Nat} (hi:i<f.blocks.length) (hb:b<f.blocks.length) (ht:t<f.blocks.length):atF (xg f b t) i=if i=t then QG else { phis:=Vt f b t i,list:=if i=b then (atF f b).list++(atF f t).list else (atF f i).list,fin:=if i=b then (atF f t).fin else (atF f i).fin }:=by
 have hlt:i<(qR f t b).blocks.length:=by rw [kU];exact hi
 show (((qR f t b).blocks.set b _).set t QG).getD i QG=_
 rw [yO,List.getElem?_set,List.getElem?_set,List.length_set,kU]
 by_cases e:i=t
 ·rw [zZ e.symm,zZ e,zZ ht];rfl
 rw [zQ (fun g=>e g.symm),zQ e]
 by_cases e2:i=b
 ·subst e2
  rw [zZ rfl,zZ hb]
  simp only [if_true,kF hb,kF ht,Option.getD_some]
 rw [zQ (fun g=>e2 g.symm)]
 simp only [zQ e2]
 rw [←kF (b:=b) (t:=t) hi]
 unfold atF
 rw [yO]
theorem k8 (f:FunL) {i:Nat}:i<f.blocks.length→tosB f.blocks i=(atF f i).fin.to:=fun h=>by rw [qM h,qC h]
theorem Jv {f:FunL} {b t:Nat} (h:MayJ f b t) {i:Nat} (hi:i<f.blocks.length):tosB (xg f b t).blocks i=if i=t then [] else if i=b then tosB f.blocks t else tosB f.blocks i:=by
 rw [k8 _ (by rw [qJ];exact hi),jK hi h.hb h.ht]
 by_cases e:i=t
 ·rw [zZ e,zZ e];rfl
 rw [zQ e,zQ e]
 by_cases e2:i=b
 ·simp only [zZ e2]
  rw [k8 f h.ht]
 simp only [zQ e2]
 rw [k8 f hi]

theorem FunD.join {f:FunL} (hf:FunD f) {b t:Nat} (h:MayJ f b t):FunD (xg f b t):=by
 have key:∀k,k<f.blocks.length→(tosB (xg f b t).blocks k).length≤2∧(∀x∈tosB (xg f b t).blocks k,1≤x∧x<(f.blocks.length:Int))∧(tosB (xg f b t).blocks k).Nodup:=fun k hk=>by
  have base:∀k,k<f.blocks.length→(tosB f.blocks k).length≤2∧(∀x∈tosB f.blocks k,1≤x∧x<(f.blocks.length:Int))∧(tosB f.blocks k).Nodup:=fun k hk=>by
   rw [qM hk]
   exact ⟨hf.two k hk,hf.tos k hk,hf.once k hk⟩
  rw [Jv h hk]
  split
  ·simp
  split
  ·exact base t h.ht
  exact base k hk
 refine ⟨⟨by rw [qJ];exact hf.n1,by rw [qJ];exact hf.n40,fun k hk=>?_,fun k hk=>?_⟩,fun k hk=>?_⟩
 ·rw [←qM hk];exact (key k (by rw [←qJ f b t];exact hk)).1
 ·rw [←qM hk,qJ];exact (key k (by rw [←qJ f b t];exact hk)).2.1
 rw [←qM hk];exact (key k (by rw [←qJ f b t];exact hk)).2.2

theorem ZD {f:FunL} (hf:FunD f) {b t:Nat} (h:MayJ f b t) {i a:Nat} (hi:i≠t):a∈insN (xg f b t) i↔if (i:Int)∈tosB f.blocks t then a=b∨(a≠t∧a∈insN f i) else a∈insN f i:=by
 have hbi:b∉insN f i:=fun g=>by
  have:=(hf.mem.1 g).2
  rw [h.to,yI] at this
  omega
 have hti:t∈insN f i↔(i:Int)∈tosB f.blocks t:=by rw [hf.mem];exact ⟨fun g=>g.2,fun g=>⟨h.ht,g⟩⟩
 rw [(hf.join h).mem,qJ]
 have hm:∀a,a∈insN f i↔a<f.blocks.length∧(i:Int)∈tosB f.blocks a:=fun a=>hf.mem
 by_cases ha:a<f.blocks.length
 ·rw [Jv h ha]
  by_cases e1:a=t
  ·subst e1
   rw [zZ rfl]
   split
   ·have:=h.ne;simp [this]
   rename_i g
   rw [hti]
   simp [g]
  rw [zQ e1]
  by_cases e2:a=b
  ·subst e2
   rw [zZ rfl]
   split
   ·rename_i g;simp [ha,g]
   rename_i g;simp [g,hbi]
  rw [zQ e2,←hm]
  split<;>simp [e1,e2]
 have:a∉insN f i:=fun g=>ha ((hm a).1 g).1
 have hab:a≠b:=fun e=>ha (e ▸ h.hb)
 split<;>simp [ha,this,hab]
theorem Yn {f:FunL} (hf:FunD f) {b t:Nat} (h:MayJ f b t) {i:Nat} (hi:i≠t) {src:List (Bool×Int)} (hl:src.length=(insN f i).length) :
  (if (i:Int)∈tosB f.blocks t then QX (insN f i) t b src else src)=(insN (xg f b t) i).map fun a=>xK (insN f i) src (if (i:Int)∈tosB f.blocks t∧a=b then t else a):=by
 have hj:=hf.join h
 by_cases hc:(i:Int)∈tosB f.blocks t
 ·rw [zZ hc]
  have e:=fromR_row (hf.insD i) hl
  have hti:t∈insN f i:=hf.mem.2 ⟨h.ht,hc⟩
  have hbi:b∉insN f i:=fun g=>by
   have:=(hf.mem.1 g).2
   rw [h.to,yI] at this
   omega
  have e2:=moveR_eq (xm hf i) (xm hj i) hti hbi (fun a=>by rw [ZD hf h hi,zZ hc]) (xK (insN f i) src)
  rw [←e] at e2
  rw [e2]
  refine ya fun a _=>?_
  by_cases ea:a=b<;>simp [ea,hc]
 rw [zQ hc]
 have e3:insN (xg f b t) i=insN f i:=XS (xm hj i) (xm hf i) fun a=>by rw [ZD hf h hi,zQ hc]
 rw [e3]
 have e:=fromR_row (hf.insD i) hl
 refine e.trans (ya fun a _=>?_)
 simp [hc]

def Ku:ElemO (Value×BlkL):=fun w cs x S=>∃v1 v3 S1 S3,cs=[v1,x.1,.int .i64 x.2.fin.kind,.bool x.2.fin.onr,.int .i64 x.2.fin.onn,v3]∧(∃p l c,x.1 = .slice p l c)∧I64 x.2.fin.kind∧I64 x.2.fin.onn∧
 SlQ 88 2 32 PhiO w v1 x.2.phis S1∧SlQ 3 1 8 VZ w v3 x.2.fin.to S3∧Apart S1 S3∧(∀k,S1 k→S k)∧∀k,S3 k→S k
theorem vy:Qc Ku:=fun w w' cs x S h hk hs=>by
 obtain ⟨v1,v3,S1,S3,h0,hv,h1,h2,h3,h5,a2,g1,g3⟩:=h
 exact ⟨v1,v3,S1,S3,h0,hv,h1,h2,h3.loc xR g1 hk hs,h5.loc xr g3 hk hs,a2,g1,g3⟩
def kf (V:Nat→Value) (bs:List BlkL):List (Value×BlkL):=bs.mapIdx fun i x=>(V i,x)
theorem xS (V:Nat→Value) (bs:List BlkL):(kf V bs).length=bs.length:=by simp [kf]
theorem j8 {V:Nat→Value} {bs:List BlkL} {i:Nat} (h:i<(kf V bs).length):(kf V bs)[i]=(V i,bs[i]'(by rw [←xS V bs];exact h)):=by simp [kf]
theorem zipV_set {V:Nat→Value} {bs:List BlkL} {i:Nat} (x:BlkL):(kf V bs).set i (V i,x)=kf V (bs.set i x):=by
 refine yV (by simp [kf]) fun k h1 h2=>?_
 rw [j8 h2,y8,y8]
 split
 ·next e=>subst e;rfl
 rw [j8]
theorem SlW.innerT {α:Type} {e:TypeId} {size:Nat} {R:ElemO α} {w w':World} {v:Value} {xs:List α} {S:Blks} {cs:Nat→List Value} {T:Nat→Blks} (h:SlW e size R w v xs S cs T) (hR:Qc R) {i:Nat} (hi:i<xs.length) {x':α} (hk:Kept (T i) w w') (hr:R w' (cs i) x' (T i)):SlW e size R w' v (xs.set i x') S cs T:=by
 have hl:(xs.set i x').length=xs.length:=by simp
 refine ⟨?_,?_,?_,fun m hm=>?_,?_,?_,h.blk,?_,h.inb.mono hk.size⟩
 ·rw [hl]
  refine ⟨h.own.1,?_⟩
  rcases h.own.2 with h1|⟨g,cap,cur,hv,hb,hg,r⟩
  ·exact .inl h1
  exact .inr ⟨g,cap,cur,hv,hb,by rw [hk.block g (yL.1 hg).1 (h.off i hi g (by rw [hv];rfl))];exact hg,r⟩
 ·rw [hl];exact h.len
 ·rw [hl];exact h.one
 ·have hm2:m<xs.length:=by rw [←hl];exact hm
  by_cases e1:m=i
  ·subst e1
   rw [List.getElem_set_self]
   exact hr
  rw [List.getElem_set_ne (Ne.symm e1)]
  exact hR _ _ _ _ _ (h.el m hm2) (fun k hk2=>hk.block k (h.inb k (h.sub m hm2 k hk2)) (fun hk3=>h.two m i hm2 hi e1 k hk2 hk3)) hk.size
 ·rw [hl];exact h.two
 ·rw [hl];exact h.off
 rw [hl];exact h.sub
theorem blkAtN {w w':World} {g c:Nat} {f:FunL} {V:Nat→Value} {S:Blks} {cs:Nat→List Value} {T:Nat→Blks} (h:SlW 45 6 Ku w (.slice (some ⟨g,0,none⟩) f.blocks.length c) (kf V f.blocks) S cs T) (hb:Below w.heap.size w w') (i:Nat) (hi:i<f.blocks.length):V4 w' g 0 i ((Qh f).getD i []):=by
 have hi2:i<(kf V f.blocks).length:=by rw [xS];exact hi
 obtain ⟨g',c',e,_,hg,hc⟩:=h.cell hi2
 have hgg:g'=g:=by
  injection e with a _ _
  injection a with a
  injection a with a
  exact a.symm
 subst hgg
 have he:=h.el i hi2
 rw [j8 hi2] at he
 obtain ⟨v1,v3,S1,S3,h0,⟨p,l,k,hv⟩,_,_,h3,h5,_⟩:=he
 obtain ⟨p1,c1,rfl,_⟩:=h3.sl.val
 obtain ⟨p3,c3,rfl,_⟩:=h5.sl.val
 rw [kO f i hi]
 rw [h0] at hc
 dsimp only at hv hc
 rw [hv] at hc
 have hr:=h5.read (R':=kh) xr (by omega) fun _ _ _ h=>h
 have hs:SliceAt w 1 kh p3 f.blocks[i].fin.to:=by
  obtain ⟨_,_,e,_,_,h⟩:=hr.outC
  cases e
  exact h
 refine ⟨p1,f.blocks[i].phis.length,c1,p,l,k,f.blocks[i].fin.kind,f.blocks[i].fin.onr,f.blocks[i].fin.onn,p3,c3,?_,?_,?_,?_,?_,?_,hs.mono hb (by omega) fun _ _ h=>h⟩
 all_goals rw [yx]
 ·exact (hb.cell (p:=⟨g',i*6,none⟩) hg).trans (hc 0 (by omega))
 ·exact (hb.cell (p:=⟨g',i*6+1,none⟩) hg).trans (hc 1 (by omega))
 ·exact (hb.cell (p:=⟨g',i*6+2,none⟩) hg).trans (hc 2 (by omega))
 ·exact (hb.cell (p:=⟨g',i*6+3,none⟩) hg).trans (hc 3 (by omega))
 ·exact (hb.cell (p:=⟨g',i*6+4,none⟩) hg).trans (hc 4 (by omega))
 exact (hb.cell (p:=⟨g',i*6+5,none⟩) hg).trans (hc 5 (by omega))

def mM (ah:List Nat) (old now m:Nat):Nat:=((ah.take m).filter fun a=>decide (a<now∧a≠old)).length
theorem cntR_le (ah:List Nat) (old now:Nat) {m:Nat} (_:m≤ah.length):mM ah old now m≤m:=yv (List.length_filter_le _ _) (by rw [yr];omega)
theorem cntR_full (ah:List Nat) (old now:Nat):mM ah old now ah.length=Vm ah old now:=by unfold mM;rw [yP];rfl
theorem cntR_succ {ah:List Nat} {old now m:Nat} (h:m<ah.length):mM ah old now (m+1)=mM ah old now m+if ah[m]<now∧ah[m]≠old then 1 else 0:=by
 unfold mM
 rw [yA h,List.filter_append,yN]
 congr 1
 by_cases h:ah[m]<now∧ah[m]≠old
 ·rw [zZ h,List.filter_cons_of_pos (by simpa using h)]
  rfl
 rw [zQ h,List.filter_cons_of_neg (by simpa using h)]
 rfl
def XT (ah:List Nat) (old now:Nat) (p:PhiL):PhiL:={ p with src:=QX ah old now p.src }
def Vu (f:FunL) (old now i:Nat):List BlkL:=f.blocks.mapIdx fun k x=>if (k:Int)∈((atF f old).fin.to).take i then { x with phis:=x.phis.map (XT (insN f k) old now) } else x
theorem kV (f:FunL) (old now i:Nat):(Vu f old now i).length=f.blocks.length:=by simp [Vu]
theorem renK_zero (f:FunL) (old now:Nat):Vu f old now 0=f.blocks:=by
 refine yV (kV f old now 0) fun k h1 h2=>?_
 simp [Vu]
theorem renK_full (f:FunL) (old now:Nat):Vu f old now ((atF f old).fin.to).length=(qR f old now).blocks:=by
 unfold Vu qR
 rw [yP]
 rfl
theorem Kv {f:FunL} {old now i k:Nat} (h:k<(Vu f old now i).length):(Vu f old now i)[k]=if (k:Int)∈((atF f old).fin.to).take i then { (f.blocks[k]'(by rw [←kV f old now i];exact h)) with phis:=(f.blocks[k]'(by rw [←kV f old now i];exact h)).phis.map (XT (insN f k) old now) } else f.blocks[k]'(by rw [←kV f old now i];exact h):=by simp [Vu]
theorem renK_succ {f:FunL} {old now i t:Nat} (hi:i<((atF f old).fin.to).length) (ht:((atF f old).fin.to)[i]=(t:Int)) (hd:((atF f old).fin.to).Nodup) (htl:t<f.blocks.length):(∃h,(Vu f old now i)[t]'h=f.blocks[t])∧(Vu f old now i).set t { f.blocks[t] with phis:=f.blocks[t].phis.map (XT (insN f t) old now) }=Vu f old now (i+1):=by
 have hl:t<(Vu f old now i).length:=by rw [kV];exact htl
 have hn:¬ (t:Int)∈((atF f old).fin.to).take i:=fun h=>by
  rw [List.mem_take_iff_getElem] at h
  obtain ⟨j,hj,e⟩:=h
  rw [←ht] at e
  have h2:=congrArg ((atF f old).fin.to).idxOf e
  rw [hd.idxOf_getElem j (by omega),hd.idxOf_getElem i hi] at h2
  omega
 refine ⟨⟨hl,by rw [Kv hl,zQ hn]⟩,?_⟩
 refine yV (by simp [Vu]) fun k h1 h2=>?_
 have h3:k<(Vu f old now i).length:=by simpa using h1
 rw [y8,Kv h2]
 have e0:(k:Int)∈((atF f old).fin.to).take (i+1)↔(k:Int)∈((atF f old).fin.to).take i∨k=t:=by
  rw [yA hi,yH,yI,ht]
  constructor
  ·rintro (h|h)
   ·exact .inl h
   exact .inr (by omega)
  rintro (h|h)
  ·exact .inl h
  exact .inr (by omega)
 split
 ·next e=>
  subst e
  rw [zZ (e0.2 (.inr rfl))]
 next e=>
 rw [Kv h3]
 by_cases g:(k:Int)∈((atF f old).fin.to).take i
 ·rw [zZ g,zZ (e0.2 (.inl g))]
 rw [zQ g,zQ fun h=>(e0.1 h).elim g (fun h=>e h.symm)]

theorem Xb (u:Nat→Nat) (c i:Nat):∀n,((List.range n).map fun j=>if j=i then c else u j).sum+(if i<n then u i else 0)=((List.range n).map u).sum+if i<n then c else 0
 | 0=>by simp
 | n+1=>by
  have ih:=Xb u c i n
  rw [yt,yW,yW,List.sum_append,List.sum_append]
  simp only [yS,yw,List.sum_cons,List.sum_nil]
  by_cases e:n=i
  ·subst e
   rw [zQ (by omega),zQ (by omega)] at ih
   rw [zZ rfl,zZ (by omega),zZ (by omega)]
   omega
  rw [zQ e]
  by_cases g:i<n
  ·rw [zZ g,zZ g] at ih
   rw [zZ (by omega),zZ (by omega)]
   omega
  rw [zQ g,zQ g] at ih
  rw [zQ (by omega),zQ (by omega)]
  omega
theorem many_join {f:FunL} {b t:Nat} (h:MayJ f b t):j6 (xg f b t)=j6 f:=by
 rw [k7,k7,qJ]
 obtain ⟨u,hu⟩:∃u:Nat→Nat,u=fun i=>(atF f i).phis.length+(atF f i).list.length:=⟨_,rfl⟩
 have e1:((List.range f.blocks.length).map fun i=>(atF (xg f b t) i).phis.length+(atF (xg f b t) i).list.length)=(List.range f.blocks.length).map fun j=>if j=t then 0 else if j=b then u b+u t else u j:=by
  refine ya fun i hi=>?_
  have hi:=yR.1 hi
  rw [jK hi h.hb h.ht]
  by_cases e:i=t
  ·rw [zZ e,zZ e];rfl
  rw [zQ e,zQ e]
  by_cases e2:i=b
  ·subst e2
   simp only [if_true,Vt,yT,yN,hu]
   have hp:(atF f t).phis=[]:=by rw [qC h.ht];exact h.phi
   rw [hp]
   simp
   omega
  simp only [zQ e2,Vt,yT,hu]
 have e2:((List.range f.blocks.length).map fun i=>(atF f i).phis.length+(atF f i).list.length)=(List.range f.blocks.length).map u:=by rw [hu]
 rw [e1,e2]
 have s1:=Xb (fun j=>if j=b then u b+u t else u j) 0 t f.blocks.length
 have s2:=Xb u (u b+u t) b f.blocks.length
 rw [zZ h.ht,zZ h.ht,zQ h.ne] at s1
 rw [zZ h.hb,zZ h.hb] at s2
 omega

theorem FunC.join {nf:Nat} {P:Nat→Int} {f:FunL} (hc:FunC nf P f) {b t:Nat} (h:MayJ f b t):FunC nf P (xg f b t):=by
 have hf:=hc.funD
 have hj:=hf.join h
 have hL:=qJ f b t
 have fin:∀i,i<f.blocks.length→EndC f.regs f.blocks.length (atF f i).fin:=fun i hi=>by rw [qC hi];exact hc.fin i hi
 refine ⟨hj.n1,hj.n40,hc.par,hc.reg,by rw [many_join h];exact hc.many,fun i hi=>?_,fun i hi p hp=>?_,fun i hi x hx=>?_⟩
 ·show EndC f.regs _ _
  rw [←qC hi,qJ]
  rw [hL] at hi
  rw [jK hi h.hb h.ht]
  by_cases e:i=t
  ·rw [zZ e]
   exact ⟨⟨by decide,by decide⟩,rfl,by simp [QG],by simp [QG],by simp [QG],fun g=>by cases g⟩
  rw [zQ e]
  show EndC _ _ (if i=b then _ else _)
  split
  ·exact fin t h.ht
  exact fin i hi
 ·rw [←qC hi] at hp
  rw [hL] at hi
  rw [jK hi h.hb h.ht] at hp
  by_cases e:i=t
  ·rw [zZ e] at hp;cases hp
  rw [zQ e] at hp
  have hp:p∈Vt f b t i:=hp
  obtain ⟨q,hq,rfl⟩:=yD.1 hp
  rw [qC hi] at hq
  have hq:=hc.phi i hi q hq
  have e2:=Yn hf h e hq.len
  have e3:(if (i:Int)∈(atF f t).fin.to then { q with src:=QX (insN f i) t b q.src } else q)={ q with src:=(insN (xg f b t) i).map fun a=>xK (insN f i) q.src (if (i:Int)∈tosB f.blocks t∧a=b then t else a) }:=by
   rw [←k8 f h.ht,←e2]
   split<;>rfl
  rw [e3]
  refine ⟨hq.blk,hq.dst,by simp,fun v hv=>?_⟩
  obtain ⟨a,ha,rfl⟩:=yD.1 hv
  have hm:(if (i:Int)∈tosB f.blocks t∧a=b then t else a)∈insN f i:=by
   rw [ZD hf h e] at ha
   by_cases hc2:(i:Int)∈tosB f.blocks t
   ·rw [zZ hc2] at ha
    rcases ha with g|g
    ·rw [zZ ⟨hc2,g⟩]
     exact hf.mem.2 ⟨h.ht,hc2⟩
    split
    ·exact hf.mem.2 ⟨h.ht,hc2⟩
    exact g.2
   rw [zQ hc2] at ha
   rw [zQ fun g=>hc2 g.1]
   exact ha
  refine hq.src _ ?_
  unfold xK
  obtain ⟨k1,k2⟩:=j3 hm
  have hlt:(insN f i).idxOf (if (i:Int)∈tosB f.blocks t∧a=b then t else a)<q.src.length:=by rw [hq.len];exact k1
  rw [yO,zj hlt]
  exact zP _
 rw [←qC hi] at hx
 rw [hL] at hi
 rw [jK hi h.hb h.ht] at hx
 have ins:∀i,i<f.blocks.length→∀x∈(atF f i).list,vS f.regs nf P x.op x.dst x.an x.bn x.fn x.ar x.br x.args=0:=fun i hi=>by rw [qC hi];exact hc.ins i hi
 by_cases e:i=t
 ·rw [zZ e] at hx;cases hx
 rw [zQ e] at hx
 have hx:x∈(if i=b then (atF f b).list++(atF f t).list else (atF f i).list):=hx
 split at hx
 ·rcases yH.1 hx with g|g
  ·exact ins b h.hb x g
  exact ins t h.ht x g
 exact ins i hi x hx

theorem FunC.chain {nf:Nat} {P:Nat→Int}:∀(c:Nat) {f:FunL} {b:Nat},FunC nf P f→b<f.blocks.length→FunC nf P (zl c f b)∧(zl c f b).blocks.length=f.blocks.length
 | 0,_,_,h,_=>⟨h,rfl⟩
 | c+1,f,b,h,hb=>by
  unfold zl
  cases e:Xy f b with
  | none=>exact ⟨h,rfl⟩
  | some t=>
   obtain ⟨h1,h2⟩:=FunC.chain c (h.join (mayJ h hb e)) (b:=b) (by rw [qJ];exact hb)
   exact ⟨h1,by rw [h2,qJ]⟩
theorem FunC.chains {nf:Nat} {P:Nat→Int} {f:FunL} (h:FunC nf P f):FunC nf P (qY f):=by
 unfold qY
 have key:∀(l:List Nat) (g:FunL) (c:Nat),(∀b∈l,b<f.blocks.length)→FunC nf P g→g.blocks.length=f.blocks.length→FunC nf P (l.foldl (fun g b=>zl c g b) g):=by
  intro l
  induction l with
  | nil=>intro g c _ h _;exact h
  | cons b l ih=>
   intro g c hl hg hn
   obtain ⟨h1,h2⟩:=hg.chain c (b:=b) (by rw [hn];exact hl b (.head _))
   exact ih _ c (fun x hx=>hl x (.tail _ hx)) h1 (h2.trans hn)
 exact key _ f _ (fun b hb=>yR.1 hb) h rfl
end Go.Proofs.YtbnnhmcloecijaaGreatDoor
