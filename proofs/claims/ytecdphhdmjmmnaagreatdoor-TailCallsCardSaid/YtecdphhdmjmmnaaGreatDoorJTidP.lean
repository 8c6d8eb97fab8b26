/-
  Plain: a function tidied twice is tidied once (FunC.twice).
-/
import Derived.Test.YtecdphhdmjmmnaaGreatDoorJTidH
namespace Go.Proofs.YtecdphhdmjmmnaaGreatDoor
open Go.RowKit

structure InsC (regs:Int) (nf:Nat) (P:Nat→Int) (x:InsL):Prop where
 op:1≤x.op∧x.op≤22
 d0:shD x.op=false→x.dst = -1
 a0:shA x.op=false→x.ar=false∧x.an=0
 b0:shB x.op=false→x.br=false∧x.bn=0
 c0:x.op≠20→x.fn=0∧x.args.length=0
 d1:shD x.op=true→¬(x.op=20∧x.dst = -1)→0≤x.dst∧x.dst<regs
 a:ValOk regs x.ar x.an
 b:ValOk regs x.br x.bn
 call:x.op=20→(0≤x.fn∧x.fn<(nf:Int))∧(x.args.length:Int)=P x.fn.toNat∧∀v∈x.args,ValOk regs v.1 v.2
theorem dstE_iff {regs n:Int}:vW regs n=0↔0≤n∧n<regs:=by
 unfold vW
 split
 ·exact⟨fun _=>by omega,fun _=>rfl⟩
 exact⟨fun g=>absurd g (by decide),fun g=>by omega⟩
theorem callE_iff {regs:Int} {nf:Nat} {P:Nat→Int} {op fn:Int} {L:List (Bool×Int)}:xN regs nf P (op == 20) fn L=0↔(op=20→(0≤fn∧fn<(nf:Int))∧(L.length:Int)=P fn.toNat∧∀v∈L,ValOk regs v.1 v.2):=by
 unfold xN
 by_cases h:op=20
 ·rw[if_neg (by simp[h])]
  by_cases h1:0≤fn∧fn<(nf:Int)
  ·rw[if_neg (by simpa using h1)]
   by_cases h2:(L.length:Int)=P fn.toNat
   ·rw[if_neg (by simpa using h2)]
    unfold valsE
    rw[Q2]
    exact⟨fun g _=>⟨h1,h2,fun v hv=>valE_iff.1 (g _ (List.mem_map.2 ⟨v,hv,rfl⟩))⟩,fun g y hy=>by
     obtain⟨v,hv,rfl⟩:=List.mem_map.1 hy
     exact valE_iff.2 ((g h).2.2 v hv)⟩
   rw[if_pos h2]
   exact⟨fun g=>absurd g (by decide),fun g=>absurd (g h).2.1 h2⟩
  rw[if_pos h1]
  exact⟨fun g=>absurd g (by decide),fun g=>absurd (g h).1 h1⟩
 rw[if_pos (by simpa using h)]
 exact⟨fun _ g=>absurd g h,fun _=>rfl⟩
theorem insC_iff {regs:Int} {nf:Nat} {P:Nat→Int} {x:InsL}:jL regs nf P x.op x.dst x.an x.bn x.fn x.ar x.br x.args=0↔InsC regs nf P x:=by
 unfold jL
 by_cases h1:1≤x.op∧x.op≤22
 rotate_left
 ·rw[if_pos h1]
  exact⟨fun g=>absurd g (by decide),fun g=>absurd g.op h1⟩
 rw[if_neg (by simpa using h1)]
 by_cases h2:(shD x.op=false∧x.dst≠-1)∨(shA x.op=false∧¬(x.ar=false∧x.an=0))∨(shB x.op=false∧¬(x.br=false∧x.bn=0))∨(x.op≠20∧(x.fn≠0∨0<x.args.length))
 ·rw[if_pos h2]
  refine⟨fun g=>absurd g (by decide),fun g=>?_⟩
  rcases h2 with h|h|h|h
  ·exact absurd (g.d0 h.1) h.2
  ·exact absurd (g.a0 h.1) h.2
  ·exact absurd (g.b0 h.1) h.2
  have:=g.c0 h.1
  have:=h.2
  omega
 rw[if_neg h2]
 by_cases h3:shD x.op=true∧¬(x.op=20∧x.dst = -1)∧vW regs x.dst≠0
 ·rw[if_pos h3]
  exact⟨fun g=>absurd g h3.2.2,fun g=>absurd (dstE_iff.2 (g.d1 h3.1 h3.2.1)) h3.2.2⟩
 rw[if_neg h3,Q2]
 constructor
 ·intro g
  refine⟨h1,fun e=>?_,fun e=>?_,fun e=>?_,fun e=>?_,fun e1 e2=>?_,valE_iff.1 (g _ (by simp)),valE_iff.1 (g _ (by simp)),callE_iff.1 (g _ (by simp))⟩
  ·exact Classical.byContradiction fun k=>h2 (.inl ⟨e,k⟩)
  ·exact Classical.byContradiction fun k=>h2 (.inr (.inl ⟨e,k⟩))
  ·exact Classical.byContradiction fun k=>h2 (.inr (.inr (.inl ⟨e,k⟩)))
  ·refine Classical.byContradiction fun k=>h2 (.inr (.inr (.inr ⟨e,?_⟩)))
   omega
  exact dstE_iff.1 (Classical.byContradiction fun k=>h3 ⟨e1,e2,k⟩)
 intro g y hy
 simp only[List.mem_cons,List.not_mem_nil,or_false]at hy
 rcases hy with rfl|rfl|rfl
 ·exact valE_iff.2 g.a
 ·exact valE_iff.2 g.b
 exact callE_iff.2 g.call
/-! ## names as registers are met -/

def ja (L:List Nat):List Nat:=L.foldl (fun D r=>if r∈D then D else D++[r]) []
def stD (D:List Nat):NamS:=(qt D,(D.length:Int))
theorem nameS_st {D:List Nat} {r:Nat}:jA (stD D) r=stD (if r∈D then D else D++[r]):=by
 unfold jA stD
 by_cases h:r∈D
 ·rw[if_neg (by show ¬ qt D r<0;rw[xh h];omega),if_pos h]
 have e:qt D r = -1:=by unfold qt;rw[if_neg h]
 rw[if_pos (by show qt D r<0;omega),if_neg h]
 refine Prod.ext (funext fun i=>?_) (by simp)
 show(if i=r then(D.length:Int)else qt D i)=qt (D++[r]) i
 unfold qt
 by_cases e2:i=r
 ·subst e2
  rw[if_pos rfl,if_pos (by simp),List.idxOf_append,if_neg h]
  simp
 rw[if_neg e2]
 by_cases e3:i∈D
 ·rw[if_pos e3,if_pos (by simp[e3]),List.idxOf_append,if_pos e3]
 rw[if_neg e3,if_neg (by simp[e2,e3])]
theorem ZJ (L:List Nat):∀D,L.foldl jA (stD D)=stD (L.foldl (fun D r=>if r∈D then D else D++[r]) D):=by
 induction L with
 | nil=>intro D;rfl
 | cons r L ih=>intro D;rw[List.foldl_cons,List.foldl_cons,nameS_st,ih]
theorem xO {L:List Nat}:∀{D:List Nat},D.Nodup→(L.foldl (fun D r=>if r∈D then D else D++[r]) D).Nodup∧(∃E,L.foldl (fun D r=>if r∈D then D else D++[r]) D=D++E)∧∀r,r∈L.foldl (fun D r=>if r∈D then D else D++[r]) D↔r∈D∨r∈L:=by
 induction L with
 | nil=>intro D h;exact⟨h,⟨[],by simp⟩,by simp⟩
 | cons x L ih=>
  intro D h
  rw[List.foldl_cons]
  by_cases hx:x∈D
  ·rw[if_pos hx]
   obtain⟨h1,h2,h3⟩:=ih h
   refine⟨h1,h2,fun r=>?_⟩
   rw[h3,List.mem_cons]
   constructor
   ·rintro(g|g);exact .inl g;exact .inr (.inr g)
   rintro(g|g|g);exact .inl g;exact .inl (g ▸ hx);exact .inr g
  rw[if_neg hx]
  obtain⟨h1,⟨E,h2⟩,h3⟩:=ih (D:=D++[x]) (List.nodup_append.2 ⟨h,by simp,fun a ha b hb e=>by rw[List.mem_singleton]at hb;exact hx (hb ▸ e ▸ ha)⟩)
  refine⟨h1,⟨x::E,by rw[h2];simp⟩,fun r=>?_⟩
  rw[h3]
  simp[or_assoc]
theorem Qh (n:Nat) (M:List Nat):∃E,ja (List.range n++M)=List.range n++E:=by
 unfold ja
 rw[List.foldl_append]
 have e:∀n,(List.range n).foldl (fun D r=>if r∈D then D else D++[r]) []=List.range n:=by
  intro n
  induction n with
  | zero=>rfl
  | succ n ih=>rw[List.range_succ,List.foldl_append,ih,List.foldl_cons,List.foldl_nil,if_neg (by simp)]
 rw[e]
 exact(xO List.nodup_range).2.1
theorem nam0_st:nam0=stD []:=by
 unfold nam0 stD qt
 simp
def jX (f:FunL):List Nat:=ja (ki f++Z2 f)
theorem Xc (f:FunL):xK f=stD (jX f):=by
 unfold xK jX ja
 rw[nam0_st,ZJ]
theorem KE (f:FunL):(jX f).Nodup:=(xO (D:=[]) List.nodup_nil).1
theorem metL_mem {f:FunL} {r:Nat}:r∈jX f↔r∈ki f++Z2 f:=by
 have:=(xO (L:=ki f++Z2 f) (D:=[]) List.nodup_nil).2.2 r
 simpa[jX,ja]using this

theorem jw {f:FunL} {b:Nat} (hb:b<f.blocks.length) {r:Nat} (h:r∈Zq f.blocks[b]):r∈jX f:=
 metL_mem.2 (List.mem_append_right _ (List.mem_flatMap.2 ⟨_,List.getElem_mem hb,h⟩))
theorem xq {v:Bool×Int} (h:v.1=true):v.2.toNat∈xk v:=by unfold xk;rw[if_pos h];simp
theorem metV_is {v:Bool×Int} {r:Nat} (h:r∈xk v):v.1=true∧r=v.2.toNat:=by
 unfold xk at h
 split at h
 ·rename_i e;exact⟨e,List.mem_singleton.1 h⟩
 cases h
theorem Qz {x:BlkL} (h:x.fin.onr=true):x.fin.onn.toNat∈Zq x:=List.mem_append_right _ (xq (v:=(x.fin.onr,x.fin.onn)) h)
theorem QA {x:BlkL} {p:PhiL} (h:p∈x.phis):p.dst.toNat∈Zq x:=List.mem_append_left _ (List.mem_append_left _ (List.mem_flatMap.2 ⟨p,h,List.mem_cons_self⟩))
theorem Xd {x:BlkL} {p:PhiL} (h:p∈x.phis) {v:Bool×Int} (hv:v∈p.src) (e:v.1=true):v.2.toNat∈Zq x:=
 List.mem_append_left _ (List.mem_append_left _ (List.mem_flatMap.2 ⟨p,h,List.mem_cons_of_mem _ (List.mem_flatMap.2 ⟨v,hv,xq e⟩)⟩))
theorem QB {x:BlkL} {i:InsL} (h:i∈x.list) {r:Nat} (hr:r∈vS i++js i.dst):r∈Zq x:=
 List.mem_append_left _ (List.mem_append_right _ (List.mem_flatMap.2 ⟨i,h,hr⟩))

theorem FunC.met {nf:Nat} {P:Nat→Int} {f:FunL} (h:FunC nf P f) {r:Nat} (hr:r∈jX f):(r:Int)<f.regs:=by
 have hp:=h.par
 have hg:=h.reg
 have val:∀{v:Bool×Int},ValOk f.regs v.1 v.2→r∈xk v→(r:Int)<f.regs:=fun hv hm=>by
  obtain⟨e1,e2⟩:=metV_is hm
  have:=hv e1
  omega
 have dst:∀{d:Int},d<f.regs→r∈js d→(r:Int)<f.regs:=fun hd hm=>by
  unfold js at hm
  split at hm
  ·have:=List.mem_singleton.1 hm;omega
  cases hm
 have ins:∀b (hb:b<f.blocks.length),∀i∈f.blocks[b].list,r∈vS i++js i.dst→(r:Int)<f.regs:=fun b hb i hi hm=>by
  have hc:=insC_iff.1 (h.ins b hb i hi)
  have hdst:i.dst<f.regs:=by
   by_cases e:shD i.op=true∧¬(i.op=20∧i.dst = -1)
   ·exact(hc.d1 e.1 e.2).2
   by_cases e2:shD i.op=true
   ·have e3:i.op=20∧i.dst = -1:=Classical.byContradiction fun g=>e ⟨e2,g⟩
    omega
   have:=hc.d0 (by simpa using e2)
   omega
  rcases List.mem_append.1 hm with g|g
  ·unfold vS at g
   rcases List.mem_append.1 g with g|g
   ·rcases List.mem_append.1 g with g|g
    ·exact val hc.a g
    exact val hc.b g
   obtain⟨v,hv,g⟩:=List.mem_flatMap.1 g
   by_cases e:i.op=20
   ·exact val ((hc.call e).2.2 v hv) g
   have:=(hc.c0 e).2
   rw[List.eq_nil_of_length_eq_zero this]at hv
   cases hv
  exact dst hdst g
 have phi:∀b (hb:b<f.blocks.length),∀p∈f.blocks[b].phis,(p.dst<f.regs∧0≤p.dst)∧∀v∈p.src,ValOk f.regs v.1 v.2:=fun b hb p hp=>⟨⟨(h.phi b hb p hp).dst.2,(h.phi b hb p hp).dst.1⟩,(h.phi b hb p hp).src⟩
 rcases List.mem_append.1 (metL_mem.1 hr)with g|g
 ·unfold ki at g
  rcases List.mem_append.1 g with g|g
  ·have:=List.mem_range.1 g;omega
  obtain⟨x,hx,g⟩:=List.mem_flatMap.1 g
  obtain⟨b,hb,rfl⟩:=List.mem_iff_getElem.1 hx
  unfold V5 at g
  rcases List.mem_append.1 g with g|g
  ·rcases List.mem_append.1 g with g|g
   ·obtain⟨p,hp,rfl⟩:=List.mem_map.1 g
    have:=(phi b hb p hp).1
    omega
   obtain⟨i,hi,g⟩:=List.mem_flatMap.1 g
   exact ins b hb i hi g
  exact val (h.fin b hb).on g
 unfold Z2 at g
 obtain⟨x,hx,g⟩:=List.mem_flatMap.1 g
 obtain⟨b,hb,rfl⟩:=List.mem_iff_getElem.1 hx
 unfold Zq at g
 rcases List.mem_append.1 g with g|g
 ·rcases List.mem_append.1 g with g|g
  ·obtain⟨p,hp,g⟩:=List.mem_flatMap.1 g
   rcases List.mem_cons.1 g with rfl|g
   ·have:=(phi b hb p hp).1
    omega
   obtain⟨v,hv,g⟩:=List.mem_flatMap.1 g
   exact val ((phi b hb p hp).2 v hv) g
  obtain⟨i,hi,g⟩:=List.mem_flatMap.1 g
  exact ins b hb i hi g
 exact val (h.fin b hb).on g

theorem qM (f:FunL):(qH f).blocks.length=f.blocks.length:=by simp[qH]
theorem jk {f:FunL} {b:Nat} (h:b<(qH f).blocks.length):(qH f).blocks[b]=Q0 (xK f).1 (f.blocks[b]'(by rw[←qM f];exact h)):=by simp[qH]
theorem VU (f:FunL) (c:Nat):insN (qH f) c=insN f c:=by
 have e:kR (qH f)=kR f:=by
  unfold kR qH
  rw[List.map_map]
  rfl
 unfold insN xt
 rw[e,qM]
theorem vt (f:FunL):(qH f).regs=((jX f).length:Int):=by
 show(xK f).2=_
 rw[Xc];rfl
theorem QC {f:FunL} {r:Nat} (h:r∈jX f):0≤(xK f).1 r∧(xK f).1 r<(qH f).regs:=by
 rw[vt,Xc]
 obtain⟨h1,_⟩:=xw h
 show 0≤qt (jX f) r∧qt (jX f) r<_
 rw[xh h]
 omega

theorem FunC.name {nf:Nat} {P:Nat→Int} {f:FunL} (h:FunC nf P f):FunC nf P (qH f):=by
 have hp:=h.par
 have hg:=h.reg
 have hle:((jX f).length:Int)≤f.regs:=by
  have:=xn f.regs.toNat (jX f) (KE f) (fun x hx=>by have:=h.met hx;omega)
  omega
 have hge:f.params≤((jX f).length:Int):=by
  obtain⟨E,hE⟩:=Qh f.params.toNat (f.blocks.flatMap V5++Z2 f)
  have:jX f=List.range f.params.toNat++E:=by
   unfold jX ki
   rw[List.append_assoc]
   exact hE
  rw[this,List.length_append,List.length_range]
  omega
 have ren:∀{v:Bool×Int},(v.1=true→v.2.toNat∈jX f)→ValOk (qH f).regs (zi (xK f).1 v).1 (zi (xK f).1 v).2:=fun {v} hv e=>by
  unfold zi at e ⊢
  by_cases e1:v.1=true
  ·rw[if_pos e1]at e ⊢
   exact QC (hv e1)
  rw[if_neg e1]at e
  exact absurd e e1
 have many:zr (qH f)=zr f:=by
  unfold zr qH
  rw[List.map_map]
  congr 1
  exact List.map_congr_left fun b _=>by simp[Q0]
 have eq1:∀(r:Bool) (n:Int),(zi (xK f).1 (r,n)).1=r:=fun r n=>by
  unfold zi
  cases r<;>rfl
 refine⟨by rw[qM];exact h.n1,by rw[qM];exact h.n40,hp,⟨by rw[vt];exact hge,by rw[vt];omega⟩,by rw[many];exact h.many,fun b hb=>?_,fun b hb p hp=>?_,fun b hb x hx=>?_⟩
 ·have hb':b<f.blocks.length:=by rw[←qM f];exact hb
  have hf:=h.fin b hb'
  rw[jk hb]
  refine⟨hf.kind,hf.len,fun t ht=>by have e:=hf.to t ht;have e2:=qM f;exact⟨e.1,by omega⟩,hf.two,fun e=>?_,?_⟩
  ·have:=hf.jump e
   refine⟨this.1,?_⟩
   show(zi _ (_,_)).2=0
   unfold zi
   rw[if_neg (by rw[this.1];simp)]
   exact this.2
  have:=ren (v:=(f.blocks[b].fin.onr,f.blocks[b].fin.onn)) fun e=>jw hb' (Qz e)
  rw[eq1]at this
  exact this
 ·have hb':b<f.blocks.length:=by rw[←qM f];exact hb
  rw[jk hb]at hp
  obtain⟨q,hq,rfl⟩:=List.mem_map.1 hp
  have hc:=h.phi b hb' q hq
  refine⟨hc.blk,QC (jw hb' (QA hq)),by rw[VU];simpa using hc.len,fun v hv=>?_⟩
  obtain⟨w,hw,rfl⟩:=List.mem_map.1 hv
  exact ren fun e=>jw hb' (Xd hq hw e)
 have hb':b<f.blocks.length:=by rw[←qM f];exact hb
 rw[jk hb]at hx
 obtain⟨y,hy,rfl⟩:=List.mem_map.1 hx
 have hc:=insC_iff.1 (h.ins b hb' y hy)
 have mem:∀{r:Nat},r∈vS y++js y.dst→r∈jX f:=fun hr=>jw hb' (QB hy hr)
 refine insC_iff.2 ⟨hc.op,fun e=>?_,fun e=>?_,fun e=>?_,fun e=>?_,fun e1 e2=>?_,?_,?_,fun e=>?_⟩
 ·show(if 0≤y.dst then _ else y.dst) = -1
  have:=hc.d0 e
  rw[if_neg (by omega)]
  exact this
 ·have:=hc.a0 e
  refine⟨this.1,?_⟩
  show(zi _ (_,_)).2=0
  unfold zi
  rw[if_neg (by rw[this.1];simp)]
  exact this.2
 ·have:=hc.b0 e
  refine⟨this.1,?_⟩
  show(zi _ (_,_)).2=0
  unfold zi
  rw[if_neg (by rw[this.1];simp)]
  exact this.2
 ·have:=hc.c0 e
  exact⟨this.1,by simpa[jf]using this.2⟩
 ·show 0≤(if 0≤y.dst then _ else y.dst)∧(if 0≤y.dst then _ else y.dst)<_
  by_cases e3:0≤y.dst
  ·rw[if_pos e3]
   exact QC (mem (List.mem_append_right _ (by unfold js;rw[if_pos e3];simp)))
  refine absurd (hc.d1 e1 fun g=>e2 ⟨g.1,?_⟩).1 e3
  show(if 0≤y.dst then _ else y.dst) = -1
  rw[if_neg e3]
  exact g.2
 ·have:=ren (v:=(y.ar,y.an)) fun e=>mem (List.mem_append_left _ (List.mem_append_left _ (List.mem_append_left _ (xq e))))
  rw[eq1]at this
  exact this
 ·have:=ren (v:=(y.br,y.bn)) fun e=>mem (List.mem_append_left _ (List.mem_append_left _ (List.mem_append_right _ (xq e))))
  rw[eq1]at this
  exact this
 have:=hc.call e
 refine⟨this.1,by simpa[jf]using this.2.1,fun v hv=>?_⟩
 obtain⟨w,hw,rfl⟩:=List.mem_map.1 hv
 exact ren fun e=>mem (List.mem_append_left _ (List.mem_append_right _ (List.mem_flatMap.2 ⟨w,hw,xq e⟩)))

theorem FunC.order {nf:Nat} {P:Nat→Int} {f:FunL} (h:FunC nf P f):FunC nf P (j8 f):=h.keep h.funD.toFunS.ordC
theorem FunC.names {nf:Nat} {P:Nat→Int} {f:FunL} (h:FunC nf P f):FunC nf P (j9 f):=h.order.name
theorem FunC.done {nf:Nat} {P:Nat→Int} {f:FunL} (h:FunC nf P f):FunC nf P (doT f):=h.order.chains.names

theorem ChkOk.funC {u:UniL} (h:ChkOk u) {k:Nat} (hk:k<u.funcs.length):FunC u.funcs.length (Zn u) u.funcs[k]:=by
 obtain⟨h1,h2,h3,h4⟩:=h.fn hk
 refine⟨by omega,by omega,h1,h2,h4,fun b hb=>endC_iff.1 (bodyE_end (h.bodyZ hk) hb),fun b hb p hp=>phiC_iff.1 ((J6 (h.bodyZ hk) hb).1 p hp),fun b hb x hx=>(J6 (h.bodyZ hk) hb).2 x hx⟩
theorem FunC.body {u:UniL} {f:FunL} (h:FunC u.funcs.length (Zn u) f):jW u f=0:=by
 have h1:qr (f.blocks.map fun b=>Vy f b.fin)=0:=zd fun x hx=>by
  obtain⟨b,hb,rfl⟩:=List.mem_map.1 hx
  obtain⟨i,hi,rfl⟩:=List.mem_iff_getElem.1 hb
  exact endC_iff.2 (h.fin i hi)
 unfold jW
 rw[if_pos h1]
 refine zd fun x hx=>?_
 obtain⟨i,hi,rfl⟩:=List.mem_map.1 hx
 have hi:=List.mem_range.1 hi
 rw[QJ hi]
 have h2:qr (f.blocks[i].phis.map (XH f i (qS (xt f) i).length))=0:=zd fun x hx=>by
  obtain⟨p,hp,rfl⟩:=List.mem_map.1 hx
  exact phiC_iff.2 (h.phi i hi p hp)
 unfold blkE
 rw[if_pos h2]
 refine zd fun x hx=>?_
 obtain⟨p,hp,rfl⟩:=List.mem_map.1 hx
 exact h.ins i hi p hp
theorem headE_of {names:List ByteArray} {f g:FunL} (h:v8 names f=0) (hn:g.name=f.name) {nf:Nat} {P:Nat→Int} (hg:FunC nf P g):v8 names g=0:=by
 unfold v8 at h ⊢
 rw[hn]
 by_cases a:jY f.name=false
 ·rw[if_pos a]at h;cases h
 rw[if_neg a]at h ⊢
 by_cases b:JI names f.name=true
 ·rw[if_pos b]at h;cases h
 rw[if_neg b]
 have h1:=hg.par
 have h2:=hg.reg
 have h3:=hg.n1
 have h4:=hg.n40
 have h5:=hg.many
 rw[if_neg (by omega),if_neg (by omega)]

def mainO (o:Option FunL):Bool:=match o with|some f=>kT f|none=>false
theorem mainI_o (xs:List FunL):vQ xs=(List.range xs.length).find? fun i=>mainO xs[i]?:=rfl
theorem ChkOk.same {u v:UniL} (h:ChkOk u) (hg:v.globals=u.globals) (hl:v.funcs.length=u.funcs.length) (hf:∀k (hk:k<u.funcs.length),v.funcs[k].name=u.funcs[k].name∧v.funcs[k].params=u.funcs[k].params∧FunC u.funcs.length (Zn u) v.funcs[k]):chk v=(0,0)∧ChkOk v:=by
 have hp:Zn v=Zn u:=by
  funext k
  unfold Zn
  congr 1
  refine List.ext_getElem (by simp[hl]) fun i h1 h2=>?_
  simp only[List.getElem_map]
  exact(hf i (by simpa using h2)).2.1
 have hN:∀k,k≤u.funcs.length→xU v k=xU u k:=fun k hk=>by
  unfold xU
  rw[hg]
  congr 1
  refine List.ext_getElem (by simp[hl]) fun i h1 h2=>?_
  simp only[List.getElem_map,List.getElem_take]
  exact(hf i (by simp at h2;omega)).1
 have e1:∀j,j<v.globals.length→XI v j=0:=fun j hj=>by
  have:XI v j=XI u j:=by
   unfold XI ji jh
   rw[hg]
  rw[this]
  exact h.glo j (by rw[←hg];exact hj)
 have e2:∀j,j<v.funcs.length→ko v j=0:=fun j hj=>by
  have hj':j<u.funcs.length:=by omega
  rw[kp hj,hN j (by omega)]
  exact headE_of ((kp hj').symm.trans (h.head j hj')) (hf j hj').1 (hf j hj').2.2
 have e3:∀j,j<v.funcs.length→kS v j=0:=fun j hj=>by
  have hj':j<u.funcs.length:=by omega
  rw[X1 hj]
  refine FunC.body ?_
  rw[hp,hl]
  exact(hf j hj').2.2
 have e4:vQ v.funcs=vQ u.funcs:=by
  rw[mainI_o,mainI_o,hl]
  congr 1
  funext i
  by_cases hi:i<u.funcs.length
  ·rw[List.getElem?_eq_getElem hi,List.getElem?_eq_getElem (by omega)]
   show kT _=kT _
   unfold kT
   rw[(hf i hi).1]
  rw[List.getElem?_eq_none (by omega),List.getElem?_eq_none (by omega)]
 obtain⟨m,hm,hm2⟩:=h.main
 have hv:ChkOk v:=⟨by rw[hg];exact h.ng,by rw[hl];exact h.nf,e1,e2,e3,m,e4.trans hm,by rw[hp];exact hm2⟩
 refine⟨?_,hv⟩
 rcases XN v with g|g
 ·exact g.1
 exfalso
 apply g
 unfold chk chkO
 rw[if_neg (by have:=hv.ng;have:=hv.nf;omega),zk e1,zk e2,zk e3]
 simp only[QL]
 rw[e4.trans hm]
 simp only
 rw[if_neg (by rw[hp];omega)]
 rfl

theorem QD (f:FunL):(doT f).name=f.name∧(doT f).params=f.params:=by
 have hj:∀(f:FunL) (b t:Nat),(zX f b t).name=f.name∧(zX f b t).params=f.params:=fun f b t=>⟨rfl,rfl⟩
 have hc:∀(c:Nat) (f:FunL) (b:Nat),(qN c f b).name=f.name∧(qN c f b).params=f.params:=by
  intro c
  induction c with
  | zero=>intro f b;exact⟨rfl,rfl⟩
  | succ c ih=>
   intro f b
   unfold qN
   split
   ·exact⟨rfl,rfl⟩
   rename_i t _
   exact⟨(ih _ b).1.trans (hj f b t).1,(ih _ b).2.trans (hj f b t).2⟩
 have hs:∀f:FunL,(qG f).name=f.name∧(qG f).params=f.params:=fun f=>by
  unfold qG
  generalize f.blocks.length+1=c
  have key:∀(l:List Nat) (g:FunL),(l.foldl (fun g b=>qN c g b) g).name=g.name∧(l.foldl (fun g b=>qN c g b) g).params=g.params:=by
   intro l
   induction l with
   | nil=>intro g;exact⟨rfl,rfl⟩
   | cons b l ih=>intro g;rw[List.foldl_cons];exact⟨(ih _).1.trans (hc c g b).1,(ih _).2.trans (hc c g b).2⟩
  exact key _ f
 have ho:∀g:FunL,(j8 g).name=g.name∧(j8 g).params=g.params:=fun g=>by unfold j8 qU;exact⟨rfl,rfl⟩
 have hn:∀g:FunL,(qH g).name=g.name∧(qH g).params=g.params:=fun g=>by unfold qH;exact⟨rfl,rfl⟩
 unfold doT j9
 rw[(hn _).1,(hn _).2,(ho _).1,(ho _).2,(hs _).1,(hs _).2,(ho _).1,(ho _).2]
 exact⟨rfl,rfl⟩

theorem ChkOk.tidy {u:UniL} (h:ChkOk u):chk (qZ u)=(0,0)∧ChkOk (qZ u):=
 h.same rfl (by simp[qZ]) fun k hk=>by
  have e:(qZ u).funcs[k]'(by simp[qZ];exact hk)=doT u.funcs[k]:=by simp[qZ]
  rw[e]
  exact⟨(QD _).1,(QD _).2,(h.funC hk).done⟩

def k7 (f:FunL):Nat:=((List.range f.blocks.length).map fun i=>if(atF f i).fin.kind=2 then 1 else 0).sum
theorem VV (f:FunL):k7 f≤f.blocks.length:=by
 unfold k7
 have:∀n,((List.range n).map fun i=>if(atF f i).fin.kind=2 then 1 else 0).sum≤n:=by
  intro n
  induction n with
  | zero=>simp
  | succ n ih=>
   rw[List.range_succ,List.map_append,List.sum_append]
   simp only[List.map_cons,List.map_nil,List.sum_cons,List.sum_nil]
   split<;>omega
 exact this _
theorem Jg {f:FunL} {b t:Nat} (h:jC f b=some t):(atF f b).fin.kind=2:=by
 unfold jC at h
 dsimp only at h
 split at h
 ·rename_i hc;exact hc.1
 cases h
theorem ZK {f:FunL} {b t:Nat} (h:MayJ f b t) (hk:(atF f b).fin.kind=2):k7 (zX f b t)+1=k7 f:=by
 unfold k7
 rw[qI]
 obtain⟨u,hu⟩:∃u:Nat→Nat,u=fun i=>if(atF f i).fin.kind=2 then 1 else 0:=⟨_,rfl⟩
 have e1:((List.range f.blocks.length).map fun i=>if(atF (zX f b t) i).fin.kind=2 then 1 else 0)=(List.range f.blocks.length).map fun j=>if j=t then 0 else if j=b then u t else u j:=by
  refine List.map_congr_left fun i hi=>?_
  have hi:=List.mem_range.1 hi
  rw[jS hi h.hb h.ht]
  by_cases e:i=t
  ·rw[if_pos e,if_pos e];rfl
  rw[if_neg e,if_neg e]
  by_cases e2:i=b
  ·simp only[if_pos e2,hu]
  simp only[if_neg e2,hu]
 have e2:((List.range f.blocks.length).map fun i=>if(atF f i).fin.kind=2 then 1 else 0)=(List.range f.blocks.length).map u:=by rw[hu]
 rw[e1,e2]
 have s1:=Z4 (fun j=>if j=b then u t else u j) 0 t f.blocks.length
 have s2:=Z4 u (u t) b f.blocks.length
 have ub:u b=1:=by rw[hu];exact if_pos hk
 rw[if_pos h.ht,if_pos h.ht,if_neg h.ne]at s1
 rw[if_pos h.hb,if_pos h.hb,ub]at s2
 omega
theorem FunC.last {nf:Nat} {P:Nat→Int}:∀(c:Nat) {f:FunL} {b:Nat},FunC nf P f→b<f.blocks.length→k7 f<c→jC (qN c f b) b=none
 | 0,_,_,_,_,h=>by omega
 | c+1,f,b,h,hb,hj=>by
  unfold qN
  cases e:jC f b with
  | none=>exact e
  | some t=>
   have hm:=mayJ h hb e
   have:=ZK hm (Jg e)
   exact FunC.last c (h.join hm) (by rw[qI];exact hb) (by omega)

theorem FunC.may_iff {nf:Nat} {P:Nat→Int} {f:FunL} (h:FunC nf P f) {b:Nat} (hb:b<f.blocks.length) {t:Nat}:jC f b=some t↔MayJ f b t:=by
 refine⟨mayJ h hb,fun m=>?_⟩
 have e0:(atF f b).fin.to=[(t:Int)]:=by rw[←kC f hb];exact m.to
 have e1:(atF f b).fin.kind=2:=by
  have h1:=h.fin b hb
  have h2:=h1.len
  rw[qF hb]at e0 ⊢
  rw[e0]at h2
  simp at h2
  omega
 unfold jC
 dsimp only
 rw[e0]
 have e2:(([(t:Int)]:List Int).getD 0 0).toNat=t:=by simp
 rw[e2,e1,qF m.ht,m.phi,m.one,if_pos ⟨rfl,by have:=m.ne;simp[this]⟩]

theorem FunC.none_join {nf:Nat} {P:Nat→Int} {f:FunL} (h:FunC nf P f) {b t:Nat} (m:MayJ f b t) {x:Nat} (hx:x<f.blocks.length) (hn:jC f x=none):jC (zX f b t) x=none:=by
 have hj:=h.join m
 cases e:jC (zX f b t) x with
 | none=>rfl
 | some y=>
  exfalso
  have hd:=h.funD
  have g:=mayJ hj (by rw[qI];exact hx) e
  have hxb:x≠b:=fun e=>by
   subst e
   rw[(h.may_iff m.hb).2 m]at hn
   cases hn
  have hy:y<f.blocks.length:=by have:=g.ht;rw[qI]at this;exact this
  have hto:=g.to
  rw[vM m hx]at hto
  by_cases hxt:x=t
  ·rw[if_pos hxt]at hto;cases hto
  rw[if_neg hxt,if_neg hxb]at hto
  have hyt:y≠t:=fun e2=>by
   have:x∈insN f t:=hd.mem.2 ⟨hx,by rw[hto,e2];simp⟩
   rw[m.one,List.mem_singleton]at this
   exact hxb this
  have hm:MayJ f x y:=by
   refine⟨hx,hy,hto,g.ne,?_,?_⟩
   ·have hp:=g.phi
    rw[←qF g.ht,jS hy m.hb m.ht,if_neg hyt]at hp
    have hp:Jf f b t y=[]:=hp
    have:=congrArg List.length hp
    unfold Jf at this
    rw[List.length_map,qF hy]at this
    exact List.eq_nil_of_length_eq_zero (by simpa using this)
   have hi:=fun a=>Qy hd m (i:=y) (a:=a) hyt
   rw[g.one]at hi
   by_cases hc:(y:Int)∈tosB f.blocks t
   ·have:=(hi b).2 (by rw[if_pos hc];exact .inl rfl)
    rw[List.mem_singleton]at this
    exact absurd this.symm hxb
   refine Jc (xI hd y) (by simp) fun a=>?_
   have:=hi a
   rw[if_neg hc]at this
   exact this.symm
  rw[(h.may_iff hx).2 hm]at hn
  cases hn
theorem FunC.none_chain {nf:Nat} {P:Nat→Int} {x:Nat}:∀(c:Nat) {f:FunL} {b:Nat},FunC nf P f→b<f.blocks.length→x<f.blocks.length→jC f x=none→jC (qN c f b) x=none
 | 0,_,_,_,_,_,h=>h
 | c+1,f,b,h,hb,hx,hn=>by
  unfold qN
  cases e:jC f b with
  | none=>exact hn
  | some t=>
   have hm:=mayJ h hb e
   exact FunC.none_chain c (h.join hm) (by rw[qI];exact hb) (by rw[qI];exact hx) (h.none_join hm hx hn)
theorem FunC.chained {nf:Nat} {P:Nat→Int} {f:FunL} (h:FunC nf P f) {x:Nat} (hx:x<f.blocks.length):jC (qG f) x=none:=by
 unfold qG
 have key:∀k,k≤f.blocks.length→FunC nf P ((List.range k).foldl (fun g b=>qN (f.blocks.length+1) g b) f)∧((List.range k).foldl (fun g b=>qN (f.blocks.length+1) g b) f).blocks.length=f.blocks.length∧∀x,x<k→jC ((List.range k).foldl (fun g b=>qN (f.blocks.length+1) g b) f) x=none:=by
  intro k
  induction k with
  | zero=>intro _;exact⟨h,rfl,fun x hx=>by omega⟩
  | succ k ih=>
   intro hk
   obtain⟨h1,h2,h3⟩:=ih (by omega)
   rw[List.range_succ,List.foldl_append,List.foldl_cons,List.foldl_nil]
   have hkb:k<((List.range k).foldl (fun g b=>qN (f.blocks.length+1) g b) f).blocks.length:=by rw[h2];omega
   obtain⟨g1,g2⟩:=h1.chain (f.blocks.length+1) hkb
   refine⟨g1,g2.trans h2,fun x hx=>?_⟩
   by_cases e:x=k
   ·subst e
    refine h1.last _ hkb ?_
    have:=VV ((List.range x).foldl (fun g b=>qN (f.blocks.length+1) g b) f)
    rw[h2]at this
    omega
   exact h1.none_chain _ hkb (by rw[h2];omega) (h3 x (by omega))
 exact(key _ (Nat.le_refl _)).2.2 x hx

theorem FunD.ordRange {f:FunL} (h:FunD f):OrdC f (List.range f.blocks.length):=by
 refine⟨List.nodup_range,?_,fun x hx=>List.mem_range.1 hx,fun b hb t ht=>?_⟩
 ·have:=h.n1
  obtain⟨n,hn⟩:∃n,f.blocks.length=n+1:=⟨f.blocks.length - 1,by omega⟩
  rw[hn,List.range_succ_eq_map]
  exact⟨_,rfl⟩
 have:=h.tosB b (List.mem_range.1 hb) t ht
 exact List.mem_range.2 (by omega)
theorem kD {n i:Nat} (h:i<n):(List.range n).idxOf i=i:=by
 have:=(List.nodup_range (n:=n)).idxOf_getElem i (by simpa using h)
 simpa using this
theorem Z5 {n i:Nat} (h:i<n):qt (List.range n) i=i:=by
 rw[xh (List.mem_range.2 h),kD h]
theorem FunD.keep_same {f:FunL} (h:FunD f) (hl:∀b (hb:b<f.blocks.length),∀p∈f.blocks[b].phis,p.src.length=(Go.Proofs.YtecdphhdmjmmnaaGreatDoor.insN f b).length):qU (List.range f.blocks.length) f=f:=by
 have ho:=h.ordRange
 have e:(qU (List.range f.blocks.length) f).blocks=f.blocks:=by
  refine List.ext_getElem (by simp[qU]) fun b h1 h2=>?_
  have hb:b<(List.range f.blocks.length).length:=by simpa using h2
  rw[Q1 _ f hb]
  simp only[List.getElem_range]
  rw[qF h2]
  have ep:(f.blocks[b].phis.map fun p=>{ p with src:=srcK (qt (List.range f.blocks.length)) (Go.Proofs.YtecdphhdmjmmnaaGreatDoor.insN f b) p.src })=f.blocks[b].phis:=by
   refine(List.map_congr_left (g:=id) fun p hp=>?_).trans (by simp)
   have hlen:=hl b h2 p hp
   have e1:=Jb h ho (b:=b) (List.mem_range.2 h2) (Qo (Go.Proofs.YtecdphhdmjmmnaaGreatDoor.insN f b) p.src)
   rw[←fromR_row (h.insD b) hlen,kD h2]at e1
   have e2:Go.Proofs.YtecdphhdmjmmnaaGreatDoor.insN (qU (List.range f.blocks.length) f) b=Go.Proofs.YtecdphhdmjmmnaaGreatDoor.insN f b:=Jc (xI (h.keep ho) b) (xI h b) fun a=>by
    have:=kB h ho (b:=b) (List.mem_range.2 h2) (j:=a)
    rw[kD h2]at this
    rw[this]
    constructor
    ·rintro⟨hj,hm⟩
     simpa using hm
    intro g
    exact⟨by simpa using(h.mem.1 g).1,by simpa using g⟩
   rw[e2]at e1
   show { p with src:=_ }=p
   rw[e1]
   have e3:((Go.Proofs.YtecdphhdmjmmnaaGreatDoor.insN f b).map fun j=>Qo (Go.Proofs.YtecdphhdmjmmnaaGreatDoor.insN f b) p.src ((List.range f.blocks.length).getD j 0))=p.src:=by
    refine Eq.trans (List.map_congr_left fun j hj=>?_) (fromR_row (h.insD b) hlen).symm
    have:=(h.mem.1 hj).1
    simp[this]
   rw[e3]
  have et:endK (qt (List.range f.blocks.length)) f.blocks[b].fin=f.blocks[b].fin:=by
   unfold endK
   have:(f.blocks[b].fin.to.map fun t=>qt (List.range f.blocks.length) t.toNat)=f.blocks[b].fin.to:=by
    refine(List.map_congr_left (g:=id) fun t ht=>?_).trans (by simp)
    have:=h.tos b h2 t ht
    rw[Z5 (by omega)]
    show((t.toNat:Nat):Int)=t
    omega
   rw[this]
  unfold yo
  rw[ep,et]
 have e0:(qU (List.range f.blocks.length) f)={ f with blocks:=(qU (List.range f.blocks.length) f).blocks }:=rfl
 rw[e0,e]
/-! ## names -/

theorem Q3 {m:Nat→Nat}:∀(L:List Nat) (D:List Nat),(∀a∈D++L,∀b∈D++L,m a=m b→a=b)→(L.map m).foldl (fun D r=>if r∈D then D else D++[r]) (D.map m)=(L.foldl (fun D r=>if r∈D then D else D++[r]) D).map m
 | [],_,_=>rfl
 | r::L,D,h=>by
  rw[List.map_cons,List.foldl_cons,List.foldl_cons]
  have e:m r∈D.map m↔r∈D:=by
   constructor
   ·intro g
    obtain⟨a,ha,e⟩:=List.mem_map.1 g
    rw[←h a (by simp[ha]) r (by simp) e]
    exact ha
   exact fun g=>List.mem_map.2 ⟨r,g,rfl⟩
  by_cases hr:r∈D
  ·rw[if_pos hr,if_pos (e.2 hr)]
   refine Q3 L D fun a ha b hb=>h a ?_ b ?_
   ·simp only[List.mem_append,List.mem_cons]at ha ⊢;rcases ha with g|g;exact .inl g;exact .inr (.inr g)
   simp only[List.mem_append,List.mem_cons]at hb ⊢;rcases hb with g|g;exact .inl g;exact .inr (.inr g)
  rw[if_neg hr,if_neg (fun g=>hr (e.1 g))]
  have:=Q3 L (D++[r]) fun a ha b hb=>h a (by simpa using ha) b (by simpa using hb)
  rw[←this]
  simp
theorem V8 (L:List Nat):ja (L.map fun r=>(ja L).idxOf r)=List.range (ja L).length:=by
 have hm:∀r,r∈ja L↔r∈L:=fun r=>by
  have:=(xO (L:=L) (D:=[]) List.nodup_nil).2.2 r
  simpa[ja]using this
 have h:=Q3 (m:=fun r=>(ja L).idxOf r) L [] fun a ha b hb e=>kg ((hm a).2 (by simpa using ha)) ((hm b).2 (by simpa using hb)) e
 have h2:ja (L.map fun r=>(ja L).idxOf r)=(ja L).map fun r=>(ja L).idxOf r:=h
 rw[h2]
 refine List.ext_getElem (by simp) fun i h1 h3=>?_
 simp only[List.getElem_map,List.getElem_range]
 have hn:(ja L).Nodup:=(xO (L:=L) (D:=[]) List.nodup_nil).1
 exact hn.idxOf_getElem i (by simpa using h3)

def nmN (f:FunL) (r:Nat):Nat:=(jX f).idxOf r
theorem Jh {f:FunL} {r:Nat} (h:r∈jX f):(xK f).1 r=(nmN f r:Int):=by
 rw[Xc]
 exact xh h
theorem kE {f:FunL} {v:Bool×Int} (h:v.1=true→v.2.toNat∈jX f):xk (zi (xK f).1 v)=(xk v).map (nmN f):=by
 unfold zi xk
 by_cases e:v.1=true
 ·rw[if_pos e,if_pos e,if_pos rfl,Jh (h e)]
  simp
 rw[if_neg e,if_neg e]
 rfl
theorem metD_ren {f:FunL} {d:Int} (h:0≤d→d.toNat∈jX f):js (if 0≤d then(xK f).1 d.toNat else d)=(js d).map (nmN f):=by
 unfold js
 by_cases e:0≤d
 ·rw[if_pos e,if_pos e,Jh (h e),if_pos (by omega)]
  simp
 rw[if_neg e,if_neg e]
 rfl
theorem kF {α β γ δ:Type} {g:α→β} {u:β→List γ} {w:α→List δ} {m:δ→γ}:∀{l:List α},(∀a∈l,u (g a)=(w a).map m)→(l.map g).flatMap u=(l.flatMap w).map m
 | [],_=>rfl
 | a::l,h=>by
  rw[List.map_cons,List.flatMap_cons,List.flatMap_cons,List.map_append,h a (.head _),kF fun b hb=>h b (.tail _ hb)]
theorem QE (m:Nat→Int) (r:Bool) (n:Int):(r,(zi m (r,n)).2)=zi m (r,n):=by
 unfold zi
 cases r<;>rfl
theorem met_ren {f:FunL} {b:Nat} (hb:b<f.blocks.length):V5 (Q0 (xK f).1 f.blocks[b])=(V5 f.blocks[b]).map (nmN f)∧Zq (Q0 (xK f).1 f.blocks[b])=(Zq f.blocks[b]).map (nmN f):=by
 have hm:∀{r:Nat},r∈Zq f.blocks[b]→r∈jX f:=fun h=>jw hb h
 have hI:∀i∈f.blocks[b].list,vS (jf (xK f).1 i)++js (jf (xK f).1 i).dst=(vS i++js i.dst).map (nmN f):=fun i hi=>by
  have h1:∀{r:Nat},r∈vS i++js i.dst→r∈jX f:=fun h=>hm (QB hi h)
  unfold vS jf at *
  simp only[QE]
  rw[kE fun e=>h1 (List.mem_append_left _ (List.mem_append_left _ (List.mem_append_left _ (xq e)))),
   kE fun e=>h1 (List.mem_append_left _ (List.mem_append_left _ (List.mem_append_right _ (xq e)))),
   kF (m:=nmN f) (w:=xk) fun v hv=>kE fun e=>h1 (List.mem_append_left _ (List.mem_append_right _ (List.mem_flatMap.2 ⟨v,hv,xq e⟩))),
   metD_ren fun e=>h1 (List.mem_append_right _ (by unfold js;rw[if_pos e];simp))]
  simp only[List.map_append]
 have hL:(f.blocks[b].list.map (jf (xK f).1)).flatMap (fun i=>vS i++js i.dst)=(f.blocks[b].list.flatMap fun i=>vS i++js i.dst).map (nmN f):=kF hI
 have hF:xk (f.blocks[b].fin.onr,(zi (xK f).1 (f.blocks[b].fin.onr,f.blocks[b].fin.onn)).2)=(xk (f.blocks[b].fin.onr,f.blocks[b].fin.onn)).map (nmN f):=by
  rw[QE]
  exact kE fun e=>hm (Qz e)
 have hD:∀p∈f.blocks[b].phis,((xK f).1 p.dst.toNat).toNat=nmN f p.dst.toNat:=fun p hp=>by rw[Jh (hm (QA hp))];simp
 unfold V5 Zq Q0
 simp only[List.map_append,hL,hF]
 refine⟨?_,?_⟩
 ·congr 2
  rw[List.map_map,List.map_map]
  exact List.map_congr_left hD
 congr 2
 refine kF fun p hp=>?_
 simp only[List.map_cons]
 rw[hD p hp,kF (m:=nmN f) (w:=xk) fun v hv=>kE fun e=>hm (Xd hp hv e)]
theorem Ji {α β:Type} {γ:Type} {xs:List α} {ys:List β} {u:β→List γ} {w:α→List γ} (hl:ys.length=xs.length) (h:∀i (h1:i<xs.length) (h2:i<ys.length),u ys[i]=w xs[i]):ys.flatMap u=xs.flatMap w:=by
 rw[List.flatMap_def,List.flatMap_def]
 congr 1
 refine List.ext_getElem (by simp[hl]) fun i h1 h2=>?_
 simp only[List.getElem_map]
 exact h i (by simpa using h2) (by simpa using h1)
theorem Jj (f:FunL):jX (qH f)=List.range (jX f).length:=by
 have hp:∀r∈List.range f.params.toNat,nmN f r=r:=fun r hr=>by
  obtain⟨E,hE⟩:=Qh f.params.toNat (f.blocks.flatMap V5++Z2 f)
  have e:jX f=List.range f.params.toNat++E:=by
   unfold jX ki
   rw[List.append_assoc]
   exact hE
  unfold nmN
  rw[e,List.idxOf_append,if_pos hr]
  exact kD (List.mem_range.1 hr)
 have e1:ki (qH f)++Z2 (qH f)=(ki f++Z2 f).map (nmN f):=by
  unfold ki Z2
  have h1:(qH f).blocks.flatMap V5=(f.blocks.flatMap V5).map (nmN f):=by
   rw[List.map_flatMap]
   exact Ji (w:=fun x=>(V5 x).map (nmN f)) (qM f) fun i h1 h2=>by rw[jk h2];exact(met_ren h1).1
  have h2:(qH f).blocks.flatMap Zq=(f.blocks.flatMap Zq).map (nmN f):=by
   rw[List.map_flatMap]
   exact Ji (w:=fun x=>(Zq x).map (nmN f)) (qM f) fun i h1 h2=>by rw[jk h2];exact(met_ren h1).2
  rw[h1,h2,List.map_append,List.map_append]
  congr 2
  show List.range f.params.toNat=_
  exact((List.map_congr_left (g:=id) hp).trans (by simp)).symm
 show ja (ki (qH f)++Z2 (qH f))=_
 rw[e1]
 exact V8 (ki f++Z2 f)

theorem nm_lt {f:FunL} {r:Nat} (h:r∈jX f):nmN f r<(jX f).length:=(xw h).1
theorem Xe {f:FunL} {r:Nat} (h:r<(jX f).length):(xK (qH f)).1 r=(r:Int):=by
 rw[Xc,Jj]
 exact Z5 h
theorem name_name (f:FunL):qH (qH f)=qH f:=by
 have hbH:(qH (qH f)).regs=(qH f).regs:=by rw[vt,vt,Jj];simp
 have hv:∀{v:Bool×Int},(v.1=true→v.2.toNat∈jX f)→zi (xK (qH f)).1 (zi (xK f).1 v)=zi (xK f).1 v:=fun {v} h=>by
  unfold zi
  by_cases e:v.1=true
  ·rw[if_pos e,if_pos rfl,Jh (h e),Int.toNat_natCast,Xe (nm_lt (h e))]
  rw[if_neg e,if_neg e]
 have hb:(qH (qH f)).blocks=(qH f).blocks:=by
  refine List.ext_getElem (by simp[qM]) fun b h1 h2=>?_
  have hb:b<f.blocks.length:=by rw[←qM f];exact h2
  rw[jk h1,jk h2]
  have hm:∀{r:Nat},r∈Zq f.blocks[b]→r∈jX f:=fun h=>jw hb h
  have hp:((Q0 (xK f).1 f.blocks[b]).phis.map fun p=>({ dst:=(xK (qH f)).1 p.dst.toNat,src:=p.src.map (zi (xK (qH f)).1) }:PhiL))=(Q0 (xK f).1 f.blocks[b]).phis:=by
   unfold Q0
   simp only
   rw[List.map_map]
   refine List.map_congr_left fun p hp=>?_
   have e1:(xK (qH f)).1 ((xK f).1 p.dst.toNat).toNat=(xK f).1 p.dst.toNat:=by
    rw[Jh (hm (QA hp)),Int.toNat_natCast,Xe (nm_lt (hm (QA hp)))]
   have e2:((p.src.map (zi (xK f).1)).map (zi (xK (qH f)).1))=p.src.map (zi (xK f).1):=by
    rw[List.map_map]
    exact List.map_congr_left fun v hv'=>hv fun e=>hm (Xd hp hv' e)
   show({ dst:=_,src:=_ }:PhiL)=_
   simp only[e1,e2]
  have hl:((Q0 (xK f).1 f.blocks[b]).list.map (jf (xK (qH f)).1))=(Q0 (xK f).1 f.blocks[b]).list:=by
   unfold Q0
   simp only
   rw[List.map_map]
   refine List.map_congr_left fun i hi=>?_
   have h1:∀{r:Nat},r∈vS i++js i.dst→r∈jX f:=fun h=>hm (QB hi h)
   have ea:=hv (v:=(i.ar,i.an)) fun e=>h1 (List.mem_append_left _ (List.mem_append_left _ (List.mem_append_left _ (xq e))))
   have eb:=hv (v:=(i.br,i.bn)) fun e=>h1 (List.mem_append_left _ (List.mem_append_left _ (List.mem_append_right _ (xq e))))
   have ec:((i.args.map (zi (xK f).1)).map (zi (xK (qH f)).1))=i.args.map (zi (xK f).1):=by
    rw[List.map_map]
    exact List.map_congr_left fun v hv'=>hv fun e=>h1 (List.mem_append_left _ (List.mem_append_right _ (List.mem_flatMap.2 ⟨v,hv',xq e⟩)))
   have ed:(if 0≤(if 0≤i.dst then(xK f).1 i.dst.toNat else i.dst) then(xK (qH f)).1 (if 0≤i.dst then(xK f).1 i.dst.toNat else i.dst).toNat else(if 0≤i.dst then(xK f).1 i.dst.toNat else i.dst))=(if 0≤i.dst then(xK f).1 i.dst.toNat else i.dst):=by
    by_cases e:0≤i.dst
    ·have hr:=h1 (r:=i.dst.toNat) (List.mem_append_right _ (by unfold js;rw[if_pos e];simp))
     rw[if_pos e,Jh hr,if_pos (by omega),Int.toNat_natCast,Xe (nm_lt hr)]
    rw[if_neg e,if_neg e]
   show jf _ (jf _ i)=jf _ i
   unfold jf
   simp only[QE,ea,eb,ec,ed]
  have he:(zi (xK (qH f)).1 ((Q0 (xK f).1 f.blocks[b]).fin.onr,(Q0 (xK f).1 f.blocks[b]).fin.onn)).2=(Q0 (xK f).1 f.blocks[b]).fin.onn:=by
   unfold Q0
   simp only[QE]
   rw[hv (v:=(f.blocks[b].fin.onr,f.blocks[b].fin.onn)) fun e=>hm (Qz e)]
  generalize Q0 (xK f).1 f.blocks[b]=y at hp hl he
  unfold Q0
  rw[hp,hl,he]
 have e0:qH (qH f)={ qH f with regs:=(qH (qH f)).regs,blocks:=(qH (qH f)).blocks }:=rfl
 rw[e0,hbH,hb]

theorem name_tos (f:FunL):tosB (qH f).blocks=tosB f.blocks:=by
 funext b
 unfold tosB
 by_cases h:b<f.blocks.length
 ·rw[List.getElem?_eq_getElem h,List.getElem?_eq_getElem (by rw[qM];exact h),jk]
  rfl
 have h2:=qM f
 rw[List.getElem?_eq_none (by omega),List.getElem?_eq_none (by omega)]
theorem ZL (f:FunL):jr (qH f).blocks=jr f.blocks:=by
 unfold jr jv vR
 rw[name_tos,qM]
theorem VW (f:FunL) (b:Nat):jC (qH f) b=none↔jC f b=none:=by
 have e:∀b,(atF (qH f) b).fin.to=(atF f b).fin.to∧(atF (qH f) b).fin.kind=(atF f b).fin.kind∧(atF (qH f) b).phis.length=(atF f b).phis.length:=fun b=>by
  by_cases h:b<f.blocks.length
  ·have h2:b<(qH f).blocks.length:=by rw[qM];exact h
   rw[qF h,qF h2,jk h2]
   exact⟨rfl,rfl,by simp[Q0]⟩
  unfold atF
  have h2:¬ b<(qH f).blocks.length:=by rw[qM];exact h
  rw[List.getD_eq_getElem?_getD,List.getD_eq_getElem?_getD,List.getElem?_eq_none (by omega),List.getElem?_eq_none (by omega)]
  exact⟨rfl,rfl,rfl⟩
 unfold jC
 dsimp only
 rw[(e b).1,(e b).2.1,(e _).2.2,VU]

inductive PathT (f:FunL):Nat→Prop
 | zero:PathT f 0
 | step {a b:Nat}:PathT f a→a<f.blocks.length→(b:Int)∈tosB f.blocks a→PathT f b
theorem FunS.reach {f:FunL} (h:FunS f) {b:Nat}:b∈jr f.blocks↔PathT f b:=by
 have hc:=h.ordC
 constructor
 ·intro hb
  have key:∀(n i:Nat) (hi:i<(jr f.blocks).length),i<n→PathT f (jr f.blocks)[i]:=by
   intro n
   induction n with
   | zero=>intro i _ h;omega
   | succ n ih=>
    intro i hi hn
    by_cases e:(jr f.blocks)[i]=0
    ·rw[e];exact .zero
    obtain⟨j,hj,hji,hm⟩:=h.ord.par i hi e
    exact .step (ih j hj (by omega)) (hc.inb _ (List.getElem_mem hj)) hm
  obtain⟨i,hi,rfl⟩:=List.mem_iff_getElem.1 hb
  exact key (i+1) i hi (by omega)
 intro hp
 induction hp with
 | zero=>exact hc.pos.2.2
 | step _ _ hm ih=>
  have:=hc.closed _ ih _ hm
  simpa using this
def LiveT (f:FunL):Prop:=∀x,x<f.blocks.length→tosB f.blocks x≠[]→PathT f x

theorem path_join {f:FunL} (hf:FunD f) {b t:Nat} (m:MayJ f b t) {x:Nat} (h:PathT f x):PathT (zX f b t) (if x=t then b else x):=by
 have htb:t∉insN f t:=by rw[m.one];simp[m.ne]
 have h0:¬ (0=t):=fun e=>by
  have h1:(t:Int)∈tosB f.blocks b:=by rw[m.to];simp
  rw[qX m.hb]at h1
  have:=hf.tos _ m.hb _ h1
  omega
 induction h with
 | zero=>rw[if_neg h0];exact .zero
 | @step a y _ ha hm ih=>
  have hlen:=qI f b t
  by_cases e1:a=t
  ·subst e1
   rw[if_pos rfl]at ih
   have hy:y≠a:=fun e=>htb (by subst e;exact hf.mem.2 ⟨ha,hm⟩)
   rw[if_neg hy]
   refine .step ih (by rw[hlen];exact m.hb) ?_
   rw[vM m m.hb,if_neg (fun e=>m.ne e.symm),if_pos rfl]
   exact hm
  rw[if_neg e1]at ih
  by_cases e2:a=b
  ·subst e2
   rw[m.to,List.mem_singleton]at hm
   have:y=t:=by omega
   rw[if_pos this]
   exact ih
  have hy:y≠t:=fun e=>by
   have:a∈insN f t:=hf.mem.2 ⟨ha,by rw[←e];exact hm⟩
   rw[m.one,List.mem_singleton]at this
   exact e2 this
  rw[if_neg hy]
  refine .step ih (by rw[hlen];exact ha) ?_
  rw[vM m ha,if_neg e1,if_neg e2]
  exact hm
theorem LiveT.join {f:FunL} (hf:FunD f) (h:LiveT f) {b t:Nat} (m:MayJ f b t):LiveT (zX f b t):=fun x hx hne=>by
 rw[qI]at hx
 rw[vM m hx]at hne
 by_cases e:x=t
 ·rw[if_pos e]at hne;exact absurd rfl hne
 rw[if_neg e]at hne
 have hp:PathT f x:=by
  by_cases e2:x=b
  ·subst e2;exact h x hx (by rw[m.to];simp)
  rw[if_neg e2]at hne;exact h x hx hne
 have:=path_join hf m hp
 rw[if_neg e]at this
 exact this
theorem LiveT.chain {nf:Nat} {P:Nat→Int}:∀(c:Nat) {f:FunL} {b:Nat},FunC nf P f→b<f.blocks.length→LiveT f→LiveT (qN c f b)
 | 0,_,_,_,_,h=>h
 | c+1,f,b,h,hb,hl=>by
  unfold qN
  cases e:jC f b with
  | none=>exact hl
  | some t=>
   have hm:=mayJ h hb e
   exact LiveT.chain c (h.join hm) (by rw[qI];exact hb) (hl.join h.funD hm)
theorem LiveT.chains {nf:Nat} {P:Nat→Int} {f:FunL} (h:FunC nf P f) (hl:LiveT f):LiveT (qG f):=by
 unfold qG
 have key:∀(l:List Nat) (g:FunL) (c:Nat),(∀b∈l,b<f.blocks.length)→FunC nf P g→g.blocks.length=f.blocks.length→LiveT g→LiveT (l.foldl (fun g b=>qN c g b) g):=by
  intro l
  induction l with
  | nil=>intro g c _ _ _ h;exact h
  | cons b l ih=>
   intro g c hl hg hn hv
   have hb:b<g.blocks.length:=by rw[hn];exact hl b (.head _)
   obtain⟨h1,h2⟩:=hg.chain c hb
   exact ih _ c (fun x hx=>hl x (.tail _ hx)) h1 (h2.trans hn) (hv.chain c hg hb)
 exact key _ f _ (fun b hb=>List.mem_range.1 hb) h rfl hl
theorem FunD.live {f:FunL} (h:FunD f):LiveT (j8 f):=fun x hx _=>by
 have hk:=h.keep h.toFunS.ordC
 refine hk.toFunS.reach.1 ?_
 have e:=h.order
 unfold j8 at e hx
 rw[e]
 rw[qV]at hx
 exact List.mem_range.2 hx

theorem FunC.none_order {nf:Nat} {P:Nat→Int} {f:FunL} (h:FunC nf P f) (hl:LiveT f) (hn:∀b,b<f.blocks.length→jC f b=none) {i:Nat} (hi:i<(j8 f).blocks.length):jC (j8 f) i=none:=by
 have hd:=h.funD
 have ho:=hd.toFunS.ordC
 cases e:jC (j8 f) i with
 | none=>rfl
 | some j=>
  exfalso
  have g:=mayJ h.order hi e
  have g1:=g.ht
  unfold j8 at g g1 hi
  rw[qV]at g1 hi
  have hi':=ho.inb _ (List.getElem_mem hi)
  have hj':=ho.inb _ (List.getElem_mem g1)
  have hto:=g.to
  rw[ky ho hi]at hto
  have e3:tosB f.blocks (jr f.blocks)[i]=[((jr f.blocks)[j]:Int)]:=by
   rcases ht:tosB f.blocks (jr f.blocks)[i]with _|⟨t,_|⟨t2,l⟩⟩
   ·rw[ht]at hto;cases hto
   ·rw[ht]at hto
    have e4:(jr f.blocks).idxOf t.toNat=j:=by
     simp only[List.map_cons,List.map_nil,List.cons.injEq,and_true]at hto
     omega
    have hm:=ho.closed _ (List.getElem_mem hi) t (by rw[ht];simp)
    obtain⟨k1,k2⟩:=xw hm
    have h5:=hd.tosB _ hi' t (by rw[ht];simp)
    have e6:(jr f.blocks)[j]=t.toNat:=by
     rw[←k2]
     simp only[e4]
    rw[e6,show((t.toNat:Nat):Int)=t by omega]
   rw[ht]at hto
   have:=congrArg List.length hto
   simp at this
  have hm:MayJ f (jr f.blocks)[i] (jr f.blocks)[j]:=by
   refine⟨hi',hj',e3,fun e5=>?_,?_,?_⟩
   ·have:=congrArg (fun x=>(jr f.blocks).idxOf x) e5
    rw[ho.once.idxOf_getElem j g1,ho.once.idxOf_getElem i hi]at this
    exact g.ne this
   ·have hp:=g.phi
    rw[Q1 _ f g1,qF hj']at hp
    have:=congrArg List.length hp
    simp only[yo,List.length_map,List.length_nil]at this
    exact List.eq_nil_of_length_eq_zero this
   refine Jc (xI hd _) (by simp) fun a=>?_
   rw[List.mem_singleton]
   have hk:=fun k=>kB hd ho (b:=(jr f.blocks)[j]) (List.getElem_mem g1) (j:=k)
   rw[ho.once.idxOf_getElem j g1,g.one]at hk
   constructor
   ·intro ha
    obtain⟨h6,h7⟩:=hd.mem.1 ha
    have hr:a∈jr f.blocks:=hd.toFunS.reach.2 (hl a h6 (by intro e7;rw[e7]at h7;cases h7))
    obtain⟨k1,k2⟩:=xw hr
    have:=(hk ((jr f.blocks).idxOf a)).2 ⟨k1,by rw[k2];exact ha⟩
    rw[List.mem_singleton]at this
    rw[←k2]
    simp only[this]
   rintro rfl
   obtain⟨_,h8⟩:=(hk i).1 (by simp)
   exact h8
  have:=hn _ hi'
  rw[(h.may_iff hi').2 hm]at this
  cases this

theorem Q4 {nf:Nat} {P:Nat→Int} {f:FunL} (h:FunC nf P f):(qG f).blocks.length=f.blocks.length:=by
 unfold qG
 have key:∀(l:List Nat) (g:FunL) (c:Nat),(∀b∈l,b<f.blocks.length)→FunC nf P g→g.blocks.length=f.blocks.length→(l.foldl (fun g b=>qN c g b) g).blocks.length=f.blocks.length:=by
  intro l
  induction l with
  | nil=>intro g c _ _ h;exact h
  | cons b l ih=>
   intro g c hl hg hn
   have hb:b<g.blocks.length:=by rw[hn];exact hl b (.head _)
   obtain⟨h1,h2⟩:=hg.chain c hb
   exact ih _ c (fun x hx=>hl x (.tail _ hx)) h1 (h2.trans hn)
 exact key _ f _ (fun b hb=>List.mem_range.1 hb) h rfl
theorem jl {c:Nat} {f:FunL} {b:Nat} (h:jC f b=none):qN c f b=f:=by
 cases c with
 | zero=>rfl
 | succ c=>unfold qN;rw[h]
theorem Z6 {f:FunL} (h:∀b,b<f.blocks.length→jC f b=none):qG f=f:=by
 unfold qG
 generalize f.blocks.length+1=c
 have key:∀l:List Nat,(∀b∈l,jC f b=none)→l.foldl (fun g b=>qN c g b) f=f:=by
  intro l
  induction l with
  | nil=>intro _;rfl
  | cons b l ih=>
   intro hl
   rw[List.foldl_cons,jl (hl b (.head _))]
   exact ih fun x hx=>hl x (.tail _ hx)
 exact key _ fun b hb=>h b (List.mem_range.1 hb)
theorem FunC.twice {nf:Nat} {P:Nat→Int} {f:FunL} (h:FunC nf P f):doT (doT f)=doT f:=by
 have h1:=h.order.chains
 obtain⟨g,hg⟩:∃g,g=j8 (qG (j8 f)):=⟨_,rfl⟩
 have hgC:FunC nf P g:=by rw[hg];exact h1.order
 have e0:doT f=qH g:=by rw[hg];rfl
 have hgN:=hgC.name
 have ho:jr g.blocks=List.range g.blocks.length:=by
  rw[hg,h1.funD.order]
  unfold j8
  rw[qV]
 have e1:j8 (qH g)=qH g:=by
  unfold j8
  rw[ZL,ho,←qM g]
  exact hgN.funD.keep_same fun b hb p hp=>(hgN.phi b hb p hp).len
 have e2:qG (qH g)=qH g:=Z6 fun b hb=>by
  rw[VW]
  rw[qM]at hb
  rw[hg]at hb ⊢
  refine h1.none_order (h.funD.live.chains h.order) (fun b hb=>?_) hb
  exact h.order.chained (by
   have:=h1
   have hl:(qG (j8 f)).blocks.length=(j8 f).blocks.length:=Q4 h.order
   rw[←hl];exact hb)
 rw[e0]
 unfold doT j9
 rw[e1,e2,e1,name_name]
end Go.Proofs.YtecdphhdmjmmnaaGreatDoor
