/-
  The contract of the checker's end: what is wrong with the end of a block.
-/
import Derived.WalkKit
import Derived.WalkSmall
import Derived.RowKit
import Derived.Test.YtecdphhdmjmmnaaGreatDoorRows
import Derived.ProofKit
import Derived.Deep.Slices
import Derived.WalkSpells
import Derived.WalkLawsBesides
import Derived.RegionTactic
import Derived.BigQuiet
import Derived.Deep.QuietTactic
import Derived.Deep.RegionHeld
set_option maxRecDepth 100000
set_option maxHeartbeats 16000000
namespace Go.Proofs.YtecdphhdmjmmnaaGreatDoor
open Go.RowKit
/-! short names for what is said often of new memory -/
theorem bR (B:Nat) (w:World):Below B w w:=.refl B w
theorem bH {B:Nat} {a b:World} (h:Hid (Below B a b)):Below B a b:=h
theorem bD {B:Nat} {a w:World} (h:Below B a w):Below B a w.drew:=h.drew
theorem bN {B:Nat} {a w:World} (h:Below B a w) (n:Nat):Below B a (w.drewN n):=below_drewN h n
theorem bS {B:Nat} {a w:World} (h:Below B a w) {p:Addr} (hp:B≤p.block) (u:Value):Below B a (w.setCell p u):=h.setCell hp u
theorem bA {B:Nat} {a w:World} (h:Below B a w) (hB:B≤w.heap.size) (o:Obj):Below B a (w.alloc o):=h.alloc hB o
theorem bT {B n:Nat} {a b c:World} (k:Below n b c) (h:Below B a b) (hB:B≤n):Below B a c:=h.trans (k.mono hB)

theorem bZ {p:Prop} (h:p:=by repeat (first|(with_reducible first|exact bR _ _|exact bH ‹_›|refine bD ?_|refine bN ?_ _|refine bS ?_ ?_ _|refine bA ?_ ?_ _|refine bT hb3 ?_ ?_|refine bT hb5 ?_ ?_|refine bT hb4 ?_ ?_)|omega|(simp;omega)|simp)):p:=h

theorem Q5 {W w1:World} (hb:Below W.heap.size W w1):(∀b o,b<W.heap.size→w1.cell? ⟨b,o,none⟩=W.cell? ⟨b,o,none⟩)∧(∀b o,b<W.heap.size→w1.frozen? ⟨b,o,none⟩=W.frozen? ⟨b,o,none⟩)∧W.heap.size≤w1.heap.size:=
 ⟨fun b o h=>hb.cell (p:=⟨b,o,none⟩) h,fun b o h=>hb.frozen (p:=⟨b,o,none⟩) h,hb.size⟩

theorem q8 {w:World} {b o:Nat} {v:Value} (h:w.cell? ⟨b,o,none⟩=some v):b<w.heap.size:=by
 unfold World.cell? at h
 rcases Nat.lt_or_ge b w.heap.size with g|g
 ·exact g
 rw[Array.getElem?_eq_none_iff.2 g]at h
 cases h

theorem qr (w:World) (o:Obj):(w.alloc o).heap[w.heap.size]?=some o:=by
 show(w.heap.push o)[w.heap.size]?=_
 simp
theorem qh {w:World} {o:Obj} {k:Nat} (h:w.heap.size=k):(w.alloc o).heap[k]?=some o:=by
 subst h;exact qr w o
theorem qj {w:World} {o:Obj} {k:Nat} {x:Obj} (h:w.heap[k]?=some x):(w.alloc o).heap[k]?=some x:=by
 have hk:k<w.heap.size:=by
  rcases Nat.lt_or_ge k w.heap.size with g|g
  ·exact g
  rw[Array.getElem?_eq_none_iff.2 g]at h;cases h
 rw[Below.heap_alloc w o k hk];exact h
theorem heap_drew {w:World} {k:Nat} {x:Obj} (h:w.heap[k]?=some x):w.drew.heap[k]?=some x:=h
theorem qd {B:Nat} {w w':World} {k:Nat} {x:Obj} (hb:Below B w w') (hk:k<B) (h:w.heap[k]?=some x):w'.heap[k]?=some x:=(hb.block k hk).trans h
theorem blk {w:World} {k:Nat} {A:Array Value} {T:TypeId} (h:w.heap[k]?=some (.cells A T (0,0))):(∀j,w.cell? ⟨k,j,none⟩=A[j]?)∧(∀j,w.frozen? ⟨k,j,none⟩=false):=by
 constructor
 ·intro j
  simp[World.cell?,h]
 intro j
 simp[World.frozen?,h]

def I64 (n:Int):Prop:=-9223372036854775808≤n∧n≤9223372036854775807

end Go.Proofs.YtecdphhdmjmmnaaGreatDoor
namespace Go.Proofs.YtecdphhdmjmmnaaGreatDoor
open Go.RowKit Go.ChangeShapes Go.WideShapes Go.ChangeAt

def SliceAt {α:Type} (w:World) (size:Nat) (R:List Value→α→Prop) (p:Option Addr) (xs:List α):Prop:=
 xs=[]∨∃b o,p=some ⟨b,o,none⟩∧∀i (hi:i<xs.length),∃cs,cs.length=size∧(∀j,j<size→w.cell? ⟨b,o+i*size+j,none⟩=cs[j]?)∧R cs xs[i]

theorem Xb {w:World} {base:Nat} {a:Addr} {n:Nat} {cs:List Value} (h:w.cells? base a n=some cs):cs.length=n∧∀j,j<n→w.cell? (a.add j)=cs[j]?:=by
 unfold World.cells? at h
 split at h
 ·have hl:=mapM_some_length h
  refine⟨by simpa using hl,fun j hj=>?_⟩
  have:=mapM_some_get h j j (by simp[hj])
  exact this
 cases h

theorem vQ {α:Type} {Q:Nat→α→Prop}:∀(n:Nat),(∀i,i<n→∃x,Q i x)→∃xs:List α,xs.length=n∧∀i (hi:i<xs.length),Q i xs[i]
 | 0,_=>⟨[],rfl,fun i hi=>absurd hi (by simp)⟩
 | n+1,h=>by
  obtain⟨xs,hl,hx⟩:=vQ n (fun i hi=>h i (by omega))
  obtain⟨x,hq⟩:=h n (by omega)
  refine⟨xs++[x],by simp[hl],fun i hi=>?_⟩
  rw[List.length_append,List.length_singleton]at hi
  rcases Nat.lt_or_ge i xs.length with g|g
  ·rw[List.getElem_append_left g];exact hx i g
  obtain rfl:i=xs.length:=by omega
  rw[List.getElem_append_right (Nat.le_refl _)]
  simp only[Nat.sub_self,List.getElem_cons_zero]
  rw[hl];exact hq

theorem vR {H:Type} {P:Program} {e:TypeId} {d:DataW H} {k:Nat} (hk:k∈d.weights P e):∀{l:List (DataW H)},d∈l→k∈DataW.weightsAll P e l
 | x::r,h=>by
  unfold DataW.weightsAll
  rcases List.mem_cons.1 h with rfl|h
  ·exact List.mem_append_left _ hk
  exact List.mem_append_right _ (vR hk h)

section
variable {H : Type} {enc : TypeId × Value → H} {P : Program} {w : World}

theorem xV {α:Type} {R:List Value→α→Prop} {t e:TypeId} {size bytes:Nat} (ht:P.underlying t=some (.slice e)) (hsz:P.cellsOf e=size) (hby:P.bytesOf e=bytes) (hpos:0<size)
  (hR:∀fuel cs d ps,DataW.trod enc P w 0 (fun _=>true) true fuel e cs=some (d,ps)→(∀k∈d.weights P e,k≤reachBytes)→∃x,R cs x)
  {fuel:Nat} {cs:List Value} {d:DataW H} {ps:List MemPlace} (h:DataW.trod enc P w 0 (fun _=>true) true fuel t cs=some (d,ps)) (hw:∀k∈d.weights P t,k≤reachBytes) :
  ∃(p:Option Addr) (c:Nat) (xs:List α),cs=[.slice p xs.length c]∧(p=none→xs.length=0∧c=0)∧xs.length≤c∧c*bytes≤reachBytes∧SliceAt w size R p xs:=by
 rcases Go.Deep.open_slice ht h with⟨rfl,hx⟩|⟨a,len,cap,m,n,D,Pl,rfl,_,hl,hm,hmm,hx,hel⟩
 ·exact⟨none,0,[],rfl,fun _=>⟨rfl,rfl⟩,Nat.le_refl _,by simp,.inl rfl⟩
 simp only[if_true]at hmm
 subst hmm
 simp only[Prod.mk.injEq]at hx
 obtain⟨rfl,rfl⟩:=hx
 have hwl:m*bytes≤reachBytes:=by
  refine hw _ ?_
  unfold DataW.weights
  rw[ht]
  simp only[List.length_map,List.length_range,hby]
  rw[show len+(m - len)=m by omega]
  exact List.mem_cons_self
 have hoS:∀i,i<len→∃x,∃cs',w.cells? 0 (a.add (i*size)) size=some cs'∧R cs' x:=by
  intro i hi
  obtain⟨cs',hc,htr⟩:=hel i (by omega)
  rw[hsz]at hc
  obtain⟨x,hx⟩:=hR _ _ _ _ htr (fun k hk=>by
   refine hw _ ?_
   unfold DataW.weights
   rw[ht]
   refine List.mem_cons_of_mem _ (List.mem_append_left _ ?_)
   exact vR hk (List.mem_map.2 ⟨i,List.mem_range.2 hi,rfl⟩))
  exact⟨x,cs',hc,hx⟩
 obtain⟨xs,rfl,hxs⟩:=vQ len hoS
 refine⟨some a,m,xs,rfl,fun h=>(by cases h),hl,hwl,?_⟩
 rcases Nat.eq_zero_or_pos xs.length with h0|h0
 ·exact .inl (List.length_eq_zero_iff.1 h0)
 right
 obtain⟨b,o,sp⟩:=a
 have hsp:sp=none:=by
  obtain⟨cs',hc,_⟩:=hxs 0 h0
  obtain⟨hcl,hcc⟩:=Xb hc
  have h1:=hcc 0 hpos
  rw[List.getElem?_eq_getElem (by omega)]at h1
  cases sp with
  | none=>rfl
  | some s=>
   exfalso
   unfold World.cell? at h1
   split at h1
   ·simp[Addr.add]at h1
   cases h1
 subst hsp
 refine⟨b,o,rfl,fun i hi=>?_⟩
 obtain⟨cs',hc,hr⟩:=hxs i hi
 obtain⟨hcl,hcc⟩:=Xb hc
 refine⟨cs',hcl,fun j hj=>?_,hr⟩
 have:=hcc j hj
 rw[←this]
 congr 1
 simp only[Addr.add]
 split<;>split<;>simp_all<;>omega

theorem kc {W W':World} (hl:laidOutB P=true) (hb:Below W.heap.size W W'):∀{ts:List TypeId} {vs:List Value} {ds:List (DataW H)} {ps:List MemPlace},(∀t∈ts,P.readableRec t=true∧t<P.types.size)→
  DataW.TrodAll enc P W 0 (fun _=>true) true ts vs ds ps→(∀x∈ps,x.block<W.heap.size)→DataW.TrodAll enc P W' 0 (fun b=>decide (b<W.heap.size)) true ts vs ds ps
 | [],[],[],_,_,h,_=>h
 | t::ts,v::vs,d::ds,ps,ht,h,hlt=>by
  obtain⟨p,q,h1,h2,rfl⟩:=h
  obtain⟨r1,r2⟩:=ht t List.mem_cons_self
  exact⟨p,q,Below.trod hl r1 r2 h1 hb (fun x hx=>hlt x (List.mem_append_left _ hx)),kc hl hb (fun t h=>ht t (List.mem_cons_of_mem _ h)) h2 (fun x hx=>hlt x (List.mem_append_right _ hx)),rfl⟩

theorem law_post {f:Func} {s:ChangeSpec} {W W':World} {args:Array Value} {ds gs:List (DataW H)} {before:List MemPlace} {T:TypeId} (hl:laidOutB P=true) (hres:f.resultTypes=#[T]) (hT:P.underlying T=some .bool)
  (hts:∀t∈f.params.toList,P.readableRec t=true∧t<P.types.size) (hvars:s.vars=[]) (hW:DataW.Whole enc P f.params.toList s.vars false W args.toList ds gs before)
  (hfn:s.fn H (ds++gs)={ results:=[.lit (.bool true)],args:=ds }) (hb:Below W.heap.size W W') :
  s.post enc P f false true false false W args (.bool true) W':=by
 have hlt:∀x∈before,x.block<W.heap.size:=fun x hx=>hW.lt x hx
 have hW2:=hW
 obtain⟨p,q,hA,hV,rfl,hfz,hnd⟩:=hW2
 refine⟨ds,gs,_,[],p,[],hW,?_,?_,?_,hb.frame _,fun h=>by cases h⟩
 ·rw[hfn,hres]
  exact trodAll_mk1 (shut_bool hT true)
 ·rw[hfn]
  exact kc hl hb hts hA (fun x hx=>hlt x (List.mem_append_left _ hx))
 rw[hfn,hvars]
 exact rfl
end

theorem I64.of_wf {n:Int} (h:(Lit.int .i64 n).wf=true):I64 n:=by
 simp only[Lit.wf,IntKind.min,IntKind.max,IntKind.signed,IntKind.bits,Bool.and_eq_true,decide_eq_true_eq,if_true]at h
 unfold I64
 omega

def vO (cs:List Value) (v:Bool×Int):Prop:=cs=[.bool v.1,.int .i64 v.2]∧I64 v.2
def xC (cs:List Value) (n:Int):Prop:=cs=[.int .i64 n]∧I64 n
def SlF {α:Type} (w:World) (size bytes:Nat) (R:List Value→α→Prop) (v:Value) (xs:List α):Prop:=
 ∃p c,v = .slice p xs.length c∧(p=none→xs.length=0∧c=0)∧xs.length≤c∧xs.length*bytes≤reachBytes∧SliceAt w size R p xs
theorem capQ {A D:Prop} {n c b r:Nat} (h:A∧n≤c∧c*b≤r∧D):A∧n≤c∧n*b≤r∧D:=⟨h.1,h.2.1,Nat.le_trans (Nat.mul_le_mul_right _ h.2.1) h.2.2.1,h.2.2.2⟩

structure InsL where
 op:Int
 dst:Int
 ar:Bool
 an:Int
 br:Bool
 bn:Int
 fn:Int
 args:List (Bool×Int)
structure PhiL where
 dst:Int
 src:List (Bool×Int)
structure EndL where
 kind:Int
 onr:Bool
 onn:Int
 to:List Int
structure BlkL where
 phis:List PhiL
 list:List InsL
 fin:EndL
structure FunL where
 name:ByteArray
 params:Int
 regs:Int
 blocks:List BlkL
structure GloL where
 name:ByteArray
 size:Int
 init:List Int
structure UniL where
 globals:List GloL
 funcs:List FunL

def InsR (w:World) (cs:List Value) (i:InsL):Prop:=∃v,cs=[.int .i64 i.op,.int .i64 i.dst,.bool i.ar,.int .i64 i.an,.bool i.br,.int .i64 i.bn,.int .i64 i.fn,v]∧
 I64 i.op∧I64 i.dst∧I64 i.an∧I64 i.bn∧I64 i.fn∧SlF w 2 16 vO v i.args
def PhiR (w:World) (cs:List Value) (x:PhiL):Prop:=∃v,cs=[.int .i64 x.dst,v]∧I64 x.dst∧SlF w 2 16 vO v x.src
def EndR (w:World) (cs:List Value) (x:EndL):Prop:=∃v,cs=[.int .i64 x.kind,.bool x.onr,.int .i64 x.onn,v]∧I64 x.kind∧I64 x.onn∧SlF w 1 8 xC v x.to
def BlkR (w:World) (cs:List Value) (x:BlkL):Prop:=∃v1 v2 v3,cs=[v1,v2,.int .i64 x.fin.kind,.bool x.fin.onr,.int .i64 x.fin.onn,v3]∧I64 x.fin.kind∧I64 x.fin.onn∧
 SlF w 2 32 (PhiR w) v1 x.phis∧SlF w 8 80 (InsR w) v2 x.list∧SlF w 1 8 xC v3 x.fin.to
def FunR (w:World) (cs:List Value) (x:FunL):Prop:=∃v,cs=[.string x.name,.int .i64 x.params,.int .i64 x.regs,v]∧x.name.size≤reachBytes∧I64 x.params∧I64 x.regs∧SlF w 6 96 (BlkR w) v x.blocks
def GloR (w:World) (cs:List Value) (x:GloL):Prop:=∃v,cs=[.string x.name,.int .i64 x.size,v]∧x.name.size≤reachBytes∧I64 x.size∧SlF w 1 8 xC v x.init
def UniR (w:World) (cs:List Value) (x:UniL):Prop:=∃v1 v2,cs=[v1,v2]∧SlF w 3 48 (GloR w) v1 x.globals∧SlF w 4 56 (FunR w) v2 x.funcs

theorem vu:Tryz.prog.cellsOf 43=2:=by kernel_rfl
theorem cellsBool:Tryz.prog.cellsOf 4=1:=by kernel_rfl
theorem xy:Tryz.prog.cellsOf 3=1:=by kernel_rfl
theorem JR:Tryz.prog.cellsOf 9=1:=by kernel_rfl
theorem Xc:Tryz.prog.cellsOf 51=1:=by kernel_rfl
theorem Xd:Tryz.prog.cellsOf 44=1:=by kernel_rfl
theorem JS:Tryz.prog.cellsOf 53=8:=by kernel_rfl
theorem cellsInss:Tryz.prog.cellsOf 41=1:=by kernel_rfl
theorem JT:Tryz.prog.cellsOf 101=2:=by kernel_rfl
theorem cellsPhis:Tryz.prog.cellsOf 40=1:=by kernel_rfl
theorem JU:Tryz.prog.cellsOf 46=4:=by kernel_rfl
theorem JV:Tryz.prog.cellsOf 48=6:=by kernel_rfl
theorem cellsBlks:Tryz.prog.cellsOf 35=1:=by kernel_rfl
theorem JW:Tryz.prog.cellsOf 37=4:=by kernel_rfl
theorem cellsFuns:Tryz.prog.cellsOf 23=1:=by kernel_rfl
theorem JX:Tryz.prog.cellsOf 68=3:=by kernel_rfl
theorem cellsGlos:Tryz.prog.cellsOf 22=1:=by kernel_rfl
theorem cellsUni:Tryz.prog.cellsOf 25=2:=by kernel_rfl
theorem JY:Tryz.prog.bytesOf 43=16:=by kernel_rfl
theorem JZ:Tryz.prog.bytesOf 3=8:=by kernel_rfl
theorem bytesIns:Tryz.prog.bytesOf 53=80:=by kernel_rfl
theorem bytesPhi:Tryz.prog.bytesOf 101=32:=by kernel_rfl
theorem bytesBlk:Tryz.prog.bytesOf 48=96:=by kernel_rfl
theorem bytesFun:Tryz.prog.bytesOf 37=56:=by kernel_rfl
theorem bytesGlo:Tryz.prog.bytesOf 68=48:=by kernel_rfl
theorem VG {α:Type} {l:List α} (hl:l.length=2):∃a b,l=[a,b]:=by
 match l,hl with
 | [a,b],_=>exact⟨a,b,rfl⟩
theorem len_3 {α:Type} {l:List α} (hl:l.length=3):∃a b c,l=[a,b,c]:=by
 match l,hl with
 | [a,b,c],_=>exact⟨a,b,c,rfl⟩
theorem VH {α:Type} {l:List α} (hl:l.length=4):∃a b c d,l=[a,b,c,d]:=by
 match l,hl with
 | [a,b,c,d],_=>exact⟨a,b,c,d,rfl⟩
theorem len_6 {α:Type} {l:List α} (hl:l.length=6):∃a b c d e f,l=[a,b,c,d,e,f]:=by
 match l,hl with
 | [a,b,c,d,e,f],_=>exact⟨a,b,c,d,e,f,rfl⟩
theorem len_8 {α:Type} {l:List α} (hl:l.length=8):∃a b c d e f g h,l=[a,b,c,d,e,f,g,h]:=by
 match l,hl with
 | [a,b,c,d,e,f,g,h],_=>exact⟨a,b,c,d,e,f,g,h,rfl⟩

section
variable {H : Type} {enc : TypeId × Value → H} {w : World} {fuel : Nat} {cs : List Value} {d : DataW H} {ps : List MemPlace}
theorem rd_int (h:DataW.trod enc Tryz.prog w 0 (fun _=>true) true fuel 3 cs=some (d,ps)):∃n,xC cs n:=by
 obtain⟨k,e,_,wk⟩:=DataW.trod_int Tryz.underlying3 h
 exact⟨k,e,I64.of_wf wk⟩
theorem Xe (h:DataW.trod enc Tryz.prog w 0 (fun _=>true) true fuel 43 cs=some (d,ps)):∃x,vO cs x:=by
 obtain⟨xs,n,_,hx,hlen,hxl,hf⟩:=DataW.trod_struct Tryz.underlying43 h
 simp only[Prod.mk.injEq]at hx
 obtain⟨rfl,_⟩:=hx
 rw[vu]at hlen
 obtain⟨c0,c1,rfl⟩:=VG hlen
 obtain⟨x0,x1,rfl⟩:=VG (show xs.length=2 by simpa using hxl)
 have h0:DataW.trod enc Tryz.prog w 0 (fun _=>true) true n 4 (([c0,c1].drop 0).take (Tryz.prog.cellsOf 4))=some x0:=hf 0 _ rfl
 rw[cellsBool]at h0
 have h1:DataW.trod enc Tryz.prog w 0 (fun _=>true) true n 3 (([c0,c1].drop 1).take (Tryz.prog.cellsOf 3))=some x1:=hf 1 _ rfl
 rw[xy]at h1
 obtain⟨k0,e0,_⟩:=DataW.trod_bool Tryz.underlying4 h0
 obtain⟨k1,e1,_,w1⟩:=DataW.trod_int Tryz.underlying3 h1
 simp at e0 e1
 subst e0 e1
 exact⟨(k0,k1),rfl,I64.of_wf w1⟩
theorem rd_ins (h:DataW.trod enc Tryz.prog w 0 (fun _=>true) true fuel 53 cs=some (d,ps)) (hw:∀k∈d.weights Tryz.prog 53,k≤reachBytes):∃x,InsR w cs x:=by
 obtain⟨xs,n,_,hx,hlen,hxl,hf⟩:=DataW.trod_struct Tryz.underlying53 h
 simp only[Prod.mk.injEq]at hx
 obtain⟨rfl,_⟩:=hx
 rw[JS]at hlen
 obtain⟨c0,c1,c2,c3,c4,c5,c6,c7,rfl⟩:=len_8 hlen
 obtain⟨x0,x1,x2,x3,x4,x5,rfl⟩:=len_6 (show xs.length=6 by simpa using hxl)
 have h0:DataW.trod enc Tryz.prog w 0 (fun _=>true) true n 3 (([c0,c1,c2,c3,c4,c5,c6,c7].drop 0).take (Tryz.prog.cellsOf 3))=some x0:=hf 0 _ rfl
 rw[xy]at h0
 have h1:DataW.trod enc Tryz.prog w 0 (fun _=>true) true n 3 (([c0,c1,c2,c3,c4,c5,c6,c7].drop 1).take (Tryz.prog.cellsOf 3))=some x1:=hf 1 _ rfl
 rw[xy]at h1
 have h2:DataW.trod enc Tryz.prog w 0 (fun _=>true) true n 43 (([c0,c1,c2,c3,c4,c5,c6,c7].drop 2).take (Tryz.prog.cellsOf 43))=some x2:=hf 2 _ rfl
 rw[vu]at h2
 have h3:DataW.trod enc Tryz.prog w 0 (fun _=>true) true n 43 (([c0,c1,c2,c3,c4,c5,c6,c7].drop 4).take (Tryz.prog.cellsOf 43))=some x3:=hf 3 _ rfl
 rw[vu]at h3
 have h4:DataW.trod enc Tryz.prog w 0 (fun _=>true) true n 3 (([c0,c1,c2,c3,c4,c5,c6,c7].drop 6).take (Tryz.prog.cellsOf 3))=some x4:=hf 4 _ rfl
 rw[xy]at h4
 have h5:DataW.trod enc Tryz.prog w 0 (fun _=>true) true n 51 (([c0,c1,c2,c3,c4,c5,c6,c7].drop 7).take (Tryz.prog.cellsOf 51))=some x5:=hf 5 _ rfl
 rw[Xc]at h5
 have hw5:∀k∈x5.1.weights Tryz.prog 51,k≤reachBytes:=by
  intro k hk
  refine hw k ?_
  unfold DataW.weights
  rw[Tryz.underlying53]
  simp only[List.map_cons,List.map_nil,DataW.weightsEach]
  simp[hk]
 obtain⟨k0,e0,_,w0⟩:=DataW.trod_int Tryz.underlying3 h0
 obtain⟨k1,e1,_,w1⟩:=DataW.trod_int Tryz.underlying3 h1
 obtain⟨v2,e2,w2⟩:=Xe (d:=x2.1) (ps:=x2.2) h2
 obtain⟨v3,e3,w3⟩:=Xe (d:=x3.1) (ps:=x3.2) h3
 obtain⟨k4,e4,_,w4⟩:=DataW.trod_int Tryz.underlying3 h4
 obtain⟨p5,g5,s5,e5,q5⟩:=xV (R:=vO) Tryz.underlying51 vu JY (by omega) (fun _ _ _ _ hh _=>Xe hh) (d:=x5.1) (ps:=x5.2) h5 hw5
 simp at e0 e1 e2 e3 e4 e5
 obtain⟨rfl,rfl⟩:=e2
 obtain⟨rfl,rfl⟩:=e3
 subst e0 e1 e4 e5
 exact⟨⟨k0,k1,v2.1,v2.2,v3.1,v3.2,k4,s5⟩,_,rfl,I64.of_wf w0,I64.of_wf w1,w2,w3,I64.of_wf w4,⟨p5,g5,rfl,capQ q5⟩⟩
theorem rd_phi (h:DataW.trod enc Tryz.prog w 0 (fun _=>true) true fuel 101 cs=some (d,ps)) (hw:∀k∈d.weights Tryz.prog 101,k≤reachBytes):∃x,PhiR w cs x:=by
 obtain⟨xs,n,_,hx,hlen,hxl,hf⟩:=DataW.trod_struct Tryz.underlying101 h
 simp only[Prod.mk.injEq]at hx
 obtain⟨rfl,_⟩:=hx
 rw[JT]at hlen
 obtain⟨c0,c1,rfl⟩:=VG hlen
 obtain⟨x0,x1,rfl⟩:=VG (show xs.length=2 by simpa using hxl)
 have h0:DataW.trod enc Tryz.prog w 0 (fun _=>true) true n 3 (([c0,c1].drop 0).take (Tryz.prog.cellsOf 3))=some x0:=hf 0 _ rfl
 rw[xy]at h0
 have h1:DataW.trod enc Tryz.prog w 0 (fun _=>true) true n 51 (([c0,c1].drop 1).take (Tryz.prog.cellsOf 51))=some x1:=hf 1 _ rfl
 rw[Xc]at h1
 have hw1:∀k∈x1.1.weights Tryz.prog 51,k≤reachBytes:=by
  intro k hk
  refine hw k ?_
  unfold DataW.weights
  rw[Tryz.underlying101]
  simp only[List.map_cons,List.map_nil,DataW.weightsEach]
  simp[hk]
 obtain⟨k0,e0,_,w0⟩:=DataW.trod_int Tryz.underlying3 h0
 obtain⟨p1,g1,s1,e1,q1⟩:=xV (R:=vO) Tryz.underlying51 vu JY (by omega) (fun _ _ _ _ hh _=>Xe hh) (d:=x1.1) (ps:=x1.2) h1 hw1
 simp at e0 e1
 subst e0 e1
 exact⟨⟨k0,s1⟩,_,rfl,I64.of_wf w0,⟨p1,g1,rfl,capQ q1⟩⟩
theorem rd_end (h:DataW.trod enc Tryz.prog w 0 (fun _=>true) true fuel 46 cs=some (d,ps)) (hw:∀k∈d.weights Tryz.prog 46,k≤reachBytes):∃x,EndR w cs x:=by
 obtain⟨xs,n,_,hx,hlen,hxl,hf⟩:=DataW.trod_struct Tryz.underlying46 h
 simp only[Prod.mk.injEq]at hx
 obtain⟨rfl,_⟩:=hx
 rw[JU]at hlen
 obtain⟨c0,c1,c2,c3,rfl⟩:=VH hlen
 obtain⟨x0,x1,x2,rfl⟩:=len_3 (show xs.length=3 by simpa using hxl)
 have h0:DataW.trod enc Tryz.prog w 0 (fun _=>true) true n 3 (([c0,c1,c2,c3].drop 0).take (Tryz.prog.cellsOf 3))=some x0:=hf 0 _ rfl
 rw[xy]at h0
 have h1:DataW.trod enc Tryz.prog w 0 (fun _=>true) true n 43 (([c0,c1,c2,c3].drop 1).take (Tryz.prog.cellsOf 43))=some x1:=hf 1 _ rfl
 rw[vu]at h1
 have h2:DataW.trod enc Tryz.prog w 0 (fun _=>true) true n 44 (([c0,c1,c2,c3].drop 3).take (Tryz.prog.cellsOf 44))=some x2:=hf 2 _ rfl
 rw[Xd]at h2
 have hw2:∀k∈x2.1.weights Tryz.prog 44,k≤reachBytes:=by
  intro k hk
  refine hw k ?_
  unfold DataW.weights
  rw[Tryz.underlying46]
  simp only[List.map_cons,List.map_nil,DataW.weightsEach]
  simp[hk]
 obtain⟨k0,e0,_,w0⟩:=DataW.trod_int Tryz.underlying3 h0
 obtain⟨v1,e1,w1⟩:=Xe (d:=x1.1) (ps:=x1.2) h1
 obtain⟨p2,g2,s2,e2,q2⟩:=xV (R:=xC) Tryz.underlying44 xy JZ (by omega) (fun _ _ _ _ hh _=>rd_int hh) (d:=x2.1) (ps:=x2.2) h2 hw2
 simp at e0 e1 e2
 obtain⟨rfl,rfl⟩:=e1
 subst e0 e2
 exact⟨⟨k0,v1.1,v1.2,s2⟩,_,rfl,I64.of_wf w0,w1,⟨p2,g2,rfl,capQ q2⟩⟩
theorem rd_blk (h:DataW.trod enc Tryz.prog w 0 (fun _=>true) true fuel 48 cs=some (d,ps)) (hw:∀k∈d.weights Tryz.prog 48,k≤reachBytes):∃x,BlkR w cs x:=by
 obtain⟨xs,n,_,hx,hlen,hxl,hf⟩:=DataW.trod_struct Tryz.underlying48 h
 simp only[Prod.mk.injEq]at hx
 obtain⟨rfl,_⟩:=hx
 rw[JV]at hlen
 obtain⟨c0,c1,c2,c3,c4,c5,rfl⟩:=len_6 hlen
 obtain⟨x0,x1,x2,rfl⟩:=len_3 (show xs.length=3 by simpa using hxl)
 have h0:DataW.trod enc Tryz.prog w 0 (fun _=>true) true n 40 (([c0,c1,c2,c3,c4,c5].drop 0).take (Tryz.prog.cellsOf 40))=some x0:=hf 0 _ rfl
 rw[cellsPhis]at h0
 have h1:DataW.trod enc Tryz.prog w 0 (fun _=>true) true n 41 (([c0,c1,c2,c3,c4,c5].drop 1).take (Tryz.prog.cellsOf 41))=some x1:=hf 1 _ rfl
 rw[cellsInss]at h1
 have h2:DataW.trod enc Tryz.prog w 0 (fun _=>true) true n 46 (([c0,c1,c2,c3,c4,c5].drop 2).take (Tryz.prog.cellsOf 46))=some x2:=hf 2 _ rfl
 rw[JU]at h2
 have hw0:∀k∈x0.1.weights Tryz.prog 40,k≤reachBytes:=by
  intro k hk
  refine hw k ?_
  unfold DataW.weights
  rw[Tryz.underlying48]
  simp only[List.map_cons,List.map_nil,DataW.weightsEach]
  simp[hk]
 have hw1:∀k∈x1.1.weights Tryz.prog 41,k≤reachBytes:=by
  intro k hk
  refine hw k ?_
  unfold DataW.weights
  rw[Tryz.underlying48]
  simp only[List.map_cons,List.map_nil,DataW.weightsEach]
  simp[hk]
 have hw2:∀k∈x2.1.weights Tryz.prog 46,k≤reachBytes:=by
  intro k hk
  refine hw k ?_
  unfold DataW.weights
  rw[Tryz.underlying48]
  simp only[List.map_cons,List.map_nil,DataW.weightsEach]
  simp[hk]
 obtain⟨p0,g0,s0,e0,q0⟩:=xV (R:=PhiR w) Tryz.underlying40 JT bytesPhi (by omega) (fun _ _ _ _ hh hw=>rd_phi hh hw) (d:=x0.1) (ps:=x0.2) h0 hw0
 obtain⟨p1,g1,s1,e1,q1⟩:=xV (R:=InsR w) Tryz.underlying41 JS bytesIns (by omega) (fun _ _ _ _ hh hw=>rd_ins hh hw) (d:=x1.1) (ps:=x1.2) h1 hw1
 obtain⟨f2,v2,e2,w2,u2,q2⟩:=rd_end (d:=x2.1) (ps:=x2.2) h2 hw2
 simp at e0 e1 e2
 obtain⟨rfl,rfl,rfl,rfl⟩:=e2
 subst e0 e1
 exact⟨⟨s0,s1,f2⟩,_,_,_,rfl,w2,u2,⟨p0,g0,rfl,capQ q0⟩,⟨p1,g1,rfl,capQ q1⟩,q2⟩
theorem rd_fun (h:DataW.trod enc Tryz.prog w 0 (fun _=>true) true fuel 37 cs=some (d,ps)) (hw:∀k∈d.weights Tryz.prog 37,k≤reachBytes):∃x,FunR w cs x:=by
 obtain⟨xs,n,_,hx,hlen,hxl,hf⟩:=DataW.trod_struct Tryz.underlying37 h
 simp only[Prod.mk.injEq]at hx
 obtain⟨rfl,_⟩:=hx
 rw[JW]at hlen
 obtain⟨c0,c1,c2,c3,rfl⟩:=VH hlen
 obtain⟨x0,x1,x2,x3,rfl⟩:=VH (show xs.length=4 by simpa using hxl)
 have h0:DataW.trod enc Tryz.prog w 0 (fun _=>true) true n 9 (([c0,c1,c2,c3].drop 0).take (Tryz.prog.cellsOf 9))=some x0:=hf 0 _ rfl
 rw[JR]at h0
 have h1:DataW.trod enc Tryz.prog w 0 (fun _=>true) true n 3 (([c0,c1,c2,c3].drop 1).take (Tryz.prog.cellsOf 3))=some x1:=hf 1 _ rfl
 rw[xy]at h1
 have h2:DataW.trod enc Tryz.prog w 0 (fun _=>true) true n 3 (([c0,c1,c2,c3].drop 2).take (Tryz.prog.cellsOf 3))=some x2:=hf 2 _ rfl
 rw[xy]at h2
 have h3:DataW.trod enc Tryz.prog w 0 (fun _=>true) true n 35 (([c0,c1,c2,c3].drop 3).take (Tryz.prog.cellsOf 35))=some x3:=hf 3 _ rfl
 rw[cellsBlks]at h3
 have hw0:∀k∈x0.1.weights Tryz.prog 9,k≤reachBytes:=by
  intro k hk
  refine hw k ?_
  unfold DataW.weights
  rw[Tryz.underlying37]
  simp only[List.map_cons,List.map_nil,DataW.weightsEach]
  simp[hk]
 have hw3:∀k∈x3.1.weights Tryz.prog 35,k≤reachBytes:=by
  intro k hk
  refine hw k ?_
  unfold DataW.weights
  rw[Tryz.underlying37]
  simp only[List.map_cons,List.map_nil,DataW.weightsEach]
  simp[hk]
 obtain⟨k0,e0,ex0,_⟩:=DataW.trod_string Tryz.underlying9 h0
 have z0:k0.size≤reachBytes:=by
  have:=hw0 k0.data.toList.length (by rw[ex0];unfold DataW.weights;simp)
  simpa using this
 obtain⟨k1,e1,_,w1⟩:=DataW.trod_int Tryz.underlying3 h1
 obtain⟨k2,e2,_,w2⟩:=DataW.trod_int Tryz.underlying3 h2
 obtain⟨p3,g3,s3,e3,q3⟩:=xV (R:=BlkR w) Tryz.underlying35 JV bytesBlk (by omega) (fun _ _ _ _ hh hw=>rd_blk hh hw) (d:=x3.1) (ps:=x3.2) h3 hw3
 simp at e0 e1 e2 e3
 subst e0 e1 e2 e3
 exact⟨⟨k0,k1,k2,s3⟩,_,rfl,z0,I64.of_wf w1,I64.of_wf w2,⟨p3,g3,rfl,capQ q3⟩⟩
theorem rd_glo (h:DataW.trod enc Tryz.prog w 0 (fun _=>true) true fuel 68 cs=some (d,ps)) (hw:∀k∈d.weights Tryz.prog 68,k≤reachBytes):∃x,GloR w cs x:=by
 obtain⟨xs,n,_,hx,hlen,hxl,hf⟩:=DataW.trod_struct Tryz.underlying68 h
 simp only[Prod.mk.injEq]at hx
 obtain⟨rfl,_⟩:=hx
 rw[JX]at hlen
 obtain⟨c0,c1,c2,rfl⟩:=len_3 hlen
 obtain⟨x0,x1,x2,rfl⟩:=len_3 (show xs.length=3 by simpa using hxl)
 have h0:DataW.trod enc Tryz.prog w 0 (fun _=>true) true n 9 (([c0,c1,c2].drop 0).take (Tryz.prog.cellsOf 9))=some x0:=hf 0 _ rfl
 rw[JR]at h0
 have h1:DataW.trod enc Tryz.prog w 0 (fun _=>true) true n 3 (([c0,c1,c2].drop 1).take (Tryz.prog.cellsOf 3))=some x1:=hf 1 _ rfl
 rw[xy]at h1
 have h2:DataW.trod enc Tryz.prog w 0 (fun _=>true) true n 44 (([c0,c1,c2].drop 2).take (Tryz.prog.cellsOf 44))=some x2:=hf 2 _ rfl
 rw[Xd]at h2
 have hw0:∀k∈x0.1.weights Tryz.prog 9,k≤reachBytes:=by
  intro k hk
  refine hw k ?_
  unfold DataW.weights
  rw[Tryz.underlying68]
  simp only[List.map_cons,List.map_nil,DataW.weightsEach]
  simp[hk]
 have hw2:∀k∈x2.1.weights Tryz.prog 44,k≤reachBytes:=by
  intro k hk
  refine hw k ?_
  unfold DataW.weights
  rw[Tryz.underlying68]
  simp only[List.map_cons,List.map_nil,DataW.weightsEach]
  simp[hk]
 obtain⟨k0,e0,ex0,_⟩:=DataW.trod_string Tryz.underlying9 h0
 have z0:k0.size≤reachBytes:=by
  have:=hw0 k0.data.toList.length (by rw[ex0];unfold DataW.weights;simp)
  simpa using this
 obtain⟨k1,e1,_,w1⟩:=DataW.trod_int Tryz.underlying3 h1
 obtain⟨p2,g2,s2,e2,q2⟩:=xV (R:=xC) Tryz.underlying44 xy JZ (by omega) (fun _ _ _ _ hh _=>rd_int hh) (d:=x2.1) (ps:=x2.2) h2 hw2
 simp at e0 e1 e2
 subst e0 e1 e2
 exact⟨⟨k0,k1,s2⟩,_,rfl,z0,I64.of_wf w1,⟨p2,g2,rfl,capQ q2⟩⟩
theorem rd_uni (h:DataW.trod enc Tryz.prog w 0 (fun _=>true) true fuel 25 cs=some (d,ps)) (hw:∀k∈d.weights Tryz.prog 25,k≤reachBytes):∃x,UniR w cs x:=by
 obtain⟨xs,n,_,hx,hlen,hxl,hf⟩:=DataW.trod_struct Tryz.underlying25 h
 simp only[Prod.mk.injEq]at hx
 obtain⟨rfl,_⟩:=hx
 rw[cellsUni]at hlen
 obtain⟨c0,c1,rfl⟩:=VG hlen
 obtain⟨x0,x1,rfl⟩:=VG (show xs.length=2 by simpa using hxl)
 have h0:DataW.trod enc Tryz.prog w 0 (fun _=>true) true n 22 (([c0,c1].drop 0).take (Tryz.prog.cellsOf 22))=some x0:=hf 0 _ rfl
 rw[cellsGlos]at h0
 have h1:DataW.trod enc Tryz.prog w 0 (fun _=>true) true n 23 (([c0,c1].drop 1).take (Tryz.prog.cellsOf 23))=some x1:=hf 1 _ rfl
 rw[cellsFuns]at h1
 have hw0:∀k∈x0.1.weights Tryz.prog 22,k≤reachBytes:=by
  intro k hk
  refine hw k ?_
  unfold DataW.weights
  rw[Tryz.underlying25]
  simp only[List.map_cons,List.map_nil,DataW.weightsEach]
  simp[hk]
 have hw1:∀k∈x1.1.weights Tryz.prog 23,k≤reachBytes:=by
  intro k hk
  refine hw k ?_
  unfold DataW.weights
  rw[Tryz.underlying25]
  simp only[List.map_cons,List.map_nil,DataW.weightsEach]
  simp[hk]
 obtain⟨p0,g0,s0,e0,q0⟩:=xV (R:=GloR w) Tryz.underlying22 JX bytesGlo (by omega) (fun _ _ _ _ hh hw=>rd_glo hh hw) (d:=x0.1) (ps:=x0.2) h0 hw0
 obtain⟨p1,g1,s1,e1,q1⟩:=xV (R:=FunR w) Tryz.underlying23 JW bytesFun (by omega) (fun _ _ _ _ hh hw=>rd_fun hh hw) (d:=x1.1) (ps:=x1.2) h1 hw1
 simp at e0 e1
 subst e0 e1
 exact⟨⟨s0,s1⟩,_,_,rfl,⟨p0,g0,rfl,capQ q0⟩,⟨p1,g1,rfl,capQ q1⟩⟩
end
end Go.Proofs.YtecdphhdmjmmnaaGreatDoor
namespace Go.Proofs.YtecdphhdmjmmnaaGreatDoor
open Go.RowKit

def zR (n lo hi:Int):Bool:=decide (lo≤n∧n≤hi)
theorem qF (n lo hi:Int) (w:World) :
  Calls Tryz.prog 27 #[.int .i64 n,.int .i64 lo,.int .i64 hi] w fun e w'=>e = .returned (.bool (zR n lo hi))∧w=w':=by
 by_cases h1:lo≤n
 ·by_cases h2:n≤hi
  all_goals
   go_enter Tryz.func27,Tryz.ntmps27
   go_wp2
   go_ret
   exact⟨by simp[zR];omega,rfl⟩
 go_enter Tryz.func27,Tryz.ntmps27
 go_wp2
 go_ret
 exact⟨by simp[zR];omega,rfl⟩
theorem xD (c a:Int) (w:World) :
  Calls Tryz.prog 24 #[.int .i64 c,.int .i64 a] w fun e w'=>e = .returned (.agg #[.int .i64 c,.int .i64 a])∧w'=w.alloc (.cells #[.int .i64 c,.int .i64 a] 27):=by
 go_enter Tryz.func24,Tryz.ntmps24
 go_wp2
 refine bodyPost_ret ?_ rfl ⟨rfl,rfl⟩
 simp[results,Tryz.results24,go_sem]

def zX (regs:Int) (r:Bool) (n:Int):Int:=if r=true∧¬(0≤n∧n≤regs - 1)then 3 else 0
def vS (regs n:Int):Int:=if 0≤n∧n≤regs - 1 then 0 else 3

theorem jz (g1 f1 b1 a1:Option Addr) (g2 g3 f2 f3 b2 b3 a2 a3:Nat) (nm:ByteArray) (params regs n:Int) (r:Bool) (w:World) (h1:0≤regs) (h2:regs≤9223372036854775807) :
  Calls Tryz.prog 87 #[.agg #[.slice g1 g2 g3,.slice f1 f2 f3,.string nm,.int .i64 params,.int .i64 regs,.slice b1 b2 b3,.slice a1 a2 a3],.agg #[.bool r,.int .i64 n]] w fun e w'=>e = .returned (.int .i64 (zX regs r n))∧Below w.heap.size w w':=by
 cases r
 ·go_enter Tryz.func87,Tryz.ntmps87
  go_wp2
  go_ret
  exact⟨rfl,by exact bZ⟩
 by_cases h:0≤n∧n≤regs - 1
 ·have hw:zR n 0 (regs - 1)=true:=by simp[zR];omega
  have HV:Hid (zX regs true n=0):=by show _=_;unfold zX;rw[if_neg (by simp;omega)]
  go_enter Tryz.func87,Tryz.ntmps87
  go_wp2_with (go_at_call 27;refine(qF _ _ _ _).mono ?_;rintro e w1 ⟨rfl,rfl⟩)
  go_ret
  refine⟨by rw[HV.out];rfl,?_⟩
  exact bZ
 have hw:zR n 0 (regs - 1)=false:=by simp only[zR,decide_eq_false_iff_not];exact h
 have HV:Hid (zX regs true n=3):=by show _=_;unfold zX;rw[if_pos ⟨rfl,h⟩]
 clear h
 go_enter Tryz.func87,Tryz.ntmps87
 go_wp2_with (go_at_call 27;refine(qF _ _ _ _).mono ?_;rintro e w1 ⟨rfl,rfl⟩)
 go_ret
 refine⟨by rw[HV.out];rfl,?_⟩
 exact bZ
theorem Qk (g1 f1 b1 a1:Option Addr) (g2 g3 f2 f3 b2 b3 a2 a3:Nat) (nm:ByteArray) (params regs n:Int) (w:World) (h1:0≤regs) (h2:regs≤9223372036854775807) :
  Calls Tryz.prog 88 #[.agg #[.slice g1 g2 g3,.slice f1 f2 f3,.string nm,.int .i64 params,.int .i64 regs,.slice b1 b2 b3,.slice a1 a2 a3],.int .i64 n] w fun e w'=>e = .returned (.int .i64 (vS regs n))∧Below w.heap.size w w':=by
 by_cases h:0≤n∧n≤regs - 1
 ·have hw:zR n 0 (regs - 1)=true:=by simp[zR];omega
  have HV:Hid (vS regs n=0):=by show _=_;unfold vS;rw[if_pos h]
  go_enter Tryz.func88,Tryz.ntmps88
  go_wp2_with (go_at_call 27;refine(qF _ _ _ _).mono ?_;rintro e w1 ⟨rfl,rfl⟩)
  go_ret
  refine⟨by rw[HV.out];rfl,?_⟩
  exact bZ
 have hw:zR n 0 (regs - 1)=false:=by simp only[zR,decide_eq_false_iff_not];exact h
 have HV:Hid (vS regs n=3):=by show _=_;unfold vS;rw[if_neg h]
 clear h
 go_enter Tryz.func88,Tryz.ntmps88
 go_wp2_with (go_at_call 27;refine(qF _ _ _ _).mono ?_;rintro e w1 ⟨rfl,rfl⟩)
 go_ret
 refine⟨by rw[HV.out];rfl,?_⟩
 exact bZ

def Zs (c:Int) (first:Bool):Bool:=(decide (97≤c)&&decide (c≤122)) || (decide (65≤c)&&decide (c≤90)) || c == 95 || (!first&&(decide (48≤c)&&decide (c≤57)))
theorem nameC_iff (c:Int) (f:Bool):Zs c f=true↔(97≤c∧c≤122)∨(65≤c∧c≤90)∨c=95∨(f=false∧48≤c∧c≤57):=by
 unfold Zs
 cases f<;>simp[or_assoc]
def jO (s:ByteArray):Bool:=decide (1≤s.size∧s.size≤12∧∀i (h:i<s.size),Zs s[i].toNat (decide (i=0))=true)
theorem Q9 (s:ByteArray) (w:World) (hs:s.size≤maxLen) :
    Calls Tryz.prog 25 #[.string s] w fun e w'=>e = .returned (.bool (jO s))∧w=w':=by
  unfold maxLen at hs
  by_cases hz:1≤s.size∧s.size≤12
  · obtain⟨hz1,hz2⟩:=hz
    go_enter Tryz.func25,Tryz.ntmps25
    go_wp2
    go_loop [15] (fun i=>∃k:Nat,k≤s.size∧i = .int .i64 k∧∀j (h:j<s.size),j<k→Zs s[j].toNat (decide (j=0))=true) (fun i=>s.size - (intOf i).toNat)
    case atStart=>exact⟨0,by omega,rfl,fun j _ hj=>by omega⟩
    case round=>
      obtain⟨k,hk,rfl,hV⟩:=hrel
      have HV:Hid (∀j (h:j<s.size),j<k→Zs s[j].toNat (decide (j=0))=true):=hV
      clear hV
      by_cases hlt:k<s.size
      · have Hlt:Hid (k<s.size):=hlt
        have HY:Hid (Zs s[k].toNat (decide (k=0))=true→∀j (h:j<s.size),j<k+1→Zs s[j].toNat (decide (j=0))=true):=by
          show _→_
          intro hy j hj hjk
          by_cases hj2:j<k
          · exact HV.out j hj hj2
          · obtain rfl:j=k:=by omega
            exact hy
        have HN:Hid (¬ Zs s[k].toNat (decide (k=0))=true→jO s=false):=by
          show _→_
          intro hn
          unfold jO
          rw[decide_eq_false]
          rintro⟨_,_,hall⟩
          exact hn (hall k hlt)
        have HI:Hid (Zs s[k].toNat (decide (k=0))=true↔(97≤(s[k].toNat:Int)∧(s[k].toNat:Int)≤122)∨(65≤(s[k].toNat:Int)∧(s[k].toNat:Int)≤90)∨(s[k].toNat:Int)=95∨(decide (k=0)=false∧48≤(s[k].toNat:Int)∧(s[k].toNat:Int)≤57)):=nameC_iff _ _
        clear HV
        go_wp2
        all_goals first
          | (refine⟨⟨k+1,by omega,by go_num,HY.out (HI.out.2 ?_)⟩,by simp[intOf];omega⟩
             clear HY HN HI
             simp at *
             omega)
          | (go_ret
             refine⟨?_,rfl⟩
             rw[HN.out (fun h=>by
               have h2:=HI.out.1 h
               clear HY HN HI h
               simp at *
               omega)]
             rfl)
      · go_wp2
        go_ret
        refine⟨?_,rfl⟩
        rw[show jO s=true from ?_]
        · rfl
        · unfold jO
          rw[decide_eq_true_eq]
          exact⟨by omega,by omega,fun i hi=>HV.out i hi (by omega)⟩
  · have HN:Hid (jO s=false):=by
      show _=_
      unfold jO
      rw[decide_eq_false]
      rintro⟨a,b,_⟩
      exact hz ⟨a,b⟩
    by_cases h1:s.size<1
    · clear hz
      go_enter Tryz.func25,Tryz.ntmps25
      go_wp2
      go_ret
      exact⟨by rw[HN.out];rfl,rfl⟩
    · have h2:12<s.size:=by omega
      clear hz
      go_enter Tryz.func25,Tryz.ntmps25
      go_wp2
      go_ret
      exact⟨by rw[HN.out];rfl,rfl⟩

def Tells (F:FuncId) (cap:Value) (w:World) (P:Int→Bool):Prop:=
 ∀(w1:World) (x:Int),Below w.heap.size w w1→Calls Tryz.prog F #[.int .i64 x,cap] w1 fun e w2=>e = .returned (.bool (P x))∧Below w1.heap.size w1 w2

theorem Zt (cap:Addr) (P:Int→Bool) (b o c n:Nat) (S:Nat→Int) (w:World) (hn:n≤9223372036854775807) (hb:b<w.heap.size) (hc:∀i,i<n→w.cell? ⟨b,o+i,none⟩=some (.int .i64 (S i))) (hf:Tells 86 (.pointer (some cap)) w P) :
  Calls Tryz.prog 83 #[.slice (some ⟨b,o,none⟩) n c,.func (.func 86) #[] #[.pointer (some cap)]] w fun e w'=>(∃k:Int,e = .returned (.int .i64 k)∧Hid ((k<0∧∀i,i<n→P (S i)=false)∨(0≤k∧∃i,i<n∧P (S i)=true)))∧Below w.heap.size w w':=by
 have HF:Hid (Tells 86 (.pointer (some cap)) w P):=hf
 have HC:Hid (∀i,i<n→w.cell? ⟨b,o+i,none⟩=some (.int .i64 (S i))):=hc
 clear hf hc
 go_enter Tryz.func83,Tryz.ntmps83
 go_wp2
 go_loopw [8] (fun i wr=>∃k:Nat,k≤n∧i = .int .i64 k∧(∀j,j<k→P (S j)=false)∧Below w.heap.size w wr) (fun i _=>n - (intOf i).toNat)
 case atStart=>exact⟨0,by omega,rfl,fun j hj=>by omega,Below.refl _ _⟩
 case round=>
  obtain⟨k,hk,rfl,hV,hB⟩:=hrel
  have HV:Hid (∀j,j<k→P (S j)=false):=hV
  have HB:Hid (Below w.heap.size w wr):=hB
  clear hV hB
  by_cases hlt:k<n
  rotate_left
  ·go_wp2
   go_ret
   refine⟨⟨_,rfl,.inl ⟨by omega,fun i hi=>HV.out i (by omega)⟩⟩,?_⟩
   exact HB.out
  have c0:wr.cell? ⟨b,o+k,none⟩=some (.int .i64 (S k)):=(HB.out.cell (p:=⟨b,o+k,none⟩) hb).trans (HC.out k hlt)
  have Hlt:Hid (k<n):=hlt
  generalize hs:S k=s at c0
  have HS:Hid (S k=s):=hs
  clear hs
  go_wp2_with fail
  refine(HF.out wr s HB.out).mono ?_
  rintro e w2 ⟨rfl,hb2⟩
  have HB2:Hid (Below w.heap.size w w2):=HB.out.trans (hb2.mono HB.out.size)
  clear hb2
  cases hp:P s
  ·have HP:Hid (P (S k)=false):=by rw[HS.out];exact hp
   clear hp
   go_wp2
   refine⟨⟨k+1,by omega,by go_num,fun j hj=>?_,HB2.out⟩,by simp[intOf];omega⟩
   by_cases hj2:j<k
   ·exact HV.out j hj2
   obtain rfl:j=k:=by omega
   exact HP.out
  have HP:Hid (P (S k)=true):=by rw[HS.out];exact hp
  clear hp
  go_wp2
  go_ret
  exact⟨⟨_,rfl,.inr ⟨by simp,k,Hlt.out,HP.out⟩⟩,HB2.out⟩
theorem Z2 (cap:Addr) (p:Option Addr) (c:Nat) (w:World) :
  Calls Tryz.prog 83 #[.slice p 0 c,.func (.func 86) #[] #[.pointer (some cap)]] w fun e w'=>e = .returned (.int .i64 (-1))∧w=w':=by
 go_enter Tryz.func83,Tryz.ntmps83
 go_wp2
 go_loop [8] (fun i=>i = .int .i64 0) (fun _=>0)
 case atStart=>rfl
 case round=>
  subst hrel
  go_wp2
  go_ret
  exact⟨rfl,rfl⟩

theorem qV (cap:Addr) (P:Int→Bool) (p:Option Addr) (c:Nat) (S:List Int) (w:World) (hn:S.length≤9223372036854775807) (h:SliceAt w 1 xC p S) (hf:Tells 86 (.pointer (some cap)) w P) :
  Calls Tryz.prog 48 #[.slice p S.length c,.func (.func 86) #[] #[.pointer (some cap)]] w fun e w'=>e = .returned (.bool (S.any P))∧Below w.heap.size w w':=by
 rcases Nat.eq_zero_or_pos S.length with h0|h0
 ·obtain rfl:=List.length_eq_zero_iff.1 h0
  clear h hf h0
  go_enter Tryz.func48,Tryz.ntmps48
  go_wp2_with (go_at_call 83;refine(Z2 _ _ _ _).mono ?_;rintro e w1 ⟨rfl,rfl⟩)
  go_ret
  exact⟨rfl,Below.refl _ _⟩
 rcases h with rfl|⟨b,o,rfl,h⟩
 ·exact absurd h0 (by simp)
 have HC:Hid (∀i,i<S.length→w.cell? ⟨b,o+i,none⟩=some (.int .i64 (S.getD i 0))):=fun i hi=>by
  obtain⟨cs,_,hc,⟨rfl,_⟩⟩:=h i hi
  have:=hc 0 (by omega)
  simp only[Nat.mul_one,Nat.add_zero]at this
  rw[this];simp[List.getD,hi]
 have hb:b<w.heap.size:=q8 (HC.out 0 h0)
 have HF:Hid (Tells 86 (.pointer (some cap)) w P):=hf
 clear h hf
 go_enter Tryz.func48,Tryz.ntmps48
 go_wp2_with fail
 refine(Zt _ P _ _ _ _ (fun i=>S.getD i 0) _ hn hb HC.out HF.out).mono ?_
 rintro e w1 ⟨⟨k,rfl,hk⟩,hb1⟩
 by_cases hk0:0≤k
 ·have HB:Hid (S.any P=true):=by
   show _=_
   rcases hk.out with⟨h1,_⟩|⟨_,i,hi,hs⟩
   ·omega
   rw[List.any_eq_true]
   exact⟨S[i],List.getElem_mem hi,by simpa[List.getD,hi]using hs⟩
  clear hk
  go_wp2
  go_ret
  exact⟨by rw[HB.out];simp,hb1⟩
 have HB:Hid (S.any P=false):=by
  show _=_
  rcases hk.out with⟨_,h2⟩|⟨h1,_⟩
  ·rw[List.any_eq_false]
   intro x hx
   obtain⟨i,hi,rfl⟩:=List.mem_iff_getElem.1 hx
   have:=h2 i hi
   simpa[List.getD,hi]using this
  omega
 clear hk
 go_wp2
 go_ret
 exact⟨by rw[HB.out];simp;omega,hb1⟩

theorem Xf (r r':Bool) (x x':Int) (w:World) :
  (binOp .neq 43 (.agg #[.bool r,.int .i64 x]) (.agg #[.bool r',.int .i64 x'])).run Tryz.prog w = .ok (.bool (!(r == r'&&x == x'))) w:=by
 by_cases h1:r=r'<;>by_cases h2:x=x'<;>simp[go_sem,h1,h2]
theorem Ql (x y x' y':Int) (w:World) :
  (binOp .eql 27 (.agg #[.int .i64 x,.int .i64 y]) (.agg #[.int .i64 x',.int .i64 y'])).run Tryz.prog w = .ok (.bool (x == x'&&y == y')) w:=by
 by_cases h1:x=x'<;>by_cases h2:y=y'<;>simp[go_sem,h1,h2]
theorem xE (x y x' y':Int) (w:World) :
  (binOp .neq 27 (.agg #[.int .i64 x,.int .i64 y]) (.agg #[.int .i64 x',.int .i64 y'])).run Tryz.prog w = .ok (.bool (!(x == x'&&y == y'))) w:=by
 by_cases h1:x=x'<;>by_cases h2:y=y'<;>simp[go_sem,h1,h2]

theorem SliceAt.to {α:Type} {w w':World} {size:Nat} {R R':List Value→α→Prop} {p:Option Addr} {xs:List α} (h:SliceAt w size R p xs) (hz:0<size) (hb:Below w.heap.size w w') (hR:∀cs,∀x∈xs,R cs x→R' cs x):SliceAt w' size R' p xs:=by
 rcases h with h|⟨b,o,hp,h⟩
 ·exact .inl h
 refine .inr ⟨b,o,hp,fun i hi=>?_⟩
 obtain⟨cs,hl,hc,hx⟩:=h i hi
 refine⟨cs,hl,fun j hj=>?_,hR _ _ (List.getElem_mem hi) hx⟩
 have h0:=hc 0 hz
 obtain⟨v,hv⟩:∃v,cs[0]?=some v:=⟨cs[0]'(by omega),List.getElem?_eq_getElem (by omega)⟩
 rw[hv]at h0
 exact(hb.cell (p:=⟨b,o+i*size+j,none⟩) (q8 h0:b<_)).trans (hc j hj)

theorem end1_any (n:Int) (B nb b3:Nat) (b1:Option Addr) (w:World) (hn:nb≤9223372036854775807) (hc:w.cell? ⟨B,5,none⟩=some (.slice b1 nb b3)) :
  Calls Tryz.prog 86 #[.int .i64 n,.pointer (some ⟨B,0,none⟩)] w fun e w'=>e = .returned (.bool (!zR n 1 ((nb:Int) - 1)))∧w=w':=by
 go_enter Tryz.func86,Tryz.ntmps86
 go_wp2_with (go_at_call 27;refine(qF _ _ _ _).mono ?_;rintro e w1 ⟨rfl,rfl⟩)
 go_ret
 exact⟨rfl,rfl⟩
theorem xF (B nb b3:Nat) (b1:Option Addr) (w:World) (hn:nb≤9223372036854775807) (hc:w.cell? ⟨B,5,none⟩=some (.slice b1 nb b3)) :
  Tells 86 (.pointer (some ⟨B,0,none⟩)) w fun n=>!zR n 1 ((nb:Int) - 1):=by
 intro w1 x hb
 refine(end1_any x B nb b3 b1 w1 hn ((hb.cell (p:=⟨B,5,none⟩) (q8 hc)).trans hc)).mono ?_
 rintro e w2 ⟨rfl,rfl⟩
 exact⟨rfl,Below.refl _ _⟩

def vZ (regs:Int) (nb:Nat) (kind:Int) (r:Bool) (n:Int) (to:List Int):Int:=
 if ¬(1≤kind∧kind≤3)then 4
 else if(to.length:Int)≠kind - 1 then 9
 else if to.any (fun t=>!zR t 1 ((nb:Int) - 1))then 3
 else if kind=3∧to.getD 0 0=to.getD 1 0∨kind=2∧¬(r=false∧n=0)then 5
 else zX regs r n

def Ways (w:World):Prop:=w.cell? ⟨0,0,none⟩=some (.int .i64 0)∧w.cell? ⟨0,1,none⟩=some (.int .i64 0)∧w.cell? ⟨0,2,none⟩=some (.int .i64 1)∧w.cell? ⟨0,3,none⟩=some (.int .i64 2)

theorem end_bad (g1 f1 b1 a1 tp:Option Addr) (g2 g3 f2 f3 nb b3 a2 a3 tc:Nat) (nm:ByteArray) (params regs kind n:Int) (r:Bool) (to:List Int) (w:World) (h:¬(1≤kind∧kind≤3)) :
  Calls Tryz.prog 54 #[.agg #[.slice g1 g2 g3,.slice f1 f2 f3,.string nm,.int .i64 params,.int .i64 regs,.slice b1 nb b3,.slice a1 a2 a3],.agg #[.int .i64 kind,.bool r,.int .i64 n,.slice tp to.length tc]] w fun e w'=>e = .returned (.int .i64 (vZ regs nb kind r n to))∧Below w.heap.size w w':=by
 have hw:zR kind 1 3=false:=by simp only[zR,decide_eq_false_iff_not];exact h
 have HV:Hid (vZ regs nb kind r n to=4):=by show _=_;unfold vZ;rw[if_pos h]
 clear h
 go_enter Tryz.func54,Tryz.ntmps54
 go_wp2_with (go_at_call 27;refine(qF _ _ _ _).mono ?_;rintro e w1 ⟨rfl,rfl⟩)
 go_ret
 refine⟨by rw[HV.out];rfl,?_⟩
 exact bZ

theorem end_len (g1 f1 b1 a1 tp:Option Addr) (g2 g3 f2 f3 nb b3 a2 a3 tc:Nat) (nm:ByteArray) (params regs kind n:Int) (r:Bool) (to:List Int) (w:World) (hk:kind=1∨kind=2∨kind=3) (h:(to.length:Int)≠kind - 1)
  (hl:to.length≤9223372036854775807) (hw0:Ways w) :
  Calls Tryz.prog 54 #[.agg #[.slice g1 g2 g3,.slice f1 f2 f3,.string nm,.int .i64 params,.int .i64 regs,.slice b1 nb b3,.slice a1 a2 a3],.agg #[.int .i64 kind,.bool r,.int .i64 n,.slice tp to.length tc]] w fun e w'=>e = .returned (.int .i64 (vZ regs nb kind r n to))∧Below w.heap.size w w':=by
 have HV:Hid (vZ regs nb kind r n to=9):=by show _=_;unfold vZ;rw[if_neg (by omega),if_pos h]
 obtain⟨_,q1,q2,q3⟩:=hw0
 have hsz:=q8 q1
 have hsz1:0<w.heap.size+1:=by omega
 generalize to.length=m at *
 have hw1:zR 1 1 3=true:=rfl
 have hw2:zR 2 1 3=true:=rfl
 have hw3:zR 3 1 3=true:=rfl
 have hm1:Hid ((m:Int)≠kind - 1):=h
 rcases hk with rfl|rfl|rfl
 all_goals
  have hb:=bne_iff_ne.2 hm1.out
  simp only[Int.reduceSub]at hb
  clear h
  go_enter Tryz.func54,Tryz.ntmps54
  go_wp2_with (go_at_call 27;refine(qF _ _ _ _).mono ?_;rintro e w1 ⟨rfl,rfl⟩)
  go_quiet (fail)
  go_wp2
  go_ret
  refine⟨by rw[HV.out];rfl,?_⟩
  exact bZ
theorem end_kind1 (g1 f1 b1 a1 tp:Option Addr) (g2 g3 f2 f3 nb b3 a2 a3 tc:Nat) (nm:ByteArray) (params regs n:Int) (r:Bool) (w:World)
  (hr1:0≤regs) (hr2:regs≤9223372036854775807) (hn:nb≤9223372036854775807) (hto:SliceAt w 1 xC tp []) (hw0:Ways w) :
  Calls Tryz.prog 54 #[.agg #[.slice g1 g2 g3,.slice f1 f2 f3,.string nm,.int .i64 params,.int .i64 regs,.slice b1 nb b3,.slice a1 a2 a3],.agg #[.int .i64 1,.bool r,.int .i64 n,.slice tp 0 tc]] w fun e w'=>e = .returned (.int .i64 (vZ regs nb 1 r n []))∧Below w.heap.size w w':=by
 obtain⟨_,q1,q2,q3⟩:=hw0
 have hsz:=q8 q1
 have hsz1:0<w.heap.size+1:=by omega
 have hw1:zR 1 1 3=true:=rfl
 have hw2:zR 2 1 3=true:=rfl
 have hw3:zR 3 1 3=true:=rfl
 have HT:Hid (SliceAt w 1 xC tp []):=hto
 have HN:Hid (nb≤9223372036854775807):=hn
 have hany:([]:List Int).any (fun n=>!zR n 1 ((nb:Int) - 1))=false:=rfl
 have HV:Hid (vZ regs nb 1 r n []=zX regs r n):=by show _=_;simp[vZ]
 clear hto hn
 go_enter Tryz.func54,Tryz.ntmps54
 go_wp2_with (go_at_call 27;refine(qF _ _ _ _).mono ?_;rintro e w1 ⟨rfl,rfl⟩)
 go_quiet (fail)
 go_wp2_with fail
 refine(qV _ (fun n=>!zR n 1 ((nb:Int) - 1)) tp tc [] _ (by simp) (HT.out.to (by decide) ?_ (fun _ _ _ h=>h)) (xF w.heap.size nb b3 b1 _ HN.out (by first|rfl|(simp;done)|(simp[World.cell?_alloc_some, *];done)))).mono ?_
 ·exact bZ
 rw[hany]
 rintro e w3 ⟨rfl,hb3⟩
 obtain⟨hc3,hf3,hz3⟩:=Q5 hb3
 simp at hz3
 have hz4:w.heap.size<w3.heap.size:=by omega
 have hz5:w.heap.size+1<w3.heap.size:=by omega
 go_wp2
 go_quiet (fail)
 go_wp2_with fail
 refine(jz _ _ _ _ _ _ _ _ _ _ _ _ _ _ _ _ _ _ hr1 hr2).mono ?_
 rintro e w4 ⟨rfl,hb4⟩
 go_wp2
 go_ret
 refine⟨by rw[HV.out];rfl,?_⟩
 exact bZ
theorem end_kind2 (g1 f1 b1 a1 tp:Option Addr) (g2 g3 f2 f3 nb b3 a2 a3 tc:Nat) (nm:ByteArray) (params regs n:Int) (r:Bool) (t:Int) (w:World)
  (hr1:0≤regs) (hr2:regs≤9223372036854775807) (hn:nb≤9223372036854775807) (hto:SliceAt w 1 xC tp [t]) (hw0:Ways w) :
  Calls Tryz.prog 54 #[.agg #[.slice g1 g2 g3,.slice f1 f2 f3,.string nm,.int .i64 params,.int .i64 regs,.slice b1 nb b3,.slice a1 a2 a3],.agg #[.int .i64 2,.bool r,.int .i64 n,.slice tp 1 tc]] w fun e w'=>e = .returned (.int .i64 (vZ regs nb 2 r n [t]))∧Below w.heap.size w w':=by
 obtain⟨_,q1,q2,q3⟩:=hw0
 have hsz:=q8 q1
 have hsz1:0<w.heap.size+1:=by omega
 have hw1:zR 1 1 3=true:=rfl
 have hw2:zR 2 1 3=true:=rfl
 have hw3:zR 3 1 3=true:=rfl
 have HT:Hid (SliceAt w 1 xC tp [t]):=hto
 have HN:Hid (nb≤9223372036854775807):=hn
 clear hto hn
 by_cases ht:zR t 1 ((nb:Int) - 1)=true
 rotate_left
 ·have hany:[t].any (fun n=>!zR n 1 ((nb:Int) - 1))=true:=by simp[ht]
  have HV:Hid (vZ regs nb 2 r n [t]=3):=by show _=_;simp only[vZ];rw[if_neg (by omega),if_neg (by simp),hany,if_pos rfl]
  clear ht
  go_enter Tryz.func54,Tryz.ntmps54
  go_wp2_with (go_at_call 27;refine(qF _ _ _ _).mono ?_;rintro e w1 ⟨rfl,rfl⟩)
  go_quiet (fail)
  go_wp2_with fail
  refine(qV _ (fun n=>!zR n 1 ((nb:Int) - 1)) tp tc [t] _ (by simp) (HT.out.to (by decide) ?_ (fun _ _ _ h=>h)) (xF w.heap.size nb b3 b1 _ HN.out (by first|rfl|(simp;done)|(simp[World.cell?_alloc_some, *];done)))).mono ?_
  ·exact bZ
  rw[hany]
  rintro e w3 ⟨rfl,hb3⟩
  obtain⟨hc3,hf3,hz3⟩:=Q5 hb3
  simp at hz3
  have hz4:w.heap.size<w3.heap.size:=by omega
  have hz5:w.heap.size+1<w3.heap.size:=by omega
  go_wp2
  go_ret
  refine⟨by rw[HV.out];rfl,?_⟩
  exact bZ
 have hany:[t].any (fun n=>!zR n 1 ((nb:Int) - 1))=false:=by simp[ht]
 by_cases hv:r=false∧n=0
 ·obtain⟨rfl,rfl⟩:=hv
  have HV:Hid (vZ regs nb 2 false 0 [t]=zX regs false 0):=by show _=_;simp[vZ,ht]
  clear ht
  go_enter Tryz.func54,Tryz.ntmps54
  go_wp2_with (go_at_call 27;refine(qF _ _ _ _).mono ?_;rintro e w1 ⟨rfl,rfl⟩)
  go_quiet (fail)
  go_wp2_with fail
  refine(qV _ (fun n=>!zR n 1 ((nb:Int) - 1)) tp tc [t] _ (by simp) (HT.out.to (by decide) ?_ (fun _ _ _ h=>h)) (xF w.heap.size nb b3 b1 _ HN.out (by first|rfl|(simp;done)|(simp[World.cell?_alloc_some, *];done)))).mono ?_
  ·exact bZ
  rw[hany]
  rintro e w3 ⟨rfl,hb3⟩
  obtain⟨hc3,hf3,hz3⟩:=Q5 hb3
  simp at hz3
  have hz4:w.heap.size<w3.heap.size:=by omega
  have hz5:w.heap.size+1<w3.heap.size:=by omega
  go_wp2
  go_quiet (fail)
  go_wp2_with fail
  refine(jz _ _ _ _ _ _ _ _ _ _ _ _ _ _ _ _ _ _ hr1 hr2).mono ?_
  rintro e w4 ⟨rfl,hb4⟩
  go_wp2
  go_ret
  refine⟨by rw[HV.out];rfl,?_⟩
  exact bZ
 have HV:Hid (vZ regs nb 2 r n [t]=5):=by show _=_;simp only[vZ];rw[if_neg (by omega),if_neg (by simp),hany];simp;intro h1 h2;exact absurd ⟨h1,h2⟩ hv
 have he:∀w:World,(binOp .neq 43 (.agg #[.bool r,.int .i64 n]) (.agg #[.bool false,.int .i64 0])).run Tryz.prog w = .ok (.bool true) w:=fun w=>by
  rw[Xf]
  cases r
  ·have hn0:n≠0:=fun h=>hv ⟨rfl,h⟩
   simp[hn0]
  simp
 clear ht hv
 go_enter Tryz.func54,Tryz.ntmps54
 go_wp2_with (go_at_call 27;refine(qF _ _ _ _).mono ?_;rintro e w1 ⟨rfl,rfl⟩)
 go_quiet (fail)
 go_wp2_with fail
 refine(qV _ (fun n=>!zR n 1 ((nb:Int) - 1)) tp tc [t] _ (by simp) (HT.out.to (by decide) ?_ (fun _ _ _ h=>h)) (xF w.heap.size nb b3 b1 _ HN.out (by first|rfl|(simp;done)|(simp[World.cell?_alloc_some, *];done)))).mono ?_
 ·exact bZ
 rw[hany]
 rintro e w3 ⟨rfl,hb3⟩
 obtain⟨hc3,hf3,hz3⟩:=Q5 hb3
 simp at hz3
 have hz4:w.heap.size<w3.heap.size:=by omega
 have hz5:w.heap.size+1<w3.heap.size:=by omega
 go_wp2
 go_quiet (fail)
 go_wp2
 go_ret
 refine⟨by rw[HV.out];rfl,?_⟩
 exact bZ
theorem end_kind3 (g1 f1 b1 a1 tp:Option Addr) (g2 g3 f2 f3 nb b3 a2 a3 tc:Nat) (nm:ByteArray) (params regs n:Int) (r:Bool) (t u:Int) (w:World)
  (hr1:0≤regs) (hr2:regs≤9223372036854775807) (hn:nb≤9223372036854775807) (hto:SliceAt w 1 xC tp [t,u]) (hw0:Ways w) :
  Calls Tryz.prog 54 #[.agg #[.slice g1 g2 g3,.slice f1 f2 f3,.string nm,.int .i64 params,.int .i64 regs,.slice b1 nb b3,.slice a1 a2 a3],.agg #[.int .i64 3,.bool r,.int .i64 n,.slice tp 2 tc]] w fun e w'=>e = .returned (.int .i64 (vZ regs nb 3 r n [t,u]))∧Below w.heap.size w w':=by
 obtain⟨_,q1,q2,q3⟩:=hw0
 have hsz:=q8 q1
 have hsz1:0<w.heap.size+1:=by omega
 have hw1:zR 1 1 3=true:=rfl
 have hw2:zR 2 1 3=true:=rfl
 have hw3:zR 3 1 3=true:=rfl
 have HT:Hid (SliceAt w 1 xC tp [t,u]):=hto
 have HN:Hid (nb≤9223372036854775807):=hn
 obtain⟨bt,ot,rfl,q4,q5⟩:∃b o,tp=some ⟨b,o,none⟩∧w.cell? ⟨b,o,none⟩=some (.int .i64 t)∧w.cell? ⟨b,o+1,none⟩=some (.int .i64 u):=by
  rcases hto with h|⟨b,o,rfl,h⟩
  ·simp at h
  obtain⟨cs,_,h0,rfl,_⟩:=h 0 (by simp)
  obtain⟨cs',_,h1,rfl,_⟩:=h 1 (by simp)
  exact⟨b,o,rfl,by simpa using h0 0 (by simp),by simpa using h1 0 (by simp)⟩
 have hst:=q8 q4
 have hsF:bt<w.heap.size+1:=by omega
 have hhA:bt<w.heap.size+1+1:=by omega
 clear hto hn
 by_cases ht:zR t 1 ((nb:Int) - 1)=true∧zR u 1 ((nb:Int) - 1)=true
 rotate_left
 ·have hany:[t,u].any (fun n=>!zR n 1 ((nb:Int) - 1))=true:=by simp only[List.any,Bool.or_false];cases h1:zR t 1 ((nb:Int) - 1)<;>cases h2:zR u 1 ((nb:Int) - 1)<;>simp_all
  have HV:Hid (vZ regs nb 3 r n [t,u]=3):=by show _=_;simp only[vZ];rw[if_neg (by omega),if_neg (by simp),hany,if_pos rfl]
  clear ht
  go_enter Tryz.func54,Tryz.ntmps54
  go_wp2_with (go_at_call 27;refine(qF _ _ _ _).mono ?_;rintro e w1 ⟨rfl,rfl⟩)
  go_quiet (fail)
  go_wp2_with fail
  refine(qV _ (fun n=>!zR n 1 ((nb:Int) - 1)) (some ⟨bt,ot,none⟩) tc [t,u] _ (by simp) (HT.out.to (by decide) ?_ (fun _ _ _ h=>h)) (xF w.heap.size nb b3 b1 _ HN.out (by first|rfl|(simp;done)|(simp[World.cell?_alloc_some, *];done)))).mono ?_
  ·exact bZ
  rw[hany]
  rintro e w3 ⟨rfl,hb3⟩
  obtain⟨hc3,hf3,hz3⟩:=Q5 hb3
  simp at hz3
  have hz4:w.heap.size<w3.heap.size:=by omega
  have hz5:w.heap.size+1<w3.heap.size:=by omega
  go_wp2
  go_ret
  refine⟨by rw[HV.out];rfl,?_⟩
  exact bZ
 have hany:[t,u].any (fun n=>!zR n 1 ((nb:Int) - 1))=false:=by simp[ht]
 by_cases hv:t=u
 ·subst hv
  have HV:Hid (vZ regs nb 3 r n [t,t]=5):=by show _=_;simp only[vZ];rw[if_neg (by omega),if_neg (by simp),hany];simp
  clear ht
  go_enter Tryz.func54,Tryz.ntmps54
  go_wp2_with (go_at_call 27;refine(qF _ _ _ _).mono ?_;rintro e w1 ⟨rfl,rfl⟩)
  go_quiet (fail)
  go_wp2_with fail
  refine(qV _ (fun n=>!zR n 1 ((nb:Int) - 1)) (some ⟨bt,ot,none⟩) tc [t,t] _ (by simp) (HT.out.to (by decide) ?_ (fun _ _ _ h=>h)) (xF w.heap.size nb b3 b1 _ HN.out (by first|rfl|(simp;done)|(simp[World.cell?_alloc_some, *];done)))).mono ?_
  ·exact bZ
  rw[hany]
  rintro e w3 ⟨rfl,hb3⟩
  obtain⟨hc3,hf3,hz3⟩:=Q5 hb3
  simp at hz3
  have hz4:w.heap.size<w3.heap.size:=by omega
  have hz5:w.heap.size+1<w3.heap.size:=by omega
  go_wp2
  go_quiet (fail)
  go_wp2
  go_ret
  refine⟨by rw[HV.out];rfl,?_⟩
  exact bZ
 have HV:Hid (vZ regs nb 3 r n [t,u]=zX regs r n):=by show _=_;simp only[vZ];rw[if_neg (by omega),if_neg (by simp),hany];simp[hv]
 have hvb:(t == u)=false:=by simp[hv]
 clear ht
 go_enter Tryz.func54,Tryz.ntmps54
 go_wp2_with (go_at_call 27;refine(qF _ _ _ _).mono ?_;rintro e w1 ⟨rfl,rfl⟩)
 go_quiet (fail)
 go_wp2_with fail
 refine(qV _ (fun n=>!zR n 1 ((nb:Int) - 1)) (some ⟨bt,ot,none⟩) tc [t,u] _ (by simp) (HT.out.to (by decide) ?_ (fun _ _ _ h=>h)) (xF w.heap.size nb b3 b1 _ HN.out (by first|rfl|(simp;done)|(simp[World.cell?_alloc_some, *];done)))).mono ?_
 ·exact bZ
 rw[hany]
 rintro e w3 ⟨rfl,hb3⟩
 obtain⟨hc3,hf3,hz3⟩:=Q5 hb3
 simp at hz3
 have hz4:w.heap.size<w3.heap.size:=by omega
 have hz5:w.heap.size+1<w3.heap.size:=by omega
 go_wp2
 go_quiet (fail)
 go_wp2_with fail
 refine(jz _ _ _ _ _ _ _ _ _ _ _ _ _ _ _ _ _ _ hr1 hr2).mono ?_
 rintro e w4 ⟨rfl,hb4⟩
 go_wp2
 go_ret
 refine⟨by rw[HV.out];rfl,?_⟩
 exact bZ
theorem end_any (g1 f1 b1 a1 tp:Option Addr) (g2 g3 f2 f3 nb b3 a2 a3 tc:Nat) (nm:ByteArray) (params regs kind n:Int) (r:Bool) (to:List Int) (w:World)
  (hr1:0≤regs) (hr2:regs≤9223372036854775807) (hn:nb≤9223372036854775807) (hl:to.length≤9223372036854775807) (hto:SliceAt w 1 xC tp to) (hw0:Ways w) :
  Calls Tryz.prog 54 #[.agg #[.slice g1 g2 g3,.slice f1 f2 f3,.string nm,.int .i64 params,.int .i64 regs,.slice b1 nb b3,.slice a1 a2 a3],.agg #[.int .i64 kind,.bool r,.int .i64 n,.slice tp to.length tc]] w fun e w'=>e = .returned (.int .i64 (vZ regs nb kind r n to))∧Below w.heap.size w w':=by
 by_cases hk:1≤kind∧kind≤3
 ·by_cases hlen:(to.length:Int)=kind - 1
  ·obtain rfl|rfl|rfl:kind=1∨kind=2∨kind=3:=by omega
   ·obtain rfl:to=[]:=List.length_eq_zero_iff.1 (by omega)
    exact end_kind1 _ _ _ _ _ _ _ _ _ _ _ _ _ _ _ _ _ _ _ _ hr1 hr2 hn hto hw0
   ·obtain⟨t,rfl⟩:∃t,to=[t]:=List.length_eq_one_iff.1 (by omega)
    exact end_kind2 _ _ _ _ _ _ _ _ _ _ _ _ _ _ _ _ _ _ _ _ _ hr1 hr2 hn hto hw0
   obtain⟨t,u,rfl⟩:∃t u,to=[t,u]:=by
    match to,hlen with
    | [t,u],_=>exact⟨t,u,rfl⟩
    | [],h=>simp at h
    | [_],h=>simp at h
    | _::_::_::_,h=>simp at h;omega
   exact end_kind3 _ _ _ _ _ _ _ _ _ _ _ _ _ _ _ _ _ _ _ _ _ _ hr1 hr2 hn hto hw0
  exact end_len _ _ _ _ _ _ _ _ _ _ _ _ _ _ _ _ _ _ _ _ _ _ (by omega) hlen hl hw0
 exact end_bad _ _ _ _ _ _ _ _ _ _ _ _ _ _ _ _ _ _ _ _ _ _ hk
end Go.Proofs.YtecdphhdmjmmnaaGreatDoor
