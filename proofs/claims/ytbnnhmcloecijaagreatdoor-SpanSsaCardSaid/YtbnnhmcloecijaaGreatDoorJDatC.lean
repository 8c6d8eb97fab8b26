/-
  How a whole unit that came in reads as data: globals, functions, blocks, instructions.
-/
import Derived.WalkKit
import Derived.WalkSmall
import Derived.RowKit
import Derived.Deep.Heap
import Derived.Test.YtbnnhmcloecijaaGreatDoorRows
import Derived.ProofKit
import Derived.Deep.Slices
namespace Go.Proofs.YtbnnhmcloecijaaGreatDoor
open Go.RowKit
theorem zB:type_of% @List.getElem?_cons_zero:=@List.getElem?_cons_zero
theorem zD:type_of% @List.getElem?_cons_succ:=@List.getElem?_cons_succ
theorem zE:type_of% @List.getElem?_toArray:=@List.getElem?_toArray
theorem zI:type_of% @Below.refl:=@Below.refl
theorem zJ:type_of% @Go.Deep.blk_setCell_other:=@Go.Deep.blk_setCell_other
theorem zK:type_of% @Nat.le_refl:=@Nat.le_refl
theorem zN:type_of% @World.cell?_of_block:=@World.cell?_of_block
theorem zP:type_of% @List.getElem_mem:=@List.getElem_mem
theorem zQ:type_of% @if_neg:=@if_neg
theorem zZ:type_of% @if_pos:=@if_pos
theorem zh:type_of% @And.intro:=@And.intro
theorem zj:type_of% @List.getElem?_eq_getElem:=@List.getElem?_eq_getElem
theorem zk:type_of% @bodyPost_ret:=@bodyPost_ret
theorem yA:type_of% @List.take_succ_eq_append_getElem:=@List.take_succ_eq_append_getElem
theorem yB:type_of% @World.frozen?_of_block:=@World.frozen?_of_block
theorem yC:type_of% @List.mem_cons:=@List.mem_cons
theorem yD:type_of% @List.mem_map:=@List.mem_map
theorem yE:type_of% @List.mem_append_left:=@List.mem_append_left
theorem yF:type_of% @List.append_assoc:=@List.append_assoc
theorem yG:type_of% @List.not_mem_nil:=@List.not_mem_nil
theorem yH:type_of% @List.mem_append:=@List.mem_append
theorem yI:type_of% @List.mem_singleton:=@List.mem_singleton
theorem yJ:type_of% @Nat.add_zero:=@Nat.add_zero
theorem yK:type_of% @Go.Deep.nblk_setCell:=@Go.Deep.nblk_setCell
theorem yL:type_of% @Array.getElem?_eq_some_iff:=@Array.getElem?_eq_some_iff
theorem yM:type_of% @List.mem_append_right:=@List.mem_append_right
theorem yN:type_of% @List.length_append:=@List.length_append
theorem yO:type_of% @List.getD_eq_getElem?_getD:=@List.getD_eq_getElem?_getD
theorem yP:type_of% @List.take_length:=@List.take_length
theorem yQ:type_of% @List.set_cons_zero:=@List.set_cons_zero
theorem yR:type_of% @List.mem_range:=@List.mem_range
theorem yS:type_of% @List.map_cons:=@List.map_cons
theorem yT:type_of% @List.length_map:=@List.length_map
theorem yU:type_of% @List.mem_flatMap:=@List.mem_flatMap
theorem yV:type_of% @List.ext_getElem:=@List.ext_getElem
theorem yW:type_of% @List.map_append:=@List.map_append
theorem yX:type_of% @List.getElem_of_mem:=@List.getElem_of_mem
theorem yY:type_of% @decide_eq_true_eq:=@decide_eq_true_eq
theorem yZ:type_of% @List.set_cons_succ:=@List.set_cons_succ
theorem ya:type_of% @List.map_congr_left:=@List.map_congr_left
theorem yc:type_of% @List.mem_cons_of_mem:=@List.mem_cons_of_mem
theorem yd:type_of% @List.length_eq_zero_iff:=@List.length_eq_zero_iff
theorem ye:type_of% @Nat.mul_le_mul_right:=@Nat.mul_le_mul_right
theorem yg:type_of% @List.mem_cons_self:=@List.mem_cons_self
theorem yh:type_of% @List.foldl_append:=@List.foldl_append
theorem yi:type_of% @List.length_cons:=@List.length_cons
theorem yk:type_of% @List.getElem?_eq_none:=@List.getElem?_eq_none
theorem yl:type_of% @or_false:=@or_false
theorem yn:type_of% @List.flatMap_append:=@List.flatMap_append
theorem yo:type_of% @Below.trans:=@Below.trans
theorem yp:type_of% @List.mem_iff_getElem:=@List.mem_iff_getElem
theorem yq:type_of% @Nat.lt_or_ge:=@Nat.lt_or_ge
theorem yr:type_of% @List.length_take:=@List.length_take
theorem yt:type_of% @List.range_succ:=@List.range_succ
theorem yu:type_of% @List.mem_filter:=@List.mem_filter
theorem yv:type_of% @Nat.le_trans:=@Nat.le_trans
theorem yw:type_of% @List.map_nil:=@List.map_nil
theorem yx:type_of% @Nat.zero_add:=@Nat.zero_add
theorem yy:type_of% @List.map_map:=@List.map_map
theorem y8:type_of% @List.getElem_set:=@List.getElem_set
theorem xA:type_of% @decide_eq_false_iff_not:=@decide_eq_false_iff_not
theorem xB:type_of% @Nat.lt_of_lt_of_le:=@Nat.lt_of_lt_of_le
theorem xC:type_of% @Int.toNat_natCast:=@Int.toNat_natCast
theorem xE:type_of% @List.getElem_map:=@List.getElem_map
theorem xF:type_of% @Classical.byContradiction:=@Classical.byContradiction
theorem xG:type_of% @Below.heap_alloc:=@Below.heap_alloc
theorem xH:type_of% @Or.inl:=@Or.inl
theorem xI:type_of% @IntKind.wrap_i64:=@IntKind.wrap_i64
theorem xJ:type_of% @Array.getElem?_toList:=@Array.getElem?_toList
/-! short names for what is said often of new memory -/
theorem bR (B:Nat) (w:World):Below B w w:=.refl B w
theorem bH {B:Nat} {a b:World} (h:Hid (Below B a b)):Below B a b:=h
theorem bD {B:Nat} {a w:World} (h:Below B a w):Below B a w.drew:=h.drew
theorem bN {B:Nat} {a w:World} (h:Below B a w) (n:Nat):Below B a (w.drewN n):=below_drewN h n
theorem bS {B:Nat} {a w:World} (h:Below B a w) {p:Addr} (hp:B≤p.block) (u:Value):Below B a (w.setCell p u):=h.setCell hp u
theorem bA {B:Nat} {a w:World} (h:Below B a w) (hB:B≤w.heap.size) (o:Obj):Below B a (w.alloc o):=h.alloc hB o
theorem bT {B n:Nat} {a b c:World} (k:Below n b c) (h:Below B a b) (hB:B≤n):Below B a c:=h.trans (k.mono hB)

theorem bZ {p:Prop} (h:p:=by repeat (first|(with_reducible first|exact bR _ _|exact bH ‹_›|refine bD ?_|refine bN ?_ _|refine bS ?_ ?_ _|refine bA ?_ ?_ _|refine bT hb3 ?_ ?_|refine bT hb5 ?_ ?_|refine bT hb4 ?_ ?_)|omega|(simp;omega)|simp)):p:=h

theorem i64_and63 (n:Int):bits .and .i64 n 63=n % 64:=by
 have h127:(BitVec.ofInt 64 63).toNat=2 ^ 6 - 1:=by decide
 have key:(BitVec.ofInt 64 n &&& BitVec.ofInt 64 63).toNat=(n % ((2 ^ 64:Nat):Int)).toNat % 2 ^ 6:=by
  rw [BitVec.toNat_and,BitVec.toNat_ofInt,h127,Nat.and_two_pow_sub_one_eq_mod]
 show IntKind.i64.wrap ((BitVec.ofInt 64 n &&& BitVec.ofInt 64 63).toNat:Nat)=n % 64
 rw [key,xI]
 omega

theorem Zr {W w1:World} (hb:Below W.heap.size W w1):(∀b o,b<W.heap.size→w1.cell? ⟨b,o,none⟩=W.cell? ⟨b,o,none⟩)∧(∀b o,b<W.heap.size→w1.frozen? ⟨b,o,none⟩=W.frozen? ⟨b,o,none⟩)∧W.heap.size≤w1.heap.size:=
 ⟨fun b o h=>hb.cell (p:=⟨b,o,none⟩) h,fun b o h=>hb.frozen (p:=⟨b,o,none⟩) h,hb.size⟩

theorem qd {w:World} {b o:Nat} {v:Value} (h:w.cell? ⟨b,o,none⟩=some v):b<w.heap.size:=by
 unfold World.cell? at h
 rcases yq b w.heap.size with g|g
 ·exact g
 rw [Array.getElem?_eq_none_iff.2 g] at h
 cases h

theorem qn (w:World) (o:Obj):(w.alloc o).heap[w.heap.size]?=some o:=by
 show (w.heap.push o)[w.heap.size]?=_
 simp
theorem qh {w:World} {o:Obj} {k:Nat} (h:w.heap.size=k):(w.alloc o).heap[k]?=some o:=by
 subst h;exact qn w o
theorem qg {w:World} {o:Obj} {k:Nat} {x:Obj} (h:w.heap[k]?=some x):(w.alloc o).heap[k]?=some x:=by
 have hk:k<w.heap.size:=by
  rcases yq k w.heap.size with g|g
  ·exact g
  rw [Array.getElem?_eq_none_iff.2 g] at h;cases h
 rw [xG w o k hk];exact h
theorem qj {B:Nat} {w w':World} {k:Nat} {x:Obj} (hb:Below B w w') (hk:k<B) (h:w.heap[k]?=some x):w'.heap[k]?=some x:=(hb.block k hk).trans h
theorem blk {w:World} {k:Nat} {A:Array Value} {T:TypeId} (h:w.heap[k]?=some (.cells A T (0,0))):(∀j,w.cell? ⟨k,j,none⟩=A[j]?)∧(∀j,w.frozen? ⟨k,j,none⟩=false):=by
 constructor
 ·intro j
  simp [World.cell?,h]
 intro j
 simp [World.frozen?,h]

def I64 (n:Int):Prop:=-9223372036854775808≤n∧n≤9223372036854775807

def twoL (op a b:Int):Int×Bool:=
 if op=1 then (a,true)
 else if op=2 then (wrap64 (a+b),true)
 else if op=3 then (wrap64 (a - b),true)
 else if op=4 then (wrap64 (a*b),true)
 else if op=5 then (if b=0 then (0,false) else (wrap64 (a.tdiv b),true))
 else if op=6 then (if b=0 then (0,false) else (a.tmod b,true))
 else if op=7 then (bits .and .i64 a b,true)
 else if op=8 then (bits .or .i64 a b,true)
 else if op=9 then (bits .xor .i64 a b,true)
 else if op=10 then (wrap64 (a*2 ^ (b % 64).toNat),true)
 else if op=11 then (a / 2 ^ (b % 64).toNat,true)
 else if op=12 then (if a=b then 1 else 0,true)
 else if op=13 then (if a=b then 0 else 1,true)
 else if op=14 then (if a<b then 1 else 0,true)
 else if op=15 then (if a≤b then 1 else 0,true)
 else if op=16 then (wrap64 (-a),true)
 else (-1 - a,true)

end Go.Proofs.YtbnnhmcloecijaaGreatDoor
namespace Go.Proofs.YtbnnhmcloecijaaGreatDoor
open Go.RowKit Go.ChangeShapes Go.WideShapes Go.ChangeAt

def SliceAt {α:Type} (w:World) (size:Nat) (R:List Value→α→Prop) (p:Option Addr) (xs:List α):Prop:=
 xs=[]∨∃b o,p=some ⟨b,o,none⟩∧∀i (hi:i<xs.length),∃cs,cs.length=size∧(∀j,j<size→w.cell? ⟨b,o+i*size+j,none⟩=cs[j]?)∧R cs xs[i]

theorem JT {w:World} {base:Nat} {a:Addr} {n:Nat} {cs:List Value} (h:w.cells? base a n=some cs):cs.length=n∧∀j,j<n→w.cell? (a.add j)=cs[j]?:=by
 unfold World.cells? at h
 split at h
 ·have hl:=mapM_some_length h
  refine ⟨by simpa using hl,fun j hj=>?_⟩
  have:=mapM_some_get h j j (by simp [hj])
  exact this
 cases h

theorem Q8 {α:Type} {Q:Nat→α→Prop}:∀(n:Nat),(∀i,i<n→∃x,Q i x)→∃xs:List α,xs.length=n∧∀i (hi:i<xs.length),Q i xs[i]
 | 0,_=>⟨[],rfl,fun i hi=>absurd hi (by simp)⟩
 | n+1,h=>by
  obtain ⟨xs,hl,hx⟩:=Q8 n (fun i hi=>h i (by omega))
  obtain ⟨x,hq⟩:=h n (by omega)
  refine ⟨xs++[x],by simp [hl],fun i hi=>?_⟩
  rw [yN,List.length_singleton] at hi
  rcases yq i xs.length with g|g
  ·rw [List.getElem_append_left g];exact hx i g
  obtain rfl:i=xs.length:=by omega
  rw [List.getElem_append_right (zK _)]
  simp only [Nat.sub_self,List.getElem_cons_zero]
  rw [hl];exact hq

theorem Q9 {H:Type} {P:Program} {e:TypeId} {d:DataW H} {k:Nat} (hk:k∈d.weights P e):∀{l:List (DataW H)},d∈l→k∈DataW.weightsAll P e l
 | x::r,h=>by
  unfold DataW.weightsAll
  rcases yC.1 h with rfl|h
  ·exact yE _ hk
  exact yM _ (Q9 hk h)

section
variable {H : Type} {enc : TypeId × Value → H} {P : Program} {w : World}

theorem jM {α:Type} {R:List Value→α→Prop} {t e:TypeId} {size bytes:Nat} (ht:P.underlying t=some (.slice e)) (hsz:P.cellsOf e=size) (hby:P.bytesOf e=bytes) (hpos:0<size)
  (hR:∀fuel cs d ps,DataW.trod enc P w 0 (fun _=>true) true fuel e cs=some (d,ps)→(∀k∈d.weights P e,k≤reachBytes)→∃x,R cs x)
  {fuel:Nat} {cs:List Value} {d:DataW H} {ps:List MemPlace} (h:DataW.trod enc P w 0 (fun _=>true) true fuel t cs=some (d,ps)) (hw:∀k∈d.weights P t,k≤reachBytes) :
  ∃(p:Option Addr) (c:Nat) (xs:List α),cs=[.slice p xs.length c]∧(p=none→xs.length=0∧c=0)∧xs.length≤c∧c*bytes≤reachBytes∧SliceAt w size R p xs:=by
 rcases Go.Deep.open_slice ht h with ⟨rfl,hx⟩|⟨a,len,cap,m,n,D,Pl,rfl,_,hl,hm,hmm,hx,hel⟩
 ·exact ⟨none,0,[],rfl,fun _=>⟨rfl,rfl⟩,zK _,by simp,.inl rfl⟩
 simp only [if_true] at hmm
 subst hmm
 simp only [Prod.mk.injEq] at hx
 obtain ⟨rfl,rfl⟩:=hx
 have hwl:m*bytes≤reachBytes:=by
  refine hw _ ?_
  unfold DataW.weights
  rw [ht]
  simp only [yT,List.length_range,hby]
  rw [show len+(m - len)=m by omega]
  exact yg
 have hpS:∀i,i<len→∃x,∃cs',w.cells? 0 (a.add (i*size)) size=some cs'∧R cs' x:=by
  intro i hi
  obtain ⟨cs',hc,htr⟩:=hel i (by omega)
  rw [hsz] at hc
  obtain ⟨x,hx⟩:=hR _ _ _ _ htr (fun k hk=>by
   refine hw _ ?_
   unfold DataW.weights
   rw [ht]
   refine yc _ (yE _ ?_)
   exact Q9 hk (yD.2 ⟨i,yR.2 hi,rfl⟩))
  exact ⟨x,cs',hc,hx⟩
 obtain ⟨xs,rfl,hxs⟩:=Q8 len hpS
 refine ⟨some a,m,xs,rfl,fun h=>(by cases h),hl,hwl,?_⟩
 rcases Nat.eq_zero_or_pos xs.length with h0|h0
 ·exact .inl (yd.1 h0)
 right
 obtain ⟨b,o,sp⟩:=a
 have hsp:sp=none:=by
  obtain ⟨cs',hc,_⟩:=hxs 0 h0
  obtain ⟨hcl,hcc⟩:=JT hc
  have h1:=hcc 0 hpos
  rw [zj (by omega)] at h1
  cases sp with
  | none=>rfl
  | some s=>
   exfalso
   unfold World.cell? at h1
   split at h1
   ·simp [Addr.add] at h1
   cases h1
 subst hsp
 refine ⟨b,o,rfl,fun i hi=>?_⟩
 obtain ⟨cs',hc,hr⟩:=hxs i hi
 obtain ⟨hcl,hcc⟩:=JT hc
 refine ⟨cs',hcl,fun j hj=>?_,hr⟩
 have:=hcc j hj
 rw [←this]
 congr 1
 simp only [Addr.add]
 split<;>split<;>simp_all<;>omega

theorem Qs {W W':World} (hl:laidOutB P=true) (hb:Below W.heap.size W W'):∀{ts:List TypeId} {vs:List Value} {ds:List (DataW H)} {ps:List MemPlace},(∀t∈ts,P.readableRec t=true∧t<P.types.size)→
  DataW.TrodAll enc P W 0 (fun _=>true) true ts vs ds ps→(∀x∈ps,x.block<W.heap.size)→DataW.TrodAll enc P W' 0 (fun b=>decide (b<W.heap.size)) true ts vs ds ps
 | [],[],[],_,_,h,_=>h
 | t::ts,v::vs,d::ds,ps,ht,h,hlt=>by
  obtain ⟨p,q,h1,h2,rfl⟩:=h
  obtain ⟨r1,r2⟩:=ht t yg
  exact ⟨p,q,Below.trod hl r1 r2 h1 hb (fun x hx=>hlt x (yE _ hx)),Qs hl hb (fun t h=>ht t (yc _ h)) h2 (fun x hx=>hlt x (yM _ hx)),rfl⟩

theorem law_post {f:Func} {s:ChangeSpec} {W W':World} {args:Array Value} {ds gs:List (DataW H)} {before:List MemPlace} {T:TypeId} (hl:laidOutB P=true) (hres:f.resultTypes=#[T]) (hT:P.underlying T=some .bool)
  (hts:∀t∈f.params.toList,P.readableRec t=true∧t<P.types.size) (hvars:s.vars=[]) (hW:DataW.Whole enc P f.params.toList s.vars false W args.toList ds gs before)
  (hfn:s.fn H (ds++gs)={ results:=[.lit (.bool true)],args:=ds }) (hb:Below W.heap.size W W') :
  s.post enc P f false true false false W args (.bool true) W':=by
 have hlt:∀x∈before,x.block<W.heap.size:=fun x hx=>hW.lt x hx
 have hW2:=hW
 obtain ⟨p,q,hA,hV,rfl,hfz,hnd⟩:=hW2
 refine ⟨ds,gs,_,[],p,[],hW,?_,?_,?_,hb.frame _,fun h=>by cases h⟩
 ·rw [hfn,hres]
  exact trodAll_mk1 (shut_bool hT true)
 ·rw [hfn]
  exact Qs hl hb hts hA (fun x hx=>hlt x (yE _ hx))
 rw [hfn,hvars]
 exact rfl
end

theorem I64.of_wf {n:Int} (h:(Lit.int .i64 n).wf=true):I64 n:=by
 simp only [Lit.wf,IntKind.min,IntKind.max,IntKind.signed,IntKind.bits,Bool.and_eq_true,yY,if_true] at h
 unfold I64
 omega

def ZG (cs:List Value) (v:Bool×Int):Prop:=cs=[.bool v.1,.int .i64 v.2]∧I64 v.2
def kh (cs:List Value) (n:Int):Prop:=cs=[.int .i64 n]∧I64 n
def SlF {α:Type} (w:World) (size bytes:Nat) (R:List Value→α→Prop) (v:Value) (xs:List α):Prop:=
 ∃p c,v = .slice p xs.length c∧(p=none→xs.length=0∧c=0)∧xs.length≤c∧xs.length*bytes≤reachBytes∧SliceAt w size R p xs
theorem capQ {A D:Prop} {n c b r:Nat} (h:A∧n≤c∧c*b≤r∧D):A∧n≤c∧n*b≤r∧D:=⟨h.1,h.2.1,yv (ye _ h.2.1) h.2.2.1,h.2.2.2⟩

structure InsL where
 op:Int
 dst:Int
 ar:Bool
 an:Int
 br:Bool
 bn:Int
 fn:Int
 args:List (Bool×Int)
structure PhiL where
 dst:Int
 src:List (Bool×Int)
structure EndL where
 kind:Int
 onr:Bool
 onn:Int
 to:List Int
structure BlkL where
 phis:List PhiL
 list:List InsL
 fin:EndL
structure FunL where
 name:ByteArray
 params:Int
 regs:Int
 blocks:List BlkL
structure GloL where
 name:ByteArray
 size:Int
 init:List Int
structure UniL where
 globals:List GloL
 funcs:List FunL

def InsR (w:World) (cs:List Value) (i:InsL):Prop:=∃v,cs=[.int .i64 i.op,.int .i64 i.dst,.bool i.ar,.int .i64 i.an,.bool i.br,.int .i64 i.bn,.int .i64 i.fn,v]∧
 I64 i.op∧I64 i.dst∧I64 i.an∧I64 i.bn∧I64 i.fn∧SlF w 2 16 ZG v i.args
def PhiR (w:World) (cs:List Value) (x:PhiL):Prop:=∃v,cs=[.int .i64 x.dst,v]∧I64 x.dst∧SlF w 2 16 ZG v x.src
def EndR (w:World) (cs:List Value) (x:EndL):Prop:=∃v,cs=[.int .i64 x.kind,.bool x.onr,.int .i64 x.onn,v]∧I64 x.kind∧I64 x.onn∧SlF w 1 8 kh v x.to
def BlkR (w:World) (cs:List Value) (x:BlkL):Prop:=∃v1 v2 v3,cs=[v1,v2,.int .i64 x.fin.kind,.bool x.fin.onr,.int .i64 x.fin.onn,v3]∧I64 x.fin.kind∧I64 x.fin.onn∧
 SlF w 2 32 (PhiR w) v1 x.phis∧SlF w 8 80 (InsR w) v2 x.list∧SlF w 1 8 kh v3 x.fin.to
def FunR (w:World) (cs:List Value) (x:FunL):Prop:=∃v,cs=[.string x.name,.int .i64 x.params,.int .i64 x.regs,v]∧x.name.size≤reachBytes∧I64 x.params∧I64 x.regs∧SlF w 6 96 (BlkR w) v x.blocks
def GloR (w:World) (cs:List Value) (x:GloL):Prop:=∃v,cs=[.string x.name,.int .i64 x.size,v]∧x.name.size≤reachBytes∧I64 x.size∧SlF w 1 8 kh v x.init
def UniR (w:World) (cs:List Value) (x:UniL):Prop:=∃v1 v2,cs=[v1,v2]∧SlF w 3 48 (GloR w) v1 x.globals∧SlF w 4 56 (FunR w) v2 x.funcs

theorem kM:Tryz.prog.cellsOf 40=2:=by kernel_rfl
theorem cellsBool:Tryz.prog.cellsOf 4=1:=by kernel_rfl
theorem jf:Tryz.prog.cellsOf 3=1:=by kernel_rfl
theorem KP:Tryz.prog.cellsOf 9=1:=by kernel_rfl
theorem JU:Tryz.prog.cellsOf 55=1:=by kernel_rfl
theorem JV:Tryz.prog.cellsOf 41=1:=by kernel_rfl
theorem KQ:Tryz.prog.cellsOf 57=8:=by kernel_rfl
theorem cellsInss:Tryz.prog.cellsOf 38=1:=by kernel_rfl
theorem KR:Tryz.prog.cellsOf 88=2:=by kernel_rfl
theorem cellsPhis:Tryz.prog.cellsOf 37=1:=by kernel_rfl
theorem KS:Tryz.prog.cellsOf 43=4:=by kernel_rfl
theorem KT:Tryz.prog.cellsOf 45=6:=by kernel_rfl
theorem cellsBlks:Tryz.prog.cellsOf 34=1:=by kernel_rfl
theorem KV:Tryz.prog.cellsOf 36=4:=by kernel_rfl
theorem cellsFuns:Tryz.prog.cellsOf 23=1:=by kernel_rfl
theorem KW:Tryz.prog.cellsOf 82=3:=by kernel_rfl
theorem cellsGlos:Tryz.prog.cellsOf 22=1:=by kernel_rfl
theorem cellsUni:Tryz.prog.cellsOf 25=2:=by kernel_rfl
theorem KX:Tryz.prog.bytesOf 40=16:=by kernel_rfl
theorem KY:Tryz.prog.bytesOf 3=8:=by kernel_rfl
theorem bytesIns:Tryz.prog.bytesOf 57=80:=by kernel_rfl
theorem bytesPhi:Tryz.prog.bytesOf 88=32:=by kernel_rfl
theorem bytesBlk:Tryz.prog.bytesOf 45=96:=by kernel_rfl
theorem bytesFun:Tryz.prog.bytesOf 36=56:=by kernel_rfl
theorem bytesGlo:Tryz.prog.bytesOf 82=48:=by kernel_rfl
theorem YO {α:Type} {l:List α} (hl:l.length=2):∃a b,l=[a,b]:=by
 match l,hl with
 | [a,b],_=>exact ⟨a,b,rfl⟩
theorem YP {α:Type} {l:List α} (hl:l.length=3):∃a b c,l=[a,b,c]:=by
 match l,hl with
 | [a,b,c],_=>exact ⟨a,b,c,rfl⟩
theorem YQ {α:Type} {l:List α} (hl:l.length=4):∃a b c d,l=[a,b,c,d]:=by
 match l,hl with
 | [a,b,c,d],_=>exact ⟨a,b,c,d,rfl⟩
theorem len_6 {α:Type} {l:List α} (hl:l.length=6):∃a b c d e f,l=[a,b,c,d,e,f]:=by
 match l,hl with
 | [a,b,c,d,e,f],_=>exact ⟨a,b,c,d,e,f,rfl⟩
theorem len_8 {α:Type} {l:List α} (hl:l.length=8):∃a b c d e f g h,l=[a,b,c,d,e,f,g,h]:=by
 match l,hl with
 | [a,b,c,d,e,f,g,h],_=>exact ⟨a,b,c,d,e,f,g,h,rfl⟩

section
variable {H : Type} {enc : TypeId × Value → H} {w : World} {fuel : Nat} {cs : List Value} {d : DataW H} {ps : List MemPlace}
theorem rd_int (h:DataW.trod enc Tryz.prog w 0 (fun _=>true) true fuel 3 cs=some (d,ps)):∃n,kh cs n:=by
 obtain ⟨k,e,_,wk⟩:=DataW.trod_int Tryz.underlying3 h
 exact ⟨k,e,I64.of_wf wk⟩
theorem JW (h:DataW.trod enc Tryz.prog w 0 (fun _=>true) true fuel 40 cs=some (d,ps)):∃x,ZG cs x:=by
 obtain ⟨xs,n,_,hx,hlen,hxl,hf⟩:=DataW.trod_struct Tryz.underlying40 h
 simp only [Prod.mk.injEq] at hx
 obtain ⟨rfl,_⟩:=hx
 rw [kM] at hlen
 obtain ⟨c0,c1,rfl⟩:=YO hlen
 obtain ⟨x0,x1,rfl⟩:=YO (show xs.length=2 by simpa using hxl)
 have h0:DataW.trod enc Tryz.prog w 0 (fun _=>true) true n 4 (([c0,c1].drop 0).take (Tryz.prog.cellsOf 4))=some x0:=hf 0 _ rfl
 rw [cellsBool] at h0
 have h1:DataW.trod enc Tryz.prog w 0 (fun _=>true) true n 3 (([c0,c1].drop 1).take (Tryz.prog.cellsOf 3))=some x1:=hf 1 _ rfl
 rw [jf] at h1
 obtain ⟨k0,e0,_⟩:=DataW.trod_bool Tryz.underlying4 h0
 obtain ⟨k1,e1,_,w1⟩:=DataW.trod_int Tryz.underlying3 h1
 simp at e0 e1
 subst e0 e1
 exact ⟨(k0,k1),rfl,I64.of_wf w1⟩
theorem rd_ins (h:DataW.trod enc Tryz.prog w 0 (fun _=>true) true fuel 57 cs=some (d,ps)) (hw:∀k∈d.weights Tryz.prog 57,k≤reachBytes):∃x,InsR w cs x:=by
 obtain ⟨xs,n,_,hx,hlen,hxl,hf⟩:=DataW.trod_struct Tryz.underlying57 h
 simp only [Prod.mk.injEq] at hx
 obtain ⟨rfl,_⟩:=hx
 rw [KQ] at hlen
 obtain ⟨c0,c1,c2,c3,c4,c5,c6,c7,rfl⟩:=len_8 hlen
 obtain ⟨x0,x1,x2,x3,x4,x5,rfl⟩:=len_6 (show xs.length=6 by simpa using hxl)
 have h0:DataW.trod enc Tryz.prog w 0 (fun _=>true) true n 3 (([c0,c1,c2,c3,c4,c5,c6,c7].drop 0).take (Tryz.prog.cellsOf 3))=some x0:=hf 0 _ rfl
 rw [jf] at h0
 have h1:DataW.trod enc Tryz.prog w 0 (fun _=>true) true n 3 (([c0,c1,c2,c3,c4,c5,c6,c7].drop 1).take (Tryz.prog.cellsOf 3))=some x1:=hf 1 _ rfl
 rw [jf] at h1
 have h2:DataW.trod enc Tryz.prog w 0 (fun _=>true) true n 40 (([c0,c1,c2,c3,c4,c5,c6,c7].drop 2).take (Tryz.prog.cellsOf 40))=some x2:=hf 2 _ rfl
 rw [kM] at h2
 have h3:DataW.trod enc Tryz.prog w 0 (fun _=>true) true n 40 (([c0,c1,c2,c3,c4,c5,c6,c7].drop 4).take (Tryz.prog.cellsOf 40))=some x3:=hf 3 _ rfl
 rw [kM] at h3
 have h4:DataW.trod enc Tryz.prog w 0 (fun _=>true) true n 3 (([c0,c1,c2,c3,c4,c5,c6,c7].drop 6).take (Tryz.prog.cellsOf 3))=some x4:=hf 4 _ rfl
 rw [jf] at h4
 have h5:DataW.trod enc Tryz.prog w 0 (fun _=>true) true n 55 (([c0,c1,c2,c3,c4,c5,c6,c7].drop 7).take (Tryz.prog.cellsOf 55))=some x5:=hf 5 _ rfl
 rw [JU] at h5
 have hw5:∀k∈x5.1.weights Tryz.prog 55,k≤reachBytes:=by
  intro k hk
  refine hw k ?_
  unfold DataW.weights
  rw [Tryz.underlying57]
  simp only [yS,yw,DataW.weightsEach]
  simp [hk]
 obtain ⟨k0,e0,_,w0⟩:=DataW.trod_int Tryz.underlying3 h0
 obtain ⟨k1,e1,_,w1⟩:=DataW.trod_int Tryz.underlying3 h1
 obtain ⟨v2,e2,w2⟩:=JW (d:=x2.1) (ps:=x2.2) h2
 obtain ⟨v3,e3,w3⟩:=JW (d:=x3.1) (ps:=x3.2) h3
 obtain ⟨k4,e4,_,w4⟩:=DataW.trod_int Tryz.underlying3 h4
 obtain ⟨p5,g5,s5,e5,q5⟩:=jM (R:=ZG) Tryz.underlying55 kM KX (by omega) (fun _ _ _ _ hh _=>JW hh) (d:=x5.1) (ps:=x5.2) h5 hw5
 simp at e0 e1 e2 e3 e4 e5
 obtain ⟨rfl,rfl⟩:=e2
 obtain ⟨rfl,rfl⟩:=e3
 subst e0 e1 e4 e5
 exact ⟨⟨k0,k1,v2.1,v2.2,v3.1,v3.2,k4,s5⟩,_,rfl,I64.of_wf w0,I64.of_wf w1,w2,w3,I64.of_wf w4,⟨p5,g5,rfl,capQ q5⟩⟩
theorem rd_phi (h:DataW.trod enc Tryz.prog w 0 (fun _=>true) true fuel 88 cs=some (d,ps)) (hw:∀k∈d.weights Tryz.prog 88,k≤reachBytes):∃x,PhiR w cs x:=by
 obtain ⟨xs,n,_,hx,hlen,hxl,hf⟩:=DataW.trod_struct Tryz.underlying88 h
 simp only [Prod.mk.injEq] at hx
 obtain ⟨rfl,_⟩:=hx
 rw [KR] at hlen
 obtain ⟨c0,c1,rfl⟩:=YO hlen
 obtain ⟨x0,x1,rfl⟩:=YO (show xs.length=2 by simpa using hxl)
 have h0:DataW.trod enc Tryz.prog w 0 (fun _=>true) true n 3 (([c0,c1].drop 0).take (Tryz.prog.cellsOf 3))=some x0:=hf 0 _ rfl
 rw [jf] at h0
 have h1:DataW.trod enc Tryz.prog w 0 (fun _=>true) true n 55 (([c0,c1].drop 1).take (Tryz.prog.cellsOf 55))=some x1:=hf 1 _ rfl
 rw [JU] at h1
 have hw1:∀k∈x1.1.weights Tryz.prog 55,k≤reachBytes:=by
  intro k hk
  refine hw k ?_
  unfold DataW.weights
  rw [Tryz.underlying88]
  simp only [yS,yw,DataW.weightsEach]
  simp [hk]
 obtain ⟨k0,e0,_,w0⟩:=DataW.trod_int Tryz.underlying3 h0
 obtain ⟨p1,g1,s1,e1,q1⟩:=jM (R:=ZG) Tryz.underlying55 kM KX (by omega) (fun _ _ _ _ hh _=>JW hh) (d:=x1.1) (ps:=x1.2) h1 hw1
 simp at e0 e1
 subst e0 e1
 exact ⟨⟨k0,s1⟩,_,rfl,I64.of_wf w0,⟨p1,g1,rfl,capQ q1⟩⟩
theorem rd_end (h:DataW.trod enc Tryz.prog w 0 (fun _=>true) true fuel 43 cs=some (d,ps)) (hw:∀k∈d.weights Tryz.prog 43,k≤reachBytes):∃x,EndR w cs x:=by
 obtain ⟨xs,n,_,hx,hlen,hxl,hf⟩:=DataW.trod_struct Tryz.underlying43 h
 simp only [Prod.mk.injEq] at hx
 obtain ⟨rfl,_⟩:=hx
 rw [KS] at hlen
 obtain ⟨c0,c1,c2,c3,rfl⟩:=YQ hlen
 obtain ⟨x0,x1,x2,rfl⟩:=YP (show xs.length=3 by simpa using hxl)
 have h0:DataW.trod enc Tryz.prog w 0 (fun _=>true) true n 3 (([c0,c1,c2,c3].drop 0).take (Tryz.prog.cellsOf 3))=some x0:=hf 0 _ rfl
 rw [jf] at h0
 have h1:DataW.trod enc Tryz.prog w 0 (fun _=>true) true n 40 (([c0,c1,c2,c3].drop 1).take (Tryz.prog.cellsOf 40))=some x1:=hf 1 _ rfl
 rw [kM] at h1
 have h2:DataW.trod enc Tryz.prog w 0 (fun _=>true) true n 41 (([c0,c1,c2,c3].drop 3).take (Tryz.prog.cellsOf 41))=some x2:=hf 2 _ rfl
 rw [JV] at h2
 have hw2:∀k∈x2.1.weights Tryz.prog 41,k≤reachBytes:=by
  intro k hk
  refine hw k ?_
  unfold DataW.weights
  rw [Tryz.underlying43]
  simp only [yS,yw,DataW.weightsEach]
  simp [hk]
 obtain ⟨k0,e0,_,w0⟩:=DataW.trod_int Tryz.underlying3 h0
 obtain ⟨v1,e1,w1⟩:=JW (d:=x1.1) (ps:=x1.2) h1
 obtain ⟨p2,g2,s2,e2,q2⟩:=jM (R:=kh) Tryz.underlying41 jf KY (by omega) (fun _ _ _ _ hh _=>rd_int hh) (d:=x2.1) (ps:=x2.2) h2 hw2
 simp at e0 e1 e2
 obtain ⟨rfl,rfl⟩:=e1
 subst e0 e2
 exact ⟨⟨k0,v1.1,v1.2,s2⟩,_,rfl,I64.of_wf w0,w1,⟨p2,g2,rfl,capQ q2⟩⟩
theorem rd_blk (h:DataW.trod enc Tryz.prog w 0 (fun _=>true) true fuel 45 cs=some (d,ps)) (hw:∀k∈d.weights Tryz.prog 45,k≤reachBytes):∃x,BlkR w cs x:=by
 obtain ⟨xs,n,_,hx,hlen,hxl,hf⟩:=DataW.trod_struct Tryz.underlying45 h
 simp only [Prod.mk.injEq] at hx
 obtain ⟨rfl,_⟩:=hx
 rw [KT] at hlen
 obtain ⟨c0,c1,c2,c3,c4,c5,rfl⟩:=len_6 hlen
 obtain ⟨x0,x1,x2,rfl⟩:=YP (show xs.length=3 by simpa using hxl)
 have h0:DataW.trod enc Tryz.prog w 0 (fun _=>true) true n 37 (([c0,c1,c2,c3,c4,c5].drop 0).take (Tryz.prog.cellsOf 37))=some x0:=hf 0 _ rfl
 rw [cellsPhis] at h0
 have h1:DataW.trod enc Tryz.prog w 0 (fun _=>true) true n 38 (([c0,c1,c2,c3,c4,c5].drop 1).take (Tryz.prog.cellsOf 38))=some x1:=hf 1 _ rfl
 rw [cellsInss] at h1
 have h2:DataW.trod enc Tryz.prog w 0 (fun _=>true) true n 43 (([c0,c1,c2,c3,c4,c5].drop 2).take (Tryz.prog.cellsOf 43))=some x2:=hf 2 _ rfl
 rw [KS] at h2
 have hw0:∀k∈x0.1.weights Tryz.prog 37,k≤reachBytes:=by
  intro k hk
  refine hw k ?_
  unfold DataW.weights
  rw [Tryz.underlying45]
  simp only [yS,yw,DataW.weightsEach]
  simp [hk]
 have hw1:∀k∈x1.1.weights Tryz.prog 38,k≤reachBytes:=by
  intro k hk
  refine hw k ?_
  unfold DataW.weights
  rw [Tryz.underlying45]
  simp only [yS,yw,DataW.weightsEach]
  simp [hk]
 have hw2:∀k∈x2.1.weights Tryz.prog 43,k≤reachBytes:=by
  intro k hk
  refine hw k ?_
  unfold DataW.weights
  rw [Tryz.underlying45]
  simp only [yS,yw,DataW.weightsEach]
  simp [hk]
 obtain ⟨p0,g0,s0,e0,q0⟩:=jM (R:=PhiR w) Tryz.underlying37 KR bytesPhi (by omega) (fun _ _ _ _ hh hw=>rd_phi hh hw) (d:=x0.1) (ps:=x0.2) h0 hw0
 obtain ⟨p1,g1,s1,e1,q1⟩:=jM (R:=InsR w) Tryz.underlying38 KQ bytesIns (by omega) (fun _ _ _ _ hh hw=>rd_ins hh hw) (d:=x1.1) (ps:=x1.2) h1 hw1
 obtain ⟨f2,v2,e2,w2,u2,q2⟩:=rd_end (d:=x2.1) (ps:=x2.2) h2 hw2
 simp at e0 e1 e2
 obtain ⟨rfl,rfl,rfl,rfl⟩:=e2
 subst e0 e1
 exact ⟨⟨s0,s1,f2⟩,_,_,_,rfl,w2,u2,⟨p0,g0,rfl,capQ q0⟩,⟨p1,g1,rfl,capQ q1⟩,q2⟩
theorem rd_fun (h:DataW.trod enc Tryz.prog w 0 (fun _=>true) true fuel 36 cs=some (d,ps)) (hw:∀k∈d.weights Tryz.prog 36,k≤reachBytes):∃x,FunR w cs x:=by
 obtain ⟨xs,n,_,hx,hlen,hxl,hf⟩:=DataW.trod_struct Tryz.underlying36 h
 simp only [Prod.mk.injEq] at hx
 obtain ⟨rfl,_⟩:=hx
 rw [KV] at hlen
 obtain ⟨c0,c1,c2,c3,rfl⟩:=YQ hlen
 obtain ⟨x0,x1,x2,x3,rfl⟩:=YQ (show xs.length=4 by simpa using hxl)
 have h0:DataW.trod enc Tryz.prog w 0 (fun _=>true) true n 9 (([c0,c1,c2,c3].drop 0).take (Tryz.prog.cellsOf 9))=some x0:=hf 0 _ rfl
 rw [KP] at h0
 have h1:DataW.trod enc Tryz.prog w 0 (fun _=>true) true n 3 (([c0,c1,c2,c3].drop 1).take (Tryz.prog.cellsOf 3))=some x1:=hf 1 _ rfl
 rw [jf] at h1
 have h2:DataW.trod enc Tryz.prog w 0 (fun _=>true) true n 3 (([c0,c1,c2,c3].drop 2).take (Tryz.prog.cellsOf 3))=some x2:=hf 2 _ rfl
 rw [jf] at h2
 have h3:DataW.trod enc Tryz.prog w 0 (fun _=>true) true n 34 (([c0,c1,c2,c3].drop 3).take (Tryz.prog.cellsOf 34))=some x3:=hf 3 _ rfl
 rw [cellsBlks] at h3
 have hw0:∀k∈x0.1.weights Tryz.prog 9,k≤reachBytes:=by
  intro k hk
  refine hw k ?_
  unfold DataW.weights
  rw [Tryz.underlying36]
  simp only [yS,yw,DataW.weightsEach]
  simp [hk]
 have hw3:∀k∈x3.1.weights Tryz.prog 34,k≤reachBytes:=by
  intro k hk
  refine hw k ?_
  unfold DataW.weights
  rw [Tryz.underlying36]
  simp only [yS,yw,DataW.weightsEach]
  simp [hk]
 obtain ⟨k0,e0,ex0,_⟩:=DataW.trod_string Tryz.underlying9 h0
 have z0:k0.size≤reachBytes:=by
  have:=hw0 k0.data.toList.length (by rw [ex0];unfold DataW.weights;simp)
  simpa using this
 obtain ⟨k1,e1,_,w1⟩:=DataW.trod_int Tryz.underlying3 h1
 obtain ⟨k2,e2,_,w2⟩:=DataW.trod_int Tryz.underlying3 h2
 obtain ⟨p3,g3,s3,e3,q3⟩:=jM (R:=BlkR w) Tryz.underlying34 KT bytesBlk (by omega) (fun _ _ _ _ hh hw=>rd_blk hh hw) (d:=x3.1) (ps:=x3.2) h3 hw3
 simp at e0 e1 e2 e3
 subst e0 e1 e2 e3
 exact ⟨⟨k0,k1,k2,s3⟩,_,rfl,z0,I64.of_wf w1,I64.of_wf w2,⟨p3,g3,rfl,capQ q3⟩⟩
theorem rd_glo (h:DataW.trod enc Tryz.prog w 0 (fun _=>true) true fuel 82 cs=some (d,ps)) (hw:∀k∈d.weights Tryz.prog 82,k≤reachBytes):∃x,GloR w cs x:=by
 obtain ⟨xs,n,_,hx,hlen,hxl,hf⟩:=DataW.trod_struct Tryz.underlying82 h
 simp only [Prod.mk.injEq] at hx
 obtain ⟨rfl,_⟩:=hx
 rw [KW] at hlen
 obtain ⟨c0,c1,c2,rfl⟩:=YP hlen
 obtain ⟨x0,x1,x2,rfl⟩:=YP (show xs.length=3 by simpa using hxl)
 have h0:DataW.trod enc Tryz.prog w 0 (fun _=>true) true n 9 (([c0,c1,c2].drop 0).take (Tryz.prog.cellsOf 9))=some x0:=hf 0 _ rfl
 rw [KP] at h0
 have h1:DataW.trod enc Tryz.prog w 0 (fun _=>true) true n 3 (([c0,c1,c2].drop 1).take (Tryz.prog.cellsOf 3))=some x1:=hf 1 _ rfl
 rw [jf] at h1
 have h2:DataW.trod enc Tryz.prog w 0 (fun _=>true) true n 41 (([c0,c1,c2].drop 2).take (Tryz.prog.cellsOf 41))=some x2:=hf 2 _ rfl
 rw [JV] at h2
 have hw0:∀k∈x0.1.weights Tryz.prog 9,k≤reachBytes:=by
  intro k hk
  refine hw k ?_
  unfold DataW.weights
  rw [Tryz.underlying82]
  simp only [yS,yw,DataW.weightsEach]
  simp [hk]
 have hw2:∀k∈x2.1.weights Tryz.prog 41,k≤reachBytes:=by
  intro k hk
  refine hw k ?_
  unfold DataW.weights
  rw [Tryz.underlying82]
  simp only [yS,yw,DataW.weightsEach]
  simp [hk]
 obtain ⟨k0,e0,ex0,_⟩:=DataW.trod_string Tryz.underlying9 h0
 have z0:k0.size≤reachBytes:=by
  have:=hw0 k0.data.toList.length (by rw [ex0];unfold DataW.weights;simp)
  simpa using this
 obtain ⟨k1,e1,_,w1⟩:=DataW.trod_int Tryz.underlying3 h1
 obtain ⟨p2,g2,s2,e2,q2⟩:=jM (R:=kh) Tryz.underlying41 jf KY (by omega) (fun _ _ _ _ hh _=>rd_int hh) (d:=x2.1) (ps:=x2.2) h2 hw2
 simp at e0 e1 e2
 subst e0 e1 e2
 exact ⟨⟨k0,k1,s2⟩,_,rfl,z0,I64.of_wf w1,⟨p2,g2,rfl,capQ q2⟩⟩
theorem rd_uni (h:DataW.trod enc Tryz.prog w 0 (fun _=>true) true fuel 25 cs=some (d,ps)) (hw:∀k∈d.weights Tryz.prog 25,k≤reachBytes):∃x,UniR w cs x:=by
 obtain ⟨xs,n,_,hx,hlen,hxl,hf⟩:=DataW.trod_struct Tryz.underlying25 h
 simp only [Prod.mk.injEq] at hx
 obtain ⟨rfl,_⟩:=hx
 rw [cellsUni] at hlen
 obtain ⟨c0,c1,rfl⟩:=YO hlen
 obtain ⟨x0,x1,rfl⟩:=YO (show xs.length=2 by simpa using hxl)
 have h0:DataW.trod enc Tryz.prog w 0 (fun _=>true) true n 22 (([c0,c1].drop 0).take (Tryz.prog.cellsOf 22))=some x0:=hf 0 _ rfl
 rw [cellsGlos] at h0
 have h1:DataW.trod enc Tryz.prog w 0 (fun _=>true) true n 23 (([c0,c1].drop 1).take (Tryz.prog.cellsOf 23))=some x1:=hf 1 _ rfl
 rw [cellsFuns] at h1
 have hw0:∀k∈x0.1.weights Tryz.prog 22,k≤reachBytes:=by
  intro k hk
  refine hw k ?_
  unfold DataW.weights
  rw [Tryz.underlying25]
  simp only [yS,yw,DataW.weightsEach]
  simp [hk]
 have hw1:∀k∈x1.1.weights Tryz.prog 23,k≤reachBytes:=by
  intro k hk
  refine hw k ?_
  unfold DataW.weights
  rw [Tryz.underlying25]
  simp only [yS,yw,DataW.weightsEach]
  simp [hk]
 obtain ⟨p0,g0,s0,e0,q0⟩:=jM (R:=GloR w) Tryz.underlying22 KW bytesGlo (by omega) (fun _ _ _ _ hh hw=>rd_glo hh hw) (d:=x0.1) (ps:=x0.2) h0 hw0
 obtain ⟨p1,g1,s1,e1,q1⟩:=jM (R:=FunR w) Tryz.underlying23 KV bytesFun (by omega) (fun _ _ _ _ hh hw=>rd_fun hh hw) (d:=x1.1) (ps:=x1.2) h1 hw1
 simp at e0 e1
 subst e0 e1
 exact ⟨⟨s0,s1⟩,_,_,rfl,⟨p0,g0,rfl,capQ q0⟩,⟨p1,g1,rfl,capQ q1⟩⟩
end
end Go.Proofs.YtbnnhmcloecijaaGreatDoor
